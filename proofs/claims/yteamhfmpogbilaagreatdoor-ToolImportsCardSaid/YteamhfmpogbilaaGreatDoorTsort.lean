/- tool.inOrder: a map's nodes in the order of their places. -/
import Derived.Test.YteamhfmpogbilaaGreatDoorRead
import Derived.Shelf.SlSortCmp.NoneTotal
set_option linter.unusedVariables false
set_option linter.unusedSimpArgs false
namespace Go.Proofs.YteamhfmpogbilaaGreatDoor.X
open Go.RowKit Go.Proofs.YteamhfmpogbilaaGreatDoor Go.Proofs.YteamhfmpogbilaaGreatDoorW.PrintWords Go.Proofs.YteamhfmpogbilaaGreatDoorW.PrintLast
set_option maxHeartbeats 2000000 in
set_option maxRecDepth 100000 in
theorem tcmp_calls (a b : Full) (w : World) (ha : a.f0.size ≤ 9223372036854775807) (hb : b.f0.size ≤ 9223372036854775807) :
  Calls Tryz.prog 55 #[fullV a, fullV b] w fun e w' => e = .returned (.int .i64 (ordL a.f0.data.toList b.f0.data.toList)) ∧ ∃ q os', w' = Sort.grow (w.drewN q) os' := by
 have H := order_calls a.f0 b.f0 ((w.alloc (.cells (zao a) 40)).alloc (.cells (zao b) 40)) ha hb
 unfold fullV zao
 unfold zao at H
 have c0 : ∀ o, ((w.alloc (.cells #[.string a.f0, .string a.f1, .int .i64 a.f2, .int .i64 a.f3, .int .i64 a.f4, .int .i64 a.f5, .int .i64 a.f6] 40)).alloc o).cell? ⟨w.heap.size, 0, none⟩ = some (.string a.f0) := fun o => ((Holds.new w _ _).alloc o).cell 0 _ rfl
 go_enter Tryz.func55, Tryz.ntmps55
 go_wp2_with fail
 refine H.mono ?_
 rintro e w1 ⟨rfl, n, rfl⟩
 go_wp2
 go_ret
 refine ⟨rfl, n, #[Obj.cells #[.string a.f0, .string a.f1, .int .i64 a.f2, .int .i64 a.f3, .int .i64 a.f4, .int .i64 a.f5, .int .i64 a.f6] 40, Obj.cells #[.string b.f0, .string b.f1, .int .i64 b.f2, .int .i64 b.f3, .int .i64 b.f4, .int .i64 b.f5, .int .i64 b.f6] 40], ?_⟩
 rw [Sort.alloc_eq_grow, Sort.alloc_eq_grow, Sort.grow_grow]; rfl
theorem tcmpN (blk off size : Nat) (w : World) : CmpLays Tryz.prog 55 #[] encN 7 cfN blk off size w :=
 fun _ _ _ _ x y => tcmp_calls x.1 y.1 _ x.2 y.2
set_option maxHeartbeats 2000000 in
set_option maxRecDepth 100000 in
theorem tsort_calls (base g cap : Nat) (ok : Nat → Prop) (xs : List Full) (w : World) (hs : ∀ n ∈ xs, n.f0.size ≤ 9223372036854775807) (hl : xs.length ≤ 1000000)
  (h : Kd.R k40 40 w base ok (.slice (some ⟨g, 0, none⟩) xs.length cap) xs) (hg : base ≤ g) (hgw : g < w.heap.size) :
  Calls Tryz.prog 54 #[.slice (some ⟨g, 0, none⟩) xs.length cap, .func (.func 55) #[] #[]] w fun e w' => e = .returned (.tuple #[]) ∧
   ∃ d : List Full, d.Perm xs ∧ InOrder d ∧ Kd.C k40 w' (some ⟨g, 0, none⟩) d.length d ∧ Below base w w' := by
 obtain ⟨ys, hy⟩ := lift_all xs hs
 have hH := holds_of_R hy h
 have hlen : ys.length = xs.length := by rw [← hy, List.length_map]
 have eg : ∀ args w, (callFunc 55 args).run Tryz.prog w = .ok (.enter 55 args) w := enters_of Tryz.func55 (by kernel_rfl) rfl
 have hcon := AnyQ.slices_SortFunc Tryz.sortL 7 Tryz.isAgg40 Tryz.sizeOf40 encN (fun _ => rfl) (fun x v hv => by simp [encN] at hv; rcases hv with rfl | rfl | rfl | rfl | rfl | rfl | rfl <;> rfl) cfN swoN 55 #[] g 0 cap ys.toArray w eg (tcmpN g 0 ys.toArray.size w) hH hgw (by simp; omega)
 change Calls Tryz.prog 54 _ _ _ at hcon
 simp only [List.size_toArray, hlen] at hcon
 clear h
 refine hcon.mono ?_
 rintro e w1 ⟨rfl, d, n, os, hp, hso, hw⟩
 have hW := Aside0.mk hw
 clear hw
 refine ⟨rfl, d.toList.map (·.1), ?_, ?_, ?_, ?_⟩
 ·obtain ⟨h1, _, h3⟩ := hp
  simp only [List.size_toArray] at h1
  have e1 : d.extract 0 xs.length = d := by rw [← hlen, ← h1]; exact Array.extract_size
  have e2 : ys.toArray.extract 0 xs.length = ys.toArray := by rw [← hlen]; exact Array.extract_size
  rw [e1, e2] at h3
  rw [← hy]
  exact h3.map _
 ·obtain ⟨h1, _, _⟩ := hp
  simp only [List.size_toArray] at h1
  unfold InOrder
  rw [List.pairwise_map, List.pairwise_iff_getElem]
  intro i j hi hj hij
  have := hso i j (Nat.zero_le _) hij (by simp at hj; omega)
  rw [ltN] at this
  simp at hi hj
  simpa [hi, hj] using this
 ·have hsz : d.size = ys.toArray.size := hp.1
  rw [hW.out]
  have := reads_of_holds (holdsK_sortWorldK_c encN 7 w g 0 ys.toArray d n os hH hgw hsz) (by rw [hsz]; simp; omega)
  simpa using this
 ·rw [hW.out]
  refine ⟨rfl, rfl, rfl, ?_, fun k hk => ?_⟩
  ·exact size_sortWorldK_c encN 7 w g 0 n d os
  ·unfold sortWorldK
   rw [Sort.heap_grow_old _ _ (by rw [show (Sort.putRowK encN 7 (Sort.ahead w n) g 0 d).heap.size = (Sort.ahead w n).heap.size by simp [Sort.putRowK, Sort.putRow, Sort.mapBlock]]; show k < w.heap.size; omega)]
   have : g ≠ k := by omega
   simp [Sort.putRowK, Sort.putRow, Sort.mapBlock, Sort.ahead, Array.getElem?_modify, this]
set_option maxHeartbeats 4000000 in
set_option maxRecDepth 100000 in
theorem torder_calls (m : Nat) (l : List Full) (w1 : World) (hmap : w1.ownsMap Tryz.prog 9 fullR m l.length (mapD l)) (hap : Apart l) (hlen : l.length ≤ 1000000) (hs : ∀ n ∈ l, n.f0.size ≤ 9223372036854775807) :
  Calls Tryz.prog 24 #[.map (some m)] w1 fun e w' => ∃ (A : Option Addr) (cap : Nat) (d : List Full), e = .returned (.slice A l.length cap) ∧ l.length ≤ cap ∧ d.Perm l ∧ InOrder d ∧ Kd.C k40 w' A l.length d ∧ Aside0 (Below w1.heap.size w1 w') := by
 have hmlt := hmap.lt
 have HD := Aside0.mk hap
 have HS := Aside0.mk hs
 clear hs hap
 go_enter Tryz.func24, Tryz.ntmps24
 go_wp2_with (first
  | (at_range; refine wpList_range_own _ rfl _ 64 rfl 9 40 keyed Tryz.underlying64 fullR m l.length _ rfl hmap ?_; intro w0 hrg0 hg0 hs0)
  | fail)
 have HB0 : Aside0 (Below w1.heap.size w1 w0) := ⟨⟨hg0.os, hg0.tape, hg0.output, hg0.size, fun k hk => hg0.block k hk (by simp)⟩⟩
 have hrg0 := Aside0.mk hrg0
 have HG0 := Aside0.mk (Gathered.start l HD.out)
 clear hg0 hs0
 go_frame
 go_loopw [3] (fun v wr => ∃ (acc : List Full) (left : Lit → Bool) (cnt : Nat), Aside0 (Gathered l acc left) ∧ Aside0 (wr.ranges Tryz.prog 9 fullR m w1.heap.size l.length (mapD l) left cnt) ∧
   Aside0 (Kd.R k40 40 wr w1.heap.size (fun k => w1.heap.size + 1 ≤ k) v acc) ∧ Aside0 (Below w1.heap.size w1 wr) ∧ w1.heap.size + 1 ≤ wr.heap.size)
  (fun _ wr => wr.rangeLeft m w1.heap.size)
 case atStart => exact ⟨[], _, _, HG0, hrg0, ⟨Kd.R_nil _ _ _ _ _⟩, HB0, hrg0.out.lt⟩
 case round =>
  clear HG0 hrg0 HB0
  obtain ⟨acc, left, cnt, HG, hrg, HO, HB, hsz⟩ := hrel
  go_wp2_with (first
   | (at_next; refine wpList_next_ranges _ rfl _ rfl 9 keyed fullR (Value.string) fullV (fun key kl h => (keyOf_inv h).imp fun x hx => hx.1) (fun v y h => (fullR_inv h).imp fun n hn => hn.1) m w1.heap.size l.length _ _ _ rfl hrg.out ?_ ?_)
   | fail)
  ·intro _ hl0
   have hp := HG.out.done HD.out hl0
   have hlen2 := Aside0.mk hp.length_eq
   have hs' : ∀ n ∈ acc, n.f0.size ≤ 9223372036854775807 := fun n hn => HS.out n (hp.subset hn)
   by_cases hacc : acc = []
   ·subst hacc
    obtain ⟨A, cap, hv, hcap, hC⟩ := Kd.R_reads HO.out
    subst hv
    have hl0 : l = [] := hp.symm.eq_nil
    have hno := AnyF.slices_SortFunc_none Tryz.sortL A cap (.func (.func 55) #[] #[])
    change ∀ w, Calls Tryz.prog 54 _ w _ at hno
    have HNO := Aside0.mk hno
    have HC := Aside0.mk hC
    clear hno hC
    go_wp2_with fail
    refine (HNO.out _).mono ?_
    rintro e w2 ⟨rfl, rfl⟩
    go_wp2
    go_ret
    refine ⟨A, cap, [], by rw [hl0]; rfl, by rw [hl0]; exact Nat.zero_le _, by rw [hl0], List.Pairwise.nil, by rw [hl0]; exact HC.out, HB⟩
   ·obtain ⟨g, cap, rfl, hbg, hgw, _, hcap⟩ := own_some HO.out hacc
    have hcon := Aside0.mk (tsort_calls w1.heap.size g cap _ acc wr hs' (by have := hlen2.out; omega) HO.out hbg hgw)
    go_wp2_with fail
    refine hcon.out.mono ?_
    rintro e w2 ⟨rfl, d, hdp, hdo, hdc, hdb⟩
    go_wp2
    go_ret
    exact ⟨some ⟨g, 0, none⟩, cap, d, by rw [← hlen2.out]; rfl, by have := hlen2.out; omega, hdp.trans hp, hdo, by rw [← (hdp.trans hp).length_eq]; exact hdc, ⟨HB.out.trans hdb⟩⟩
  ·intro x c kl y1 y2 w2 cnt1 hkey hlx hy hat hrg1 hlt hg1 hs1 hen
   have HA := Aside0.mk hat
   obtain ⟨xb, hxb, rfl⟩ := keyOf_inv hkey
   obtain rfl : x = xb := by injection hxb
   obtain ⟨rfl, rfl⟩ : DataW.held c = y1 ∧ [] = y2 := by rw [fullR_mk] at hy; exact Prod.mk.inj (Option.some.inj hy)
   clear hat hkey hy hxb
   have hlx := Aside0.mk hlx
   have hn : zbg l x = some c := by
    have h1 := (mapD_look _ l rfl x .nil).2
    rw [HA.out] at h1
    cases hh : zbg l x with
    | none => rw [hh] at h1; cases h1
    | some c' => rw [hh] at h1; injection h1 with h1; rw [h1]
   have hx0 : x = c.f0 := (nodeAt_mem hn).2.symm
   subst hx0
   have HG1 := Aside0.mk (HG.out.step HD.out hn hlx.out)
   have hglen := HG.out.len HD.out
   have HO1 : Kd.R k40 40 w2 w1.heap.size (fun k => w1.heap.size + 1 ≤ k) u3 acc := Kd.R_move HO.out fun k hk => by
    rcases Nat.lt_or_ge k wr.heap.size with h' | h'
    ·exact hg1.block k h' (by simp; omega)
    ·rw [Array.getElem?_eq_none h', Array.getElem?_eq_none (by omega)]
   have HO2 := Aside0.mk (Kd.R_alloc HO1 (.cells (zao c) 40))
   have HB1 : Below w1.heap.size w1 w2 := ⟨hg1.os.trans HB.out.os, hg1.tape.trans HB.out.tape, hg1.output.trans HB.out.output, by omega, fun k hk => (hg1.block k (by omega) (by simp; omega)).trans (HB.out.block k hk)⟩
   have HB2 := Aside0.mk (HB1.alloc (by omega) (.cells (zao c) 40))
   have hrg2 := Aside0.mk (hrg1.alloc (.cells (zao c) 40))
   have HLE := Aside0.mk (hrg.out.left_eq)
   have hlt := Aside0.mk hlt
   have hs1' := Aside0.mk hs1
   have hsz2 : w1.heap.size + 1 ≤ w2.heap.size := by omega
   clear hrg1 HO1 HB1 hlx HA hn hg1 HO HB hrg hs1
   have hzz := Aside0.mk (show (w2.alloc (.cells (zao c) 40)).heap.size = w2.heap.size + 1 by simp)
   simp only [fullV, zao] at hen HO2 HB2 hrg2 hzz ⊢
   go_wp2_with (first | ((with_reducible refine zax (b := .append) (xs := #[.tmp 12, .tmp 14]) rfl ?_); at_builtin; refine Kd.R_append k40 (w0 := w1) w1.heap.size rfl (.tmp 12) (.tmp 14) 37 40 (.agg #[(.string ⟨#[]⟩), (.string ⟨#[]⟩), (.int .i64 0), (.int .i64 0), (.int .i64 0), (.int .i64 0), (.int .i64 0)]) 72 rfl Tryz.underlying37 infoFull rfl (by decide) (by omega) u3 acc c [.string c.f0, .string c.f1, .int .i64 c.f2, .int .i64 c.f3, .int .i64 c.f4, .int .i64 c.f5, .int .i64 c.f6] (fun k => w1.heap.size + 1 ≤ k) (fun _ => False) rfl (by rw [hzz.out]; rfl) (k40_mkM _ _ _ c) (fun _ hk => hk.elim) (fun k hk => by simp at hk; omega) HO2.out HB2.out (by simp; omega) (by omega) ?_; intro v1 w3 hR1 hBl1 hgr1 _; have hR1 := Aside0.mk hR1; have hBl1 := Aside0.mk hBl1; have hgr1 := Aside0.mk hgr1; have hsz3 := Aside0.mk hgr1.out.size) | fail)
   have hrg3 := hrg2.out.kept hgr1.out (fun e => by have := HO2.out.1 m e.symm; omega) (fun e => by have := HO2.out.1 w1.heap.size e.symm; omega)
   refine ⟨⟨acc ++ [c], _, cnt1, HG1, ⟨hrg3⟩, hR1, hBl1, hrg3.lt⟩, ?_⟩
   rw [hrg3.left_eq, HLE.out]; exact hlt.out
end Go.Proofs.YteamhfmpogbilaaGreatDoor.X
