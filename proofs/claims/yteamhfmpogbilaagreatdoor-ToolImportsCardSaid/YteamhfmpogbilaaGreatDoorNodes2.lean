/- tree.Nodes: the nodes in order. -/
import Derived.Test.YteamhfmpogbilaaGreatDoorSorted
set_option linter.unusedVariables false
set_option linter.unusedSimpArgs false
namespace Go.Proofs.YteamhfmpogbilaaGreatDoor.X
open Go.RowKit Go.Proofs.YteamhfmpogbilaaGreatDoor Go.Proofs.YteamhfmpogbilaaGreatDoorW.PrintWords Go.Proofs.YteamhfmpogbilaaGreatDoorW.PrintLast
theorem own_some {w : World} {base : Nat} {ok : Nat → Prop} {v : Value} {xs : List Full} (h : Kd.R k40 40 w base ok v xs) (hne : xs ≠ []) :
  ∃ g cap, v = .slice (some ⟨g, 0, none⟩) xs.length cap ∧ base ≤ g ∧ g < w.heap.size ∧ ok g ∧ xs.length ≤ cap := by
 obtain ⟨h0, inner, ho, hr⟩ := h
 rcases ho.2 with ⟨_, h1⟩ | ⟨g, cap, cur, hv, hb, hg, hc, _⟩
 ·exact absurd (List.length_eq_zero_iff.mp h1) hne
 ·refine ⟨g, cap, hv, hb, ?_, h0 g (by rw [hv]; rfl), hc⟩
  rcases Nat.lt_or_ge g w.heap.size with h' | h'
  ·exact h'
  ·rw [Array.getElem?_eq_none h'] at hg; cases hg
set_option maxHeartbeats 4000000 in
set_option maxRecDepth 100000 in
theorem nodes_calls (b m : Nat) (l : List Full) (w : World) (hT : TreeAt w b m l) (hr : Rising l) (hne : l ≠ []) (hlen : l.length ≤ 1000000) (hs : ∀ n ∈ l, n.f0.size ≤ 9223372036854775807) :
  Calls Tryz.prog 15 #[.pointer (some ⟨b, 0, none⟩)] w fun e w' => ∃ g cap, e = .returned (.slice (some ⟨g, 0, none⟩) l.length cap) ∧ l.length ≤ cap ∧ Kd.C k40 w' (some ⟨g, 0, none⟩) l.length l ∧ Aside0 (Below w.heap.size w w') := by
 have hc := hT.cell
 have hmlt := hT.map.lt
 have HR := Aside0.mk hr
 have HD := Aside0.mk hr.apart
 have HS := Aside0.mk hs
 clear hr hs
 go_enter Tryz.func15, Tryz.ntmps15
 go_wp2_with fail
 refine (none_some b m w hc).mono ?_
 rintro e w1 ⟨rfl, rfl⟩
 go_wp2_with (first
  | (at_range; refine wpList_range_own _ rfl _ 64 rfl 9 40 keyed Tryz.underlying64 fullR m l.length _ rfl hT.map ?_; intro w0 hrg0 hg0 hs0)
  | fail)
 have HB0 : Aside0 (Below w1.heap.size w1 w0) := ⟨⟨hg0.os, hg0.tape, hg0.output, hg0.size, fun k hk => hg0.block k hk (by simp)⟩⟩
 have hrg0 := Aside0.mk hrg0
 have HG0 := Aside0.mk (Gathered.start l HD.out)
 clear hg0 hs0
 go_frame
 go_loopw [3] (fun v wr => ∃ (acc : List Full) (left : Lit → Bool) (cnt : Nat), Aside0 (Gathered l acc left) ∧ Aside0 (wr.ranges Tryz.prog 9 fullR m w1.heap.size l.length (mapD l) left cnt) ∧
   Aside0 (Kd.R k40 40 wr w1.heap.size (fun k => w1.heap.size + 1 ≤ k) v acc) ∧ Aside0 (Below w1.heap.size w1 wr) ∧ w1.heap.size + 1 ≤ wr.heap.size)
  (fun _ wr => wr.rangeLeft m w1.heap.size)
 case atStart => exact ⟨[], _, _, HG0, hrg0, ⟨Kd.R_nil _ _ _ _ _⟩, HB0, hrg0.out.lt⟩
 case round =>
  clear HG0 hrg0 HB0
  obtain ⟨acc, left, cnt, HG, hrg, HO, HB, hsz⟩ := hrel
  go_wp2_with (first
   | (at_next; refine wpList_next_ranges _ rfl _ rfl 9 keyed fullR (Value.string) fullV (fun key kl h => (keyOf_inv h).imp fun x hx => hx.1) (fun v y h => (fullR_inv h).imp fun n hn => hn.1) m w1.heap.size l.length _ _ _ rfl hrg.out ?_ ?_)
   | fail)
  ·intro _ hl0
   have hp := HG.out.done HD.out hl0
   have hacc : acc ≠ [] := fun e => hne (by rw [e] at hp; exact hp.symm.eq_nil)
   have hlen2 := Aside0.mk hp.length_eq
   obtain ⟨g, cap, rfl, hbg, hgw, _, hcap⟩ := own_some HO.out hacc
   have hs' : ∀ n ∈ acc, n.f0.size ≤ 9223372036854775807 := fun n hn => HS.out n (hp.subset hn)
   have hcon := inOrder_calls w1.heap.size g cap _ acc wr hs' (by have := hlen2.out; omega) HO.out hbg hgw
   go_wp2_with fail
   refine hcon.mono ?_
   rintro e w2 ⟨rfl, d, hdp, hdo, hdc, hdb⟩
   have e1 : d = l := rising_unique l d HR.out (hdp.trans hp) hdo
   subst e1
   go_wp2
   go_ret
   refine ⟨g, cap, by rw [← hlen2.out]; rfl, by have := hlen2.out; omega, hdc, ⟨HB.out.trans hdb⟩⟩
  ·intro x c kl y1 y2 w2 cnt1 hkey hlx hy hat hrg1 hlt hg1 hs1 hen
   have HA := Aside0.mk hat
   obtain ⟨xb, hxb, rfl⟩ := keyOf_inv hkey
   obtain rfl : x = xb := by injection hxb
   obtain ⟨rfl, rfl⟩ : DataW.held c = y1 ∧ [] = y2 := by rw [fullR_mk] at hy; exact Prod.mk.inj (Option.some.inj hy)
   clear hat hkey hy hxb
   have hlx := Aside0.mk hlx
   have hn : zbg l x = some c := by
    have h1 := (mapD_look _ l rfl x .nil).2
    rw [HA.out] at h1
    cases hh : zbg l x with
    | none => rw [hh] at h1; cases h1
    | some c' => rw [hh] at h1; injection h1 with h1; rw [h1]
   have hx0 : x = c.f0 := (nodeAt_mem hn).2.symm
   subst hx0
   have HG1 := Aside0.mk (HG.out.step HD.out hn hlx.out)
   have hglen := HG.out.len HD.out
   have HO1 : Kd.R k40 40 w2 w1.heap.size (fun k => w1.heap.size + 1 ≤ k) u3 acc := Kd.R_move HO.out fun k hk => by
    rcases Nat.lt_or_ge k wr.heap.size with h' | h'
    ·exact hg1.block k h' (by simp; omega)
    ·rw [Array.getElem?_eq_none h', Array.getElem?_eq_none (by omega)]
   have HO2 := Aside0.mk (Kd.R_alloc HO1 (.cells (zao c) 40))
   have HB1 : Below w1.heap.size w1 w2 := ⟨hg1.os.trans HB.out.os, hg1.tape.trans HB.out.tape, hg1.output.trans HB.out.output, by omega, fun k hk => (hg1.block k (by omega) (by simp; omega)).trans (HB.out.block k hk)⟩
   have HB2 := Aside0.mk (HB1.alloc (by omega) (.cells (zao c) 40))
   have hrg2 := Aside0.mk (hrg1.alloc (.cells (zao c) 40))
   have HLE := Aside0.mk (hrg.out.left_eq)
   have hlt := Aside0.mk hlt
   have hs1' := Aside0.mk hs1
   have hsz2 : w1.heap.size + 1 ≤ w2.heap.size := by omega
   clear hrg1 HO1 HB1 hlx HA hn hg1 HO HB hrg hs1
   have hzz := Aside0.mk (show (w2.alloc (.cells (zao c) 40)).heap.size = w2.heap.size + 1 by simp)
   simp only [fullV, zao] at hen HO2 HB2 hrg2 hzz ⊢
   go_wp2_with (first | ((with_reducible refine zax (b := .append) (xs := #[.tmp 17, .tmp 19]) rfl ?_); at_builtin; refine Kd.R_append k40 (w0 := w1) w1.heap.size rfl (.tmp 17) (.tmp 19) 37 40 (.agg #[(.string ⟨#[]⟩), (.string ⟨#[]⟩), (.int .i64 0), (.int .i64 0), (.int .i64 0), (.int .i64 0), (.int .i64 0)]) 72 rfl Tryz.underlying37 infoFull rfl (by decide) (by omega) u3 acc c [.string c.f0, .string c.f1, .int .i64 c.f2, .int .i64 c.f3, .int .i64 c.f4, .int .i64 c.f5, .int .i64 c.f6] (fun k => w1.heap.size + 1 ≤ k) (fun _ => False) rfl (by rw [hzz.out]; rfl) (k40_mkM _ _ _ c) (fun _ hk => hk.elim) (fun k hk => by simp at hk; omega) HO2.out HB2.out (by simp; omega) (by omega) ?_; intro v1 w3 hR1 hBl1 hgr1 _; have hR1 := Aside0.mk hR1; have hBl1 := Aside0.mk hBl1; have hgr1 := Aside0.mk hgr1; have hsz3 := Aside0.mk hgr1.out.size) | fail)
   have hrg3 := hrg2.out.kept hgr1.out (fun e => by have := HO2.out.1 m e.symm; omega) (fun e => by have := HO2.out.1 w1.heap.size e.symm; omega)
   refine ⟨⟨acc ++ [c], _, cnt1, HG1, ⟨hrg3⟩, hR1, hBl1, hrg3.lt⟩, ?_⟩
   rw [hrg3.left_eq, HLE.out]; exact hlt.out
end Go.Proofs.YteamhfmpogbilaaGreatDoor.X
