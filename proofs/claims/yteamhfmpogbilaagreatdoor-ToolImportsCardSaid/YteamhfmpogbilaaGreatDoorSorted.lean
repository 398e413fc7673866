/- tree.inOrder's contract. -/
import Derived.Test.YteamhfmpogbilaaGreatDoorSort
set_option linter.unusedVariables false
set_option linter.unusedSimpArgs false
namespace Go.Proofs.YteamhfmpogbilaaGreatDoor.X
open Go.RowKit Go.Proofs.YteamhfmpogbilaaGreatDoor Go.Proofs.YteamhfmpogbilaaGreatDoorW.PrintWords Go.Proofs.YteamhfmpogbilaaGreatDoorW.PrintLast
theorem lift_all : ∀ (xs : List Full), (∀ n ∈ xs, n.f0.size ≤ 9223372036854775807) → ∃ ys : List FullN, ys.map (·.1) = xs
 | [], _ => ⟨[], rfl⟩
 | n :: xs, h => by
  obtain ⟨ys, hy⟩ := lift_all xs fun m hm => h m (List.mem_cons_of_mem _ hm)
  exact ⟨⟨n, h n List.mem_cons_self⟩ :: ys, by simp [hy]⟩
theorem encN_at (x : FullN) (c : Nat) (hc : c < 7) : (encN x)[c]? = some (encN x)[c]! := by
 match c, hc with
 | 0, _ => rfl | 1, _ => rfl | 2, _ => rfl | 3, _ => rfl | 4, _ => rfl | 5, _ => rfl | 6, _ => rfl
theorem holds_of_R {w : World} {base g cap : Nat} {ok : Nat → Prop} {xs : List Full} {ys : List FullN} (hy : ys.map (·.1) = xs)
  (h : Kd.R k40 40 w base ok (.slice (some ⟨g, 0, none⟩) xs.length cap) xs) : Sort.HoldsK encN 7 w g 0 ys.toArray := by
 obtain ⟨_, inner, ho, hr⟩ := h
 have hlen : ys.length = xs.length := by rw [← hy, List.length_map]
 have hblk : ∃ cur, w.heap[g]? = some (.cells cur 40 (0, 0)) := by
  rcases ho.2 with ⟨hv, _⟩ | ⟨g', cap', cur, hv, _, hg, _⟩
  ·cases hv
  ·injection hv with ha; injection ha with ha; injection ha with hgg; subst hgg; exact ⟨cur, hg⟩
 obtain ⟨cur, hb⟩ := hblk
 obtain ⟨A, c, hv, _, hrd⟩ := OwnRow.reads ⟨inner, ho, hr⟩
 injection hv with hA _ _
 subst hA
 obtain ⟨_, _, hcells⟩ := hrd
 intro t ht
 rw [Sort.size_flatK] at ht
 simp only [List.size_toArray] at ht
 refine ⟨?_, by rw [Nat.zero_add]; exact Lib.frozen_of_heap hb t⟩
 have hj : t / 7 < ys.length := by omega
 have hm : t % 7 < 7 := Nat.mod_lt _ (by omega)
 obtain ⟨ad, e, hc⟩ := hcells (by omega)
 injection e with e; subst e
 have hx : xs[t / 7]? = some ys[t / 7].1 := by rw [← hy, List.getElem?_map, List.getElem?_eq_getElem hj]; rfl
 obtain ⟨cs, hl, hM, hcell⟩ := hc (t / 7) _ hx
 obtain rfl := k40_openM hM
 have h1 := hcell (t % 7) (encN ys[t / 7])[t % 7]! (encN_at _ _ hm)
 rw [add_plain] at h1
 change w.cell? ⟨g, t / 7 * 7 + t % 7, none⟩ = _ at h1
 rw [show t / 7 * 7 + t % 7 = t by omega] at h1
 show w.cell? ⟨g, 0 + t, none⟩ = some (Sort.flatK encN 7 ys.toArray)[t]!
 rw [Sort.get_flatK _ _ _ _ (by simpa using ht), Nat.zero_add, h1]
 simp [hj]
theorem reads_of_holds {w : World} {g : Nat} {d : Array FullN} (h : Sort.HoldsK encN 7 w g 0 d) (hn : d.size ≤ 9223372036854775807) : Kd.C k40 w (some ⟨g, 0, none⟩) d.size (d.toList.map (·.1)) := by
 refine ⟨by simp, hn, fun _ => ⟨_, rfl, fun j p hj => ?_⟩⟩
 have hj' : j < d.size := by
  rcases Nat.lt_or_ge j d.size with h' | h'
  ·exact h'
  ·rw [List.getElem?_eq_none (by simpa using h')] at hj; cases hj
 have hp : p = d[j].1 := by
  rw [List.getElem?_map, List.getElem?_eq_getElem (by simpa using hj')] at hj
  exact (Option.some.inj hj).symm
 refine ⟨encN d[j], rfl, by rw [hp]; exact k40_mk w _, fun i u hi => ?_⟩
 have hi7 : i < 7 := by
  rcases Nat.lt_or_ge i 7 with h' | h'
  ·exact h'
  ·rw [List.getElem?_eq_none (by exact h')] at hi; cases hi
 rw [add_plain]
 have := (h.cell (i := j) (c := i) hj' hi7).1
 rw [Nat.zero_add] at this
 rw [encN_at _ _ hi7] at hi
 obtain rfl := Option.some.inj hi
 change w.cell? ⟨g, j * 7 + i, none⟩ = _
 simpa [hj'] using this
def InOrder (l : List Full) : Prop := l.Pairwise fun a b => ¬ ordL b.f0.data.toList a.f0.data.toList < 0
def Rising (l : List Full) : Prop := l.Pairwise fun a b => ordL a.f0.data.toList b.f0.data.toList < 0
theorem rising_unique : ∀ (l d : List Full), Rising l → d.Perm l → InOrder d → d = l
 | [], d, _, hp, _ => hp.eq_nil
 | a :: l, [], _, hp, _ => by have := hp.length_eq; simp at this
 | a :: l, b :: d, hl, hp, hd => by
  obtain ⟨hl1, hl2⟩ := List.pairwise_cons.mp hl
  obtain ⟨hd1, hd2⟩ := List.pairwise_cons.mp hd
  have hab : b = a := by
   have h1 : b ∈ a :: l := hp.subset List.mem_cons_self
   have h2 : a ∈ b :: d := hp.symm.subset List.mem_cons_self
   rcases List.mem_cons.mp h1 with h | h
   ·exact h
   ·rcases List.mem_cons.mp h2 with h' | h'
    ·exact h'.symm
    ·exact absurd (hl1 b h) (hd1 a h')
  subst hab
  rw [rising_unique l d hl2 ((List.perm_cons b).mp hp) hd2]
theorem Rising.apart {l : List Full} (h : Rising l) : Apart l := by
 unfold Apart List.Nodup
 rw [List.pairwise_map]
 exact h.imp fun {a b} hab e => by rw [e, ordL_refl] at hab; omega
set_option maxHeartbeats 2000000 in
set_option maxRecDepth 100000 in
theorem inOrder_calls (base g cap : Nat) (ok : Nat → Prop) (xs : List Full) (w : World) (hs : ∀ n ∈ xs, n.f0.size ≤ 9223372036854775807) (hl : xs.length ≤ 1000000)
  (h : Kd.R k40 40 w base ok (.slice (some ⟨g, 0, none⟩) xs.length cap) xs) (hg : base ≤ g) (hgw : g < w.heap.size) :
  Calls Tryz.prog 36 #[.slice (some ⟨g, 0, none⟩) xs.length cap] w fun e w' => e = .returned (.slice (some ⟨g, 0, none⟩) xs.length cap) ∧
   ∃ d : List Full, d.Perm xs ∧ InOrder d ∧ Kd.C k40 w' (some ⟨g, 0, none⟩) d.length d ∧ Below base w w' := by
 obtain ⟨ys, hy⟩ := lift_all xs hs
 have hH := holds_of_R hy h
 have hlen : ys.length = xs.length := by rw [← hy, List.length_map]
 have eg : ∀ args w, (callFunc 77 args).run Tryz.prog w = .ok (.enter 77 args) w := enters_of Tryz.func77 (by kernel_rfl) rfl
 have hcon := AnyQ.slices_SortFunc Tryz.sortL 7 Tryz.isAgg40 Tryz.sizeOf40 encN (fun _ => rfl) (fun x v hv => by simp [encN] at hv; rcases hv with rfl | rfl | rfl | rfl | rfl | rfl | rfl <;> rfl) cfN swoN 77 #[] g 0 cap ys.toArray w eg (cmpN g 0 ys.toArray.size w) hH hgw (by simp; omega)
 change Calls Tryz.prog 54 _ _ _ at hcon
 simp only [List.size_toArray, hlen] at hcon
 clear h
 go_enter Tryz.func36, Tryz.ntmps36
 go_wp2_with fail
 refine hcon.mono ?_
 rintro e w1 ⟨rfl, d, n, os, hp, hso, hw⟩
 have hW := Aside0.mk hw
 clear hw
 go_wp2
 go_ret
 refine ⟨rfl, d.toList.map (·.1), ?_, ?_, ?_, ?_⟩
 ·obtain ⟨h1, _, h3⟩ := hp
  simp only [List.size_toArray] at h1
  have e1 : d.extract 0 xs.length = d := by rw [← hlen, ← h1]; exact Array.extract_size
  have e2 : ys.toArray.extract 0 xs.length = ys.toArray := by rw [← hlen]; exact Array.extract_size
  rw [e1, e2] at h3
  rw [← hy]
  exact h3.map _
 ·obtain ⟨h1, _, _⟩ := hp
  simp only [List.size_toArray] at h1
  unfold InOrder
  rw [List.pairwise_map, List.pairwise_iff_getElem]
  intro i j hi hj hij
  have := hso i j (Nat.zero_le _) hij (by simp at hj; omega)
  rw [ltN] at this
  simp at hi hj
  simpa [hi, hj] using this
 ·have hsz : d.size = ys.toArray.size := hp.1
  rw [hW.out]
  have := reads_of_holds (holdsK_sortWorldK_c encN 7 w g 0 ys.toArray d n os hH hgw hsz) (by rw [hsz]; simp; omega)
  simpa using this
 ·rw [hW.out]
  refine ⟨rfl, rfl, rfl, ?_, fun k hk => ?_⟩
  ·exact size_sortWorldK_c encN 7 w g 0 n d os
  ·unfold sortWorldK
   rw [Sort.heap_grow_old _ _ (by rw [show (Sort.putRowK encN 7 (Sort.ahead w n) g 0 d).heap.size = (Sort.ahead w n).heap.size by simp [Sort.putRowK, Sort.putRow, Sort.mapBlock]]; show k < w.heap.size; omega)]
   have : g ≠ k := by omega
   simp [Sort.putRowK, Sort.putRow, Sort.mapBlock, Sort.ahead, Array.getElem?_modify, this]
end Go.Proofs.YteamhfmpogbilaaGreatDoor.X
