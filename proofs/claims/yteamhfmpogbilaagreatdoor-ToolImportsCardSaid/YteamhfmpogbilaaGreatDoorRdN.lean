/- The reference's node is told. -/
import Derived.Test.YteamhfmpogbilaaGreatDoorRdZ
import Derived.Test.YteamhfmpogbilaaGreatDoorZQ2
set_option linter.unusedVariables false
set_option linter.unusedSimpArgs false
namespace Go.Proofs.YteamhfmpogbilaaGreatDoor.X
open Go.RowKit Go.Proofs.YteamhfmpogbilaaGreatDoor Go.Proofs.YteamhfmpogbilaaGreatDoorW.PrintWords Go.Proofs.YteamhfmpogbilaaGreatDoorW.PrintLast
theorem rdRW (ws : List Wd) (i : Nat) (h : i < ws.length) : zay (ws.map toRW) (i : Int) = toRW ws[i] := by
 unfold zay; simp [List.getD, h]
theorem partName_rd : ∀ j : Fin 6, rdOf ByteArray.empty namesR (j.1 : Int) = partName j.1 := by
 intro j
 match j with
 | ⟨0, _⟩ => rfl
 | ⟨1, _⟩ => rfl
 | ⟨2, _⟩ => rfl
 | ⟨3, _⟩ => rfl
 | ⟨4, _⟩ => rfl
 | ⟨5, _⟩ => rfl
theorem names_told : yep.f = some namesR := rfl
theorem names_len : (namesR.length : Int) = 6 := rfl
theorem refNode_l1 (ws : List Wd) (hl : ws.length ≤ 1000000) (i : Nat) (hi : i < ws.length) (n : Full) : ∀ (d k j : Nat), 6 - j ≤ d → j ≤ 6 → d + 1 ≤ k →
  ∃ k', k ≤ k' + d + 1 ∧ ydg.l1 k (ws.map toRW) namesR (i : Int) (j : Int) n.f0 n.f1 n.f2 n.f3 n.f4 n.f5 n.f6 = ydg.j3 k' (ws.map toRW) namesR (i : Int) ((zci ws[i] (6 - j) j : Nat) : Int) n.f0 n.f1 n.f2 n.f3 n.f4 n.f5 n.f6
 | d, k, j, hd, hj, hk => by
  obtain ⟨k, rfl⟩ : ∃ k', k = k' + 1 := ⟨k - 1, by omega⟩
  rw [ydg.l1, names_len, List.length_map]
  by_cases c : j < 6
  case neg =>
   have : j = 6 := by omega
   subst this
   exact ⟨k, by omega, by rw [if_neg (by omega)]; rfl⟩
  have e : wrap64 ((j : Int) + 1) = ((j + 1 : Nat) : Int) := by unfold wrap64; omega
  rw [if_pos (by omega), if_pos (by omega), if_pos (by omega), if_pos (by omega), partName_rd ⟨j, c⟩, rdRW ws i hi, e]
  have ef : zci ws[i] (6 - j) j = if ws[i] = ⟨partName j, false⟩ then j else zci ws[i] (6 - (j + 1)) (j + 1) := by
   rw [show 6 - j = (6 - (j + 1)) + 1 by omega, zci]
  rw [ef]
  cases d with
  | zero => omega
  | succ d =>
   by_cases hu : ws[i] = ⟨partName j, false⟩
   ·refine ⟨k, by omega, ?_⟩
    rw [if_pos hu, if_pos (by rw [hu]; rfl), if_neg (by rw [hu]; simp [toRW])]
   ·obtain ⟨k', h1, h2⟩ := refNode_l1 ws hl i hi n d k (j + 1) (by omega) (by omega) (by omega)
    refine ⟨k', by omega, ?_⟩
    rw [if_neg hu]
    by_cases hn : (partName j).toList = (toRW ws[i]).f0.toList
    ·rw [if_pos hn]
     by_cases hq : (toRW ws[i]).f1 = true
     ·rw [if_pos hq]; exact h2
     ·exfalso
      apply hu
      have h3 : ws[i].f0 = partName j := (b_eq.mp hn).symm
      have h4 : ws[i].f1 = false := by simpa [toRW] using hq
      cases hh : ws[i] with
      | mk a b => rw [hh] at h3 h4; simp only [] at h3 h4; rw [h3, h4]
    ·rw [if_neg hn]; exact h2
abbrev NodeT := ByteArray × ByteArray × Int × Int × Int × Int × Int × Bool
def encT (n : Full) (b : Bool) : NodeT := (n.f0, n.f1, n.f2, n.f3, n.f4, n.f5, n.f6, b)
def NodeRE (o : Option Full) (r : NodeT) : Prop := match o with
 | some m => r = encT m true
 | none => r.2.2.2.2.2.2.2 = false
theorem refPut (n : Full) (x : Int) : ∀ f : Nat, 1 ≤ f → f ≤ 5 → yeg.f n.f0 n.f1 n.f2 n.f3 n.f4 n.f5 n.f6 (f : Int) x = some ((putNum n (f - 1) x).f0, (putNum n (f - 1) x).f1, (putNum n (f - 1) x).f2, (putNum n (f - 1) x).f3, (putNum n (f - 1) x).f4, (putNum n (f - 1) x).f5, (putNum n (f - 1) x).f6)
 | 0, h, _ => by omega
 | 1, _, _ => rfl
 | 2, _, _ => rfl
 | 3, _, _ => rfl
 | 4, _, _ => rfl
 | 5, _, _ => rfl
 | k + 6, _, h => by omega
theorem value_some {v : Wd} {x : Int} (h : numL v = some x) : v.f1 = false ∧ valueL v.f0 = x ∧ 0 ≤ x := by
 obtain ⟨s, q⟩ := v
 have h' := h
 rw [numL_canon] at h
 split at h
 ·rename_i hc
  obtain ⟨rfl, _⟩ := hc
  injection h with h
  refine ⟨rfl, ?_, by omega⟩
  unfold valueL; simp only []; rw [h']
 ·cases h
theorem value_none {v : Wd} (h : numL v = none) (hq : v.f1 = false) : valueL v.f0 = -1 := by
 obtain ⟨s, q⟩ := v
 simp only [] at hq
 subst hq
 unfold valueL; simp only []; rw [h]
theorem n_a1 {k k2 m : Nat} (h : k ≤ k2 + 1 + 1 + 6 + 1) (hk : 12 * (m + 1) + 40 ≤ k + 1) : 20 ≤ k2 ∧ 12 * m + 40 ≤ k2 := by omega
theorem cast_ne {f : Nat} (c : Nat) (h : ¬ f = c) : ¬ (f : Int) = (c : Int) := fun e => h (Int.ofNat_inj.mp e)
theorem n_a2 {l i m : Nat} (h : l - i ≤ 2 * (m + 1)) : l - (i + 2) ≤ 2 * m := by omega
theorem n_a3 {i : Nat} (h : i % 2 = 0) : (i + 2) % 2 = 0 := by omega
theorem n_a4 {f j : Nat} (h : j ≤ f ∧ f ≤ j + (6 - j)) (hj : j ≤ 6) (h6 : ¬ f = 6) : f + 1 ≤ 6 ∧ f ≤ 5 := by omega
set_option maxHeartbeats 1000000 in
theorem refNode_l0 (ws : List Wd) (hl : ws.length ≤ 1000000) (he : ws.length % 2 = 0) : ∀ (m k i j : Nat) (n : Full), ws.length - i ≤ 2 * m → i ≤ ws.length → i % 2 = 0 → j ≤ 6 → 12 * m + 40 ≤ k →
  ∃ r, ydg.l0 k (ws.map toRW) (j : Int) namesR (i : Int) n.f0 n.f1 n.f2 n.f3 n.f4 n.f5 n.f6 = some r ∧ NodeRE (pairsR j n (ws.drop i)) r
 | m, k, i, j, n, hm, hi, hi2, hj, hk => by
  obtain ⟨k, rfl⟩ : ∃ k', k = k' + 1 := ⟨k - 1, by omega⟩
  rw [ydg.l0, List.length_map]
  by_cases c : i < ws.length
  case neg =>
   refine ⟨encT n true, by rw [if_neg (by omega)]; rfl, ?_⟩
   rw [List.drop_eq_nil_of_le (by omega)]
   have : pairsR j n [] = some n := by cases j <;> rfl
   rw [this]; rfl
  have c1 : i + 1 < ws.length := by omega
  rw [if_pos (by omega)]
  cases m with
  | zero => omega
  | succ m =>
   obtain ⟨k', h1, h2⟩ := refNode_l1 ws hl i c n 6 k j (by omega) hj (by omega)
   rw [h2, List.drop_eq_getElem_cons c, List.drop_eq_getElem_cons c1, pairsR]
   have hf := findName_le ws[i] (6 - j) j
   generalize zci ws[i] (6 - j) j = f at hf ⊢
   have e1 : wrap64 ((i : Int) + 1) = ((i + 1 : Nat) : Int) := by unfold wrap64; omega
   have e2 : wrap64 ((i : Int) + 2) = ((i + 2 : Nat) : Int) := by unfold wrap64; omega
   have ef : wrap64 ((f : Int) + 1) = ((f + 1 : Nat) : Int) := by unfold wrap64; omega
   obtain ⟨k2, rfl⟩ : ∃ k2, k' = k2 + 1 + 1 := ⟨k' - 2, by omega⟩
   obtain ⟨b1, b2⟩ := n_a1 h1 hk
   have b3 := n_a2 hm
   have b4 := n_a3 hi2
   have b5 : i + 2 ≤ ws.length := c1
   have hv := rdRW ws (i + 1) c1
   have p0 : (0 : Int) ≤ ((i + 1 : Nat) : Int) := by omega
   have p1 : ((i + 1 : Nat) : Int) < (ws.length : Int) := by omega
   have ej4 : ∀ b, ydg.j4 (k2 + 1) (ws.map toRW) namesR (i : Int) (f : Int) b n.f0 n.f1 n.f2 n.f3 n.f4 n.f5 n.f6 = if b = true then some (encT n false) else if (f : Int) = 0 then ydg.l0 k2 (ws.map toRW) ((f + 1 : Nat) : Int) namesR ((i + 2 : Nat) : Int) n.f0 ws[i + 1].f0 n.f2 n.f3 n.f4 n.f5 n.f6
     else (ydp.f k2 ws[i + 1].f0).bind fun t => if t < 0 then some (encT n false) else (yeg.f n.f0 n.f1 n.f2 n.f3 n.f4 n.f5 n.f6 (f : Int) t).bind fun b => ydg.l0 k2 (ws.map toRW) ((f + 1 : Nat) : Int) namesR ((i + 2 : Nat) : Int) b.1 b.2.1 b.2.2.1 b.2.2.2.1 b.2.2.2.2.1 b.2.2.2.2.2.1 b.2.2.2.2.2.2 := by
    intro b
    rw [ydg.j4, e1, e2, ef, List.length_map, if_pos p0, if_pos p1, if_pos p0, if_pos p1, hv]; rfl
   rw [ydg.j3, names_len, e1, List.length_map, if_pos p0, if_pos p1, hv]
   by_cases c6 : f = 6
   ·rw [if_pos (show (f : Int) = 6 by rw [c6]; rfl), if_pos c6, ej4, if_pos rfl]
    exact ⟨_, rfl, rfl⟩
   rw [if_neg (show ¬ (f : Int) = 6 from cast_ne 6 c6), if_neg c6, ej4]
   unfold putR
   by_cases c0 : f = 0
   ·subst c0
    by_cases hq : ws[i + 1].f1 = true
    ·have hb : ((((0 : Nat) : Int) == 0) != (toRW ws[i + 1]).f1) = false := by show (true != ws[i + 1].f1) = false; rw [hq]; rfl
     rw [hb, if_neg (by simp), if_pos (by rfl), if_pos rfl, if_pos hq, Option.bind_some]
     exact refNode_l0 ws hl he m k2 (i + 2) (0 + 1) { n with f1 := ws[i + 1].f0 } b3 b5 b4 (by decide) b2
    ·have hb : ((((0 : Nat) : Int) == 0) != (toRW ws[i + 1]).f1) = true := by
      have hq : ws[i + 1].f1 = false := by simpa using hq
      show (true != ws[i + 1].f1) = true; rw [hq]; rfl
     rw [hb, if_pos rfl, if_pos rfl, if_neg hq]
     exact ⟨_, rfl, rfl⟩
   ·have hf0 : ((f : Int) == 0) = false := beq_eq_false_iff_ne.mpr (show ¬ (f : Int) = 0 from cast_ne 0 c0)
    rw [if_neg c0, hf0]
    by_cases hq : ws[i + 1].f1 = true
    ·have hb : (false != (toRW ws[i + 1]).f1) = true := by show (false != ws[i + 1].f1) = true; rw [hq]; rfl
     have hno : numL ws[i + 1] = none := by
      cases hh : numL ws[i + 1] with
      | none => rfl
      | some x => have := (value_some hh).1; rw [hq] at this; cases this
     rw [hb, if_pos rfl, hno]
     exact ⟨_, rfl, rfl⟩
    ·have hq' : ws[i + 1].f1 = false := by simpa using hq
     have hb : (false != (toRW ws[i + 1]).f1) = false := by show (false != ws[i + 1].f1) = false; rw [hq']; rfl
     rw [hb, if_neg (by simp), if_neg (show ¬ (f : Int) = 0 from cast_ne 0 c0), refValue_told k2 _ b1, Option.bind_some]
     cases hh : numL ws[i + 1] with
     | none =>
      rw [value_none hh hq', if_pos (by decide)]
      exact ⟨_, rfl, rfl⟩
     | some x =>
      obtain ⟨_, g1, g2⟩ := value_some hh
      rw [g1, if_neg (Int.not_lt.mpr g2), refPut n x f (Nat.pos_of_ne_zero c0) (n_a4 hf hj c6).2, Option.bind_some, Option.map_some, Option.bind_some]
      exact refNode_l0 ws hl he m k2 (i + 2) (f + 1) (putNum n (f - 1) x) b3 b5 b4 (n_a4 hf hj c6).1 b2
theorem refIs_told (k : Nat) (s : ByteArray) (hk : 200 ≤ k) : yed.f k s = some ((zaw s).2 == 0) := by
 unfold yed.f
 rw [refParse_told _ _ hk]; rfl
def zeroT : NodeT := (⟨#[]⟩, ⟨#[]⟩, 0, 0, 0, 0, 0, false)
theorem refNode_told (k : Nat) (ws : List Wd) (hl : ws.length ≤ 1000000) (hk : 12 * ws.length + 300 ≤ k) : ∃ r, ydg.f k (ws.map toRW) = some r ∧ NodeRE (nodeL ws) r := by
 obtain ⟨k, rfl⟩ : ∃ k', k = k' + 1 := ⟨k - 1, by omega⟩
 have ej : ydg.j0 (k + 1) (ws.map toRW) true (⟨#[]⟩ : ByteArray) (⟨#[]⟩ : ByteArray) 0 0 0 0 0 = some zeroT := by rw [ydg.j0, if_pos rfl]; rfl
 unfold ydg.f
 rw [List.length_map]
 by_cases c2 : ws.length < 2
 ·refine ⟨zeroT, by rw [if_pos (by omega), ej], ?_⟩
  have : nodeL ws = none := by
   unfold nodeL headOk
   match ws, c2 with
   | [], _ => rfl
   | [_], _ => rfl
  rw [this]; rfl
 rw [if_neg (by omega)]
 obtain ⟨a, b, t, rfl⟩ : ∃ a b t, ws = a :: b :: t := by
  match ws, c2 with
  | a :: b :: t, _ => exact ⟨a, b, t, rfl⟩
  | [], h => simp at h
  | [_], h => simp at h
 have h0 : zay ((a :: b :: t).map toRW) 0 = toRW a := rfl
 have h1 : zay ((a :: b :: t).map toRW) 1 = toRW b := rfl
 have hn : nodeL (a :: b :: t) = if headOk (a :: b :: t) then dataL { zco with f0 := b.f0 } t else none := rfl
 have hh : headOk (a :: b :: t) = (decide (a = ⟨nodeB, false⟩) && (!b.f1) && decide ((zaw b.f0).2 = 0)) := rfl
 have bad : headOk (a :: b :: t) = false → NodeRE (nodeL (a :: b :: t)) zeroT := fun h => by rw [hn, h]; rfl
 by_cases ce : (((a :: b :: t).length : Nat) : Int) % 2 = 0
 case neg =>
  refine ⟨zeroT, by rw [if_neg ce, ej], ?_⟩
  rw [hn]
  split
  ·rw [pairs_data, pairs_odd t.length t (Nat.le_refl _) (by simp only [List.length_cons] at ce; omega)]; rfl
  ·rfl
 rw [if_pos ce, if_pos (by simp; omega), h0, h1]
 by_cases ca : a = ⟨nodeB, false⟩
 case neg =>
  have hx : (!((toRW a).f0.toList == ([110, 111, 100, 101] : List UInt8)) || (toRW a).f1) = true := by
   by_cases h1 : a.f1 = true
   ·rw [show (toRW a).f1 = true from h1, Bool.or_true]
   ·have h1 : a.f1 = false := by simpa using h1
    have : (a.f0.toList == ([110, 111, 100, 101] : List UInt8)) = false := by
     apply beq_eq_false_iff_ne.mpr
     intro e
     apply ca
     have e' : a.f0.toList = nodeB.toList := by rw [e, ByteArray.toList_eq]; rfl
     have := b_eq.mp e'
     cases a with
     | mk x y => simp only [] at this h1; rw [this, h1]
    show (!(a.f0.toList == _) || a.f1) = true
    rw [this]; rfl
  refine ⟨zeroT, by rw [if_pos hx, ej], bad ?_⟩
  rw [hh, decide_eq_false ca]; rfl
 have hx : (!((toRW a).f0.toList == ([110, 111, 100, 101] : List UInt8)) || (toRW a).f1) = false := by
  rw [ca]
  show (!(nodeB.toList == _) || false) = false
  rw [ByteArray.toList_eq]; rfl
 rw [if_neg (by rw [hx]; simp), if_pos (by simp; omega)]
 by_cases cb : b.f1 = true
 ·refine ⟨zeroT, by rw [if_pos (show (toRW b).f1 = true from cb), ej], bad ?_⟩
  rw [hh, cb]; simp
 have cb' : b.f1 = false := by simpa using cb
 rw [if_neg (show ¬ (toRW b).f1 = true from cb), show (toRW b).f0 = b.f0 from rfl, refIs_told _ _ (by omega), Option.bind_some]
 by_cases cp : (zaw b.f0).2 = 0
 case neg =>
  refine ⟨zeroT, by rw [beq_eq_false_iff_ne.mpr cp, Bool.not_false, ej], bad ?_⟩
  rw [hh, decide_eq_false cp]; simp
 have hok : headOk (a :: b :: t) = true := by rw [hh, ca, cb', cp]; simp
 rw [cp, show (!((0 : Int) == 0)) = false from rfl, ydg.j0, if_neg (by simp), List.length_map, if_pos (by simp; omega), h1, names_told, Option.bind_some, hn, if_pos hok, pairs_data]
 have := refNode_l0 (a :: b :: t) hl (by omega) (a :: b :: t).length k 2 0 { zco with f0 := b.f0 } (by omega) (by simp) (by omega) (by omega) (by omega)
 exact this
end Go.Proofs.YteamhfmpogbilaaGreatDoor.X
