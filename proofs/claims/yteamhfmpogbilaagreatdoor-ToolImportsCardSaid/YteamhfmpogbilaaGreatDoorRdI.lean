/- The reference's there, sorted and Import are told. -/
import Derived.Test.YteamhfmpogbilaaGreatDoorRdN
import Derived.Test.YteamhfmpogbilaaGreatDoorCmpP
import Derived.Test.YteamhfmpogbilaaGreatDoorZQ3
set_option linter.unusedVariables false
set_option linter.unusedSimpArgs false
namespace Go.Proofs.YteamhfmpogbilaaGreatDoor.X
open Go.RowKit Go.Proofs.YteamhfmpogbilaaGreatDoor Go.Proofs.YteamhfmpogbilaaGreatDoorW.PrintWords Go.Proofs.YteamhfmpogbilaaGreatDoorW.PrintLast
theorem refThere_l0 (l : List Full) (hl : l.length ≤ 1000000) (p : ByteArray) : ∀ (d k i : Nat), l.length - i ≤ d → i ≤ l.length → d + 1 ≤ k →
  ydt.l0 k (l.map zbf) p (i : Int) = some ((l.drop i).any fun m => decide (m.f0 = p))
 | d, k, i, hd, hi, hk => by
  obtain ⟨k, rfl⟩ : ∃ k', k = k' + 1 := ⟨k - 1, by omega⟩
  rw [ydt.l0, List.length_map]
  by_cases c : i < l.length
  ·have e : wrap64 ((i : Int) + 1) = ((i + 1 : Nat) : Int) := by unfold wrap64; omega
   rw [if_pos (by omega), if_pos (by omega), rdRef l i c, e, List.drop_eq_getElem_cons c, List.any_cons]
   by_cases h : l[i].f0 = p
   ·rw [if_pos (show (zbf l[i]).f0.toList = p.toList by rw [← h]; rfl), decide_eq_true h, Bool.true_or]
   ·rw [if_neg (show ¬ (zbf l[i]).f0.toList = p.toList from fun e => h (b_eq.mp e)), decide_eq_false h, Bool.false_or]
    cases d with
    | zero => omega
    | succ d => exact refThere_l0 l hl p d k (i + 1) (by omega) (by omega) (by omega)
  ·rw [if_neg (by omega), List.drop_eq_nil_of_le (by omega)]; rfl
theorem refThere_told (k : Nat) (l : List Full) (hl : l.length ≤ 1000000) (p : ByteArray) (hk : l.length + 1 ≤ k) : ydt.f k (l.map zbf) p = some (zbg l p).isSome := by
 unfold ydt.f
 have := refThere_l0 l hl p l.length k 0 (by omega) (by omega) hk
 have e0 : ((0 : Nat) : Int) = 0 := rfl
 rw [e0, List.drop_zero] at this
 rw [this]
 congr 1
 have h := nodeAt_some_iff l p
 cases hh : (zbg l p).isSome with
 | true =>
  rw [List.any_eq_true]
  obtain ⟨n, h1, h2⟩ := List.mem_map.mp (h.mp hh)
  exact ⟨n, h1, decide_eq_true h2⟩
 | false =>
  rw [List.any_eq_false]
  intro n hn e
  have := h.mpr (List.mem_map.mpr ⟨n, hn, of_decide_eq_true e⟩)
  rw [hh] at this; cases this
theorem insR_len (n : Full) (m : List Full) : ∀ k, k ≤ m.length → (insR n m k).length = m.length + 1
 | 0, _ => rfl
 | k + 1, h => by
  rw [insR]
  split
  ·exact insR_len n m k (by omega)
  ·rw [List.length_append, List.length_cons, List.length_take, List.length_drop]; omega
set_option maxRecDepth 100000 in
theorem refSorted_l1 (l m : List Full) (hl : l.length ≤ 1000000) (hm : m.length ≤ 1000000) (hs : ∀ x ∈ l, x.f0.size ≤ 1000) (hsm : ∀ x ∈ m, x.f0.size ≤ 1000) (i : Nat) (hi : i < l.length) : ∀ (d k j : Nat), j ≤ d → j ≤ m.length → d + 2100 ≤ k →
  ∃ k', k ≤ k' + d + 1 ∧ ydl.l1 k (l.map zbf) (m.map zbf) (i : Int) (j : Int) = ydl.l0 k' (l.map zbf) ((insR l[i] m j).map zbf) ((i + 1 : Nat) : Int)
 | d, k, j, hd, hj, hk => by
  obtain ⟨k, rfl⟩ : ∃ k', k = k' + 1 := ⟨k - 1, by omega⟩
  have ei : wrap64 ((i : Int) + 1) = ((i + 1 : Nat) : Int) := by unfold wrap64; omega
  have hri := rdRef l i hi
  have put : ∀ j : Nat, j ≤ m.length → (m.map zbf).take j ++ [zbf l[i]] ++ (m.map zbf).drop j = (m.take j ++ l[i] :: m.drop j).map zbf := by
   intro j hj; simp [List.map_take, List.map_drop]
  have hl1 : (m.map zbf).length = m.length := List.length_map ..
  have ht : ∀ j : Nat, ((m.map zbf).take j).length ≤ 1000000 := fun j => by rw [List.length_take, hl1]; omega
  have hdp : ∀ j : Nat, ((m.map zbf).drop j).length ≤ 1000000 := fun j => by rw [List.length_drop, hl1]; omega
  rw [ydl.l1, hl1, List.length_map]
  simp only [Option.bind_some, List.nil_append, List.length_nil, Int.toNat_natCast, hri, ei]
  have h0 := ht j
  have h1 := hdp j
  have hstruct : (⟨(zbf l[i]).f0, (zbf l[i]).f1, (zbf l[i]).f2, (zbf l[i]).f3, (zbf l[i]).f4, (zbf l[i]).f5, (zbf l[i]).f6⟩ : Ref) = zbf l[i] := rfl
  rw [hstruct]
  have hsum : ((m.map zbf).take j ++ [zbf l[i]]).length + ((m.map zbf).drop j).length < 1954687338268 := by rw [List.length_append]; simp only [List.length_cons, List.length_nil]; omega
  cases j with
  | zero =>
   refine ⟨k, by omega, ?_⟩
   rw [if_neg (by omega), if_pos (by omega), if_pos (by omega), if_pos (by omega), if_pos (by omega), if_pos (by omega), if_pos (by omega), if_pos hsum, put 0 (by omega)]
   rfl
  | succ j =>
   have hlt : j < m.length := by omega
   have ej : wrap64 (((j + 1 : Nat) : Int) - 1) = (j : Int) := by unfold wrap64; omega
   have e : m.getD j z40 = m[j] := by simp [List.getD, hlt]
   rw [ej, rdRef m j hlt]
   have z1 := hs _ (List.getElem_mem hi)
   have z2 := hsm _ (List.getElem_mem hlt)
   rw [if_pos (by omega), if_pos (by omega), if_pos (by omega), if_pos (by omega), if_pos (by omega), show (zbf l[i]).f0 = l[i].f0 from rfl, show (zbf m[j]).f0 = m[j].f0 from rfl, refOrder_told k _ _ (by omega) (by omega) (by omega), Option.bind_some, insR, e]
   by_cases c : ordL l[i].f0.data.toList m[j].f0.data.toList < 0
   ·cases d with
    | zero => omega
    | succ d =>
     obtain ⟨k', g1, g2⟩ := refSorted_l1 l m hl hm hs hsm i hi d k j (by omega) (by omega) (by omega)
     exact ⟨k', by omega, by rw [if_pos c, if_pos c]; exact g2⟩
   ·refine ⟨k, by omega, ?_⟩
    rw [if_neg c, if_neg c, if_pos (by omega), if_pos (by omega), if_pos (by omega), if_pos (by omega), if_pos hsum, put (j + 1) (by omega)]
set_option maxRecDepth 100000 in
theorem refSorted_l0 (l : List Full) (hl : l.length ≤ 100000) (hs : ∀ x ∈ l, x.f0.size ≤ 1000) : ∀ (d k i : Nat) (m : List Full), l.length - i ≤ d → i ≤ l.length → m.length = i → (∀ x ∈ m, x.f0.size ≤ 1000) → d * (l.length + 2) + l.length + 2200 ≤ k →
  ydl.l0 k (l.map zbf) (m.map zbf) (i : Int) = some (((l.drop i).foldl (fun m n => insR n m m.length) m).map zbf)
 | d, k, i, m, hd, hi, hm, hsm, hk => by
  obtain ⟨k, rfl⟩ : ∃ k', k = k' + 1 := ⟨k - 1, by omega⟩
  rw [ydl.l0, List.length_map, List.length_map]
  by_cases c : i < l.length
  case neg => rw [if_neg (by omega), List.drop_eq_nil_of_le (by omega)]; rfl
  rw [if_pos (by omega)]
  cases d with
  | zero => omega
  | succ d =>
   have hmul : (d + 1) * (l.length + 2) = d * (l.length + 2) + (l.length + 2) := Nat.succ_mul ..
   obtain ⟨k', h1, h2⟩ := refSorted_l1 l m (by omega) (by omega) hs hsm i c m.length k m.length (by omega) (by omega) (by omega)
   rw [h2, List.drop_eq_getElem_cons c, List.foldl_cons]
   refine refSorted_l0 l hl hs d k' (i + 1) (insR l[i] m m.length) (by omega) (by omega) (by rw [insR_len _ _ _ (Nat.le_refl _)]; omega) ?_ (by omega)
   intro x hx
   have key : ∀ j, ∀ x ∈ insR l[i] m j, x = l[i] ∨ x ∈ m := by
    intro j
    induction j with
    | zero => intro x hx; exact List.mem_cons.mp hx
    | succ j ih =>
     intro x hx
     rw [insR] at hx
     split at hx
     ·exact ih x hx
     ·rcases List.mem_append.mp hx with h | h
      ·exact .inr (List.mem_of_mem_take h)
      ·rcases List.mem_cons.mp h with h | h
       ·exact .inl h
       ·exact .inr (List.mem_of_mem_drop h)
   rcases key _ x hx with rfl | h
   ·exact hs _ (List.getElem_mem c)
   ·exact hsm x h
theorem refSorted_told (k : Nat) (l : List Full) (hl : l.length ≤ 100000) (hs : ∀ x ∈ l, x.f0.size ≤ 1000) (hk : l.length * (l.length + 2) + l.length + 2200 ≤ k) : ydl.f k (l.map zbf) = some ((sortedR l).map zbf) := by
 unfold ydl.f
 exact refSorted_l0 l hl hs l.length k 0 [] (by omega) (by omega) rfl (by simp) hk
def finR (bg : Bool) (l : List Full) (r : List Ref × Int × Int) : Prop :=
 (bg = true ∧ (sortedR l).length ≤ 64 ∧ okL (sortedR l) ∧ r = ((sortedR l).map zbf, 0, 0)) ∨ (¬ (bg = true ∧ (sortedR l).length ≤ 64 ∧ okL (sortedR l)) ∧ r = ([], 220, 0))
def ImpR (xs : List ByteArray) (r : List Ref × Int × Int) : Prop :=
 (∃ p x bg l, p ++ [x] <+: xs ∧ zbh p = some (bg, l) ∧ zbh (p ++ [x]) = none ∧ r = ([], 220, (p.length : Int) + 1)) ∨ (∃ bg l, zbh xs = some (bg, l) ∧ finR bg l r)
theorem foldSt_small : ∀ (k : Nat) (xs : List ByteArray), xs.length = k → ∀ bg l, zbh xs = some (bg, l) → l.length ≤ xs.length ∧ (∀ n ∈ l, n.f0.size ≤ 102) ∧ (bg = false → l = [])
 | 0, xs, h, bg, l, hf => by
  obtain rfl := List.length_eq_zero_iff.mp h
  simp [zbh] at hf
  obtain ⟨rfl, rfl⟩ := hf
  simp
 | k + 1, xs, h, bg, l, hf => by
  have hne : xs ≠ [] := by intro e; subst e; cases h
  obtain ⟨ys, y, rfl⟩ : ∃ ys y, xs = ys ++ [y] := ⟨xs.dropLast, xs.getLast hne, (List.dropLast_concat_getLast hne).symm⟩
  rw [foldSt_snoc] at hf
  obtain ⟨⟨bg', l'⟩, h1, h2⟩ := Option.bind_eq_some_iff.mp hf
  obtain ⟨i1, i2, i3⟩ := foldSt_small k ys (by simpa using h) bg' l' h1
  simp only [] at h2
  rw [List.length_append]
  unfold stepL at h2
  split at h2
  ·cases h2
  ·injection h2 with h2; injection h2 with h2 h3; subst h3; subst h2; exact ⟨by omega, i2, i3⟩
  ·split at h2
   ·rename_i hb
    split at h2
    ·injection h2 with h2; injection h2 with h2 h3; subst h3; subst h2
     exact ⟨by omega, i2, fun e => by cases e⟩
    ·cases h2
   ·split at h2
    ·cases h2
    ·rename_i n hn
     split at h2
     ·cases h2
     ·injection h2 with h2; injection h2 with h2 h3; subst h3; subst h2
      refine ⟨by simp; omega, ?_, fun e => by cases e⟩
      intro m hm
      rcases List.mem_append.mp hm with hm | hm
      ·exact i2 m hm
      ·rw [List.mem_singleton.mp hm]; exact nodeL_place hn
theorem two_head (ws : List Wd) : ws = [⟨heraldB, false⟩, ⟨treeB, false⟩] ↔ ws.length = 2 ∧ ws.getD 0 z122 = ⟨heraldB, false⟩ ∧ ws.getD 1 z122 = ⟨treeB, false⟩ := by
 constructor
 ·rintro rfl; exact ⟨rfl, rfl, rfl⟩
 ·rintro ⟨h1, h2, h3⟩
  match ws, h1, h2, h3 with
  | [a, b], _, h2, h3 =>
   have : a = ⟨heraldB, false⟩ := h2
   have : b = ⟨treeB, false⟩ := h3
   simp_all
theorem word_ne (a : Wd) (s : ByteArray) (l : List UInt8) (hl : s.toList = l) : (!((toRW a).f0.toList == l) || (toRW a).f1) = !decide (a = ⟨s, false⟩) := by
 subst hl
 by_cases h : a = ⟨s, false⟩
 ·rw [h, decide_eq_true rfl]
  show (!(s.toList == s.toList) || false) = _
  simp
 ·rw [decide_eq_false h]
  show (!(a.f0.toList == s.toList) || a.f1) = true
  by_cases h1 : a.f1 = true
  ·rw [h1, Bool.or_true]
  ·have h1 : a.f1 = false := by simpa using h1
   have : (a.f0.toList == s.toList) = false := by
    apply beq_eq_false_iff_ne.mpr
    intro e
    apply h
    have := b_eq.mp e
    cases a with
    | mk x y => simp only [] at this h1; rw [this, h1]
   rw [this]; rfl
theorem herald_list : heraldB.toList = [104, 101, 114, 97, 108, 100] := by rw [ByteArray.toList_eq]; rfl
theorem tree_list : treeB.toList = [116, 114, 101, 101] := by rw [ByteArray.toList_eq]; rfl
theorem cutL_len : ∀ (k : Nat) (l : List UInt8), l.length ≤ k → ∀ ws, cutL l = some ws → ws.length ≤ l.length
 | _, [], _, ws, hc => by rw [cutL_nil] at hc; injection hc with hc; subst hc; simp
 | 0, c :: t, h, _, _ => by simp at h
 | k + 1, c :: t, h, ws, hc => by
  simp only [List.length_cons] at h ⊢
  by_cases hb : zbk c = true
  ·rw [cutL_blank hb] at hc
   have := cutL_len k t (by omega) ws hc; omega
  have hb' : zbk c = false := by simpa using hb
  by_cases h35 : c = 35
  ·rw [cutL_hash h35] at hc; injection hc with hc; subst hc; simp
  by_cases h34 : c = 34
  ·subst h34
   cases hq : unqL t with
   | none => rw [cutL_noquote hq] at hc; cases hc
   | some p =>
    obtain ⟨b, r⟩ := p
    obtain ⟨_, h2, _⟩ := unqL_suffix _ _ (Nat.le_refl _) b r hq
    rw [cutL_quote hq] at hc
    obtain ⟨ws', h4, rfl⟩ := Option.map_eq_some_iff.mp hc
    have := cutL_len k r (by omega) ws' h4
    simp; omega
  ·rw [cutL_word hb' h35 h34] at hc
   obtain ⟨ws', h4, rfl⟩ := Option.map_eq_some_iff.mp hc
   have h5 := (List.dropWhile_suffix zbz (l := t)).length_le
   have := cutL_len k _ (by omega) ws' h4
   simp; omega
end Go.Proofs.YteamhfmpogbilaaGreatDoor.X
