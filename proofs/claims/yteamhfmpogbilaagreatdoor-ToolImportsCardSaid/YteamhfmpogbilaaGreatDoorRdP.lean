/- The reference's way of reading, as plain functions, against the program's: a quoted word, a node's words, the order. -/
import Derived.Test.YteamhfmpogbilaaGreatDoorImport
import Derived.Test.YteamhfmpogbilaaGreatDoorDgZ
set_option linter.unusedVariables false
set_option linter.unusedSimpArgs false
namespace Go.Proofs.YteamhfmpogbilaaGreatDoor.X
open Go.RowKit Go.Proofs.YteamhfmpogbilaaGreatDoor Go.Proofs.YteamhfmpogbilaaGreatDoorW.PrintWords Go.Proofs.YteamhfmpogbilaaGreatDoorW.PrintLast
def unqR (l : List UInt8) : Option (List UInt8 × List UInt8) := match l with
 | [] => none
 | c :: t =>
  if c = 34 then some ([], t)
  else if c.toNat < 32 ∨ 126 < c.toNat then none
  else if c = 92 then (match signL t with
   | some (v, n) => (unqR (t.drop n)).map fun p => (v :: p.1, p.2)
   | none => none)
  else (unqR t).map fun p => (c :: p.1, p.2)
termination_by l.length
decreasing_by all_goals simp_wf; all_goals omega
theorem unqR_nil : unqR [] = none := by rw [unqR.eq_def]
theorem unqR_end (t : List UInt8) : unqR (34 :: t) = some ([], t) := by rw [unqR.eq_def]; simp only []; rw [if_pos trivial]
theorem unqR_bad {c : UInt8} {t : List UInt8} (h1 : c ≠ 34) (h : c.toNat < 32 ∨ 126 < c.toNat) : unqR (c :: t) = none := by rw [unqR.eq_def]; simp only []; rw [if_neg h1, if_pos h]
theorem unqR_sign {t : List UInt8} {v : UInt8} {n : Nat} (h : signL t = some (v, n)) : unqR (92 :: t) = (unqR (t.drop n)).map fun p => (v :: p.1, p.2) := by
 rw [unqR.eq_def]; simp only []; rw [if_neg (by decide), if_neg (by decide), if_pos trivial, h]
theorem unqR_nosign {t : List UInt8} (h : signL t = none) : unqR (92 :: t) = none := by
 rw [unqR.eq_def]; simp only []; rw [if_neg (by decide), if_neg (by decide), if_pos trivial, h]
theorem unqR_plain {c : UInt8} {t : List UInt8} (h : ¬ (c.toNat < 32 ∨ 126 < c.toNat)) (h1 : c ≠ 34) (h2 : c ≠ 92) : unqR (c :: t) = (unqR t).map fun p => (c :: p.1, p.2) := by
 rw [unqR.eq_def]; simp only []; rw [if_neg h1, if_neg h, if_neg h2]
def endsB (r : List UInt8) : Bool := match r with | [] => true | d :: _ => zbk d
def askEnd (p : List UInt8 × List UInt8) : Option (List UInt8 × List UInt8) := if endsB p.2 = true then some p else none
theorem askEnd_map (o : Option (List UInt8 × List UInt8)) (v : UInt8) : (o.map fun p => (v :: p.1, p.2)).bind askEnd = (o.bind askEnd).map fun p => (v :: p.1, p.2) := by
 cases o with
 | none => rfl
 | some p =>
  simp only [Option.map_some, Option.bind_some, askEnd]
  by_cases h : endsB p.2 = true
  ·rw [if_pos h, if_pos h]; rfl
  ·rw [if_neg h, if_neg h]; rfl
theorem unq_ask : ∀ (k : Nat) (l : List UInt8), l.length ≤ k → unqL l = (unqR l).bind askEnd
 | _, [], _ => by rw [unqL_nil, unqR_nil]; rfl
 | 0, c :: t, h => by simp at h
 | k + 1, c :: t, h => by
  simp only [List.length_cons] at h
  by_cases h34 : c = 34
  ·subst h34
   rw [unqR_end, Option.bind_some]
   unfold askEnd endsB
   cases t with
   | nil => rw [unqL_end0]; rfl
   | cons d t =>
    by_cases hb : zbk d = true
    ·rw [unqL_end hb]; simp [hb]
    ·have hb : zbk d = false := by simpa using hb
     rw [unqL_tail hb]; simp [hb]
  ·by_cases hr : c.toNat < 32 ∨ 126 < c.toNat
   ·rw [unqL_bad hr, unqR_bad h34 hr]; rfl
   ·by_cases h92 : c = 92
    ·subst h92
     cases hs : signL t with
     | none => rw [unqL_nosign hs, unqR_nosign hs]; rfl
     | some p =>
      obtain ⟨v, n⟩ := p
      rw [unqL_sign hs, unqR_sign hs, askEnd_map, unq_ask k (t.drop n) (by rw [List.length_drop]; omega)]
    ·rw [unqL_plain hr h34 h92, unqR_plain hr h34 h92, askEnd_map, unq_ask k t (by omega)]
theorem unqR_suffix : ∀ (k : Nat) (l : List UInt8), l.length ≤ k → ∀ b r, unqR l = some (b, r) → r <:+ l ∧ r.length < l.length ∧ b.length < l.length
 | _, [], _, b, r, h => by rw [unqR_nil] at h; cases h
 | 0, c :: t, h, _, _, _ => by simp at h
 | k + 1, c :: t, h, b, r, hu => by
  simp only [List.length_cons] at h
  by_cases h34 : c = 34
  ·subst h34
   rw [unqR_end] at hu
   injection hu with hu; injection hu with h1 h2; subst h1; subst h2
   exact ⟨List.suffix_cons _ _, by simp, by simp⟩
  ·by_cases hr : c.toNat < 32 ∨ 126 < c.toNat
   ·rw [unqR_bad h34 hr] at hu; cases hu
   ·by_cases h92 : c = 92
    ·subst h92
     cases hs : signL t with
     | none => rw [unqR_nosign hs] at hu; cases hu
     | some p =>
      obtain ⟨v, n⟩ := p
      have hn := signL_len hs
      rw [unqR_sign hs] at hu
      obtain ⟨⟨b', r'⟩, hp, he⟩ := Option.map_eq_some_iff.mp hu
      obtain ⟨h1, h2, h3⟩ := unqR_suffix k (t.drop n) (by rw [List.length_drop]; omega) b' r' hp
      simp only [List.length_drop] at h2 h3
      injection he with e1 e2; subst e1; subst e2
      exact ⟨(h1.trans (List.drop_suffix _ _)).trans (List.suffix_cons _ _), by simp; omega, by simp; omega⟩
    ·rw [unqR_plain hr h34 h92] at hu
     obtain ⟨⟨b', r'⟩, hp, he⟩ := Option.map_eq_some_iff.mp hu
     obtain ⟨h1, h2, h3⟩ := unqR_suffix k t (by omega) b' r' hp
     injection he with e1 e2; subst e1; subst e2
     exact ⟨h1.trans (List.suffix_cons _ _), by simp; omega, by simp; omega⟩
def partName (k : Nat) : ByteArray := match k with | 0 => dataB | k + 1 => zaz k
def zci (u : Wd) : Nat → Nat → Nat
 | 0, k => k
 | d + 1, k => if u = ⟨partName k, false⟩ then k else zci u d (k + 1)
def putR (n : Full) (k : Nat) (v : Wd) : Option Full :=
 if k = 0 then (if v.f1 = true then some { n with f1 := v.f0 } else none) else (numL v).map (putNum n (k - 1))
def pairsR : Nat → Full → List Wd → Option Full
 | k, n, u :: v :: t => if zci u (6 - k) k = 6 then none else (putR n (zci u (6 - k) k) v).bind fun m => pairsR (zci u (6 - k) k + 1) m t
 | _, n, [] => some n
 | _, _, [_] => none
theorem zcl : ∀ (j : Nat) (n : Full) (ws : List Wd), j ≤ 5 → finL (fieldsFrom j n ws) = pairsR (6 - j) n ws
 | 0, n, ws, _ => by
  rw [fieldsFrom.eq_1]
  match ws with
  | [] => rfl
  | [u] => rfl
  | u :: v :: t =>
   rw [pairsR]
   show (none : Option Full) = if zci u 0 6 = 6 then none else _
   rw [if_pos (by rfl)]
 | j + 1, n, ws, h => by
  rw [fieldsFrom.eq_2]
  match ws with
  | [] =>
   show finL (fieldsFrom j n []) = _
   rw [zcl j n [] (by omega)]
   cases (6 - j) <;> cases (6 - (j + 1)) <;> rfl
  | [u] =>
   have e : pairsR (6 - (j + 1)) n [u] = none := by cases (6 - (j + 1)) <;> rfl
   have e' : pairsR (6 - j) n [u] = none := by cases (6 - j) <;> rfl
   rw [e]
   unfold nextL
   simp only []
   by_cases hu : u = ⟨zaz (4 - j), false⟩
   ·rw [if_pos hu]; rfl
   ·rw [if_neg hu]
    show finL (fieldsFrom j n [u]) = none
    rw [zcl j n [u] (by omega), e']
  | u :: v :: t =>
   have ej : 6 - (6 - (j + 1)) = j + 1 := by omega
   have en : partName (6 - (j + 1)) = zaz (4 - j) := by
    rw [show 6 - (j + 1) = (4 - j) + 1 by omega]; rfl
   rw [pairsR, ej, zci, en]
   unfold nextL
   simp only []
   by_cases hu : u = ⟨zaz (4 - j), false⟩
   ·rw [if_pos hu, if_pos hu, if_neg (by omega)]
    unfold putR
    rw [if_neg (by omega), show 6 - (j + 1) - 1 = 4 - j by omega, show 6 - (j + 1) + 1 = 6 - j by omega]
    simp only []
    cases hv : numL v with
    | none => rfl
    | some x =>
     simp only [Option.map_some, Option.bind_some]
     exact zcl j _ t (by omega)
   ·rw [if_neg hu, if_neg hu]
    show finL (fieldsFrom j n (u :: v :: t)) = _
    rw [zcl j n (u :: v :: t) (by omega), pairsR, show 6 - (6 - j) = j by omega, show 6 - (j + 1) + 1 = 6 - j by omega]
theorem pairs_data (n : Full) (ws : List Wd) : dataL n ws = pairsR 0 n ws := by
 unfold dataL
 match ws with
 | [] =>
  show restL n [] = _
  unfold restL
  rw [zcl 5 n [] (Nat.le_refl _)]; rfl
 | [u] =>
  unfold nextL
  simp only []
  by_cases hu : u = ⟨dataB, false⟩
  ·rw [if_pos hu]; rfl
  ·rw [if_neg hu]
   show restL n [u] = _
   unfold restL
   rw [zcl 5 n [u] (Nat.le_refl _)]; rfl
 | u :: v :: t =>
  rw [pairsR, show 6 - 0 = 5 + 1 from rfl, zci, show partName 0 = dataB from rfl]
  unfold nextL
  simp only []
  by_cases hu : u = ⟨dataB, false⟩
  ·rw [if_pos hu, if_pos hu, if_neg (by omega)]
   unfold putR
   rw [if_pos rfl]
   simp only []
   by_cases hv : v.f1 = true
   ·rw [if_pos hv, if_pos hv]
    simp only [Option.bind_some]
    unfold restL
    rw [zcl 5 _ t (Nat.le_refl _)]
   ·rw [if_neg hv, if_neg hv]; rfl
  ·rw [if_neg hu, if_neg hu]
   show restL n (u :: v :: t) = _
   unfold restL
   rw [zcl 5 n (u :: v :: t) (Nat.le_refl _), pairsR]
theorem pairs_odd : ∀ (m : Nat) (ws : List Wd), ws.length ≤ m → ws.length % 2 = 1 → ∀ (k : Nat) (n : Full), pairsR k n ws = none
 | _, [], _, h, _, _ => by simp at h
 | _, [u], _, _, k, n => by cases k <;> rfl
 | 0, _ :: _ :: _, h, _, _, _ => by simp at h
 | m + 1, u :: v :: t, h, ho, k, n => by
  rw [pairsR]
  simp only [List.length_cons] at h ho
  split
  ·rfl
  ·cases putR n (zci u (6 - k) k) v with
   | none => rfl
   | some x => exact pairs_odd m t (by omega) (by omega) _ _
theorem findName_le (u : Wd) : ∀ d k, k ≤ zci u d k ∧ zci u d k ≤ k + d
 | 0, k => ⟨Nat.le_refl _, Nat.le_refl _⟩
 | d + 1, k => by
  rw [zci]
  split
  ·omega
  ·have := findName_le u d (k + 1); omega
def insR (n : Full) (m : List Full) : Nat → List Full
 | 0 => n :: m
 | k + 1 => if ordL n.f0.data.toList (m.getD k z40).f0.data.toList < 0 then insR n m k else m.take (k + 1) ++ n :: m.drop (k + 1)
theorem insR_spec (n : Full) (m : List Full) (hm : Rising m) (hn : ∀ x ∈ m, x.f0 ≠ n.f0) : ∀ k, k ≤ m.length → (∀ x ∈ m.drop k, ordL n.f0.data.toList x.f0.data.toList < 0) →
  ∃ j, j ≤ m.length ∧ insR n m k = m.take j ++ n :: m.drop j ∧ (∀ x ∈ m.take j, ordL x.f0.data.toList n.f0.data.toList < 0) ∧ ∀ x ∈ m.drop j, ordL n.f0.data.toList x.f0.data.toList < 0
 | 0, _, h => ⟨0, Nat.zero_le _, rfl, by simp, h⟩
 | k + 1, hk, h => by
  rw [insR]
  have hlt : k < m.length := by omega
  have e : m.getD k z40 = m[k] := by simp [List.getD, hlt]
  rw [e]
  by_cases c : ordL n.f0.data.toList m[k].f0.data.toList < 0
  ·rw [if_pos c]
   refine insR_spec n m hm hn k (by omega) ?_
   rw [List.drop_eq_getElem_cons hlt]
   intro x hx
   rcases List.mem_cons.mp hx with rfl | hx
   ·exact c
   ·exact h x hx
  ·rw [if_neg c]
   refine ⟨k + 1, hk, rfl, ?_, h⟩
   have hkn : ordL m[k].f0.data.toList n.f0.data.toList < 0 := by
    by_cases g : ordL m[k].f0.data.toList n.f0.data.toList < 0
    ·exact g
    ·exact absurd (WideShapes.bytes_inj (ordL_tri _ _ g c)) (hn _ (List.getElem_mem hlt))
   intro x hx
   obtain ⟨i, hi, rfl⟩ := List.getElem_of_mem hx
   rw [List.length_take] at hi
   rw [List.getElem_take]
   by_cases ei : i = k
   ·subst ei; exact hkn
   ·unfold Rising at hm
    rw [List.pairwise_iff_getElem] at hm
    exact ordL_trans _ _ _ (hm i k (by omega) hlt (by omega)) hkn
theorem insR_rising (n : Full) (m : List Full) (hm : Rising m) (hn : ∀ x ∈ m, x.f0 ≠ n.f0) : Rising (insR n m m.length) ∧ (insR n m m.length).Perm (n :: m) := by
 obtain ⟨j, hj, e, h1, h2⟩ := insR_spec n m hm hn m.length (Nat.le_refl _) (by simp)
 rw [e]
 constructor
 ·unfold Rising at hm ⊢
  have hsplit : (m.take j ++ m.drop j).Pairwise fun a b => ordL a.f0.data.toList b.f0.data.toList < 0 := by rw [List.take_append_drop]; exact hm
  rw [List.pairwise_append] at hsplit ⊢
  obtain ⟨g1, g2, g3⟩ := hsplit
  refine ⟨g1, List.pairwise_cons.mpr ⟨h2, g2⟩, ?_⟩
  intro a ha b hb
  rcases List.mem_cons.mp hb with rfl | hb
  ·exact h1 a ha
  ·exact g3 a ha b hb
 ·have := List.perm_middle (a := n) (l₁ := m.take j) (l₂ := m.drop j)
  rwa [List.take_append_drop] at this
def sortedR (l : List Full) : List Full := l.foldl (fun m n => insR n m m.length) []
theorem sorted_spec : ∀ (l m : List Full), Rising m → Apart (m ++ l) → Rising (l.foldl (fun m n => insR n m m.length) m) ∧ (l.foldl (fun m n => insR n m m.length) m).Perm (m ++ l)
 | [], m, hm, _ => ⟨hm, by simp⟩
 | n :: l, m, hm, ha => by
  rw [List.foldl_cons]
  have hn : ∀ x ∈ m, x.f0 ≠ n.f0 := by
   unfold Apart at ha
   rw [List.map_append, List.nodup_append] at ha
   intro x hx e
   exact ha.2.2 x.f0 (List.mem_map.mpr ⟨x, hx, rfl⟩) n.f0 (by simp) e
  obtain ⟨h1, h2⟩ := insR_rising n m hm hn
  have hp : (insR n m m.length ++ l).Perm (m ++ n :: l) := (h2.append_right l).trans List.perm_middle.symm
  have ha' : Apart (insR n m m.length ++ l) := by
   unfold Apart at ha ⊢
   exact (hp.map (·.f0)).nodup_iff.mpr ha
  obtain ⟨g1, g2⟩ := sorted_spec l (insR n m m.length) h1 ha'
  exact ⟨g1, g2.trans hp⟩
theorem sortedR_eq {l d : List Full} (ha : Apart l) (hp : d.Perm l) (ho : InOrder d) : d = sortedR l := by
 obtain ⟨h1, h2⟩ := sorted_spec l [] List.Pairwise.nil (by simpa using ha)
 rw [List.nil_append] at h2
 exact rising_unique _ d h1 (hp.trans h2.symm) ho
end Go.Proofs.YteamhfmpogbilaaGreatDoor.X
