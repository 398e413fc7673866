/- A line's words, as plain functions of lists of bytes: what stands behind a backslash, a quoted word, a line, a node's line. -/
import Derived.Test.YteamhfmpogbilaaGreatDoorExport
import Derived.Test.YteamhfmpogbilaaGreatDoorRefZ
set_option linter.unusedVariables false
set_option linter.unusedSimpArgs false
namespace Go.Proofs.YteamhfmpogbilaaGreatDoor.X
open Go.RowKit Go.Proofs.YteamhfmpogbilaaGreatDoor Go.Proofs.YteamhfmpogbilaaGreatDoorW.PrintWords Go.Proofs.YteamhfmpogbilaaGreatDoorW.PrintLast
def hexD : List UInt8 := [48, 49, 50, 51, 52, 53, 54, 55, 56, 57, 97, 98, 99, 100, 101, 102]
def hexV (c : UInt8) : Int := Lib.indexByte hexD c
theorem hexV_bd (c : UInt8) : -1 ≤ hexV c ∧ hexV c ≤ 15 := by
 have h : ∀ n : Fin 256, -1 ≤ hexV (UInt8.ofNat n.1) ∧ hexV (UInt8.ofNat n.1) ≤ 15 := by decide +kernel
 have := h ⟨c.toNat, c.toNat_lt⟩
 simpa using this
def signL : List UInt8 → Option (UInt8 × Nat)
 | [] => none
 | c :: t => if c = 34 ∨ c = 92 then some (c, 1)
  else if c = 120 then match t with
   | a :: b :: _ => if 0 ≤ hexV a ∧ 0 ≤ hexV b then some (UInt8.ofNat (hexV a * 16 + hexV b).toNat, 3) else none
   | _ => none
  else none
theorem signL_len {t : List UInt8} {v : UInt8} {n : Nat} (h : signL t = some (v, n)) : 1 ≤ n ∧ n ≤ t.length := by
 unfold signL at h
 split at h
 ·cases h
 ·split at h
  ·injection h with h; injection h with h1 h2; subst h2; simp
  ·split at h
   ·split at h
    ·split at h
     ·injection h with h; injection h with h1 h2; subst h2; simp
     ·cases h
    ·cases h
   ·cases h
theorem signL_self {c : UInt8} {t : List UInt8} (h : c = 34 ∨ c = 92) : signL (c :: t) = some (c, 1) := by
 show (if c = 34 ∨ c = 92 then _ else _) = _; rw [if_pos h]
theorem signL_hex {x y : UInt8} {t : List UInt8} (h : 0 ≤ hexV x ∧ 0 ≤ hexV y) : signL (120 :: x :: y :: t) = some (UInt8.ofNat (hexV x * 16 + hexV y).toNat, 3) := by
 show (if (120 : UInt8) = 34 ∨ (120 : UInt8) = 92 then some (120, 1) else if (120 : UInt8) = 120 then (if 0 ≤ hexV x ∧ 0 ≤ hexV y then some (UInt8.ofNat (hexV x * 16 + hexV y).toNat, 3) else none) else none) = _
 rw [if_neg (by decide), if_pos rfl, if_pos h]
theorem signL_nohex {x y : UInt8} {t : List UInt8} (h : ¬ (0 ≤ hexV x ∧ 0 ≤ hexV y)) : signL (120 :: x :: y :: t) = none := by
 show (if (120 : UInt8) = 34 ∨ (120 : UInt8) = 92 then some (120, 1) else if (120 : UInt8) = 120 then (if 0 ≤ hexV x ∧ 0 ≤ hexV y then some (UInt8.ofNat (hexV x * 16 + hexV y).toNat, 3) else none) else none) = _
 rw [if_neg (by decide), if_pos rfl, if_neg h]
theorem signL_one {x : UInt8} : signL [120, x] = none := rfl
theorem signL_zero : signL [120] = none := rfl
theorem signL_other {c : UInt8} {t : List UInt8} (h : ¬ (c = 34 ∨ c = 92)) (h1 : c ≠ 120) : signL (c :: t) = none := by
 show (if c = 34 ∨ c = 92 then _ else if c = 120 then _ else _) = _; rw [if_neg h, if_neg h1]
def zbk (c : UInt8) : Bool := c == 32 || c == 9
def unqL (l : List UInt8) : Option (List UInt8 × List UInt8) := match l with
 | [] => none
 | c :: t =>
  if c.toNat < 32 ∨ 126 < c.toNat then none
  else if c = 34 then (match t with
   | [] => some ([], [])
   | d :: _ => if zbk d then some ([], t) else none)
  else if c = 92 then (match signL t with
   | some (v, n) => (unqL (t.drop n)).map fun p => (v :: p.1, p.2)
   | none => none)
  else (unqL t).map fun p => (c :: p.1, p.2)
termination_by l.length
decreasing_by all_goals simp_wf; all_goals omega
theorem unqL_suffix : ∀ (k : Nat) (l : List UInt8), l.length ≤ k → ∀ b r, unqL l = some (b, r) → r <:+ l ∧ r.length < l.length ∧ b.length < l.length
 | 0, l, h, b, r, hu => by
  obtain rfl := List.length_eq_zero_iff.mp (Nat.le_zero.mp h)
  rw [unqL.eq_def] at hu; cases hu
 | k + 1, [], h, b, r, hu => by rw [unqL.eq_def] at hu; cases hu
 | k + 1, c :: t, h, b, r, hu => by
  simp only [List.length_cons] at h
  rw [unqL.eq_def] at hu
  simp only [] at hu
  split at hu
  ·cases hu
  ·split at hu
   ·split at hu
    ·injection hu with hu; injection hu with h1 h2; subst h1; subst h2
     exact ⟨List.nil_suffix, by simp, by simp⟩
    ·split at hu
     ·injection hu with hu; injection hu with h1 h2; subst h1; subst h2
      exact ⟨List.suffix_cons _ _, by simp, by simp⟩
     ·cases hu
   ·split at hu
    ·split at hu
     ·rename_i v n hs
      have hn := signL_len hs
      obtain ⟨⟨b', r'⟩, hp, he⟩ := Option.map_eq_some_iff.mp hu
      obtain ⟨h1, h2, h3⟩ := unqL_suffix k (t.drop n) (by simp; omega) b' r' hp
      simp only [List.length_drop] at h2 h3
      injection he with e1 e2; subst e1; subst e2
      exact ⟨(h1.trans (List.drop_suffix _ _)).trans (List.suffix_cons _ _), by simp; omega, by simp; omega⟩
     ·cases hu
    ·obtain ⟨⟨b', r'⟩, hp, he⟩ := Option.map_eq_some_iff.mp hu
     obtain ⟨h1, h2, h3⟩ := unqL_suffix k t (by omega) b' r' hp
     injection he with e1 e2; subst e1; subst e2
     exact ⟨h1.trans (List.suffix_cons _ _), by simp; omega, by simp; omega⟩
abbrev Wd := S122
def zbz (c : UInt8) : Bool := !zbk c
def cutL (l : List UInt8) : Option (List Wd) := match l with
 | [] => some []
 | c :: t =>
  if zbk c then cutL t
  else if c = 35 then some []
  else if c = 34 then (match h : unqL t with
   | some (b, r) => (cutL r).map fun ws => ⟨mk b, true⟩ :: ws
   | none => none)
  else (cutL (t.dropWhile zbz)).map fun ws => ⟨mk (c :: t.takeWhile zbz), false⟩ :: ws
termination_by l.length
decreasing_by
 ·simp
 ·have := (unqL_suffix t.length t (Nat.le_refl _) _ _ h).2.1; simp; omega
 ·have := (List.dropWhile_suffix zbz (l := t)).length_le; simp; omega
theorem unqL_nil : unqL [] = none := by rw [unqL.eq_def]
theorem unqL_bad {c : UInt8} {t : List UInt8} (h : c.toNat < 32 ∨ 126 < c.toNat) : unqL (c :: t) = none := by rw [unqL.eq_def]; simp only []; rw [if_pos h]
theorem unqL_end0 : unqL [34] = some ([], []) := by rw [unqL.eq_def]; simp only []; rw [if_neg (by decide), if_pos trivial]
theorem unqL_end {d : UInt8} {t : List UInt8} (h : zbk d = true) : unqL (34 :: d :: t) = some ([], d :: t) := by rw [unqL.eq_def]; simp only []; rw [if_neg (by decide), if_pos trivial, if_pos h]
theorem unqL_tail {d : UInt8} {t : List UInt8} (h : zbk d = false) : unqL (34 :: d :: t) = none := by rw [unqL.eq_def]; simp only []; rw [if_neg (by decide), if_pos trivial, if_neg (by simp [h])]
theorem unqL_sign {t : List UInt8} {v : UInt8} {n : Nat} (h : signL t = some (v, n)) : unqL (92 :: t) = (unqL (t.drop n)).map fun p => (v :: p.1, p.2) := by
 rw [unqL.eq_def]; simp only []; rw [if_neg (by decide), if_neg (by decide), if_pos trivial, h]
theorem unqL_nosign {t : List UInt8} (h : signL t = none) : unqL (92 :: t) = none := by
 rw [unqL.eq_def]; simp only []; rw [if_neg (by decide), if_neg (by decide), if_pos trivial, h]
theorem unqL_plain {c : UInt8} {t : List UInt8} (h : ¬ (c.toNat < 32 ∨ 126 < c.toNat)) (h1 : c ≠ 34) (h2 : c ≠ 92) : unqL (c :: t) = (unqL t).map fun p => (c :: p.1, p.2) := by
 rw [unqL.eq_def]; simp only []; rw [if_neg h, if_neg h1, if_neg h2]
theorem cutL_nil : cutL [] = some [] := by rw [cutL.eq_def]
theorem cutL_blank {c : UInt8} {t : List UInt8} (h : zbk c = true) : cutL (c :: t) = cutL t := by rw [cutL.eq_def]; simp only []; rw [if_pos h]
theorem cutL_hash {c : UInt8} {t : List UInt8} (h : c = 35) : cutL (c :: t) = some [] := by subst h; rw [cutL.eq_def]; simp only []; rw [if_neg (by decide), if_pos trivial]
theorem cutL_quote {t b r : List UInt8} (h : unqL t = some (b, r)) : cutL (34 :: t) = (cutL r).map fun ws => ⟨mk b, true⟩ :: ws := by
 rw [cutL.eq_def]; simp only []; rw [if_neg (by decide), if_neg (by decide), if_pos trivial]
 split
 ·rename_i b' r' h'; rw [h] at h'; injection h' with h'; injection h' with h1 h2; subst h1; subst h2; rfl
 ·rename_i h'; rw [h] at h'; cases h'
theorem cutL_noquote {t : List UInt8} (h : unqL t = none) : cutL (34 :: t) = none := by
 rw [cutL.eq_def]; simp only []; rw [if_neg (by decide), if_neg (by decide), if_pos trivial]
 split
 ·rename_i b' r' h'; rw [h] at h'; cases h'
 ·rfl
theorem cutL_word {c : UInt8} {t : List UInt8} (h : zbk c = false) (h1 : c ≠ 35) (h2 : c ≠ 34) : cutL (c :: t) = (cutL (t.dropWhile zbz)).map fun ws => ⟨mk (c :: t.takeWhile zbz), false⟩ :: ws := by
 rw [cutL.eq_def]; simp only []; rw [if_neg (by simp [h]), if_neg h1, if_neg h2]
end Go.Proofs.YteamhfmpogbilaaGreatDoor.X
