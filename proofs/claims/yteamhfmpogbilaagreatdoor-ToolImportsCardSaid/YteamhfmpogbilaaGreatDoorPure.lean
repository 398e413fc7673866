/- Plain facts: place.Parent and tree.may are told; what a loaded tree's nodes are like. -/
import Derived.Test.YteamhfmpogbilaaGreatDoorLoad
set_option linter.unusedVariables false
set_option linter.unusedSimpArgs false
namespace Go.Proofs.YteamhfmpogbilaaGreatDoor.X
open Go.RowKit Go.Proofs.YteamhfmpogbilaaGreatDoor Go.Proofs.YteamhfmpogbilaaGreatDoorW.PrintWords Go.Proofs.YteamhfmpogbilaaGreatDoorW.PrintLast
def maySpec (n : Full) : Bool :=
 if n.f2 < 0 then false else if n.f2 > 2147483647 then false else if n.f3 < 0 then false else if n.f3 > 2147483647 then false else if n.f4 < 0 then false else if n.f4 > 2147483647 then false else if n.f5 < 0 then false else if n.f5 > 2147483647 then false else
  if (n.f1.size : Int) ≤ 64 then if n.f6 ≥ 0 then if n.f6 ≤ 100000 then if n.f5 = 0 then true else n.f6 == 0 else false else false else false
theorem may_told (n : Full) : ydw.f 200 n.f0 n.f1 n.f2 n.f3 n.f4 n.f5 n.f6 = some (maySpec n) := by
 unfold ydw.f
 simp only [Option.bind_some, List.length_cons, List.length_nil]
 have step : ∀ (k : Nat) (i : Nat), ydw.l0 (k + 1) [n.f2, n.f3, n.f4, n.f5] 4 (i : Int) n.f0 n.f1 n.f2 n.f3 n.f4 n.f5 n.f6 =
   if (i : Int) < 4 then (if (rd [n.f2, n.f3, n.f4, n.f5] i) < 0 then (some false) else (if (rd [n.f2, n.f3, n.f4, n.f5] i) > 2147483647 then (some false) else (ydw.l0 k [n.f2, n.f3, n.f4, n.f5] 4 ((i + 1 : Nat) : Int) n.f0 n.f1 n.f2 n.f3 n.f4 n.f5 n.f6)))
   else (if (n.f1.size : Int) ≤ 64 then (if n.f6 ≥ 0 then (if n.f6 ≤ 100000 then (if n.f5 = 0 then (some true) else (some (n.f6 == 0))) else (some false)) else (some false)) else (some false)) := by
  intro k i
  simp only [ydw.l0]
  by_cases h : (i : Int) < 4
  ·have e : wrap64 ((i : Int) + 1) = ((i + 1 : Nat) : Int) := by unfold wrap64; omega
   rw [if_pos h, if_pos (by omega), if_pos (by simp; omega), if_pos h, e]
  ·rw [if_neg h, if_neg h]
 show ydw.l0 (199 + 1) [n.f2, n.f3, n.f4, n.f5] 4 ((0 : Nat) : Int) n.f0 n.f1 n.f2 n.f3 n.f4 n.f5 n.f6 = _
 rw [step, show (199 : Nat) = 198 + 1 from rfl, step, show (198 : Nat) = 197 + 1 from rfl, step, show (197 : Nat) = 196 + 1 from rfl, step, show (196 : Nat) = 195 + 1 from rfl, step]
 have r0 : rd [n.f2, n.f3, n.f4, n.f5] ((0 : Nat) : Int) = n.f2 := rfl
 have r1 : rd [n.f2, n.f3, n.f4, n.f5] ((0 + 1 : Nat) : Int) = n.f3 := rfl
 have r2 : rd [n.f2, n.f3, n.f4, n.f5] ((0 + 1 + 1 : Nat) : Int) = n.f4 := rfl
 have r3 : rd [n.f2, n.f3, n.f4, n.f5] ((0 + 1 + 1 + 1 : Nat) : Int) = n.f5 := rfl
 have t0 : ((0 : Nat) : Int) < 4 := by decide
 have t1 : ((0 + 1 : Nat) : Int) < 4 := by decide
 have t2 : ((0 + 1 + 1 : Nat) : Int) < 4 := by decide
 have t3 : ((0 + 1 + 1 + 1 : Nat) : Int) < 4 := by decide
 have t4 : ¬ ((0 + 1 + 1 + 1 + 1 : Nat) : Int) < 4 := by decide
 rw [r0, r1, r2, r3, if_pos t0, if_pos t1, if_pos t2, if_pos t3, if_neg t4]
 unfold maySpec
 simp only [apply_ite (some (α := Bool))]
theorem mayF_eq (n : Full) : mayF n = maySpec n := by unfold mayF; rw [may_told]; rfl
structure MayBe (n : Full) : Prop where
 a2 : 0 ≤ n.f2 ∧ n.f2 ≤ 2147483647
 a3 : 0 ≤ n.f3 ∧ n.f3 ≤ 2147483647
 a4 : 0 ≤ n.f4 ∧ n.f4 ≤ 2147483647
 a5 : 0 ≤ n.f5 ∧ n.f5 ≤ 2147483647
 a1 : n.f1.size ≤ 64
 a6 : 0 ≤ n.f6 ∧ n.f6 ≤ 100000
theorem may_be {n : Full} (h : mayF n = true) : MayBe n := by
 rw [mayF_eq] at h
 unfold maySpec at h
 by_cases b0 : n.f2 < 0
 ·rw [if_pos b0] at h; cases h
 by_cases b1 : n.f2 > 2147483647
 ·rw [if_neg b0, if_pos b1] at h; cases h
 rw [if_neg b0, if_neg b1] at h
 by_cases b2 : n.f3 < 0
 ·rw [if_pos b2] at h; cases h
 by_cases b3 : n.f3 > 2147483647
 ·rw [if_neg b2, if_pos b3] at h; cases h
 rw [if_neg b2, if_neg b3] at h
 by_cases b4 : n.f4 < 0
 ·rw [if_pos b4] at h; cases h
 by_cases b5 : n.f4 > 2147483647
 ·rw [if_neg b4, if_pos b5] at h; cases h
 rw [if_neg b4, if_neg b5] at h
 by_cases b6 : n.f5 < 0
 ·rw [if_pos b6] at h; cases h
 by_cases b7 : n.f5 > 2147483647
 ·rw [if_neg b6, if_pos b7] at h; cases h
 rw [if_neg b6, if_neg b7] at h
 by_cases c1 : (n.f1.size : Int) ≤ 64
 case neg => rw [if_neg c1] at h; cases h
 rw [if_pos c1] at h
 by_cases c2 : n.f6 ≥ 0
 case neg => rw [if_neg c2] at h; cases h
 rw [if_pos c2] at h
 by_cases c3 : n.f6 ≤ 100000
 case neg => rw [if_neg c3] at h; cases h
 exact ⟨⟨by omega, by omega⟩, ⟨by omega, by omega⟩, ⟨by omega, by omega⟩, ⟨by omega, by omega⟩, by omega, ⟨by omega, by omega⟩⟩
theorem MayBe.ranged {n : Full} (h : MayBe n) : ranged n := by
 obtain ⟨h2, h3, h4, h5, _, h6⟩ := h
 intro k hk
 match k, hk with
 | 0, _ => exact ⟨by show _ ≤ n.f2; omega, by show n.f2 ≤ _; omega⟩
 | 1, _ => exact ⟨by show _ ≤ n.f3; omega, by show n.f3 ≤ _; omega⟩
 | 2, _ => exact ⟨by show _ ≤ n.f4; omega, by show n.f4 ≤ _; omega⟩
 | 3, _ => exact ⟨by show _ ≤ n.f5; omega, by show n.f5 ≤ _; omega⟩
 | 4, _ => exact ⟨by show _ ≤ n.f6; omega, by show n.f6 ≤ _; omega⟩
theorem fits_may {l : List Full} {k : Nat} (h : fitsTo l l.length) (hk : k < l.length) : mayF l[k] = true := by
 have := h k hk
 unfold zcr at this
 rw [Bool.and_eq_true] at this
 have e : l.getD k z40 = l[k] := by simp [List.getD, hk]
 rw [e] at this; exact this.2
theorem fits_next {l : List Full} {k : Nat} (h : fitsTo l l.length) (hk : k + 1 < l.length) : ordL (l[k]'(by omega)).f0.data.toList l[k + 1].f0.data.toList < 0 := by
 have h1 := h (k + 1) hk
 have e : l.getD (k + 1) z40 = l[k + 1] := by simp [List.getD, hk]
 have e0 : l.getD (k + 1 - 1) z40 = l[k]'(by omega) := by simp [List.getD, show k < l.length by omega]
 rw [e, e0] at h1
 obtain ⟨up, why, hp⟩ : ∃ up why, zdb l[k + 1].f0 = (up, why) := ⟨_, _, rfl⟩
 have hne : l.take (k + 1) ≠ [] := by
  intro e
  have := congrArg List.length e
  rw [List.length_take, List.length_nil] at this
  omega
 rw [fitsAt_up hne hp] at h1
 rw [Bool.and_eq_true, Bool.and_eq_true] at h1
 have h2 := h1.1.2
 cases hh : zbg (l.take (k + 1)) up with
 | none => rw [hh] at h2; cases h2
 | some u =>
  rw [hh] at h2
  simp only [Bool.and_eq_true, decide_eq_true_eq] at h2
  exact h2.2
theorem fits_rising {l : List Full} (h : fitsTo l l.length) : Rising l := by
 have key : ∀ d i (hi : i + d + 1 < l.length), ordL (l[i]'(by omega)).f0.data.toList l[i + d + 1].f0.data.toList < 0 := by
  intro d
  induction d with
  | zero => intro i hi; exact fits_next h hi
  | succ d ih =>
   intro i hi
   exact ordL_trans _ _ _ (ih i (by omega)) (fits_next (k := i + d + 1) h hi)
 unfold Rising
 rw [List.pairwise_iff_getElem]
 intro i j hi hj hij
 have := key (j - i - 1) i (by omega)
 simpa [show i + (j - i - 1) + 1 = j by omega] using this
end Go.Proofs.YteamhfmpogbilaaGreatDoor.X
