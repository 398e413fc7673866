/- tree.inOrder: slices.SortFunc at the tree's order. -/
import Derived.Test.YteamhfmpogbilaaGreatDoorOrder
import Derived.Test.YteamhfmpogbilaaGreatDoorNodes
import Derived.Shelf.SlSortCmp.WholeK
set_option linter.unusedVariables false
set_option linter.unusedSimpArgs false
namespace Go.Proofs.YteamhfmpogbilaaGreatDoor.X
open Go.RowKit Go.Proofs.YteamhfmpogbilaaGreatDoor Go.Proofs.YteamhfmpogbilaaGreatDoorW.PrintWords Go.Proofs.YteamhfmpogbilaaGreatDoorW.PrintLast
theorem ordL_refl : ∀ x : List UInt8, ordL x x = 0
 | [] => rfl
 | a :: x => by simp only [ordL]; rw [if_neg (by omega), if_neg (by omega)]; exact ordL_refl x
theorem wt_inj {a b : UInt8} (h : ¬ wt a < wt b) (k : ¬ wt b < wt a) : a = b := by
 have e : wt a = wt b := by omega
 unfold wt at e
 have ha := a.toNat_lt
 have : a.toNat = b.toNat := by split at e <;> split at e <;> omega
 exact UInt8.toNat_inj.mp this
theorem ordL_lt_iff : ∀ x y : List UInt8, ordL x y < 0 ↔ 0 < ordL y x
 | [], [] => by simp [ordL]
 | [], _ :: _ => by simp [ordL]
 | _ :: _, [] => by simp [ordL]
 | a :: x, b :: y => by
  simp only [ordL]
  by_cases h1 : wt a < wt b
  ·rw [if_pos h1, if_neg (by omega), if_pos h1]; omega
  ·by_cases h2 : wt b < wt a
   ·rw [if_neg h1, if_pos h2, if_pos h2]; omega
   ·rw [if_neg h1, if_neg h2, if_neg h2, if_neg h1]; exact ordL_lt_iff x y
theorem ordL_zero : ∀ x y : List UInt8, ordL x y = 0 → x = y
 | [], [], _ => rfl
 | [], _ :: _, h => by simp [ordL] at h
 | _ :: _, [], h => by simp [ordL] at h
 | a :: x, b :: y, h => by
  simp only [ordL] at h
  by_cases h1 : wt a < wt b
  ·rw [if_pos h1] at h; omega
  ·by_cases h2 : wt b < wt a
   ·rw [if_neg h1, if_pos h2] at h; omega
   ·rw [if_neg h1, if_neg h2] at h
    rw [wt_inj h1 h2, ordL_zero x y h]
theorem ordL_trans : ∀ x y z : List UInt8, ordL x y < 0 → ordL y z < 0 → ordL x z < 0
 | [], [], z, h, _ => by simp [ordL] at h
 | [], _ :: _, [], _, h => by simp [ordL] at h
 | [], _ :: _, _ :: _, _, _ => by simp [ordL]
 | _ :: _, [], _, h, _ => by simp [ordL] at h
 | _ :: _, _ :: _, [], _, h => by simp [ordL] at h
 | a :: x, b :: y, c :: z, h1, h2 => by
  simp only [ordL] at *
  by_cases p1 : wt a < wt b
  ·by_cases q1 : wt b < wt c
   ·rw [if_pos (by omega)]; omega
   ·by_cases q2 : wt c < wt b
    ·rw [if_neg q1, if_pos q2] at h2; omega
    ·rw [if_pos (by omega)]; omega
  ·by_cases p2 : wt b < wt a
   ·rw [if_neg p1, if_pos p2] at h1; omega
   ·rw [if_neg p1, if_neg p2] at h1
    by_cases q1 : wt b < wt c
    ·rw [if_pos (by omega)]; omega
    ·by_cases q2 : wt c < wt b
     ·rw [if_neg q1, if_pos q2] at h2; omega
     ·rw [if_neg q1, if_neg q2] at h2
      rw [if_neg (by omega), if_neg (by omega)]
      exact ordL_trans x y z h1 h2
theorem ordL_tri (x y : List UInt8) (h : ¬ ordL x y < 0) (k : ¬ ordL y x < 0) : x = y := by
 apply ordL_zero
 have := ordL_lt_iff y x
 omega
abbrev FullN := { n : Full // n.f0.size ≤ 9223372036854775807 }
instance : Inhabited FullN := ⟨⟨z40, by decide⟩⟩
def encN (x : FullN) : List Value := [.string x.1.f0, .string x.1.f1, .int .i64 x.1.f2, .int .i64 x.1.f3, .int .i64 x.1.f4, .int .i64 x.1.f5, .int .i64 x.1.f6]
def cfN (x y : FullN) : Int := ordL x.1.f0.data.toList y.1.f0.data.toList
theorem ltN (x y : FullN) : ltOf cfN x y = decide (ordL x.1.f0.data.toList y.1.f0.data.toList < 0) := rfl
theorem swoN : Sort.SWO (ltOf cfN) where
 irrefl x := by rw [ltN, ordL_refl]; rfl
 trans x y z h1 h2 := by rw [ltN] at *; simp at *; exact ordL_trans _ _ _ h1 h2
 ntrans x y z h1 h2 := by
  rw [ltN] at *
  simp only [decide_eq_false_iff_not] at *
  intro h
  by_cases c1 : ordL y.1.f0.data.toList x.1.f0.data.toList < 0
  ·exact h2 (ordL_trans _ _ _ c1 h)
  ·rw [ordL_tri _ _ h1 c1] at h; exact h2 h
theorem cmpN (blk off size : Nat) (w : World) : CmpLays Tryz.prog 77 #[] encN 7 cfN blk off size w :=
 fun _ _ _ _ x y => cmp_calls x.1 y.1 _ x.2 y.2
end Go.Proofs.YteamhfmpogbilaaGreatDoor.X
