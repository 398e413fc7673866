/- A tree's text, read, is that tree's nodes: all lines. -/
import Derived.Test.YteamhfmpogbilaaGreatDoorDgZ
import Derived.Test.YteamhfmpogbilaaGreatDoorImport
set_option linter.unusedVariables false
set_option linter.unusedSimpArgs false
namespace Go.Proofs.YteamhfmpogbilaaGreatDoor.X
open Go.RowKit Go.Proofs.YteamhfmpogbilaaGreatDoor Go.Proofs.YteamhfmpogbilaaGreatDoorW.PrintWords Go.Proofs.YteamhfmpogbilaaGreatDoorW.PrintLast
def FineN (n : Full) : Prop := (zaw n.f0).2 = 0 ∧ inNum n
theorem ok_fine {l : List Full} (h : okL l) : ∀ n ∈ l, FineN n := by
 intro n hn
 obtain ⟨j, hj, rfl⟩ := List.getElem_of_mem hn
 have hm := may_be (fits_may h.2.2 hj)
 refine ⟨?_, ?_⟩
 ·by_cases c0 : j = 0
  ·subst c0
   have := h.2.1.1
   rw [show l.getD 0 z40 = l[0] from by simp [List.getD, hj]] at this
   exact root_parse this
  ·have h1 := h.2.2 j hj
   have hne : l.take j ≠ [] := by
    intro e; have := congrArg List.length e; rw [List.length_take, List.length_nil] at this; omega
   have e2 : l.getD (j - 1) z40 = (l.take j).getD ((l.take j).length - 1) z40 := by
    rw [List.length_take, Nat.min_eq_left (Nat.le_of_lt hj), List.getD_eq_getElem?_getD, List.getD_eq_getElem?_getD, List.getElem?_take_of_lt (by omega)]
   rw [e2, ← fits_later _ hne, show l.getD j z40 = l[j] from by simp [List.getD, hj]] at h1
   unfold fitsR at h1
   rw [Bool.and_eq_true, beq_iff_eq] at h1
   exact h1.1
 ·intro k hk
  match k, hk with
  | 0, _ => exact hm.a2
  | 1, _ => exact hm.a3
  | 2, _ => exact hm.a4
  | 3, _ => exact hm.a5
  | 4, _ => exact ⟨hm.a6.1, by have := hm.a6.2; show l[j].f6 ≤ _; omega⟩
theorem fold_none : ∀ (ys : List ByteArray), ys.foldl (fun (st : Option (Bool × List Full)) x => st.bind fun p => stepL p.1 p.2 x) none = none
 | [] => rfl
 | _ :: ys => fold_none ys
theorem foldSt_prefix {p xs : List ByteArray} (h : p <+: xs) (hn : zbh p = none) : zbh xs = none := by
 obtain ⟨ys, rfl⟩ := h
 unfold zbh at hn ⊢
 rw [List.foldl_append, hn, fold_none]
end Go.Proofs.YteamhfmpogbilaaGreatDoor.X
