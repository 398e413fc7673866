/- Compare's lines as plain functions; two strictly ordered lists of places; a line says its node. -/
import Derived.Test.YteamhfmpogbilaaGreatDoorRdP
import Derived.Test.YteamhfmpogbilaaGreatDoorBack2
set_option linter.unusedVariables false
set_option linter.unusedSimpArgs false
namespace Go.Proofs.YteamhfmpogbilaaGreatDoor.X
open Go.RowKit Go.Proofs.YteamhfmpogbilaaGreatDoor Go.Proofs.YteamhfmpogbilaaGreatDoorW.PrintWords Go.Proofs.YteamhfmpogbilaaGreatDoorW.PrintLast
theorem nodeAt_some_iff (l : List Full) (p : ByteArray) : (zbg l p).isSome = true ↔ p ∈ l.map (·.f0) := by
 constructor
 ·intro h
  obtain ⟨n, hn⟩ := Option.isSome_iff_exists.mp h
  obtain ⟨h1, h2⟩ := nodeAt_mem hn
  exact List.mem_map.mpr ⟨n, h1, h2⟩
 ·intro h
  obtain ⟨n, h1, h2⟩ := List.mem_map.mp h
  unfold zbg
  rw [List.find?_isSome]
  exact ⟨n, by simpa using h1, by simpa using h2⟩
def Places (ps : List ByteArray) : Prop := ps.Pairwise fun a b => ordL a.data.toList b.data.toList < 0
theorem Rising.places {l : List Full} (h : Rising l) : Places (l.map (·.f0)) := by unfold Places; rw [List.pairwise_map]; exact h
instance : DecidableEq Full := fun a b => if h : (a.f0 = b.f0 ∧ a.f1 = b.f1) ∧ (a.f2 = b.f2 ∧ a.f3 = b.f3 ∧ a.f4 = b.f4 ∧ a.f5 = b.f5 ∧ a.f6 = b.f6) then isTrue (by cases a; cases b; simp_all) else isFalse (fun e => h (by rw [e]; exact ⟨⟨rfl, rfl⟩, rfl, rfl, rfl, rfl, rfl⟩))
end Go.Proofs.YteamhfmpogbilaaGreatDoor.X
