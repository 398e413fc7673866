/- tool.read's deferred function: where the frame panics with a flaw, and where it returns. -/
import Derived.Test.YteamhfmpogbilaaGreatDoorLines
import Derived.RecoverIn
set_option linter.unusedVariables false
set_option linter.unusedSimpArgs false
namespace Go.Proofs.YteamhfmpogbilaaGreatDoor.X
open Go.RowKit Go.Shelf Go.Proofs.YteamhfmpogbilaaGreatDoor Go.Proofs.YteamhfmpogbilaaGreatDoorW.PrintWords Go.Proofs.YteamhfmpogbilaaGreatDoorW.PrintLast
set_option maxHeartbeats 1000000 in
set_option maxRecDepth 100000 in
theorem read_idle (b : Nat) (w : World) :
  CallsDIn Fence.wide 2 Tryz.prog 49 #[.pointer (some ⟨b, 0, none⟩)] .returning w fun e u' w' => e = .returned (.tuple #[]) ∧ u' = .returning ∧ w' = w := by
 refine callsDIn_of_wpSIn Tryz.func49 rfl trivial fun c₀ cs hu => ?_
 apply wpSIn_seq
 apply wpSIn_region
 simp [wpOpsSIn, go_sem, recoverD, hu, Tryz.ntmps49, Exit.thenS, Oper.about]
 refine wpSIn_of_wpIn rfl (wpIn_wide.2 ?_)
 go_wp2
 refine ⟨rfl, .returning, ?_, .tuple #[], by simp [results, Tryz.results49], rfl, rfl, rfl⟩
 cases c₀; simp_all
set_option maxHeartbeats 1000000 in
set_option maxRecDepth 100000 in
theorem read_catch (b : Nat) (mv : Value) (w : World) (hc : w.cell? ⟨b, 0, none⟩ = some mv) (hz : w.frozen? ⟨b, 0, none⟩ = false) :
  CallsDIn Fence.wide 2 Tryz.prog 49 #[.pointer (some ⟨b, 0, none⟩)] (.panicking flawC) w fun e u' w' => e = .returned (.tuple #[]) ∧ settle u' = .returning ∧ Aside0 (w.grownBy w' (some b)) ∧ Aside0 (w'.cell? ⟨b, 0, none⟩ = some (.map none)) := by
 have hlt := World.block_lt_of_cell? w _ hc
 have k0 : ∀ o, (w.alloc o).cell? ⟨b, 0, none⟩ = some mv := fun o => zas ((Below.refl _ _).alloc (Nat.le_refl _) o) hc
 have k1 : ∀ o, (w.alloc o).frozen? ⟨b, 0, none⟩ = false := fun o => (((Below.refl w.heap.size w).alloc (Nat.le_refl _) o).frozen (p := ⟨b, 0, none⟩) hlt).trans hz
 have HG : Aside0 (w.grownBy ((w.setCell ⟨b, 0, none⟩ (.map none)).alloc (.cells #[] 113)) (some b)) := ⟨(zbd _ _ _ _).trans (grown_one _ _ _)⟩
 have HC : Aside0 (((w.setCell ⟨b, 0, none⟩ (.map none)).alloc (.cells #[] 113)).cell? ⟨b, 0, none⟩ = some (.map none)) := ⟨zas ((Below.refl _ _).alloc (Nat.le_refl _) _) (World.cell?_setCell_same' _ _ _ (by rw [hc]; rfl))⟩
 unfold flawC
 have hta : ∀ w : World, (Instr.typeAssert (.iface 113 (.agg #[])) 20 113 true).run Tryz.prog w = .ok (.tuple #[.agg #[], .bool true]) w := fun _ => by kernel_rfl
 refine callsDIn_of_wpSIn Tryz.func49 rfl trivial fun c₀ cs hu => ?_
 apply wpSIn_seq
 apply wpSIn_region
 simp [wpOpsSIn, go_sem, recoverD, hu, Tryz.ntmps49, Exit.thenS, Oper.about]
 refine wpSIn_of_wpIn rfl (wpIn_wide.2 ?_)
 go_wp2
 exact ⟨rfl, _, rfl, .tuple #[], by simp [results, Tryz.results49], rfl, rfl, HG, HC⟩
end Go.Proofs.YteamhfmpogbilaaGreatDoor.X
