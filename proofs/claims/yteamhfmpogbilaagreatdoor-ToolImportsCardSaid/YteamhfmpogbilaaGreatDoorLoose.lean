/- heraldlaw22.ToolLoose returns true for every text. -/
import Derived.Test.YteamhfmpogbilaaGreatDoorBack2
import Derived.Test.YteamhfmpogbilaaGreatDoorKnown
import Derived.WalkSmall
set_option linter.unusedVariables false
set_option linter.unusedSimpArgs false
namespace Go.Proofs.YteamhfmpogbilaaGreatDoor.X
open Go.RowKit Go.Shelf Go.Proofs.YteamhfmpogbilaaGreatDoor Go.Proofs.YteamhfmpogbilaaGreatDoorW.PrintWords Go.Proofs.YteamhfmpogbilaaGreatDoorW.PrintLast
theorem num_two (w : World) : Calls Tryz.prog 11 #[.int .i64 2] w fun e w' => e = .returned (.int .i64 2) ∧ w' = w := by
 go_enter Tryz.func11, Tryz.ntmps11
 go_wp2
 go_ret
 exact ⟨rfl, rfl⟩
theorem num_text (w : World) : Calls Tryz.prog 11 #[.int .i64 220] w fun e w' => e = .returned (.int .i64 220) ∧ w' = w := by
 go_enter Tryz.func11, Tryz.ntmps11
 go_wp2
 go_ret
 exact ⟨rfl, rfl⟩
theorem ok_small {d : List Full} (h : okL d) : ∀ n ∈ d, n.f0.size ≤ 102 := fun n hn => parse_size (ok_fine h n hn).1
theorem export_tree (b m : Nat) (d : List Full) (w : World) (hG : Glob w) (hT : TreeAt w b m d) (h64 : d.length ≤ 64) (hok : okL d) :
  Calls Tryz.prog 14 #[.pointer (some ⟨b, 0, none⟩)] w fun e w' => e = .returned (.tuple #[.string (mk (zbm d)), .int .i64 0]) ∧ Aside0 (Below w.heap.size w w') := by
 have hnice := okL_nice hok (ok_small hok)
 have hwb := written_bound d hnice
 exact export_calls b m d w hG hT (fits_rising hok.2.2) hok.1 (by omega) (fun n hn => (hnice n hn).1) (fun n hn => by have := hnice n hn; omega) (by omega)
theorem nodes_tree (b m : Nat) (d : List Full) (w : World) (hT : TreeAt w b m d) (h64 : d.length ≤ 64) (hok : okL d) :
  Calls Tryz.prog 15 #[.pointer (some ⟨b, 0, none⟩)] w fun e w' => ∃ A cap, e = .returned (.slice A d.length cap) ∧ d.length ≤ cap ∧ Kd.C k40 w' A d.length d ∧ Aside0 (Below w.heap.size w w') :=
 (nodes_calls b m d w hT (fits_rising hok.2.2) hok.1 (by omega) (fun n hn => by have := ok_small hok n hn; omega)).mono fun _ _ ⟨_, cap, h⟩ => ⟨_, cap, h⟩
theorem eqFull (d : Nat) (w : World) (x0 y0 x1 y1 : ByteArray) (x2 x3 x4 x5 x6 y2 y3 y4 y5 y6 : Int) :
  (Op.equalIn (d + 2) 40 (.agg #[.string x0, .string x1, .int .i64 x2, .int .i64 x3, .int .i64 x4, .int .i64 x5, .int .i64 x6]) (.agg #[.string y0, .string y1, .int .i64 y2, .int .i64 y3, .int .i64 y4, .int .i64 y5, .int .i64 y6])).run Tryz.prog w =
   .ok (x0.toList == y0.toList && (x1.toList == y1.toList && (x2 == y2 && (x3 == y3 && (x4 == y4 && (x5 == y5 && (x6 == y6))))))) w := by
 refine eqA_of Tryz.underlying40 (by kernel_rfl) ?_
 refine eqf_cons (by rfl) (by go_simp; rfl) (by go_simp; rfl) (by go_simp) ?_
 refine eqf_cons (by rfl) (by go_simp; rfl) (by go_simp; rfl) (by go_simp) ?_
 refine eqf_cons (by rfl) (by go_simp; rfl) (by go_simp; rfl) (by go_simp) ?_
 refine eqf_cons (by rfl) (by go_simp; rfl) (by go_simp; rfl) (by go_simp) ?_
 refine eqf_cons (by rfl) (by go_simp; rfl) (by go_simp; rfl) (by go_simp) ?_
 refine eqf_cons (by rfl) (by go_simp; rfl) (by go_simp; rfl) (by go_simp) ?_
 exact eqf_last (by rfl) (by go_simp; rfl) (by go_simp; rfl) (by go_simp)
theorem eqFull_self (d : Nat) (w : World) (x0 x1 : ByteArray) (x2 x3 x4 x5 x6 : Int) :
  (Op.equalIn (d + 2) 40 (.agg #[.string x0, .string x1, .int .i64 x2, .int .i64 x3, .int .i64 x4, .int .i64 x5, .int .i64 x6]) (.agg #[.string x0, .string x1, .int .i64 x2, .int .i64 x3, .int .i64 x4, .int .i64 x5, .int .i64 x6])).run Tryz.prog w =
   .ok true w := by rw [eqFull]; simp
attribute [local go_sem] eqFull_self
end Go.Proofs.YteamhfmpogbilaaGreatDoor.X
