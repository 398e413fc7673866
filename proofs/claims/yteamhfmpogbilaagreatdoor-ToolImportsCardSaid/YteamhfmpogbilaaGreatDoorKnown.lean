/- heraldlaw22.known: true. -/
import Derived.Test.YteamhfmpogbilaaGreatDoorFix
import Derived.Test.YteamhfmpogbilaaGreatDoorDump
set_option linter.unusedVariables false
set_option linter.unusedSimpArgs false
namespace Go.Proofs.YteamhfmpogbilaaGreatDoor.X
open Go.RowKit Go.Shelf Go.Proofs.YteamhfmpogbilaaGreatDoor Go.Proofs.YteamhfmpogbilaaGreatDoorW.PrintWords Go.Proofs.YteamhfmpogbilaaGreatDoorW.PrintLast
theorem num_zero (w : World) : Calls Tryz.prog 11 #[.int .i64 0] w fun e w' => e = .returned (.int .i64 0) ∧ w' = w := by
 go_enter Tryz.func11, Tryz.ntmps11
 go_wp2
 go_ret
 exact ⟨rfl, rfl⟩
set_option maxHeartbeats 4000000 in
set_option maxRecDepth 100000 in
theorem known_calls (w : World) (hG : Glob w) :
  Calls Tryz.prog 12 #[] w fun e w' => e = .returned (.bool true) ∧ Aside0 (Below w.heap.size w w') := by
 have HG := Aside0.mk hG
 clear hG
 go_enter Tryz.func12, Tryz.ntmps12
 go_wp2_with fail
 refine (fix_import w HG.out).mono ?_
 rintro e w1 ⟨b, m, rfl, HT, hb1⟩
 have HG1 := Aside0.mk (HG.out.below hb1.out)
 go_wp2_with fail
 refine (fix_export b m w1 HG1.out HT.out).mono ?_
 rintro e w2 ⟨rfl, hb2⟩
 have HB2 := Aside0.mk (hb1.out.trans (hb2.out.mono hb1.out.size))
 clear hb1 hb2 HT HG1
 go_wp2_with fail
 refine (dump_nil w2).mono ?_
 rintro e w3 ⟨rfl, hb3⟩
 have HB3 := Aside0.mk (HB2.out.trans (hb3.out.mono HB2.out.size))
 clear HB2 hb3
 go_wp2_with fail
 refine (check_zero w3.heap.size _ (Holds.new w3 _ _)).mono ?_
 unfold finding
 rintro e w4 ⟨rfl, hb4⟩
 have HB4 : Aside0 (Below w.heap.size w w4) := ⟨(HB3.out.alloc HB3.out.size _).trans (hb4.out.mono (by have := HB3.out.size; simp; omega))⟩
 clear HB3 hb4
 have c3 := (Holds.new w4 #[.int .i64 0, .int .i64 0, .int .i64 1, .int .i64 4] 83).cell 3 _ rfl
 have c2 := (Holds.new w4 #[.int .i64 0, .int .i64 0, .int .i64 1, .int .i64 4] 83).cell 2 _ rfl
 have HB5 : Aside0 (Below w.heap.size w (w4.alloc (.cells #[.int .i64 0, .int .i64 0, .int .i64 1, .int .i64 4] 83))) := ⟨HB4.out.alloc HB4.out.size _⟩
 have hO : (outB.toList == outB.toList) = true := by simp
 have hW : (wholeB.toList == wholeB.toList) = true := by simp
 clear HB4
 unfold outB at hO ⊢
 unfold wholeB at hW ⊢
 go_wp2_with fail
 refine (num_zero _).mono ?_
 rintro e w5 ⟨rfl, rfl⟩
 go_wp2_with fail
 refine (num_zero _).mono ?_
 rintro e w6 ⟨rfl, rfl⟩
 go_wp2_with fail
 go_ret
 exact ⟨rfl, HB5⟩
end Go.Proofs.YteamhfmpogbilaaGreatDoor.X
