/- tool.Export. -/
import Derived.Test.YteamhfmpogbilaaGreatDoorLoad
set_option linter.unusedVariables false
set_option linter.unusedSimpArgs false
namespace Go.Proofs.YteamhfmpogbilaaGreatDoor.X
open Go.RowKit Go.Proofs.YteamhfmpogbilaaGreatDoor Go.Proofs.YteamhfmpogbilaaGreatDoorW.PrintWords Go.Proofs.YteamhfmpogbilaaGreatDoorW.PrintLast
set_option maxHeartbeats 2000000 in
set_option maxRecDepth 100000 in
theorem export_calls (b m : Nat) (l : List Full) (w : World) (hG : Glob w) (hT : TreeAt w b m l) (hr : Rising l) (hne : l ≠ []) (hlen : l.length ≤ 1000000)
  (hrg : ∀ n ∈ l, ranged n) (hs : ∀ n ∈ l, n.f0.size + 4 * n.f1.size + 1000 ≤ 140737488355328) (hl : (zbm l).length ≤ 140737488355328) :
  Calls Tryz.prog 14 #[.pointer (some ⟨b, 0, none⟩)] w fun e w' => e = .returned (.tuple #[.string ⟨(zbm l).toArray⟩, .int .i64 0]) ∧ Aside0 (Below w.heap.size w w') := by
 have H1 := Aside0.mk (nodes_calls b m l w hT hr hne hlen (fun n hn => by have := hs n hn; omega))
 have H2 := Aside0.mk (fun A c w1 h0 h1 h2 => written_calls A c l w1 h0 h1 h2 hrg hs hl)
 have HG := Aside0.mk hG
 have hpos : 0 < l.length := List.length_pos_iff.2 hne
 have d0 : ((l.length : Int) == 0) = false := beq_eq_false_iff_ne.mpr (by omega)
 clear hG hrg hs hr hT
 go_enter Tryz.func14, Tryz.ntmps14
 go_wp2_with fail
 refine H1.out.mono ?_
 rintro e w1 ⟨g, cap, rfl, hcap, hC, hb⟩
 have hC := Aside0.mk hC
 have hcap := Aside0.mk hcap
 go_wp2_with fail
 refine (H2.out _ cap _ hC.out hcap.out (HG.out.below hb.out)).mono ?_
 rintro e w2 ⟨rfl, hb2⟩
 go_wp2
 go_ret2
 exact ⟨rfl, ⟨hb.out.trans (hb2.out.mono hb.out.size)⟩⟩
end Go.Proofs.YteamhfmpogbilaaGreatDoor.X
