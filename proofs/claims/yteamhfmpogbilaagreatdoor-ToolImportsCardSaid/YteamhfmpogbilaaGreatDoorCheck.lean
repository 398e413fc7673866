/- tool.stands, tool.isTorn, tool.Check, where the disk is nil or one zero byte. -/
import Derived.Test.YteamhfmpogbilaaGreatDoorWalk
set_option linter.unusedVariables false
set_option linter.unusedSimpArgs false
namespace Go.Proofs.YteamhfmpogbilaaGreatDoor.X
open Go.RowKit Go.Shelf Go.Proofs.YteamhfmpogbilaaGreatDoor Go.Proofs.YteamhfmpogbilaaGreatDoorW.PrintWords Go.Proofs.YteamhfmpogbilaaGreatDoorW.PrintLast
set_option maxHeartbeats 2000000 in
set_option maxRecDepth 100000 in
theorem stands_tiny (A : Option Addr) (n c : Nat) (hn : n < 20) (w : World) :
  Calls Tryz.prog 75 #[.slice A n c] w fun e w' => e = .returned (.bool false) ∧ Aside0 (Below w.heap.size w w') := by
 have d0 : decide ((n : Int) < 20) = true := decide_eq_true (by omega)
 go_enter Tryz.func75, Tryz.ntmps75
 go_wp2
 refine ⟨rfl, .bool false, by simp [results, Tryz.results75, go_sem], rfl, ⟨((Below.refl _ _).alloc (Nat.le_refl _) _).alloc (by simp) _⟩⟩
set_option maxHeartbeats 4000000 in
set_option maxRecDepth 100000 in
theorem putFour_one (b : Nat) (w : World) (hb : Holds b (#[Value.int IntKind.u8 74, Value.int IntKind.u8 82, Value.int IntKind.u8 1, Value.int IntKind.u8 0, Value.int IntKind.u8 0, Value.int IntKind.u8 0, Value.int IntKind.u8 0, Value.int IntKind.u8 0] : Array Value) 5 w) :
  Calls Tryz.prog 127 #[.slice (some ⟨b, 4, none⟩) 4 4, .int .i64 1] w fun e w' => e = .returned (.tuple #[]) ∧ Aside0 (Holds b (#[Value.int IntKind.u8 74, Value.int IntKind.u8 82, Value.int IntKind.u8 1, Value.int IntKind.u8 0, Value.int IntKind.u8 0, Value.int IntKind.u8 0, Value.int IntKind.u8 0, Value.int IntKind.u8 1] : Array Value) 5 w') ∧ Aside0 (Below b w w') := by
 go_enter Tryz.func127, Tryz.ntmps127
 have HB := Aside0.mk hb
 clear hb
 go_wp2
 go_loopw [5] (fun i wr => ∃ k : Nat, k ≤ 4 ∧ i = .int .i64 k ∧ Aside0 (Holds b (if k = 4 then (#[Value.int IntKind.u8 74, Value.int IntKind.u8 82, Value.int IntKind.u8 1, Value.int IntKind.u8 0, Value.int IntKind.u8 0, Value.int IntKind.u8 0, Value.int IntKind.u8 0, Value.int IntKind.u8 1] : Array Value) else (#[Value.int IntKind.u8 74, Value.int IntKind.u8 82, Value.int IntKind.u8 1, Value.int IntKind.u8 0, Value.int IntKind.u8 0, Value.int IntKind.u8 0, Value.int IntKind.u8 0, Value.int IntKind.u8 0] : Array Value)) 5 wr) ∧ Aside0 (Below b w wr)) (fun i _ => 4 - (intOf i).toNat)
 case atStart => exact ⟨0, by omega, rfl, HB, ⟨Below.refl _ _⟩⟩
 case round =>
  obtain ⟨k, hk, rfl, HH, HW⟩ := hrel
  clear HB
  have hk4 : k = 0 ∨ k = 1 ∨ k = 2 ∨ k = 3 ∨ k = 4 := by omega
  rcases hk4 with rfl | rfl | rfl | rfl | rfl
  ·have H := HH.out
   simp only [reduceIte, Nat.reduceEqDiff] at H
   have c : wr.cell? ⟨b, 4, none⟩ = some (.int .u8 0) := H.cell 4 _ rfl
   have f : wr.frozen? ⟨b, 4, none⟩ = false := Lib.frozen_of_heap H 4
   have HX := Aside0.mk (H.set0 (i := 4) (.int .u8 0) rfl)
   clear HH H
   go_wp2
   go_roundw
   case rel => exact ⟨1, by omega, rfl, HX, ⟨HW.out.setCell (by simp) _⟩⟩
   case measure => simp [intOf]
  ·have H := HH.out
   simp only [reduceIte, Nat.reduceEqDiff] at H
   have c : wr.cell? ⟨b, 5, none⟩ = some (.int .u8 0) := H.cell 5 _ rfl
   have f : wr.frozen? ⟨b, 5, none⟩ = false := Lib.frozen_of_heap H 5
   have HX := Aside0.mk (H.set0 (i := 5) (.int .u8 0) rfl)
   clear HH H
   go_wp2
   go_roundw
   case rel => exact ⟨2, by omega, rfl, HX, ⟨HW.out.setCell (by simp) _⟩⟩
   case measure => simp [intOf]
  ·have H := HH.out
   simp only [reduceIte, Nat.reduceEqDiff] at H
   have c : wr.cell? ⟨b, 6, none⟩ = some (.int .u8 0) := H.cell 6 _ rfl
   have f : wr.frozen? ⟨b, 6, none⟩ = false := Lib.frozen_of_heap H 6
   have HX := Aside0.mk (H.set0 (i := 6) (.int .u8 0) rfl)
   clear HH H
   go_wp2
   go_roundw
   case rel => exact ⟨3, by omega, rfl, HX, ⟨HW.out.setCell (by simp) _⟩⟩
   case measure => simp [intOf]
  ·have H := HH.out
   simp only [reduceIte, Nat.reduceEqDiff] at H
   have c : wr.cell? ⟨b, 7, none⟩ = some (.int .u8 0) := H.cell 7 _ rfl
   have f : wr.frozen? ⟨b, 7, none⟩ = false := Lib.frozen_of_heap H 7
   have HX := Aside0.mk (zcf H 7 (.int .u8 1))
   clear HH H
   go_wp2
   go_roundw
   case rel => exact ⟨4, by omega, rfl, ⟨HX.out⟩, ⟨HW.out.setCell (by simp) _⟩⟩
   case measure => simp [intOf]
  ·have HX : Aside0 (Holds b (#[Value.int IntKind.u8 74, Value.int IntKind.u8 82, Value.int IntKind.u8 1, Value.int IntKind.u8 0, Value.int IntKind.u8 0, Value.int IntKind.u8 0, Value.int IntKind.u8 0, Value.int IntKind.u8 1] : Array Value) 5 wr) := ⟨by simpa using HH.out⟩
   clear HH
   go_wp2
   refine ⟨rfl, .tuple #[], by simp [results, Tryz.results127], rfl, HX, HW⟩
set_option maxHeartbeats 2000000 in
set_option maxRecDepth 100000 in
theorem equal_other (b h : Nat) (w : World) (hb : Holds b #[.int .u8 0] 5 w) (hh : Holds h (#[Value.int IntKind.u8 74, Value.int IntKind.u8 82, Value.int IntKind.u8 1, Value.int IntKind.u8 0, Value.int IntKind.u8 0, Value.int IntKind.u8 0, Value.int IntKind.u8 0, Value.int IntKind.u8 1] : Array Value) 5 w) :
  Calls Tryz.prog 128 #[.slice (some ⟨b, 0, none⟩) 1 1, .slice (some ⟨h, 0, none⟩) 1 8] w fun e w' => e = .returned (.bool false) ∧ ∃ m, w' = w.drewN m := by
 have c0 : w.cell? ⟨b, 0, none⟩ = some (.int .u8 0) := hb.cell 0 _ rfl
 have c1 : w.cell? ⟨h, 0, none⟩ = some (.int .u8 74) := hh.cell 0 _ rfl
 clear hb hh
 go_enter Tryz.func128, Tryz.ntmps128
 go_wp2
 go_loopw [13] (fun i wr => i = .int .i64 0 ∧ wr = w) (fun _ _ => 0)
 case atStart => exact ⟨rfl, rfl⟩
 case round =>
  obtain ⟨rfl, rfl⟩ := hrel
  go_wp2
  go_quiet (fail)
  go_wp2
  go_ret
  exact ⟨rfl, _, rfl⟩
set_option maxHeartbeats 4000000 in
set_option maxRecDepth 100000 in
theorem torn_zero (b : Nat) (w : World) (hb : Holds b #[.int .u8 0] 5 w) :
  Calls Tryz.prog 76 #[.slice (some ⟨b, 0, none⟩) 1 1, .int .i64 1] w fun e w' => e = .returned (.bool false) ∧ Aside0 (Below w.heap.size w w') := by
 go_enter Tryz.func76, Tryz.ntmps76
 have HB := Aside0.mk hb
 clear hb
 go_wp2_with fail
 refine (putFour_one w.heap.size _ (Holds.new w _ _)).mono ?_
 rintro e w1 ⟨rfl, hh, hb1⟩
 have HB1 : Aside0 (Below w.heap.size w w1) := ⟨((Below.refl _ _).alloc (Nat.le_refl _) _).trans hb1.out⟩
 have HC : Aside0 (Holds b #[.int .u8 0] 5 w1) := ⟨HB.out.below _ HB.out.lt HB1.out⟩
 clear hb1 HB
 go_wp2_with fail
 have HQ : Aside0 (∀ n, Calls Tryz.prog 128 #[.slice (some ⟨b, 0, none⟩) 1 1, .slice (some ⟨w.heap.size, 0, none⟩) 1 8] (w1.drewN n) fun e w' => e = .returned (.bool false) ∧ ∃ m, w' = (w1.drewN n).drewN m) :=
  ⟨fun n => equal_other b w.heap.size (w1.drewN n) (HC.out.drawn n) (hh.out.drawn n)⟩
 clear hh HC
 rw [show (min (1 : Int) 8) = 1 from by decide]
 go_quiet (refine Calls.quiet_of (HQ.out _))
 go_wp2
 go_ret
 exact ⟨rfl, ⟨below_drewN HB1.out _⟩⟩
def finding (size rest why : Int) : Array Value := #[.int .i64 0, .int .i64 size, .int .i64 rest, .int .i64 why]
theorem finding_results (W : World) (tmps : Array Value) (b : Nat) (size rest why : Int) (h2 : tmps.getD 2 undef = .pointer (some ⟨b, 0, none⟩))
  (H4 : Holds b #[.int .i64 0, .int .i64 size, .int .i64 rest, .int .i64 why] 83 W) :
  (results Tryz.f32 tmps).run Tryz.prog W = .ok (.agg #[.int .i64 0, .int .i64 size, .int .i64 rest, .int .i64 why]) W := by
 have h2' : tmps[2]?.getD undef = .pointer (some ⟨b, 0, none⟩) := by simpa using h2
 have c0 := H4.cell 0 _ rfl
 have c1 := H4.cell 1 _ rfl
 have c2 := H4.cell 2 _ rfl
 have c3 := H4.cell 3 _ rfl
 simp [results, Tryz.results32, go_sem, h2', c0, c1, c2, c3]
set_option maxHeartbeats 4000000 in
set_option maxRecDepth 100000 in
theorem check_nil (w : World) :
  Calls Tryz.prog 32 #[.slice none 0 0] w fun e w' => e = .returned (.agg (finding 0 0 0)) ∧ Aside0 (Below w.heap.size w w') := by
 unfold finding
 go_enter Tryz.func32, Tryz.ntmps32
 go_wp2_with fail
 have HA := Aside0.mk (Holds.new w #[.int .i64 0, .int .i64 0, .int .i64 0, .int .i64 0] 83)
 refine (recover_tiny none 0 0 (.inl rfl) _).mono ?_
 rintro e w1 ⟨rfl, hb1⟩
 have H1 : Holds w.heap.size #[.int .i64 0, .int .i64 0, .int .i64 0, .int .i64 0] 83 w1 := HA.out.below _ HA.out.lt hb1.out
 have HB : Aside0 (Below w.heap.size w w1) := ⟨((Below.refl w.heap.size w).alloc (Nat.le_refl _) _).trans (hb1.out.mono (by simp))⟩
 have q0 : ∀ o o', ((w1.alloc o).alloc o').cell? ⟨w.heap.size, 0, none⟩ = some (.int .i64 0) := fun o o' => ((H1.alloc o).alloc o').cell 0 _ rfl
 have q1 : ∀ o o', ((w1.alloc o).alloc o').cell? ⟨w.heap.size, 1, none⟩ = some (.int .i64 0) := fun o o' => ((H1.alloc o).alloc o').cell 1 _ rfl
 have q2 : ∀ o o', ((w1.alloc o).alloc o').cell? ⟨w.heap.size, 2, none⟩ = some (.int .i64 0) := fun o o' => ((H1.alloc o).alloc o').cell 2 _ rfl
 have q3 : ∀ o o', ((w1.alloc o).alloc o').cell? ⟨w.heap.size, 3, none⟩ = some (.int .i64 0) := fun o o' => ((H1.alloc o).alloc o').cell 3 _ rfl
 have qf : ∀ o o' i, ((w1.alloc o).alloc o').frozen? ⟨w.heap.size, i, none⟩ = false := fun o o' i => Lib.frozen_of_heap ((H1.alloc o).alloc o') i
 have HH := Aside0.mk H1
 clear HA hb1 H1
 go_wp2_with fail
 refine ⟨rfl, _, finding_results _ _ w.heap.size 0 0 0 rfl ?_, rfl, ⟨?_⟩⟩
 ·iterate 4 refine Holds.set0 ?_ _ (by rfl)
  exact ((HH.out.alloc _).alloc _)
 ·iterate 4 refine Below.setCell ?_ (by simp) _
  exact (HB.out.alloc HB.out.size _).alloc (by have := HB.out.size; simp; omega) _
set_option maxHeartbeats 4000000 in
set_option maxRecDepth 100000 in
theorem check_zero (b : Nat) (w : World) (hb : Holds b #[.int .u8 0] 5 w) :
  Calls Tryz.prog 32 #[.slice (some ⟨b, 0, none⟩) 1 1] w fun e w' => e = .returned (.agg (finding 0 1 4)) ∧ Aside0 (Below w.heap.size w w') := by
 unfold finding
 go_enter Tryz.func32, Tryz.ntmps32
 have HB := Aside0.mk hb
 clear hb
 go_wp2_with fail
 have HA := Aside0.mk (Holds.new w #[.int .i64 0, .int .i64 0, .int .i64 0, .int .i64 0] 83)
 refine (recover_tiny (some ⟨b, 0, none⟩) 1 1 (.inr ⟨_, rfl⟩) _).mono ?_
 rintro e w1 ⟨rfl, hb1⟩
 have H1 : Holds w.heap.size #[.int .i64 0, .int .i64 0, .int .i64 0, .int .i64 0] 83 w1 := HA.out.below _ HA.out.lt hb1.out
 have HB1 : Aside0 (Below w.heap.size w w1) := ⟨((Below.refl w.heap.size w).alloc (Nat.le_refl _) _).trans (hb1.out.mono (by simp))⟩
 have HC : Aside0 (Holds b #[.int .u8 0] 5 w1) := ⟨HB.out.below _ HB.out.lt HB1.out⟩
 have HH := Aside0.mk H1
 clear HA hb1 H1 HB
 go_wp2_with fail
 have HF := Aside0.mk (Holds.new (w1.alloc (.cells (#[Value.int IntKind.i64 0, Value.int IntKind.i64 0, Value.int IntKind.i64 0, Value.int IntKind.i64 0, Value.int IntKind.i64 0, Value.int IntKind.i64 0, Value.string (ByteArray.mk #[]), Value.slice none 0 0, Value.int IntKind.i64 0] : Array Value) 161)) #[.int .i64 0, .int .i64 0, .int .i64 1, .int .i64 0] 83)
 have HC1 := Aside0.mk ((HC.out.alloc (.cells (#[Value.int IntKind.i64 0, Value.int IntKind.i64 0, Value.int IntKind.i64 0, Value.int IntKind.i64 0, Value.int IntKind.i64 0, Value.int IntKind.i64 0, Value.string (ByteArray.mk #[]), Value.slice none 0 0, Value.int IntKind.i64 0] : Array Value) 161)).alloc (.cells #[.int .i64 0, .int .i64 0, .int .i64 1, .int .i64 0] 83))
 have HH1 := Aside0.mk ((HH.out.alloc (.cells (#[Value.int IntKind.i64 0, Value.int IntKind.i64 0, Value.int IntKind.i64 0, Value.int IntKind.i64 0, Value.int IntKind.i64 0, Value.int IntKind.i64 0, Value.string (ByteArray.mk #[]), Value.slice none 0 0, Value.int IntKind.i64 0] : Array Value) 161)).alloc (.cells #[.int .i64 0, .int .i64 0, .int .i64 1, .int .i64 0] 83))
 have HB2 := Aside0.mk ((HB1.out.alloc HB1.out.size (.cells (#[Value.int IntKind.i64 0, Value.int IntKind.i64 0, Value.int IntKind.i64 0, Value.int IntKind.i64 0, Value.int IntKind.i64 0, Value.int IntKind.i64 0, Value.string (ByteArray.mk #[]), Value.slice none 0 0, Value.int IntKind.i64 0] : Array Value) 161)).alloc (by have := HB1.out.size; simp; omega) (.cells #[.int .i64 0, .int .i64 0, .int .i64 1, .int .i64 0] 83))
 have HZ := Aside0.mk HB1.out.size
 clear HC HH HB1
 refine (wholes_tiny (some ⟨b, 0, none⟩) 1 1 (.inr ⟨_, rfl⟩) _).mono ?_
 simp only [World.size_alloc] at HF
 generalize ((w1.alloc (.cells (#[Value.int IntKind.i64 0, Value.int IntKind.i64 0, Value.int IntKind.i64 0, Value.int IntKind.i64 0, Value.int IntKind.i64 0, Value.int IntKind.i64 0, Value.string (ByteArray.mk #[]), Value.slice none 0 0, Value.int IntKind.i64 0] : Array Value) 161)).alloc (.cells #[.int .i64 0, .int .i64 0, .int .i64 1, .int .i64 0] 83)) = w2 at HF HC1 HH1 HB2 ⊢
 rintro e w3 ⟨rfl, hb3⟩
 have HF3 := Aside0.mk (HF.out.below _ HF.out.lt hb3.out)
 have HC3 := Aside0.mk (HC1.out.below _ HC1.out.lt hb3.out)
 have HH3 := Aside0.mk (HH1.out.below _ HH1.out.lt hb3.out)
 have HB3 := Aside0.mk (HB2.out.trans (hb3.out.mono HB2.out.size))
 clear HF HC1 HH1 HB2 hb3
 go_wp2_with fail
 refine (stands_tiny (some ⟨b, 0, none⟩) 1 1 (by omega) _).mono ?_
 rintro e w4 ⟨rfl, hb4⟩
 have HF4 := Aside0.mk (HF3.out.below _ HF3.out.lt hb4.out)
 have HC4 := Aside0.mk (HC3.out.below _ HC3.out.lt hb4.out)
 have HH4 := Aside0.mk (HH3.out.below _ HH3.out.lt hb4.out)
 have HB4 := Aside0.mk (HB3.out.trans (hb4.out.mono HB3.out.size))
 clear HF3 HC3 HH3 HB3 hb4
 go_wp2_with fail
 refine (torn_zero b _ HC4.out).mono ?_
 rintro e w5 ⟨rfl, hb5⟩
 have HF5 := Aside0.mk (HF4.out.below _ HF4.out.lt hb5.out)
 have HH5 := Aside0.mk (HH4.out.below _ HH4.out.lt hb5.out)
 have HB5 := Aside0.mk (HB4.out.trans (hb5.out.mono HB4.out.size))
 clear HF4 HC4 HH4 HB4 hb5
 have f0 := HF5.out.cell 0 _ rfl
 have f1 := HF5.out.cell 1 _ rfl
 have f2 := HF5.out.cell 2 _ rfl
 have f3 := HF5.out.cell 3 _ rfl
 have ff : ∀ i, w5.frozen? ⟨w1.heap.size + 1, i, none⟩ = false := fun i => Lib.frozen_of_heap HF5.out i
 have r0 := HH5.out.cell 0 _ rfl
 have r1 := HH5.out.cell 1 _ rfl
 have r2 := HH5.out.cell 2 _ rfl
 have r3 := HH5.out.cell 3 _ rfl
 have rf : ∀ i, w5.frozen? ⟨w.heap.size, i, none⟩ = false := fun i => Lib.frozen_of_heap HH5.out i
 have hne : ¬ (w1.heap.size + 1 = w.heap.size) := by have := HZ.out; omega
 have hne2 : ¬ (w.heap.size = w1.heap.size + 1) := by have := HZ.out; omega
 go_wp2_with fail
 clear f0 f1 f2 f3 ff r0 r1 r2 r3 rf
 have G0 : Holds w.heap.size #[.int .i64 0, .int .i64 0, .int .i64 0, .int .i64 0] 83 (((w5.setCell ⟨w1.heap.size + 1, 3, none⟩ (.int .i64 4)).setCell ⟨w.heap.size, 0, none⟩ (.int .i64 0)).setCell ⟨w.heap.size, 1, none⟩ (.int .i64 0)) := by
  iterate 2 refine Holds.set0 ?_ _ (by rfl)
  exact HH5.out.off _ hne2
 have G1 := zcf (zcf G0 2 (.int .i64 1)) 3 (.int .i64 4)
 refine ⟨rfl, _, finding_results _ _ w.heap.size 0 1 4 rfl G1, rfl, ⟨?_⟩⟩
 iterate 4 refine Below.setCell ?_ (by simp) _
 exact HB5.out.setCell (by have := HZ.out; simp; omega) _
end Go.Proofs.YteamhfmpogbilaaGreatDoor.X
