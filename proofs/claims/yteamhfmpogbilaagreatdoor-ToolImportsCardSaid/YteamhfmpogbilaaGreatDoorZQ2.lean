/- Printed by a tool of the kit for this seat; cut to what the claim uses. -/
import Derived.Test.YteamhfmpogbilaaGreatDoorZQ0
import Derived.Test.YteamhfmpogbilaaGreatDoorZQ1
set_option linter.unusedVariables false
set_option linter.unusedSimpArgs false
section
namespace Go.Proofs.YteamhfmpogbilaaGreatDoor.X
open Go.RowKit Go.Proofs.YteamhfmpogbilaaGreatDoorW.PrintWords Go.Proofs.YteamhfmpogbilaaGreatDoorW.PrintLast Go.Proofs.YteamhfmpogbilaaGreatDoorW.PrintMore
attribute [local go_sem] zbw zbu zck zcj zbj zbi zbv zbt
attribute [local go_sem high] eqA73
mutual
def ydg.j0 : Nat → List (S73) → Bool → ByteArray → ByteArray → Int → Int → Int → Int → Int → Option (ByteArray × ByteArray × Int × Int × Int × Int × Int × Bool)
 | 0, _, _, _, _, _, _, _, _, _ => none
 | k + 1, x0, x40, x273000, x273001, x273002, x273003, x273004, x273005, x273006 => if x40 = true then (some (x273000, x273001, x273002, x273003, x273004, x273005, x273006, false)) else (if 1 < (x0.length : Int) then ((yep.f).bind fun t278 => (ydg.l0 k x0 0 t278 2 ((zay x0 1).f0) x273001 x273002 x273003 x273004 x273005 x273006)) else (none))
def ydg.l0 : Nat → List (S73) → Int → List ByteArray → Int → ByteArray → ByteArray → Int → Int → Int → Int → Int → Option (ByteArray × ByteArray × Int × Int × Int × Int × Int × Bool)
 | 0, _, _, _, _, _, _, _, _, _, _, _ => none
 | k + 1, x0, x5, x6, x7, x273000, x273001, x273002, x273003, x273004, x273005, x273006 => if x7 < (x0.length : Int) then (ydg.l1 k x0 x6 x7 x5 x273000 x273001 x273002 x273003 x273004 x273005 x273006) else (some (x273000, x273001, x273002, x273003, x273004, x273005, x273006, true))
def ydg.j3 : Nat → List (S73) → List ByteArray → Int → Int → ByteArray → ByteArray → Int → Int → Int → Int → Int → Option (ByteArray × ByteArray × Int × Int × Int × Int × Int × Bool)
 | 0, _, _, _, _, _, _, _, _, _, _, _ => none
 | k + 1, x0, x6, x7, x8, x273000, x273001, x273002, x273003, x273004, x273005, x273006 => if x8 = (x6.length : Int) then (ydg.j4 k x0 x6 x7 x8 true x273000 x273001 x273002 x273003 x273004 x273005 x273006) else (if 0 ≤ (wrap64 (x7 + 1)) then (if (wrap64 (x7 + 1)) < (x0.length : Int) then (ydg.j4 k x0 x6 x7 x8 ((x8 == 0) != ((zay x0 (wrap64 (x7 + 1))).f1)) x273000 x273001 x273002 x273003 x273004 x273005 x273006) else (none)) else (none))
def ydg.j4 : Nat → List (S73) → List ByteArray → Int → Int → Bool → ByteArray → ByteArray → Int → Int → Int → Int → Int → Option (ByteArray × ByteArray × Int × Int × Int × Int × Int × Bool)
 | 0, _, _, _, _, _, _, _, _, _, _, _, _ => none
 | k + 1, x0, x6, x7, x8, x94, x273000, x273001, x273002, x273003, x273004, x273005, x273006 => if x94 = true then (some (x273000, x273001, x273002, x273003, x273004, x273005, x273006, false)) else (if x8 = 0 then (if 0 ≤ (wrap64 (x7 + 1)) then (if (wrap64 (x7 + 1)) < (x0.length : Int) then (ydg.l0 k x0 (wrap64 (x8 + 1)) x6 (wrap64 (x7 + 2)) x273000 ((zay x0 (wrap64 (x7 + 1))).f0) x273002 x273003 x273004 x273005 x273006) else (none)) else (none)) else (if 0 ≤ (wrap64 (x7 + 1)) then (if (wrap64 (x7 + 1)) < (x0.length : Int) then ((ydp.f k ((zay x0 (wrap64 (x7 + 1))).f0)).bind fun t287 => (if t287 < 0 then (some (x273000, x273001, x273002, x273003, x273004, x273005, x273006, false)) else ((yeg.f x273000 x273001 x273002 x273003 x273004 x273005 x273006 x8 t287).bind fun bt288 => (ydg.l0 k x0 (wrap64 (x8 + 1)) x6 (wrap64 (x7 + 2)) bt288.1 bt288.2.1 bt288.2.2.1 bt288.2.2.2.1 bt288.2.2.2.2.1 bt288.2.2.2.2.2.1 bt288.2.2.2.2.2.2)))) else (none)) else (none)))
def ydg.l1 : Nat → List (S73) → List ByteArray → Int → Int → ByteArray → ByteArray → Int → Int → Int → Int → Int → Option (ByteArray × ByteArray × Int × Int × Int × Int × Int × Bool)
 | 0, _, _, _, _, _, _, _, _, _, _, _ => none
 | k + 1, x0, x6, x7, x8, x273000, x273001, x273002, x273003, x273004, x273005, x273006 => if x8 < (x6.length : Int) then (if 0 ≤ x8 then (if 0 ≤ x7 then (if x7 < (x0.length : Int) then (if (rdOf ByteArray.empty x6 x8).toList = ((zay x0 x7).f0).toList then (if (zay x0 x7).f1 = true then (ydg.l1 k x0 x6 x7 (wrap64 (x8 + 1)) x273000 x273001 x273002 x273003 x273004 x273005 x273006) else (ydg.j3 k x0 x6 x7 x8 x273000 x273001 x273002 x273003 x273004 x273005 x273006)) else (ydg.l1 k x0 x6 x7 (wrap64 (x8 + 1)) x273000 x273001 x273002 x273003 x273004 x273005 x273006)) else (none)) else (none)) else (none)) else (ydg.j3 k x0 x6 x7 x8 x273000 x273001 x273002 x273003 x273004 x273005 x273006)
end
def ydg.f (k : Nat) (l0 : List (S73)) : Option (ByteArray × ByteArray × Int × Int × Int × Int × Int × Bool) := if (l0.length : Int) < 2 then (ydg.j0 k l0 true (⟨#[]⟩ : ByteArray) (⟨#[]⟩ : ByteArray) 0 0 0 0 0) else (if ((l0.length : Int) % 2) = 0 then (if 0 < (l0.length : Int) then (if (!((((zay l0 0).f0).toList) == ([110, 111, 100, 101] : List UInt8)) || (((zay l0 0).f1))) = true then (ydg.j0 k l0 true (⟨#[]⟩ : ByteArray) (⟨#[]⟩ : ByteArray) 0 0 0 0 0) else (if 1 < (l0.length : Int) then (if (zay l0 1).f1 = true then (ydg.j0 k l0 true (⟨#[]⟩ : ByteArray) (⟨#[]⟩ : ByteArray) 0 0 0 0 0) else ((yed.f k ((zay l0 1).f0)).bind fun t276 => (ydg.j0 k l0 (!t276) (⟨#[]⟩ : ByteArray) (⟨#[]⟩ : ByteArray) 0 0 0 0 0))) else (none))) else (none)) else (ydg.j0 k l0 true (⟨#[]⟩ : ByteArray) (⟨#[]⟩ : ByteArray) 0 0 0 0 0))
theorem xset_drewN (w : World) (n : Nat) (p : Addr) (v : Value) : (w.drewN n).setCell p v = (w.setCell p v).drewN n := rfl
theorem xfar7 {w : World} {p0 p1 p2 p3 p4 p5 p6 a : Addr} {v0 v1 v2 v3 v4 v5 v6 : Value} {x : Option Value} (n : Nat) (h : (((((((w.setCell p0 v0).setCell p1 v1).setCell p2 v2).setCell p3 v3).setCell p4 v4).setCell p5 v5).setCell p6 v6).cell? a = x) :
  ((((((((w.drewN n).setCell p0 v0).setCell p1 v1).setCell p2 v2).setCell p3 v3).setCell p4 v4).setCell p5 v5).setCell p6 v6).cell? a = x := by
 simp only [xset_drewN, World.cell?_drewN]; exact h
set_option maxHeartbeats 8000000 in
set_option maxRecDepth 100000 in
theorem ydg.calls (k : Nat) (A0 : Option Addr) (c0 : Nat) (l0 : List (S73)) (r1 : ByteArray) (r2 : ByteArray) (r3 : Int) (r4 : Int) (r5 : Int) (r6 : Int) (r7 : Int) (r8 : Bool) (w : World) (hr0 : Kd.C k73 w A0 l0.length l0) (hc0 : l0.length ≤ c0) (h : ydg.f k l0 = some (r1, r2, r3, r4, r5, r6, r7, r8)) :
  Calls Tryz.prog 27 #[.slice A0 l0.length c0] w fun e w' => e = .returned (.tuple #[.agg #[.string r1, .string r2, .int .i64 r3, .int .i64 r4, .int .i64 r5, .int .i64 r6, .int .i64 r7], .bool r8]) ∧ Below w.heap.size w w' := by
 have hu74 := Tryz.underlying74
 have hu73 := Tryz.underlying73
 have HR0 := Aside0.mk hr0
 have HC0 := Aside0.mk hc0
 clear hr0 hc0
 have HB := Aside0.mk (Below.refl w.heap.size w)
 have H : (if (l0.length : Int) < 2 then (ydg.j0 k l0 true (⟨#[]⟩ : ByteArray) (⟨#[]⟩ : ByteArray) 0 0 0 0 0) else (if ((l0.length : Int) % 2) = 0 then (if 0 < (l0.length : Int) then (if (!((((zay l0 0).f0).toList) == ([110, 111, 100, 101] : List UInt8)) || (((zay l0 0).f1))) = true then (ydg.j0 k l0 true (⟨#[]⟩ : ByteArray) (⟨#[]⟩ : ByteArray) 0 0 0 0 0) else (if 1 < (l0.length : Int) then (if (zay l0 1).f1 = true then (ydg.j0 k l0 true (⟨#[]⟩ : ByteArray) (⟨#[]⟩ : ByteArray) 0 0 0 0 0) else ((yed.f k ((zay l0 1).f0)).bind fun t276 => (ydg.j0 k l0 (!t276) (⟨#[]⟩ : ByteArray) (⟨#[]⟩ : ByteArray) 0 0 0 0 0))) else (none))) else (none)) else (ydg.j0 k l0 true (⟨#[]⟩ : ByteArray) (⟨#[]⟩ : ByteArray) 0 0 0 0 0))) = some (r1, r2, r3, r4, r5, r6, r7, r8) := h
 clear h
 have HC2 := Aside0.mk H
 clear H
 go_enter Tryz.func27, Tryz.ntmps27
 go_upto_region 2 with (first | ((with_reducible refine zby (N := 2) rfl ?_); (try (refine zcz (by rfl) ?_; dsimp only)); refine zbr ?hg (N := 2) ?hd (cs := #[.string (⟨#[]⟩ : ByteArray), .string (⟨#[]⟩ : ByteArray), .int .i64 0, .int .i64 0, .int .i64 0, .int .i64 0, .int .i64 0]) (t := 74) ?hr ?_; (case hd => rfl); (case hg => rfl); (case hr => first | (go_simp; done) | (go_simp; rfl)); intro gb271 hg w3 hbox hb; have n0_ := Aside0.mk (zap (by repeat (first | (with_reducible first | exact HB.out | apply zab | apply zaa | apply zac) | exact HB.out)) hb); have n1_ := Aside0.mk (hbox); have n2_ := Aside0.mk ((by rw [hg]; exact (zan (by repeat (first | (with_reducible first | exact HB.out | apply zab | apply zaa | apply zac) | exact HB.out))) : w.heap.size ≤ gb271)); have n3_ := Aside0.mk ((by rw [hg]; exact (zan (by repeat (first | (with_reducible first | exact HB.out | apply zab | apply zaa | apply zac) | exact HB.out))) : w.heap.size ≤ gb271)); clear HB; have HB := n0_; have BK271 := n1_; have GW271 := n2_; have GE271 := n3_; clear n0_ n1_ n2_ n3_; clear hb hbox hg) | ((with_reducible refine zby (N := 4) rfl ?_); (try (refine zcz (by rfl) ?_; dsimp only)); refine zbr ?hg (N := 4) ?hd (cs := #[.string (⟨#[]⟩ : ByteArray), .string (⟨#[]⟩ : ByteArray), .int .i64 0, .int .i64 0, .int .i64 0, .int .i64 0, .int .i64 0]) (t := 74) ?hr ?_; (case hd => rfl); (case hg => rfl); (case hr => first | (go_simp; done) | (go_simp; rfl)); intro gb272 hg w4 hbox hb; have n0_ := Aside0.mk (zau (g := gb271) (o := .cells #[.string (⟨#[]⟩ : ByteArray), .string (⟨#[]⟩ : ByteArray), .int .i64 0, .int .i64 0, .int .i64 0, .int .i64 0, .int .i64 0] 74 (0, 0)) (by (with_reducible repeat (first | refine zae ?_ _ | refine zag ?_ | refine zaf ?_ _)); exact BK271.out) hb); have n1_ := Aside0.mk (zap (by repeat (first | (with_reducible first | exact HB.out | apply zab | apply zaa | apply zac | refine zai ?_ GE271.out) | exact HB.out)) hb); have n2_ := Aside0.mk (hbox); have n3_ := Aside0.mk ((by rw [hg]; exact (zan (by repeat (first | (with_reducible first | exact HB.out | apply zab | apply zaa | apply zac | refine zai ?_ GE271.out) | exact HB.out))) : w.heap.size ≤ gb272)); have n4_ := Aside0.mk ((by rw [hg]; exact (zan (by repeat (first | (with_reducible first | exact HB.out | apply zab | apply zaa | apply zac | refine zai ?_ GE271.out) | exact HB.out))) : w.heap.size ≤ gb272)); have n5_ := Aside0.mk ((by rw [hg]; exact Nat.ne_of_lt (zbs (g := gb271) (o := .cells #[.string (⟨#[]⟩ : ByteArray), .string (⟨#[]⟩ : ByteArray), .int .i64 0, .int .i64 0, .int .i64 0, .int .i64 0, .int .i64 0] 74 (0, 0)) (by (with_reducible repeat (first | refine zae ?_ _ | refine zag ?_ | refine zaf ?_ _)); exact BK271.out)) : gb271 ≠ gb272)); have n6_ := Aside0.mk ((by rw [hg]; exact Nat.ne_of_gt (zbs (g := gb271) (o := .cells #[.string (⟨#[]⟩ : ByteArray), .string (⟨#[]⟩ : ByteArray), .int .i64 0, .int .i64 0, .int .i64 0, .int .i64 0, .int .i64 0] 74 (0, 0)) (by (with_reducible repeat (first | refine zae ?_ _ | refine zag ?_ | refine zaf ?_ _)); exact BK271.out)) : gb272 ≠ gb271)); clear BK271; clear HB; have BK271 := n0_; have HB := n1_; have BK272 := n2_; have GW272 := n3_; have GE272 := n4_; have NB271_272 := n5_; have NB272_271 := n6_; clear n0_ n1_ n2_ n3_ n4_ n5_ n6_; clear hb hbox hg; have hnb5 := NB272_271.out; have hnc5 := NB271_272.out; have hcz6_0 : w4.cell? ⟨gb272, 0, none⟩ = some (.string (⟨#[]⟩ : ByteArray)) := (zah BK272.out 0).trans rfl; have hcz6_1 : w4.cell? ⟨gb272, 1, none⟩ = some (.string (⟨#[]⟩ : ByteArray)) := (zah BK272.out 1).trans rfl; have hcz6_2 : w4.cell? ⟨gb272, 2, none⟩ = some (.int .i64 0) := (zah BK272.out 2).trans rfl; have hcz6_3 : w4.cell? ⟨gb272, 3, none⟩ = some (.int .i64 0) := (zah BK272.out 3).trans rfl; have hcz6_4 : w4.cell? ⟨gb272, 4, none⟩ = some (.int .i64 0) := (zah BK272.out 4).trans rfl; have hcz6_5 : w4.cell? ⟨gb272, 5, none⟩ = some (.int .i64 0) := (zah BK272.out 5).trans rfl; have hcz6_6 : w4.cell? ⟨gb272, 6, none⟩ = some (.int .i64 0) := (zah BK272.out 6).trans rfl; have hfz6_0 := zad BK272.out 0; have hfz6_1 := zad BK272.out 1; have hfz6_2 := zad BK272.out 2; have hfz6_3 := zad BK272.out 3; have hfz6_4 := zad BK272.out 4; have hfz6_5 := zad BK272.out 5; have hfz6_6 := zad BK272.out 6))
 repeat (go_quiet (fail); go_upto_region 2 with (fail))
 (try simp only [Act.put, List.setIfInBounds_toArray, List.set_cons_zero, List.set_cons_succ])
 go_cut [40] (fun v40 wc => ∃ (kq : Nat) (x40_1 : Bool), v40 = .bool x40_1 ∧ Aside0 (ydg.j0 kq l0 x40_1 (⟨#[]⟩ : ByteArray) (⟨#[]⟩ : ByteArray) 0 0 0 0 0 = some (r1, r2, r3, r4, r5, r6, r7, r8)) ∧ Aside0 (kq ≤ k) ∧ Aside0 (wc.heap[gb271]? = some (.cells #[.string (⟨#[]⟩ : ByteArray), .string (⟨#[]⟩ : ByteArray), .int .i64 0, .int .i64 0, .int .i64 0, .int .i64 0, .int .i64 0] 74 (0, 0))) ∧ Aside0 (wc.heap[gb272]? = some (.cells #[.string (⟨#[]⟩ : ByteArray), .string (⟨#[]⟩ : ByteArray), .int .i64 0, .int .i64 0, .int .i64 0, .int .i64 0, .int .i64 0] 74 (0, 0))) ∧ Aside0 (Below w.heap.size w wc))
 case first =>
  have H := HC2.out
  clear HC2
  by_cases c7 : (l0.length : Int) < 2
  ·rw [if_pos c7] at H
   have c7b0 : decide ((l0.length : Int) < 2) = true := decide_eq_true c7
   have c7b1 : decide (l0.length < 2) = true := decide_eq_true (by omega)
   clear c7
   (first | rw [c7b0] | (simp only [zbp, zch]; rw [c7b0]) | rw [c7b9] | skip)
   have H' := Aside0.mk H
   clear H
   go_wp2
   repeat (go_quiet (fail); try go_wp2)
   go_meet
   case rel => exact ⟨_, (true), (by first | rfl | (simp; done) | (simp [*]; done)), H', ⟨by first | omega | exact Nat.le_refl _⟩, ⟨by (with_reducible repeat (first | refine zae ?_ _ | refine zag ?_ | refine zaf ?_ _)); refine zav ?_ NB271_272.out _; (with_reducible repeat (first | refine zae ?_ _ | refine zag ?_ | refine zaf ?_ _)); refine zav ?_ NB271_272.out _; (with_reducible repeat (first | refine zae ?_ _ | refine zag ?_ | refine zaf ?_ _)); refine zav ?_ NB271_272.out _; (with_reducible repeat (first | refine zae ?_ _ | refine zag ?_ | refine zaf ?_ _)); refine zav ?_ NB271_272.out _; (with_reducible repeat (first | refine zae ?_ _ | refine zag ?_ | refine zaf ?_ _)); refine zav ?_ NB271_272.out _; (with_reducible repeat (first | refine zae ?_ _ | refine zag ?_ | refine zaf ?_ _)); refine zav ?_ NB271_272.out _; (with_reducible repeat (first | refine zae ?_ _ | refine zag ?_ | refine zaf ?_ _)); refine zav ?_ NB271_272.out _; (with_reducible repeat (first | refine zae ?_ _ | refine zag ?_ | refine zaf ?_ _)); exact BK271.out⟩, ⟨by (with_reducible repeat (first | refine zae ?_ _ | refine zag ?_ | refine zaf ?_ _)); refine zat (cs := #[.string (⟨#[]⟩ : ByteArray), .string (⟨#[]⟩ : ByteArray), .int .i64 0, .int .i64 0, .int .i64 0, .int .i64 0, .int .i64 0]) ?_ 6 _ rfl; (with_reducible repeat (first | refine zae ?_ _ | refine zag ?_ | refine zaf ?_ _)); refine zat (cs := #[.string (⟨#[]⟩ : ByteArray), .string (⟨#[]⟩ : ByteArray), .int .i64 0, .int .i64 0, .int .i64 0, .int .i64 0, .int .i64 0]) ?_ 5 _ rfl; (with_reducible repeat (first | refine zae ?_ _ | refine zag ?_ | refine zaf ?_ _)); refine zat (cs := #[.string (⟨#[]⟩ : ByteArray), .string (⟨#[]⟩ : ByteArray), .int .i64 0, .int .i64 0, .int .i64 0, .int .i64 0, .int .i64 0]) ?_ 4 _ rfl; (with_reducible repeat (first | refine zae ?_ _ | refine zag ?_ | refine zaf ?_ _)); refine zat (cs := #[.string (⟨#[]⟩ : ByteArray), .string (⟨#[]⟩ : ByteArray), .int .i64 0, .int .i64 0, .int .i64 0, .int .i64 0, .int .i64 0]) ?_ 3 _ rfl; (with_reducible repeat (first | refine zae ?_ _ | refine zag ?_ | refine zaf ?_ _)); refine zat (cs := #[.string (⟨#[]⟩ : ByteArray), .string (⟨#[]⟩ : ByteArray), .int .i64 0, .int .i64 0, .int .i64 0, .int .i64 0, .int .i64 0]) ?_ 2 _ rfl; (with_reducible repeat (first | refine zae ?_ _ | refine zag ?_ | refine zaf ?_ _)); refine zat (cs := #[.string (⟨#[]⟩ : ByteArray), .string (⟨#[]⟩ : ByteArray), .int .i64 0, .int .i64 0, .int .i64 0, .int .i64 0, .int .i64 0]) ?_ 1 _ rfl; (with_reducible repeat (first | refine zae ?_ _ | refine zag ?_ | refine zaf ?_ _)); refine zat (cs := #[.string (⟨#[]⟩ : ByteArray), .string (⟨#[]⟩ : ByteArray), .int .i64 0, .int .i64 0, .int .i64 0, .int .i64 0, .int .i64 0]) ?_ 0 _ rfl; (with_reducible repeat (first | refine zae ?_ _ | refine zag ?_ | refine zaf ?_ _)); exact BK272.out⟩, ⟨by repeat (first | (with_reducible first | exact HB.out | apply zab | apply zaa | apply zac | refine zai ?_ GE271.out | refine zai ?_ GE272.out) | exact HB.out)⟩⟩
  ·rw [if_neg c7] at H
   have c7b0 : decide ((l0.length : Int) < 2) = false := decide_eq_false c7
   have c7b1 : decide (l0.length < 2) = false := decide_eq_false (by omega)
   clear c7
   (first | rw [c7b0] | (simp only [zbp, zch]; rw [c7b0]) | rw [c7b9] | skip)
   by_cases c8 : ((l0.length : Int) % 2) = 0
   ·rw [if_pos c8] at H
    have c8b0 : (((l0.length : Int) % 2) == 0) = true := beq_iff_eq.mpr c8
    have c8b1 : (((l0.length : Int) % 2) != 0) = false := bne_eq_false_iff_eq.mpr c8
    clear c8
    by_cases c9 : 0 < (l0.length : Int)
    ·rw [if_pos c9] at H
     have c9b0 : decide (0 < (l0.length : Int)) = true := decide_eq_true c9
     have c9b1 : decide (0 < l0.length) = true := decide_eq_true (by omega)
     clear c9
     by_cases c10 : (!((((zay l0 0).f0).toList) == ([110, 111, 100, 101] : List UInt8)) || (((zay l0 0).f1))) = true
     ·rw [if_pos c10] at H
      have c10b0 : (!((((zay l0 0).f0).toList) == ([110, 111, 100, 101] : List UInt8)) || (((zay l0 0).f1))) = true := c10
      clear c10
      have H' := Aside0.mk H
      clear H
      have p273 : 0 ≤ (0 : Int) := (by omega)
      have q273 : 0 < (l0.length : Int) := of_decide_eq_true (by with_reducible assumption)
      obtain ⟨ad273, e273, hx273_0, hx273_1⟩ := zct HR0.out 0 p273 q273
      cases e273
      have qi273 : (0 < l0.length) = True := eq_true (by omega)
      (try rw [show ((0 : Int)).toNat = 0 from rfl] at hx273_0)
      (try rw [show 0 * 2 = 0 from rfl] at hx273_0)
      (try rw [Addr.add_zero'] at hx273_0)
      (try rw [show ((0 : Int)).toNat = 0 from rfl] at hx273_1)
      (try rw [show 0 * 2 = 0 from rfl] at hx273_1)
      (try rw [Addr.add_zero'] at hx273_1)
      have hn273_0 : ad273.block ≠ gb272 := Nat.ne_of_lt (Nat.lt_of_lt_of_le (by have := World.block_lt_of_cell? _ _ hx273_0; first | rwa [zaj] at this | exact this) GW272.out)
      have hn273_1 : ad273.block ≠ gb272 := Nat.ne_of_lt (Nat.lt_of_lt_of_le (by have := World.block_lt_of_cell? _ _ hx273_0; first | rwa [zaj] at this | exact this) GW272.out)
      have hn273_2 : ad273.block ≠ gb272 := Nat.ne_of_lt (Nat.lt_of_lt_of_le (by have := World.block_lt_of_cell? _ _ hx273_0; first | rwa [zaj] at this | exact this) GW272.out)
      have hn273_3 : ad273.block ≠ gb272 := Nat.ne_of_lt (Nat.lt_of_lt_of_le (by have := World.block_lt_of_cell? _ _ hx273_0; first | rwa [zaj] at this | exact this) GW272.out)
      have hn273_4 : ad273.block ≠ gb272 := Nat.ne_of_lt (Nat.lt_of_lt_of_le (by have := World.block_lt_of_cell? _ _ hx273_0; first | rwa [zaj] at this | exact this) GW272.out)
      have hn273_5 : ad273.block ≠ gb272 := Nat.ne_of_lt (Nat.lt_of_lt_of_le (by have := World.block_lt_of_cell? _ _ hx273_0; first | rwa [zaj] at this | exact this) GW272.out)
      have hn273_6 : ad273.block ≠ gb272 := Nat.ne_of_lt (Nat.lt_of_lt_of_le (by have := World.block_lt_of_cell? _ _ hx273_0; first | rwa [zaj] at this | exact this) GW272.out)
      replace hx273_0 := (HB.out.cell (World.block_lt_of_cell? w _ hx273_0)).trans hx273_0
      replace hx273_1 := (HB.out.cell (World.block_lt_of_cell? w _ hx273_1)).trans hx273_1
      replace hx273_0 := (zar (p := ⟨gb272, 0, none⟩) (by first | (rw [zaj]; exact hn273_0) | (show (Addr.add _ _).block ≠ _; rw [zaj]; exact hn273_0) | exact hn273_0) (.string (⟨#[]⟩ : ByteArray))).trans hx273_0
      replace hx273_1 := (zar (p := ⟨gb272, 0, none⟩) (by first | (rw [zaj]; exact hn273_0) | (show (Addr.add _ _).block ≠ _; rw [zaj]; exact hn273_0) | exact hn273_0) (.string (⟨#[]⟩ : ByteArray))).trans hx273_1
      replace hx273_0 := (zar (p := ⟨gb272, 1, none⟩) (by first | (rw [zaj]; exact hn273_1) | (show (Addr.add _ _).block ≠ _; rw [zaj]; exact hn273_1) | exact hn273_1) (.string (⟨#[]⟩ : ByteArray))).trans hx273_0
      replace hx273_1 := (zar (p := ⟨gb272, 1, none⟩) (by first | (rw [zaj]; exact hn273_1) | (show (Addr.add _ _).block ≠ _; rw [zaj]; exact hn273_1) | exact hn273_1) (.string (⟨#[]⟩ : ByteArray))).trans hx273_1
      replace hx273_0 := (zar (p := ⟨gb272, 2, none⟩) (by first | (rw [zaj]; exact hn273_2) | (show (Addr.add _ _).block ≠ _; rw [zaj]; exact hn273_2) | exact hn273_2) (.int .i64 0)).trans hx273_0
      replace hx273_1 := (zar (p := ⟨gb272, 2, none⟩) (by first | (rw [zaj]; exact hn273_2) | (show (Addr.add _ _).block ≠ _; rw [zaj]; exact hn273_2) | exact hn273_2) (.int .i64 0)).trans hx273_1
      replace hx273_0 := (zar (p := ⟨gb272, 3, none⟩) (by first | (rw [zaj]; exact hn273_3) | (show (Addr.add _ _).block ≠ _; rw [zaj]; exact hn273_3) | exact hn273_3) (.int .i64 0)).trans hx273_0
      replace hx273_1 := (zar (p := ⟨gb272, 3, none⟩) (by first | (rw [zaj]; exact hn273_3) | (show (Addr.add _ _).block ≠ _; rw [zaj]; exact hn273_3) | exact hn273_3) (.int .i64 0)).trans hx273_1
      replace hx273_0 := (zar (p := ⟨gb272, 4, none⟩) (by first | (rw [zaj]; exact hn273_4) | (show (Addr.add _ _).block ≠ _; rw [zaj]; exact hn273_4) | exact hn273_4) (.int .i64 0)).trans hx273_0
      replace hx273_1 := (zar (p := ⟨gb272, 4, none⟩) (by first | (rw [zaj]; exact hn273_4) | (show (Addr.add _ _).block ≠ _; rw [zaj]; exact hn273_4) | exact hn273_4) (.int .i64 0)).trans hx273_1
      replace hx273_0 := (zar (p := ⟨gb272, 5, none⟩) (by first | (rw [zaj]; exact hn273_5) | (show (Addr.add _ _).block ≠ _; rw [zaj]; exact hn273_5) | exact hn273_5) (.int .i64 0)).trans hx273_0
      replace hx273_1 := (zar (p := ⟨gb272, 5, none⟩) (by first | (rw [zaj]; exact hn273_5) | (show (Addr.add _ _).block ≠ _; rw [zaj]; exact hn273_5) | exact hn273_5) (.int .i64 0)).trans hx273_1
      replace hx273_0 := (zar (p := ⟨gb272, 6, none⟩) (by first | (rw [zaj]; exact hn273_6) | (show (Addr.add _ _).block ≠ _; rw [zaj]; exact hn273_6) | exact hn273_6) (.int .i64 0)).trans hx273_0
      replace hx273_1 := (zar (p := ⟨gb272, 6, none⟩) (by first | (rw [zaj]; exact hn273_6) | (show (Addr.add _ _).block ≠ _; rw [zaj]; exact hn273_6) | exact hn273_6) (.int .i64 0)).trans hx273_1
      have hy273_0 := fun (n_ : Nat) => xfar7 n_ hx273_0
      have hy273_1 := fun (n_ : Nat) => xfar7 n_ hx273_1
      clear hn273_0
      clear hn273_1
      clear hn273_2
      clear hn273_3
      clear hn273_4
      clear hn273_5
      clear hn273_6
      replace p273 := eq_true p273
      replace q273 := eq_true q273
      go_wp2
      repeat (go_quiet (fail); try go_wp2)
      go_meet
      case rel => exact ⟨_, (true), (by first | rfl | (simp; done) | (simp [*]; done)), H', ⟨by first | omega | exact Nat.le_refl _⟩, ⟨by (with_reducible repeat (first | refine zae ?_ _ | refine zag ?_ | refine zaf ?_ _)); refine zav ?_ NB271_272.out _; (with_reducible repeat (first | refine zae ?_ _ | refine zag ?_ | refine zaf ?_ _)); refine zav ?_ NB271_272.out _; (with_reducible repeat (first | refine zae ?_ _ | refine zag ?_ | refine zaf ?_ _)); refine zav ?_ NB271_272.out _; (with_reducible repeat (first | refine zae ?_ _ | refine zag ?_ | refine zaf ?_ _)); refine zav ?_ NB271_272.out _; (with_reducible repeat (first | refine zae ?_ _ | refine zag ?_ | refine zaf ?_ _)); refine zav ?_ NB271_272.out _; (with_reducible repeat (first | refine zae ?_ _ | refine zag ?_ | refine zaf ?_ _)); refine zav ?_ NB271_272.out _; (with_reducible repeat (first | refine zae ?_ _ | refine zag ?_ | refine zaf ?_ _)); refine zav ?_ NB271_272.out _; (with_reducible repeat (first | refine zae ?_ _ | refine zag ?_ | refine zaf ?_ _)); exact BK271.out⟩, ⟨by (with_reducible repeat (first | refine zae ?_ _ | refine zag ?_ | refine zaf ?_ _)); refine zat (cs := #[.string (⟨#[]⟩ : ByteArray), .string (⟨#[]⟩ : ByteArray), .int .i64 0, .int .i64 0, .int .i64 0, .int .i64 0, .int .i64 0]) ?_ 6 _ rfl; (with_reducible repeat (first | refine zae ?_ _ | refine zag ?_ | refine zaf ?_ _)); refine zat (cs := #[.string (⟨#[]⟩ : ByteArray), .string (⟨#[]⟩ : ByteArray), .int .i64 0, .int .i64 0, .int .i64 0, .int .i64 0, .int .i64 0]) ?_ 5 _ rfl; (with_reducible repeat (first | refine zae ?_ _ | refine zag ?_ | refine zaf ?_ _)); refine zat (cs := #[.string (⟨#[]⟩ : ByteArray), .string (⟨#[]⟩ : ByteArray), .int .i64 0, .int .i64 0, .int .i64 0, .int .i64 0, .int .i64 0]) ?_ 4 _ rfl; (with_reducible repeat (first | refine zae ?_ _ | refine zag ?_ | refine zaf ?_ _)); refine zat (cs := #[.string (⟨#[]⟩ : ByteArray), .string (⟨#[]⟩ : ByteArray), .int .i64 0, .int .i64 0, .int .i64 0, .int .i64 0, .int .i64 0]) ?_ 3 _ rfl; (with_reducible repeat (first | refine zae ?_ _ | refine zag ?_ | refine zaf ?_ _)); refine zat (cs := #[.string (⟨#[]⟩ : ByteArray), .string (⟨#[]⟩ : ByteArray), .int .i64 0, .int .i64 0, .int .i64 0, .int .i64 0, .int .i64 0]) ?_ 2 _ rfl; (with_reducible repeat (first | refine zae ?_ _ | refine zag ?_ | refine zaf ?_ _)); refine zat (cs := #[.string (⟨#[]⟩ : ByteArray), .string (⟨#[]⟩ : ByteArray), .int .i64 0, .int .i64 0, .int .i64 0, .int .i64 0, .int .i64 0]) ?_ 1 _ rfl; (with_reducible repeat (first | refine zae ?_ _ | refine zag ?_ | refine zaf ?_ _)); refine zat (cs := #[.string (⟨#[]⟩ : ByteArray), .string (⟨#[]⟩ : ByteArray), .int .i64 0, .int .i64 0, .int .i64 0, .int .i64 0, .int .i64 0]) ?_ 0 _ rfl; (with_reducible repeat (first | refine zae ?_ _ | refine zag ?_ | refine zaf ?_ _)); exact BK272.out⟩, ⟨by repeat (first | (with_reducible first | exact HB.out | apply zab | apply zaa | apply zac | refine zai ?_ GE271.out | refine zai ?_ GE272.out) | exact HB.out)⟩⟩
     ·rw [if_neg c10] at H
      have c10b0 : (!((((zay l0 0).f0).toList) == ([110, 111, 100, 101] : List UInt8)) || (((zay l0 0).f1))) = false := by simpa using c10
      clear c10
      by_cases c11 : 1 < (l0.length : Int)
      ·rw [if_pos c11] at H
       have c11b0 : decide (1 < (l0.length : Int)) = true := decide_eq_true c11
       have c11b1 : decide (1 < l0.length) = true := decide_eq_true (by omega)
       clear c11
       obtain ⟨bq12, hbq12⟩ : ∃ b_ : Bool, b_ = ((zay l0 1).f1) := ⟨_, rfl⟩
       replace H : (if bq12 = true then (ydg.j0 k l0 true (⟨#[]⟩ : ByteArray) (⟨#[]⟩ : ByteArray) 0 0 0 0 0) else ((yed.f k ((zay l0 1).f0)).bind fun t276 => (ydg.j0 k l0 (!t276) (⟨#[]⟩ : ByteArray) (⟨#[]⟩ : ByteArray) 0 0 0 0 0))) = some (r1, r2, r3, r4, r5, r6, r7, r8) := by rw [← hbq12] at H; exact H
       have Nbq12 := Aside0.mk hbq12
       clear hbq12
       by_cases c13 : bq12 = true
       ·subst c13
        have H1 : (ydg.j0 k l0 true (⟨#[]⟩ : ByteArray) (⟨#[]⟩ : ByteArray) 0 0 0 0 0) = some (r1, r2, r3, r4, r5, r6, r7, r8) := by rw [if_pos rfl] at H; exact H
        clear H
        have H := H1
        clear H1
        have H' := Aside0.mk H
        clear H
        have p273 : 0 ≤ (0 : Int) := (by omega)
        have q273 : 0 < (l0.length : Int) := of_decide_eq_true (by with_reducible assumption)
        obtain ⟨ad273, e273, hx273_0, hx273_1⟩ := zct HR0.out 0 p273 q273
        (try rw [← Nbq12.out] at hx273_1)
        cases e273
        have qi273 : (0 < l0.length) = True := eq_true (by omega)
        (try rw [show ((0 : Int)).toNat = 0 from rfl] at hx273_0)
        (try rw [show 0 * 2 = 0 from rfl] at hx273_0)
        (try rw [Addr.add_zero'] at hx273_0)
        (try rw [show ((0 : Int)).toNat = 0 from rfl] at hx273_1)
        (try rw [show 0 * 2 = 0 from rfl] at hx273_1)
        (try rw [Addr.add_zero'] at hx273_1)
        have hn273_0 : ad273.block ≠ gb272 := Nat.ne_of_lt (Nat.lt_of_lt_of_le (by have := World.block_lt_of_cell? _ _ hx273_0; first | rwa [zaj] at this | exact this) GW272.out)
        have hn273_1 : ad273.block ≠ gb272 := Nat.ne_of_lt (Nat.lt_of_lt_of_le (by have := World.block_lt_of_cell? _ _ hx273_0; first | rwa [zaj] at this | exact this) GW272.out)
        have hn273_2 : ad273.block ≠ gb272 := Nat.ne_of_lt (Nat.lt_of_lt_of_le (by have := World.block_lt_of_cell? _ _ hx273_0; first | rwa [zaj] at this | exact this) GW272.out)
        have hn273_3 : ad273.block ≠ gb272 := Nat.ne_of_lt (Nat.lt_of_lt_of_le (by have := World.block_lt_of_cell? _ _ hx273_0; first | rwa [zaj] at this | exact this) GW272.out)
        have hn273_4 : ad273.block ≠ gb272 := Nat.ne_of_lt (Nat.lt_of_lt_of_le (by have := World.block_lt_of_cell? _ _ hx273_0; first | rwa [zaj] at this | exact this) GW272.out)
        have hn273_5 : ad273.block ≠ gb272 := Nat.ne_of_lt (Nat.lt_of_lt_of_le (by have := World.block_lt_of_cell? _ _ hx273_0; first | rwa [zaj] at this | exact this) GW272.out)
        have hn273_6 : ad273.block ≠ gb272 := Nat.ne_of_lt (Nat.lt_of_lt_of_le (by have := World.block_lt_of_cell? _ _ hx273_0; first | rwa [zaj] at this | exact this) GW272.out)
        replace hx273_0 := (HB.out.cell (World.block_lt_of_cell? w _ hx273_0)).trans hx273_0
        replace hx273_1 := (HB.out.cell (World.block_lt_of_cell? w _ hx273_1)).trans hx273_1
        replace hx273_0 := (zar (p := ⟨gb272, 0, none⟩) (by first | (rw [zaj]; exact hn273_0) | (show (Addr.add _ _).block ≠ _; rw [zaj]; exact hn273_0) | exact hn273_0) (.string (⟨#[]⟩ : ByteArray))).trans hx273_0
        replace hx273_1 := (zar (p := ⟨gb272, 0, none⟩) (by first | (rw [zaj]; exact hn273_0) | (show (Addr.add _ _).block ≠ _; rw [zaj]; exact hn273_0) | exact hn273_0) (.string (⟨#[]⟩ : ByteArray))).trans hx273_1
        replace hx273_0 := (zar (p := ⟨gb272, 1, none⟩) (by first | (rw [zaj]; exact hn273_1) | (show (Addr.add _ _).block ≠ _; rw [zaj]; exact hn273_1) | exact hn273_1) (.string (⟨#[]⟩ : ByteArray))).trans hx273_0
        replace hx273_1 := (zar (p := ⟨gb272, 1, none⟩) (by first | (rw [zaj]; exact hn273_1) | (show (Addr.add _ _).block ≠ _; rw [zaj]; exact hn273_1) | exact hn273_1) (.string (⟨#[]⟩ : ByteArray))).trans hx273_1
        replace hx273_0 := (zar (p := ⟨gb272, 2, none⟩) (by first | (rw [zaj]; exact hn273_2) | (show (Addr.add _ _).block ≠ _; rw [zaj]; exact hn273_2) | exact hn273_2) (.int .i64 0)).trans hx273_0
        replace hx273_1 := (zar (p := ⟨gb272, 2, none⟩) (by first | (rw [zaj]; exact hn273_2) | (show (Addr.add _ _).block ≠ _; rw [zaj]; exact hn273_2) | exact hn273_2) (.int .i64 0)).trans hx273_1
        replace hx273_0 := (zar (p := ⟨gb272, 3, none⟩) (by first | (rw [zaj]; exact hn273_3) | (show (Addr.add _ _).block ≠ _; rw [zaj]; exact hn273_3) | exact hn273_3) (.int .i64 0)).trans hx273_0
        replace hx273_1 := (zar (p := ⟨gb272, 3, none⟩) (by first | (rw [zaj]; exact hn273_3) | (show (Addr.add _ _).block ≠ _; rw [zaj]; exact hn273_3) | exact hn273_3) (.int .i64 0)).trans hx273_1
        replace hx273_0 := (zar (p := ⟨gb272, 4, none⟩) (by first | (rw [zaj]; exact hn273_4) | (show (Addr.add _ _).block ≠ _; rw [zaj]; exact hn273_4) | exact hn273_4) (.int .i64 0)).trans hx273_0
        replace hx273_1 := (zar (p := ⟨gb272, 4, none⟩) (by first | (rw [zaj]; exact hn273_4) | (show (Addr.add _ _).block ≠ _; rw [zaj]; exact hn273_4) | exact hn273_4) (.int .i64 0)).trans hx273_1
        replace hx273_0 := (zar (p := ⟨gb272, 5, none⟩) (by first | (rw [zaj]; exact hn273_5) | (show (Addr.add _ _).block ≠ _; rw [zaj]; exact hn273_5) | exact hn273_5) (.int .i64 0)).trans hx273_0
        replace hx273_1 := (zar (p := ⟨gb272, 5, none⟩) (by first | (rw [zaj]; exact hn273_5) | (show (Addr.add _ _).block ≠ _; rw [zaj]; exact hn273_5) | exact hn273_5) (.int .i64 0)).trans hx273_1
        replace hx273_0 := (zar (p := ⟨gb272, 6, none⟩) (by first | (rw [zaj]; exact hn273_6) | (show (Addr.add _ _).block ≠ _; rw [zaj]; exact hn273_6) | exact hn273_6) (.int .i64 0)).trans hx273_0
        replace hx273_1 := (zar (p := ⟨gb272, 6, none⟩) (by first | (rw [zaj]; exact hn273_6) | (show (Addr.add _ _).block ≠ _; rw [zaj]; exact hn273_6) | exact hn273_6) (.int .i64 0)).trans hx273_1
        have hy273_0 := fun (n_ : Nat) => xfar7 n_ hx273_0
        have hy273_1 := fun (n_ : Nat) => xfar7 n_ hx273_1
        clear hn273_0
        clear hn273_1
        clear hn273_2
        clear hn273_3
        clear hn273_4
        clear hn273_5
        clear hn273_6
        replace p273 := eq_true p273
        replace q273 := eq_true q273
        have p274 : 0 ≤ (1 : Int) := (by omega)
        have q274 : 1 < (l0.length : Int) := of_decide_eq_true (by with_reducible assumption)
        obtain ⟨ad274, e274, hx274_0, hx274_1⟩ := zct HR0.out 1 p274 q274
        (try rw [← Nbq12.out] at hx274_1)
        obtain rfl : ad273 = ad274 := (by injection e274)
        (try simp only [show (1 : Int).toNat = 1 from rfl, Nat.reduceMul, Nat.reduceEqDiff, Go.Addr.add, ↓reduceIte] at hx274_0)
        (try simp only [show (1 : Int).toNat = 1 from rfl, Nat.reduceMul, Nat.reduceEqDiff, Go.Addr.add, ↓reduceIte] at hx274_1)
        have qi274 : (1 < l0.length) = True := eq_true (by omega)
        (try rw [show ((1 : Int)).toNat = 1 from rfl] at hx274_0)
        (try rw [show 1 * 2 = 2 from rfl] at hx274_0)
        (try rw [show ((1 : Int)).toNat = 1 from rfl] at hx274_1)
        (try rw [show 1 * 2 = 2 from rfl] at hx274_1)
        have hn274_0 : ad273.block ≠ gb272 := Nat.ne_of_lt (Nat.lt_of_lt_of_le (by have := World.block_lt_of_cell? _ _ hx274_0; first | rwa [zaj] at this | exact this) GW272.out)
        have hn274_1 : ad273.block ≠ gb272 := Nat.ne_of_lt (Nat.lt_of_lt_of_le (by have := World.block_lt_of_cell? _ _ hx274_0; first | rwa [zaj] at this | exact this) GW272.out)
        have hn274_2 : ad273.block ≠ gb272 := Nat.ne_of_lt (Nat.lt_of_lt_of_le (by have := World.block_lt_of_cell? _ _ hx274_0; first | rwa [zaj] at this | exact this) GW272.out)
        have hn274_3 : ad273.block ≠ gb272 := Nat.ne_of_lt (Nat.lt_of_lt_of_le (by have := World.block_lt_of_cell? _ _ hx274_0; first | rwa [zaj] at this | exact this) GW272.out)
        have hn274_4 : ad273.block ≠ gb272 := Nat.ne_of_lt (Nat.lt_of_lt_of_le (by have := World.block_lt_of_cell? _ _ hx274_0; first | rwa [zaj] at this | exact this) GW272.out)
        have hn274_5 : ad273.block ≠ gb272 := Nat.ne_of_lt (Nat.lt_of_lt_of_le (by have := World.block_lt_of_cell? _ _ hx274_0; first | rwa [zaj] at this | exact this) GW272.out)
        have hn274_6 : ad273.block ≠ gb272 := Nat.ne_of_lt (Nat.lt_of_lt_of_le (by have := World.block_lt_of_cell? _ _ hx274_0; first | rwa [zaj] at this | exact this) GW272.out)
        replace hx274_0 := (HB.out.cell (World.block_lt_of_cell? w _ hx274_0)).trans hx274_0
        replace hx274_1 := (HB.out.cell (World.block_lt_of_cell? w _ hx274_1)).trans hx274_1
        replace hx274_0 := (zar (p := ⟨gb272, 0, none⟩) (by first | (rw [zaj]; exact hn274_0) | (show (Addr.add _ _).block ≠ _; rw [zaj]; exact hn274_0) | exact hn274_0) (.string (⟨#[]⟩ : ByteArray))).trans hx274_0
        replace hx274_1 := (zar (p := ⟨gb272, 0, none⟩) (by first | (rw [zaj]; exact hn274_0) | (show (Addr.add _ _).block ≠ _; rw [zaj]; exact hn274_0) | exact hn274_0) (.string (⟨#[]⟩ : ByteArray))).trans hx274_1
        replace hx274_0 := (zar (p := ⟨gb272, 1, none⟩) (by first | (rw [zaj]; exact hn274_1) | (show (Addr.add _ _).block ≠ _; rw [zaj]; exact hn274_1) | exact hn274_1) (.string (⟨#[]⟩ : ByteArray))).trans hx274_0
        replace hx274_1 := (zar (p := ⟨gb272, 1, none⟩) (by first | (rw [zaj]; exact hn274_1) | (show (Addr.add _ _).block ≠ _; rw [zaj]; exact hn274_1) | exact hn274_1) (.string (⟨#[]⟩ : ByteArray))).trans hx274_1
        replace hx274_0 := (zar (p := ⟨gb272, 2, none⟩) (by first | (rw [zaj]; exact hn274_2) | (show (Addr.add _ _).block ≠ _; rw [zaj]; exact hn274_2) | exact hn274_2) (.int .i64 0)).trans hx274_0
        replace hx274_1 := (zar (p := ⟨gb272, 2, none⟩) (by first | (rw [zaj]; exact hn274_2) | (show (Addr.add _ _).block ≠ _; rw [zaj]; exact hn274_2) | exact hn274_2) (.int .i64 0)).trans hx274_1
        replace hx274_0 := (zar (p := ⟨gb272, 3, none⟩) (by first | (rw [zaj]; exact hn274_3) | (show (Addr.add _ _).block ≠ _; rw [zaj]; exact hn274_3) | exact hn274_3) (.int .i64 0)).trans hx274_0
        replace hx274_1 := (zar (p := ⟨gb272, 3, none⟩) (by first | (rw [zaj]; exact hn274_3) | (show (Addr.add _ _).block ≠ _; rw [zaj]; exact hn274_3) | exact hn274_3) (.int .i64 0)).trans hx274_1
        replace hx274_0 := (zar (p := ⟨gb272, 4, none⟩) (by first | (rw [zaj]; exact hn274_4) | (show (Addr.add _ _).block ≠ _; rw [zaj]; exact hn274_4) | exact hn274_4) (.int .i64 0)).trans hx274_0
        replace hx274_1 := (zar (p := ⟨gb272, 4, none⟩) (by first | (rw [zaj]; exact hn274_4) | (show (Addr.add _ _).block ≠ _; rw [zaj]; exact hn274_4) | exact hn274_4) (.int .i64 0)).trans hx274_1
        replace hx274_0 := (zar (p := ⟨gb272, 5, none⟩) (by first | (rw [zaj]; exact hn274_5) | (show (Addr.add _ _).block ≠ _; rw [zaj]; exact hn274_5) | exact hn274_5) (.int .i64 0)).trans hx274_0
        replace hx274_1 := (zar (p := ⟨gb272, 5, none⟩) (by first | (rw [zaj]; exact hn274_5) | (show (Addr.add _ _).block ≠ _; rw [zaj]; exact hn274_5) | exact hn274_5) (.int .i64 0)).trans hx274_1
        replace hx274_0 := (zar (p := ⟨gb272, 6, none⟩) (by first | (rw [zaj]; exact hn274_6) | (show (Addr.add _ _).block ≠ _; rw [zaj]; exact hn274_6) | exact hn274_6) (.int .i64 0)).trans hx274_0
        replace hx274_1 := (zar (p := ⟨gb272, 6, none⟩) (by first | (rw [zaj]; exact hn274_6) | (show (Addr.add _ _).block ≠ _; rw [zaj]; exact hn274_6) | exact hn274_6) (.int .i64 0)).trans hx274_1
        have hy274_0 := fun (n_ : Nat) => xfar7 n_ hx274_0
        have hy274_1 := fun (n_ : Nat) => xfar7 n_ hx274_1
        clear hn274_0
        clear hn274_1
        clear hn274_2
        clear hn274_3
        clear hn274_4
        clear hn274_5
        clear hn274_6
        replace p274 := eq_true p274
        replace q274 := eq_true q274
        go_wp2
        repeat (go_quiet (fail); try go_wp2)
        go_meet
        case rel => exact ⟨_, (true), (by first | rfl | (simp; done) | (simp [*]; done)), H', ⟨by first | omega | exact Nat.le_refl _⟩, ⟨by (with_reducible repeat (first | refine zae ?_ _ | refine zag ?_ | refine zaf ?_ _)); refine zav ?_ NB271_272.out _; (with_reducible repeat (first | refine zae ?_ _ | refine zag ?_ | refine zaf ?_ _)); refine zav ?_ NB271_272.out _; (with_reducible repeat (first | refine zae ?_ _ | refine zag ?_ | refine zaf ?_ _)); refine zav ?_ NB271_272.out _; (with_reducible repeat (first | refine zae ?_ _ | refine zag ?_ | refine zaf ?_ _)); refine zav ?_ NB271_272.out _; (with_reducible repeat (first | refine zae ?_ _ | refine zag ?_ | refine zaf ?_ _)); refine zav ?_ NB271_272.out _; (with_reducible repeat (first | refine zae ?_ _ | refine zag ?_ | refine zaf ?_ _)); refine zav ?_ NB271_272.out _; (with_reducible repeat (first | refine zae ?_ _ | refine zag ?_ | refine zaf ?_ _)); refine zav ?_ NB271_272.out _; (with_reducible repeat (first | refine zae ?_ _ | refine zag ?_ | refine zaf ?_ _)); exact BK271.out⟩, ⟨by (with_reducible repeat (first | refine zae ?_ _ | refine zag ?_ | refine zaf ?_ _)); refine zat (cs := #[.string (⟨#[]⟩ : ByteArray), .string (⟨#[]⟩ : ByteArray), .int .i64 0, .int .i64 0, .int .i64 0, .int .i64 0, .int .i64 0]) ?_ 6 _ rfl; (with_reducible repeat (first | refine zae ?_ _ | refine zag ?_ | refine zaf ?_ _)); refine zat (cs := #[.string (⟨#[]⟩ : ByteArray), .string (⟨#[]⟩ : ByteArray), .int .i64 0, .int .i64 0, .int .i64 0, .int .i64 0, .int .i64 0]) ?_ 5 _ rfl; (with_reducible repeat (first | refine zae ?_ _ | refine zag ?_ | refine zaf ?_ _)); refine zat (cs := #[.string (⟨#[]⟩ : ByteArray), .string (⟨#[]⟩ : ByteArray), .int .i64 0, .int .i64 0, .int .i64 0, .int .i64 0, .int .i64 0]) ?_ 4 _ rfl; (with_reducible repeat (first | refine zae ?_ _ | refine zag ?_ | refine zaf ?_ _)); refine zat (cs := #[.string (⟨#[]⟩ : ByteArray), .string (⟨#[]⟩ : ByteArray), .int .i64 0, .int .i64 0, .int .i64 0, .int .i64 0, .int .i64 0]) ?_ 3 _ rfl; (with_reducible repeat (first | refine zae ?_ _ | refine zag ?_ | refine zaf ?_ _)); refine zat (cs := #[.string (⟨#[]⟩ : ByteArray), .string (⟨#[]⟩ : ByteArray), .int .i64 0, .int .i64 0, .int .i64 0, .int .i64 0, .int .i64 0]) ?_ 2 _ rfl; (with_reducible repeat (first | refine zae ?_ _ | refine zag ?_ | refine zaf ?_ _)); refine zat (cs := #[.string (⟨#[]⟩ : ByteArray), .string (⟨#[]⟩ : ByteArray), .int .i64 0, .int .i64 0, .int .i64 0, .int .i64 0, .int .i64 0]) ?_ 1 _ rfl; (with_reducible repeat (first | refine zae ?_ _ | refine zag ?_ | refine zaf ?_ _)); refine zat (cs := #[.string (⟨#[]⟩ : ByteArray), .string (⟨#[]⟩ : ByteArray), .int .i64 0, .int .i64 0, .int .i64 0, .int .i64 0, .int .i64 0]) ?_ 0 _ rfl; (with_reducible repeat (first | refine zae ?_ _ | refine zag ?_ | refine zaf ?_ _)); exact BK272.out⟩, ⟨by repeat (first | (with_reducible first | exact HB.out | apply zab | apply zaa | apply zac | refine zai ?_ GE271.out | refine zai ?_ GE272.out) | exact HB.out)⟩⟩
       ·replace c13 := Bool.eq_false_iff.mpr c13
        subst c13
        have H1 : ((yed.f k ((zay l0 1).f0)).bind fun t276 => (ydg.j0 k l0 (!t276) (⟨#[]⟩ : ByteArray) (⟨#[]⟩ : ByteArray) 0 0 0 0 0)) = some (r1, r2, r3, r4, r5, r6, r7, r8) := by rw [if_neg (show ¬ (false = true) by decide)] at H; exact H
        clear H
        have H := H1
        clear H1
        replace H := Option.bind_eq_some_iff.mp H
        obtain ⟨t276, A140, H⟩ := H
        replace H : (ydg.j0 k l0 (!t276) (⟨#[]⟩ : ByteArray) (⟨#[]⟩ : ByteArray) 0 0 0 0 0) = some (r1, r2, r3, r4, r5, r6, r7, r8) := H
        have A14 := Aside0.mk A140
        clear A140
        have H' := Aside0.mk H
        clear H
        have p273 : 0 ≤ (0 : Int) := (by omega)
        have q273 : 0 < (l0.length : Int) := of_decide_eq_true (by with_reducible assumption)
        obtain ⟨ad273, e273, hx273_0, hx273_1⟩ := zct HR0.out 0 p273 q273
        (try rw [← Nbq12.out] at hx273_1)
        cases e273
        have qi273 : (0 < l0.length) = True := eq_true (by omega)
        (try rw [show ((0 : Int)).toNat = 0 from rfl] at hx273_0)
        (try rw [show 0 * 2 = 0 from rfl] at hx273_0)
        (try rw [Addr.add_zero'] at hx273_0)
        (try rw [show ((0 : Int)).toNat = 0 from rfl] at hx273_1)
        (try rw [show 0 * 2 = 0 from rfl] at hx273_1)
        (try rw [Addr.add_zero'] at hx273_1)
        have hn273_0 : ad273.block ≠ gb272 := Nat.ne_of_lt (Nat.lt_of_lt_of_le (by have := World.block_lt_of_cell? _ _ hx273_0; first | rwa [zaj] at this | exact this) GW272.out)
        have hn273_1 : ad273.block ≠ gb272 := Nat.ne_of_lt (Nat.lt_of_lt_of_le (by have := World.block_lt_of_cell? _ _ hx273_0; first | rwa [zaj] at this | exact this) GW272.out)
        have hn273_2 : ad273.block ≠ gb272 := Nat.ne_of_lt (Nat.lt_of_lt_of_le (by have := World.block_lt_of_cell? _ _ hx273_0; first | rwa [zaj] at this | exact this) GW272.out)
        have hn273_3 : ad273.block ≠ gb272 := Nat.ne_of_lt (Nat.lt_of_lt_of_le (by have := World.block_lt_of_cell? _ _ hx273_0; first | rwa [zaj] at this | exact this) GW272.out)
        have hn273_4 : ad273.block ≠ gb272 := Nat.ne_of_lt (Nat.lt_of_lt_of_le (by have := World.block_lt_of_cell? _ _ hx273_0; first | rwa [zaj] at this | exact this) GW272.out)
        have hn273_5 : ad273.block ≠ gb272 := Nat.ne_of_lt (Nat.lt_of_lt_of_le (by have := World.block_lt_of_cell? _ _ hx273_0; first | rwa [zaj] at this | exact this) GW272.out)
        have hn273_6 : ad273.block ≠ gb272 := Nat.ne_of_lt (Nat.lt_of_lt_of_le (by have := World.block_lt_of_cell? _ _ hx273_0; first | rwa [zaj] at this | exact this) GW272.out)
        replace hx273_0 := (HB.out.cell (World.block_lt_of_cell? w _ hx273_0)).trans hx273_0
        replace hx273_1 := (HB.out.cell (World.block_lt_of_cell? w _ hx273_1)).trans hx273_1
        replace hx273_0 := (zar (p := ⟨gb272, 0, none⟩) (by first | (rw [zaj]; exact hn273_0) | (show (Addr.add _ _).block ≠ _; rw [zaj]; exact hn273_0) | exact hn273_0) (.string (⟨#[]⟩ : ByteArray))).trans hx273_0
        replace hx273_1 := (zar (p := ⟨gb272, 0, none⟩) (by first | (rw [zaj]; exact hn273_0) | (show (Addr.add _ _).block ≠ _; rw [zaj]; exact hn273_0) | exact hn273_0) (.string (⟨#[]⟩ : ByteArray))).trans hx273_1
        replace hx273_0 := (zar (p := ⟨gb272, 1, none⟩) (by first | (rw [zaj]; exact hn273_1) | (show (Addr.add _ _).block ≠ _; rw [zaj]; exact hn273_1) | exact hn273_1) (.string (⟨#[]⟩ : ByteArray))).trans hx273_0
        replace hx273_1 := (zar (p := ⟨gb272, 1, none⟩) (by first | (rw [zaj]; exact hn273_1) | (show (Addr.add _ _).block ≠ _; rw [zaj]; exact hn273_1) | exact hn273_1) (.string (⟨#[]⟩ : ByteArray))).trans hx273_1
        replace hx273_0 := (zar (p := ⟨gb272, 2, none⟩) (by first | (rw [zaj]; exact hn273_2) | (show (Addr.add _ _).block ≠ _; rw [zaj]; exact hn273_2) | exact hn273_2) (.int .i64 0)).trans hx273_0
        replace hx273_1 := (zar (p := ⟨gb272, 2, none⟩) (by first | (rw [zaj]; exact hn273_2) | (show (Addr.add _ _).block ≠ _; rw [zaj]; exact hn273_2) | exact hn273_2) (.int .i64 0)).trans hx273_1
        replace hx273_0 := (zar (p := ⟨gb272, 3, none⟩) (by first | (rw [zaj]; exact hn273_3) | (show (Addr.add _ _).block ≠ _; rw [zaj]; exact hn273_3) | exact hn273_3) (.int .i64 0)).trans hx273_0
        replace hx273_1 := (zar (p := ⟨gb272, 3, none⟩) (by first | (rw [zaj]; exact hn273_3) | (show (Addr.add _ _).block ≠ _; rw [zaj]; exact hn273_3) | exact hn273_3) (.int .i64 0)).trans hx273_1
        replace hx273_0 := (zar (p := ⟨gb272, 4, none⟩) (by first | (rw [zaj]; exact hn273_4) | (show (Addr.add _ _).block ≠ _; rw [zaj]; exact hn273_4) | exact hn273_4) (.int .i64 0)).trans hx273_0
        replace hx273_1 := (zar (p := ⟨gb272, 4, none⟩) (by first | (rw [zaj]; exact hn273_4) | (show (Addr.add _ _).block ≠ _; rw [zaj]; exact hn273_4) | exact hn273_4) (.int .i64 0)).trans hx273_1
        replace hx273_0 := (zar (p := ⟨gb272, 5, none⟩) (by first | (rw [zaj]; exact hn273_5) | (show (Addr.add _ _).block ≠ _; rw [zaj]; exact hn273_5) | exact hn273_5) (.int .i64 0)).trans hx273_0
        replace hx273_1 := (zar (p := ⟨gb272, 5, none⟩) (by first | (rw [zaj]; exact hn273_5) | (show (Addr.add _ _).block ≠ _; rw [zaj]; exact hn273_5) | exact hn273_5) (.int .i64 0)).trans hx273_1
        replace hx273_0 := (zar (p := ⟨gb272, 6, none⟩) (by first | (rw [zaj]; exact hn273_6) | (show (Addr.add _ _).block ≠ _; rw [zaj]; exact hn273_6) | exact hn273_6) (.int .i64 0)).trans hx273_0
        replace hx273_1 := (zar (p := ⟨gb272, 6, none⟩) (by first | (rw [zaj]; exact hn273_6) | (show (Addr.add _ _).block ≠ _; rw [zaj]; exact hn273_6) | exact hn273_6) (.int .i64 0)).trans hx273_1
        have hy273_0 := fun (n_ : Nat) => xfar7 n_ hx273_0
        have hy273_1 := fun (n_ : Nat) => xfar7 n_ hx273_1
        clear hn273_0
        clear hn273_1
        clear hn273_2
        clear hn273_3
        clear hn273_4
        clear hn273_5
        clear hn273_6
        replace p273 := eq_true p273
        replace q273 := eq_true q273
        have p274 : 0 ≤ (1 : Int) := (by omega)
        have q274 : 1 < (l0.length : Int) := of_decide_eq_true (by with_reducible assumption)
        obtain ⟨ad274, e274, hx274_0, hx274_1⟩ := zct HR0.out 1 p274 q274
        (try rw [← Nbq12.out] at hx274_1)
        obtain rfl : ad273 = ad274 := (by injection e274)
        (try simp only [show (1 : Int).toNat = 1 from rfl, Nat.reduceMul, Nat.reduceEqDiff, Go.Addr.add, ↓reduceIte] at hx274_0)
        (try simp only [show (1 : Int).toNat = 1 from rfl, Nat.reduceMul, Nat.reduceEqDiff, Go.Addr.add, ↓reduceIte] at hx274_1)
        have qi274 : (1 < l0.length) = True := eq_true (by omega)
        (try rw [show ((1 : Int)).toNat = 1 from rfl] at hx274_0)
        (try rw [show 1 * 2 = 2 from rfl] at hx274_0)
        (try rw [show ((1 : Int)).toNat = 1 from rfl] at hx274_1)
        (try rw [show 1 * 2 = 2 from rfl] at hx274_1)
        have hn274_0 : ad273.block ≠ gb272 := Nat.ne_of_lt (Nat.lt_of_lt_of_le (by have := World.block_lt_of_cell? _ _ hx274_0; first | rwa [zaj] at this | exact this) GW272.out)
        have hn274_1 : ad273.block ≠ gb272 := Nat.ne_of_lt (Nat.lt_of_lt_of_le (by have := World.block_lt_of_cell? _ _ hx274_0; first | rwa [zaj] at this | exact this) GW272.out)
        have hn274_2 : ad273.block ≠ gb272 := Nat.ne_of_lt (Nat.lt_of_lt_of_le (by have := World.block_lt_of_cell? _ _ hx274_0; first | rwa [zaj] at this | exact this) GW272.out)
        have hn274_3 : ad273.block ≠ gb272 := Nat.ne_of_lt (Nat.lt_of_lt_of_le (by have := World.block_lt_of_cell? _ _ hx274_0; first | rwa [zaj] at this | exact this) GW272.out)
        have hn274_4 : ad273.block ≠ gb272 := Nat.ne_of_lt (Nat.lt_of_lt_of_le (by have := World.block_lt_of_cell? _ _ hx274_0; first | rwa [zaj] at this | exact this) GW272.out)
        have hn274_5 : ad273.block ≠ gb272 := Nat.ne_of_lt (Nat.lt_of_lt_of_le (by have := World.block_lt_of_cell? _ _ hx274_0; first | rwa [zaj] at this | exact this) GW272.out)
        have hn274_6 : ad273.block ≠ gb272 := Nat.ne_of_lt (Nat.lt_of_lt_of_le (by have := World.block_lt_of_cell? _ _ hx274_0; first | rwa [zaj] at this | exact this) GW272.out)
        replace hx274_0 := (HB.out.cell (World.block_lt_of_cell? w _ hx274_0)).trans hx274_0
        replace hx274_1 := (HB.out.cell (World.block_lt_of_cell? w _ hx274_1)).trans hx274_1
        replace hx274_0 := (zar (p := ⟨gb272, 0, none⟩) (by first | (rw [zaj]; exact hn274_0) | (show (Addr.add _ _).block ≠ _; rw [zaj]; exact hn274_0) | exact hn274_0) (.string (⟨#[]⟩ : ByteArray))).trans hx274_0
        replace hx274_1 := (zar (p := ⟨gb272, 0, none⟩) (by first | (rw [zaj]; exact hn274_0) | (show (Addr.add _ _).block ≠ _; rw [zaj]; exact hn274_0) | exact hn274_0) (.string (⟨#[]⟩ : ByteArray))).trans hx274_1
        replace hx274_0 := (zar (p := ⟨gb272, 1, none⟩) (by first | (rw [zaj]; exact hn274_1) | (show (Addr.add _ _).block ≠ _; rw [zaj]; exact hn274_1) | exact hn274_1) (.string (⟨#[]⟩ : ByteArray))).trans hx274_0
        replace hx274_1 := (zar (p := ⟨gb272, 1, none⟩) (by first | (rw [zaj]; exact hn274_1) | (show (Addr.add _ _).block ≠ _; rw [zaj]; exact hn274_1) | exact hn274_1) (.string (⟨#[]⟩ : ByteArray))).trans hx274_1
        replace hx274_0 := (zar (p := ⟨gb272, 2, none⟩) (by first | (rw [zaj]; exact hn274_2) | (show (Addr.add _ _).block ≠ _; rw [zaj]; exact hn274_2) | exact hn274_2) (.int .i64 0)).trans hx274_0
        replace hx274_1 := (zar (p := ⟨gb272, 2, none⟩) (by first | (rw [zaj]; exact hn274_2) | (show (Addr.add _ _).block ≠ _; rw [zaj]; exact hn274_2) | exact hn274_2) (.int .i64 0)).trans hx274_1
        replace hx274_0 := (zar (p := ⟨gb272, 3, none⟩) (by first | (rw [zaj]; exact hn274_3) | (show (Addr.add _ _).block ≠ _; rw [zaj]; exact hn274_3) | exact hn274_3) (.int .i64 0)).trans hx274_0
        replace hx274_1 := (zar (p := ⟨gb272, 3, none⟩) (by first | (rw [zaj]; exact hn274_3) | (show (Addr.add _ _).block ≠ _; rw [zaj]; exact hn274_3) | exact hn274_3) (.int .i64 0)).trans hx274_1
        replace hx274_0 := (zar (p := ⟨gb272, 4, none⟩) (by first | (rw [zaj]; exact hn274_4) | (show (Addr.add _ _).block ≠ _; rw [zaj]; exact hn274_4) | exact hn274_4) (.int .i64 0)).trans hx274_0
        replace hx274_1 := (zar (p := ⟨gb272, 4, none⟩) (by first | (rw [zaj]; exact hn274_4) | (show (Addr.add _ _).block ≠ _; rw [zaj]; exact hn274_4) | exact hn274_4) (.int .i64 0)).trans hx274_1
        replace hx274_0 := (zar (p := ⟨gb272, 5, none⟩) (by first | (rw [zaj]; exact hn274_5) | (show (Addr.add _ _).block ≠ _; rw [zaj]; exact hn274_5) | exact hn274_5) (.int .i64 0)).trans hx274_0
        replace hx274_1 := (zar (p := ⟨gb272, 5, none⟩) (by first | (rw [zaj]; exact hn274_5) | (show (Addr.add _ _).block ≠ _; rw [zaj]; exact hn274_5) | exact hn274_5) (.int .i64 0)).trans hx274_1
        replace hx274_0 := (zar (p := ⟨gb272, 6, none⟩) (by first | (rw [zaj]; exact hn274_6) | (show (Addr.add _ _).block ≠ _; rw [zaj]; exact hn274_6) | exact hn274_6) (.int .i64 0)).trans hx274_0
        replace hx274_1 := (zar (p := ⟨gb272, 6, none⟩) (by first | (rw [zaj]; exact hn274_6) | (show (Addr.add _ _).block ≠ _; rw [zaj]; exact hn274_6) | exact hn274_6) (.int .i64 0)).trans hx274_1
        have hy274_0 := fun (n_ : Nat) => xfar7 n_ hx274_0
        have hy274_1 := fun (n_ : Nat) => xfar7 n_ hx274_1
        clear hn274_0
        clear hn274_1
        clear hn274_2
        clear hn274_3
        clear hn274_4
        clear hn274_5
        clear hn274_6
        replace p274 := eq_true p274
        replace q274 := eq_true q274
        have p275 : 0 ≤ (1 : Int) := (by omega)
        have q275 : 1 < (l0.length : Int) := of_decide_eq_true (by with_reducible assumption)
        obtain ⟨ad275, e275, hx275_0, hx275_1⟩ := zct HR0.out 1 p275 q275
        (try rw [← Nbq12.out] at hx275_1)
        obtain rfl : ad273 = ad275 := (by injection e275)
        (try simp only [show (1 : Int).toNat = 1 from rfl, Nat.reduceMul, Nat.reduceEqDiff, Go.Addr.add, ↓reduceIte] at hx275_0)
        (try simp only [show (1 : Int).toNat = 1 from rfl, Nat.reduceMul, Nat.reduceEqDiff, Go.Addr.add, ↓reduceIte] at hx275_1)
        have qi275 : (1 < l0.length) = True := eq_true (by omega)
        (try rw [show ((1 : Int)).toNat = 1 from rfl] at hx275_0)
        (try rw [show 1 * 2 = 2 from rfl] at hx275_0)
        (try rw [show ((1 : Int)).toNat = 1 from rfl] at hx275_1)
        (try rw [show 1 * 2 = 2 from rfl] at hx275_1)
        have hn275_0 : ad273.block ≠ gb272 := Nat.ne_of_lt (Nat.lt_of_lt_of_le (by have := World.block_lt_of_cell? _ _ hx275_0; first | rwa [zaj] at this | exact this) GW272.out)
        have hn275_1 : ad273.block ≠ gb272 := Nat.ne_of_lt (Nat.lt_of_lt_of_le (by have := World.block_lt_of_cell? _ _ hx275_0; first | rwa [zaj] at this | exact this) GW272.out)
        have hn275_2 : ad273.block ≠ gb272 := Nat.ne_of_lt (Nat.lt_of_lt_of_le (by have := World.block_lt_of_cell? _ _ hx275_0; first | rwa [zaj] at this | exact this) GW272.out)
        have hn275_3 : ad273.block ≠ gb272 := Nat.ne_of_lt (Nat.lt_of_lt_of_le (by have := World.block_lt_of_cell? _ _ hx275_0; first | rwa [zaj] at this | exact this) GW272.out)
        have hn275_4 : ad273.block ≠ gb272 := Nat.ne_of_lt (Nat.lt_of_lt_of_le (by have := World.block_lt_of_cell? _ _ hx275_0; first | rwa [zaj] at this | exact this) GW272.out)
        have hn275_5 : ad273.block ≠ gb272 := Nat.ne_of_lt (Nat.lt_of_lt_of_le (by have := World.block_lt_of_cell? _ _ hx275_0; first | rwa [zaj] at this | exact this) GW272.out)
        have hn275_6 : ad273.block ≠ gb272 := Nat.ne_of_lt (Nat.lt_of_lt_of_le (by have := World.block_lt_of_cell? _ _ hx275_0; first | rwa [zaj] at this | exact this) GW272.out)
        replace hx275_0 := (HB.out.cell (World.block_lt_of_cell? w _ hx275_0)).trans hx275_0
        replace hx275_1 := (HB.out.cell (World.block_lt_of_cell? w _ hx275_1)).trans hx275_1
        replace hx275_0 := (zar (p := ⟨gb272, 0, none⟩) (by first | (rw [zaj]; exact hn275_0) | (show (Addr.add _ _).block ≠ _; rw [zaj]; exact hn275_0) | exact hn275_0) (.string (⟨#[]⟩ : ByteArray))).trans hx275_0
        replace hx275_1 := (zar (p := ⟨gb272, 0, none⟩) (by first | (rw [zaj]; exact hn275_0) | (show (Addr.add _ _).block ≠ _; rw [zaj]; exact hn275_0) | exact hn275_0) (.string (⟨#[]⟩ : ByteArray))).trans hx275_1
        replace hx275_0 := (zar (p := ⟨gb272, 1, none⟩) (by first | (rw [zaj]; exact hn275_1) | (show (Addr.add _ _).block ≠ _; rw [zaj]; exact hn275_1) | exact hn275_1) (.string (⟨#[]⟩ : ByteArray))).trans hx275_0
        replace hx275_1 := (zar (p := ⟨gb272, 1, none⟩) (by first | (rw [zaj]; exact hn275_1) | (show (Addr.add _ _).block ≠ _; rw [zaj]; exact hn275_1) | exact hn275_1) (.string (⟨#[]⟩ : ByteArray))).trans hx275_1
        replace hx275_0 := (zar (p := ⟨gb272, 2, none⟩) (by first | (rw [zaj]; exact hn275_2) | (show (Addr.add _ _).block ≠ _; rw [zaj]; exact hn275_2) | exact hn275_2) (.int .i64 0)).trans hx275_0
        replace hx275_1 := (zar (p := ⟨gb272, 2, none⟩) (by first | (rw [zaj]; exact hn275_2) | (show (Addr.add _ _).block ≠ _; rw [zaj]; exact hn275_2) | exact hn275_2) (.int .i64 0)).trans hx275_1
        replace hx275_0 := (zar (p := ⟨gb272, 3, none⟩) (by first | (rw [zaj]; exact hn275_3) | (show (Addr.add _ _).block ≠ _; rw [zaj]; exact hn275_3) | exact hn275_3) (.int .i64 0)).trans hx275_0
        replace hx275_1 := (zar (p := ⟨gb272, 3, none⟩) (by first | (rw [zaj]; exact hn275_3) | (show (Addr.add _ _).block ≠ _; rw [zaj]; exact hn275_3) | exact hn275_3) (.int .i64 0)).trans hx275_1
        replace hx275_0 := (zar (p := ⟨gb272, 4, none⟩) (by first | (rw [zaj]; exact hn275_4) | (show (Addr.add _ _).block ≠ _; rw [zaj]; exact hn275_4) | exact hn275_4) (.int .i64 0)).trans hx275_0
        replace hx275_1 := (zar (p := ⟨gb272, 4, none⟩) (by first | (rw [zaj]; exact hn275_4) | (show (Addr.add _ _).block ≠ _; rw [zaj]; exact hn275_4) | exact hn275_4) (.int .i64 0)).trans hx275_1
        replace hx275_0 := (zar (p := ⟨gb272, 5, none⟩) (by first | (rw [zaj]; exact hn275_5) | (show (Addr.add _ _).block ≠ _; rw [zaj]; exact hn275_5) | exact hn275_5) (.int .i64 0)).trans hx275_0
        replace hx275_1 := (zar (p := ⟨gb272, 5, none⟩) (by first | (rw [zaj]; exact hn275_5) | (show (Addr.add _ _).block ≠ _; rw [zaj]; exact hn275_5) | exact hn275_5) (.int .i64 0)).trans hx275_1
        replace hx275_0 := (zar (p := ⟨gb272, 6, none⟩) (by first | (rw [zaj]; exact hn275_6) | (show (Addr.add _ _).block ≠ _; rw [zaj]; exact hn275_6) | exact hn275_6) (.int .i64 0)).trans hx275_0
        replace hx275_1 := (zar (p := ⟨gb272, 6, none⟩) (by first | (rw [zaj]; exact hn275_6) | (show (Addr.add _ _).block ≠ _; rw [zaj]; exact hn275_6) | exact hn275_6) (.int .i64 0)).trans hx275_1
        have hy275_0 := fun (n_ : Nat) => xfar7 n_ hx275_0
        have hy275_1 := fun (n_ : Nat) => xfar7 n_ hx275_1
        clear hn275_0
        clear hn275_1
        clear hn275_2
        clear hn275_3
        clear hn275_4
        clear hn275_5
        clear hn275_6
        replace p275 := eq_true p275
        replace q275 := eq_true q275
        go_wp2_with ((go_at_call 58; (with_reducible refine (yed.calls k ((zay l0 1).f0) t276 _ A14.out).mono ?_); rintro e w15 ⟨rfl, hb⟩; have n0_ := Aside0.mk (zau (g := gb271) (o := .cells #[.string (⟨#[]⟩ : ByteArray), .string (⟨#[]⟩ : ByteArray), .int .i64 0, .int .i64 0, .int .i64 0, .int .i64 0, .int .i64 0] 74 (0, 0)) (by (with_reducible repeat (first | refine zae ?_ _ | refine zag ?_ | refine zaf ?_ _)); refine zav ?_ NB271_272.out _; (with_reducible repeat (first | refine zae ?_ _ | refine zag ?_ | refine zaf ?_ _)); refine zav ?_ NB271_272.out _; (with_reducible repeat (first | refine zae ?_ _ | refine zag ?_ | refine zaf ?_ _)); refine zav ?_ NB271_272.out _; (with_reducible repeat (first | refine zae ?_ _ | refine zag ?_ | refine zaf ?_ _)); refine zav ?_ NB271_272.out _; (with_reducible repeat (first | refine zae ?_ _ | refine zag ?_ | refine zaf ?_ _)); refine zav ?_ NB271_272.out _; (with_reducible repeat (first | refine zae ?_ _ | refine zag ?_ | refine zaf ?_ _)); refine zav ?_ NB271_272.out _; (with_reducible repeat (first | refine zae ?_ _ | refine zag ?_ | refine zaf ?_ _)); refine zav ?_ NB271_272.out _; (with_reducible repeat (first | refine zae ?_ _ | refine zag ?_ | refine zaf ?_ _)); exact BK271.out) hb); have n1_ := Aside0.mk (zau (g := gb272) (o := .cells #[.string (⟨#[]⟩ : ByteArray), .string (⟨#[]⟩ : ByteArray), .int .i64 0, .int .i64 0, .int .i64 0, .int .i64 0, .int .i64 0] 74 (0, 0)) (by (with_reducible repeat (first | refine zae ?_ _ | refine zag ?_ | refine zaf ?_ _)); refine zat (cs := #[.string (⟨#[]⟩ : ByteArray), .string (⟨#[]⟩ : ByteArray), .int .i64 0, .int .i64 0, .int .i64 0, .int .i64 0, .int .i64 0]) ?_ 6 _ rfl; (with_reducible repeat (first | refine zae ?_ _ | refine zag ?_ | refine zaf ?_ _)); refine zat (cs := #[.string (⟨#[]⟩ : ByteArray), .string (⟨#[]⟩ : ByteArray), .int .i64 0, .int .i64 0, .int .i64 0, .int .i64 0, .int .i64 0]) ?_ 5 _ rfl; (with_reducible repeat (first | refine zae ?_ _ | refine zag ?_ | refine zaf ?_ _)); refine zat (cs := #[.string (⟨#[]⟩ : ByteArray), .string (⟨#[]⟩ : ByteArray), .int .i64 0, .int .i64 0, .int .i64 0, .int .i64 0, .int .i64 0]) ?_ 4 _ rfl; (with_reducible repeat (first | refine zae ?_ _ | refine zag ?_ | refine zaf ?_ _)); refine zat (cs := #[.string (⟨#[]⟩ : ByteArray), .string (⟨#[]⟩ : ByteArray), .int .i64 0, .int .i64 0, .int .i64 0, .int .i64 0, .int .i64 0]) ?_ 3 _ rfl; (with_reducible repeat (first | refine zae ?_ _ | refine zag ?_ | refine zaf ?_ _)); refine zat (cs := #[.string (⟨#[]⟩ : ByteArray), .string (⟨#[]⟩ : ByteArray), .int .i64 0, .int .i64 0, .int .i64 0, .int .i64 0, .int .i64 0]) ?_ 2 _ rfl; (with_reducible repeat (first | refine zae ?_ _ | refine zag ?_ | refine zaf ?_ _)); refine zat (cs := #[.string (⟨#[]⟩ : ByteArray), .string (⟨#[]⟩ : ByteArray), .int .i64 0, .int .i64 0, .int .i64 0, .int .i64 0, .int .i64 0]) ?_ 1 _ rfl; (with_reducible repeat (first | refine zae ?_ _ | refine zag ?_ | refine zaf ?_ _)); refine zat (cs := #[.string (⟨#[]⟩ : ByteArray), .string (⟨#[]⟩ : ByteArray), .int .i64 0, .int .i64 0, .int .i64 0, .int .i64 0, .int .i64 0]) ?_ 0 _ rfl; (with_reducible repeat (first | refine zae ?_ _ | refine zag ?_ | refine zaf ?_ _)); exact BK272.out) hb); have n2_ := Aside0.mk (zap (by repeat (first | (with_reducible first | exact HB.out | apply zab | apply zaa | apply zac | refine zai ?_ GE271.out | refine zai ?_ GE272.out) | exact HB.out)) hb); clear BK271; clear BK272; clear HB; have BK271 := n0_; have BK272 := n1_; have HB := n2_; clear n0_ n1_ n2_; (try clear hb); (try clear hb2); (try clear hk); (try clear hi)))
        repeat (go_quiet (fail); try go_wp2_with (fail))
        go_meet
        case rel => exact ⟨_, (!t276), (by first | rfl | (simp; done) | (simp [*]; done)), H', ⟨by first | omega | exact Nat.le_refl _⟩, ⟨by (with_reducible repeat (first | refine zae ?_ _ | refine zag ?_ | refine zaf ?_ _)); exact BK271.out⟩, ⟨by (with_reducible repeat (first | refine zae ?_ _ | refine zag ?_ | refine zaf ?_ _)); exact BK272.out⟩, ⟨by repeat (first | (with_reducible first | exact HB.out | apply zab | apply zaa | apply zac | refine zai ?_ GE271.out | refine zai ?_ GE272.out) | exact HB.out)⟩⟩
      ·rw [if_neg c11] at H
       exact absurd H (by simp)
    ·rw [if_neg c9] at H
     exact absurd H (by simp)
   ·rw [if_neg c8] at H
    have c8b0 : (((l0.length : Int) % 2) == 0) = false := beq_eq_false_iff_ne.mpr c8
    have c8b1 : (((l0.length : Int) % 2) != 0) = true := bne_iff_ne.mpr c8
    have H' := Aside0.mk H
    clear H
    go_wp2
    repeat (go_quiet (fail); try go_wp2)
    go_meet
    case rel => exact ⟨_, (true), (by first | rfl | (simp; done) | (simp [*]; done)), H', ⟨by first | omega | exact Nat.le_refl _⟩, ⟨by (with_reducible repeat (first | refine zae ?_ _ | refine zag ?_ | refine zaf ?_ _)); refine zav ?_ NB271_272.out _; (with_reducible repeat (first | refine zae ?_ _ | refine zag ?_ | refine zaf ?_ _)); refine zav ?_ NB271_272.out _; (with_reducible repeat (first | refine zae ?_ _ | refine zag ?_ | refine zaf ?_ _)); refine zav ?_ NB271_272.out _; (with_reducible repeat (first | refine zae ?_ _ | refine zag ?_ | refine zaf ?_ _)); refine zav ?_ NB271_272.out _; (with_reducible repeat (first | refine zae ?_ _ | refine zag ?_ | refine zaf ?_ _)); refine zav ?_ NB271_272.out _; (with_reducible repeat (first | refine zae ?_ _ | refine zag ?_ | refine zaf ?_ _)); refine zav ?_ NB271_272.out _; (with_reducible repeat (first | refine zae ?_ _ | refine zag ?_ | refine zaf ?_ _)); refine zav ?_ NB271_272.out _; (with_reducible repeat (first | refine zae ?_ _ | refine zag ?_ | refine zaf ?_ _)); exact BK271.out⟩, ⟨by (with_reducible repeat (first | refine zae ?_ _ | refine zag ?_ | refine zaf ?_ _)); refine zat (cs := #[.string (⟨#[]⟩ : ByteArray), .string (⟨#[]⟩ : ByteArray), .int .i64 0, .int .i64 0, .int .i64 0, .int .i64 0, .int .i64 0]) ?_ 6 _ rfl; (with_reducible repeat (first | refine zae ?_ _ | refine zag ?_ | refine zaf ?_ _)); refine zat (cs := #[.string (⟨#[]⟩ : ByteArray), .string (⟨#[]⟩ : ByteArray), .int .i64 0, .int .i64 0, .int .i64 0, .int .i64 0, .int .i64 0]) ?_ 5 _ rfl; (with_reducible repeat (first | refine zae ?_ _ | refine zag ?_ | refine zaf ?_ _)); refine zat (cs := #[.string (⟨#[]⟩ : ByteArray), .string (⟨#[]⟩ : ByteArray), .int .i64 0, .int .i64 0, .int .i64 0, .int .i64 0, .int .i64 0]) ?_ 4 _ rfl; (with_reducible repeat (first | refine zae ?_ _ | refine zag ?_ | refine zaf ?_ _)); refine zat (cs := #[.string (⟨#[]⟩ : ByteArray), .string (⟨#[]⟩ : ByteArray), .int .i64 0, .int .i64 0, .int .i64 0, .int .i64 0, .int .i64 0]) ?_ 3 _ rfl; (with_reducible repeat (first | refine zae ?_ _ | refine zag ?_ | refine zaf ?_ _)); refine zat (cs := #[.string (⟨#[]⟩ : ByteArray), .string (⟨#[]⟩ : ByteArray), .int .i64 0, .int .i64 0, .int .i64 0, .int .i64 0, .int .i64 0]) ?_ 2 _ rfl; (with_reducible repeat (first | refine zae ?_ _ | refine zag ?_ | refine zaf ?_ _)); refine zat (cs := #[.string (⟨#[]⟩ : ByteArray), .string (⟨#[]⟩ : ByteArray), .int .i64 0, .int .i64 0, .int .i64 0, .int .i64 0, .int .i64 0]) ?_ 1 _ rfl; (with_reducible repeat (first | refine zae ?_ _ | refine zag ?_ | refine zaf ?_ _)); refine zat (cs := #[.string (⟨#[]⟩ : ByteArray), .string (⟨#[]⟩ : ByteArray), .int .i64 0, .int .i64 0, .int .i64 0, .int .i64 0, .int .i64 0]) ?_ 0 _ rfl; (with_reducible repeat (first | refine zae ?_ _ | refine zag ?_ | refine zaf ?_ _)); exact BK272.out⟩, ⟨by repeat (first | (with_reducible first | exact HB.out | apply zab | apply zaa | apply zac | refine zai ?_ GE271.out | refine zai ?_ GE272.out) | exact HB.out)⟩⟩
 case rest =>
  clear HC2
  try clear c1; try clear q1; try clear c2; try clear p2; try clear q2; try clear hx2; try clear qi2; try clear c5; try clear c7; try clear c7b0; try clear c7b1; try clear c8; try clear c8b0; try clear c8b1; try clear c9; try clear c9b0; try clear c9b1; try clear c10; try clear c10b0; try clear c11; try clear c11b0; try clear c11b1; try clear q12; try clear c13; try clear hcz6_0; try clear hcz6_1; try clear hcz6_2
  try clear hcz6_3; try clear hcz6_4; try clear hcz6_5; try clear hcz6_6; try clear hfz6_0; try clear hfz6_1; try clear hfz6_2; try clear hfz6_3; try clear hfz6_4; try clear hfz6_5; try clear hfz6_6; try clear hx273_0; try clear hx273_1; try clear hx274_0; try clear hx274_1; try clear hx275_0; try clear hx275_1; try clear p273; try clear p274; try clear p275; try clear q273; try clear q274; try clear q275
  obtain ⟨kq, x40_1, rfl, HA, HJ1, BK271, BK272, HB⟩ := hcut
  cases kq with
  | zero => exact absurd HA.out (by simp [ydg.j0])
  | succ kj1 =>
   have H := HA.out
   clear HA
   simp only [ydg.j0] at H
   by_cases c16 : x40_1 = true
   ·subst c16
    have H1 : (some ((⟨#[]⟩ : ByteArray), (⟨#[]⟩ : ByteArray), 0, 0, 0, 0, 0, false)) = some (r1, r2, r3, r4, r5, r6, r7, r8) := by rw [if_pos rfl] at H; exact H
    clear H
    have H := H1
    clear H1
    simp only [Option.some.injEq, Prod.mk.injEq] at H
    obtain ⟨rfl, rfl, rfl, rfl, rfl, rfl, rfl, rfl⟩ := H
    have hnb17 := NB272_271.out
    have hnc17 := NB271_272.out
    have hcz18_0 : wc.cell? ⟨gb272, 0, none⟩ = some (.string (⟨#[]⟩ : ByteArray)) := (zah BK272.out 0).trans rfl
    have hcz18_1 : wc.cell? ⟨gb272, 1, none⟩ = some (.string (⟨#[]⟩ : ByteArray)) := (zah BK272.out 1).trans rfl
    have hcz18_2 : wc.cell? ⟨gb272, 2, none⟩ = some (.int .i64 0) := (zah BK272.out 2).trans rfl
    have hcz18_3 : wc.cell? ⟨gb272, 3, none⟩ = some (.int .i64 0) := (zah BK272.out 3).trans rfl
    have hcz18_4 : wc.cell? ⟨gb272, 4, none⟩ = some (.int .i64 0) := (zah BK272.out 4).trans rfl
    have hcz18_5 : wc.cell? ⟨gb272, 5, none⟩ = some (.int .i64 0) := (zah BK272.out 5).trans rfl
    have hcz18_6 : wc.cell? ⟨gb272, 6, none⟩ = some (.int .i64 0) := (zah BK272.out 6).trans rfl
    have hfz18_0 := zad BK272.out 0
    have hfz18_1 := zad BK272.out 1
    have hfz18_2 := zad BK272.out 2
    have hfz18_3 := zad BK272.out 3
    have hfz18_4 := zad BK272.out 4
    have hfz18_5 := zad BK272.out 5
    have hfz18_6 := zad BK272.out 6
    have hcz19_0 : wc.cell? ⟨gb271, 0, none⟩ = some (.string (⟨#[]⟩ : ByteArray)) := (zah BK271.out 0).trans rfl
    have hcz19_1 : wc.cell? ⟨gb271, 1, none⟩ = some (.string (⟨#[]⟩ : ByteArray)) := (zah BK271.out 1).trans rfl
    have hcz19_2 : wc.cell? ⟨gb271, 2, none⟩ = some (.int .i64 0) := (zah BK271.out 2).trans rfl
    have hcz19_3 : wc.cell? ⟨gb271, 3, none⟩ = some (.int .i64 0) := (zah BK271.out 3).trans rfl
    have hcz19_4 : wc.cell? ⟨gb271, 4, none⟩ = some (.int .i64 0) := (zah BK271.out 4).trans rfl
    have hcz19_5 : wc.cell? ⟨gb271, 5, none⟩ = some (.int .i64 0) := (zah BK271.out 5).trans rfl
    have hcz19_6 : wc.cell? ⟨gb271, 6, none⟩ = some (.int .i64 0) := (zah BK271.out 6).trans rfl
    have hfz19_0 := zad BK271.out 0
    have hfz19_1 := zad BK271.out 1
    have hfz19_2 := zad BK271.out 2
    have hfz19_3 := zad BK271.out 3
    have hfz19_4 := zad BK271.out 4
    have hfz19_5 := zad BK271.out 5
    have hfz19_6 := zad BK271.out 6
    go_wp2
    repeat (go_quiet (fail); try go_wp2)
    refine bodyPost_ret (zcx rfl _ _ gb271 74 #[.string (⟨#[]⟩ : ByteArray), .string (⟨#[]⟩ : ByteArray), .int .i64 0, .int .i64 0, .int .i64 0, .int .i64 0, .int .i64 0] (0, 0) _ rfl (by (with_reducible repeat (first | refine zae ?_ _ | refine zag ?_ | refine zaf ?_ _)); refine zat (cs := #[.string (⟨#[]⟩ : ByteArray), .string (⟨#[]⟩ : ByteArray), .int .i64 0, .int .i64 0, .int .i64 0, .int .i64 0, .int .i64 0]) ?_ 6 _ rfl; (with_reducible repeat (first | refine zae ?_ _ | refine zag ?_ | refine zaf ?_ _)); refine zat (cs := #[.string (⟨#[]⟩ : ByteArray), .string (⟨#[]⟩ : ByteArray), .int .i64 0, .int .i64 0, .int .i64 0, .int .i64 0, .int .i64 0]) ?_ 5 _ rfl; (with_reducible repeat (first | refine zae ?_ _ | refine zag ?_ | refine zaf ?_ _)); refine zat (cs := #[.string (⟨#[]⟩ : ByteArray), .string (⟨#[]⟩ : ByteArray), .int .i64 0, .int .i64 0, .int .i64 0, .int .i64 0, .int .i64 0]) ?_ 4 _ rfl; (with_reducible repeat (first | refine zae ?_ _ | refine zag ?_ | refine zaf ?_ _)); refine zat (cs := #[.string (⟨#[]⟩ : ByteArray), .string (⟨#[]⟩ : ByteArray), .int .i64 0, .int .i64 0, .int .i64 0, .int .i64 0, .int .i64 0]) ?_ 3 _ rfl; (with_reducible repeat (first | refine zae ?_ _ | refine zag ?_ | refine zaf ?_ _)); refine zat (cs := #[.string (⟨#[]⟩ : ByteArray), .string (⟨#[]⟩ : ByteArray), .int .i64 0, .int .i64 0, .int .i64 0, .int .i64 0, .int .i64 0]) ?_ 2 _ rfl; (with_reducible repeat (first | refine zae ?_ _ | refine zag ?_ | refine zaf ?_ _)); refine zat (cs := #[.string (⟨#[]⟩ : ByteArray), .string (⟨#[]⟩ : ByteArray), .int .i64 0, .int .i64 0, .int .i64 0, .int .i64 0, .int .i64 0]) ?_ 1 _ rfl; (with_reducible repeat (first | refine zae ?_ _ | refine zag ?_ | refine zaf ?_ _)); refine zat (cs := #[.string (⟨#[]⟩ : ByteArray), .string (⟨#[]⟩ : ByteArray), .int .i64 0, .int .i64 0, .int .i64 0, .int .i64 0, .int .i64 0]) ?_ 0 _ rfl; (with_reducible repeat (first | refine zae ?_ _ | refine zag ?_ | refine zaf ?_ _)); exact BK271.out) Tryz.underlying74 rfl (by kernel_rfl)) rfl ?_
    exact ⟨by first | rfl | (simp [zal, zak] <;> rfl) | (simp [*, zal, zak] <;> rfl), by repeat (first | (with_reducible first | exact HB.out | apply zab | apply zaa | apply zac | refine zai ?_ GE271.out | refine zai ?_ GE272.out) | exact HB.out)⟩
   ·replace c16 := Bool.eq_false_iff.mpr c16
    subst c16
    have H1 : (if 1 < (l0.length : Int) then ((yep.f).bind fun t278 => (ydg.l0 kj1 l0 0 t278 2 ((zay l0 1).f0) (⟨#[]⟩ : ByteArray) 0 0 0 0 0)) else (none)) = some (r1, r2, r3, r4, r5, r6, r7, r8) := by rw [if_neg (show ¬ (false = true) by decide)] at H; exact H
    clear H
    have H := H1
    clear H1
    by_cases c20 : 1 < (l0.length : Int)
    ·rw [if_pos c20] at H
     have c20b0 : decide (1 < (l0.length : Int)) = true := decide_eq_true c20
     have c20b1 : decide (1 < l0.length) = true := decide_eq_true (by omega)
     clear c20
     replace H := Option.bind_eq_some_iff.mp H
     obtain ⟨t278, A210, H⟩ := H
     replace H : (ydg.l0 kj1 l0 0 t278 2 ((zay l0 1).f0) (⟨#[]⟩ : ByteArray) 0 0 0 0 0) = some (r1, r2, r3, r4, r5, r6, r7, r8) := H
     have A21 := Aside0.mk A210
     clear A210
     have H' := Aside0.mk H
     clear H
     have p277 : 0 ≤ (1 : Int) := (by omega)
     have q277 : 1 < (l0.length : Int) := of_decide_eq_true (by with_reducible assumption)
     obtain ⟨ad277, e277, hx277_0, hx277_1⟩ := zct HR0.out 1 p277 q277
     cases e277
     (try simp only [show (1 : Int).toNat = 1 from rfl, Nat.reduceMul, Nat.reduceEqDiff, Go.Addr.add, ↓reduceIte] at hx277_0)
     (try simp only [show (1 : Int).toNat = 1 from rfl, Nat.reduceMul, Nat.reduceEqDiff, Go.Addr.add, ↓reduceIte] at hx277_1)
     have qi277 : (1 < l0.length) = True := eq_true (by omega)
     (try rw [show ((1 : Int)).toNat = 1 from rfl] at hx277_0)
     (try rw [show 1 * 2 = 2 from rfl] at hx277_0)
     (try rw [show ((1 : Int)).toNat = 1 from rfl] at hx277_1)
     (try rw [show 1 * 2 = 2 from rfl] at hx277_1)
     replace hx277_0 := (HB.out.cell (World.block_lt_of_cell? w _ hx277_0)).trans hx277_0
     replace hx277_1 := (HB.out.cell (World.block_lt_of_cell? w _ hx277_1)).trans hx277_1
     replace p277 := eq_true p277
     replace q277 := eq_true q277
     have hnb22 := NB272_271.out
     have hnc22 := NB271_272.out
     have hcz23_0 : wc.cell? ⟨gb272, 0, none⟩ = some (.string (⟨#[]⟩ : ByteArray)) := (zah BK272.out 0).trans rfl
     have hcz23_1 : wc.cell? ⟨gb272, 1, none⟩ = some (.string (⟨#[]⟩ : ByteArray)) := (zah BK272.out 1).trans rfl
     have hcz23_2 : wc.cell? ⟨gb272, 2, none⟩ = some (.int .i64 0) := (zah BK272.out 2).trans rfl
     have hcz23_3 : wc.cell? ⟨gb272, 3, none⟩ = some (.int .i64 0) := (zah BK272.out 3).trans rfl
     have hcz23_4 : wc.cell? ⟨gb272, 4, none⟩ = some (.int .i64 0) := (zah BK272.out 4).trans rfl
     have hcz23_5 : wc.cell? ⟨gb272, 5, none⟩ = some (.int .i64 0) := (zah BK272.out 5).trans rfl
     have hcz23_6 : wc.cell? ⟨gb272, 6, none⟩ = some (.int .i64 0) := (zah BK272.out 6).trans rfl
     have hfz23_0 := zad BK272.out 0
     have hfz23_1 := zad BK272.out 1
     have hfz23_2 := zad BK272.out 2
     have hfz23_3 := zad BK272.out 3
     have hfz23_4 := zad BK272.out 4
     have hfz23_5 := zad BK272.out 5
     have hfz23_6 := zad BK272.out 6
     go_wp2_with ((go_at_call 59; (with_reducible refine (yep.calls  t278 _ A21.out).mono ?_); rintro e w24 ⟨v279, rfl, ho0, hb⟩; have n0_ := Aside0.mk (Kd.R_lower ho0 (zan (by repeat (first | (with_reducible first | exact HB.out | apply zab | apply zaa | apply zac | refine zai ?_ GE271.out | refine zai ?_ GE272.out) | exact HB.out)))); have n1_ := Aside0.mk (zau (g := gb271) (o := .cells #[.string (⟨#[]⟩ : ByteArray), .string (⟨#[]⟩ : ByteArray), .int .i64 0, .int .i64 0, .int .i64 0, .int .i64 0, .int .i64 0] 74 (0, 0)) (by (with_reducible repeat (first | refine zae ?_ _ | refine zag ?_ | refine zaf ?_ _)); refine zav ?_ NB271_272.out _; (with_reducible repeat (first | refine zae ?_ _ | refine zag ?_ | refine zaf ?_ _)); exact BK271.out) hb); have n2_ := Aside0.mk (zau (g := gb272) (o := .cells #[.string ((zay l0 1).f0), .string (⟨#[]⟩ : ByteArray), .int .i64 0, .int .i64 0, .int .i64 0, .int .i64 0, .int .i64 0] 74 (0, 0)) (by (with_reducible repeat (first | refine zae ?_ _ | refine zag ?_ | refine zaf ?_ _)); refine zat (cs := #[.string (⟨#[]⟩ : ByteArray), .string (⟨#[]⟩ : ByteArray), .int .i64 0, .int .i64 0, .int .i64 0, .int .i64 0, .int .i64 0]) ?_ 0 _ rfl; (with_reducible repeat (first | refine zae ?_ _ | refine zag ?_ | refine zaf ?_ _)); exact BK272.out) hb); have n3_ := Aside0.mk (zap (by repeat (first | (with_reducible first | exact HB.out | apply zab | apply zaa | apply zac | refine zai ?_ GE271.out | refine zai ?_ GE272.out) | exact HB.out)) hb); clear BK271; clear BK272; clear HB; have HO280 := n0_; have BK271 := n1_; have BK272 := n2_; have HB := n3_; clear n0_ n1_ n2_ n3_; (try clear hb); (try clear hb2); (try clear hk); (try clear hi); (try clear ho0)))
     repeat (go_quiet (fail); try go_wp2_with (fail))
     go_loopg [5, 7] kj1 (fun kq v5 v7 w' => ∃ (x5_2 : Int) (x7_2 : Int) (x272000_2 : ByteArray) (x272001_2 : ByteArray) (x272002_2 : Int) (x272003_2 : Int) (x272004_2 : Int) (x272005_2 : Int) (x272006_2 : Int) (x273000_2 : ByteArray) (x273001_2 : ByteArray) (x273002_2 : Int) (x273003_2 : Int) (x273004_2 : Int) (x273005_2 : Int) (x273006_2 : Int), v5 = .int .i64 x5_2 ∧ v7 = .int .i64 x7_2 ∧ Aside0 (ydg.l0 kq l0 x5_2 t278 x7_2 x273000_2 x273001_2 x273002_2 x273003_2 x273004_2 x273005_2 x273006_2 = some (r1, r2, r3, r4, r5, r6, r7, r8)) ∧ Aside0 (kq ≤ kj1) ∧ Aside0 (Kd.R Kd.string 9 w' w.heap.size (fun _ => True) v279 t278) ∧ Aside0 (w'.heap[gb271]? = some (.cells #[.string x272000_2, .string x272001_2, .int .i64 x272002_2, .int .i64 x272003_2, .int .i64 x272004_2, .int .i64 x272005_2, .int .i64 x272006_2] 74 (0, 0))) ∧ Aside0 (w'.heap[gb272]? = some (.cells #[.string x273000_2, .string x273001_2, .int .i64 x273002_2, .int .i64 x273003_2, .int .i64 x273004_2, .int .i64 x273005_2, .int .i64 x273006_2] 74 (0, 0))) ∧ Aside0 (Below w.heap.size w w'))
     case atStart => exact ⟨(0), (2), ((⟨#[]⟩ : ByteArray)), ((⟨#[]⟩ : ByteArray)), (0), (0), (0), (0), (0), ((zay l0 1).f0), ((⟨#[]⟩ : ByteArray)), (0), (0), (0), (0), (0), (by first | rfl | (simp; done) | (simp [*]; done)), (by first | rfl | (simp; done) | (simp [*]; done)), H', ⟨Nat.le_refl _⟩, ⟨by (with_reducible repeat (first | apply Kd.R_alloc | apply Kd.R_drewN | apply Kd.R_drew)); exact HO280.out⟩, ⟨by (with_reducible repeat (first | refine zae ?_ _ | refine zag ?_ | refine zaf ?_ _)); exact BK271.out⟩, ⟨by (with_reducible repeat (first | refine zae ?_ _ | refine zag ?_ | refine zaf ?_ _)); exact BK272.out⟩, ⟨by repeat (first | (with_reducible first | exact HB.out | apply zab | apply zaa | apply zac | refine zai ?_ GE271.out | refine zai ?_ GE272.out) | exact HB.out)⟩⟩
     case round =>
      clear H'
      try clear c1; try clear q1; try clear c2; try clear p2; try clear q2; try clear hx2; try clear qi2; try clear c5; try clear c7; try clear c7b0; try clear c7b1; try clear c8; try clear c8b0; try clear c8b1; try clear c9; try clear c9b0; try clear c9b1; try clear c10; try clear c10b0; try clear c11; try clear c11b0; try clear c11b1; try clear q12; try clear c13; try clear c16; try clear c17; try clear c20
      try clear c20b0; try clear c20b1; try clear c22; try clear hcz18_0; try clear hcz18_1; try clear hcz18_2; try clear hcz18_3; try clear hcz18_4; try clear hcz18_5; try clear hcz18_6; try clear hcz19_0; try clear hcz19_1; try clear hcz19_2; try clear hcz19_3; try clear hcz19_4; try clear hcz19_5; try clear hcz19_6; try clear hcz23_0; try clear hcz23_1; try clear hcz23_2; try clear hcz23_3; try clear hcz23_4
      try clear hcz23_5; try clear hcz23_6; try clear hcz6_0; try clear hcz6_1; try clear hcz6_2; try clear hcz6_3; try clear hcz6_4; try clear hcz6_5; try clear hcz6_6; try clear hfz18_0; try clear hfz18_1; try clear hfz18_2; try clear hfz18_3; try clear hfz18_4; try clear hfz18_5; try clear hfz18_6; try clear hfz19_0; try clear hfz19_1; try clear hfz19_2; try clear hfz19_3; try clear hfz19_4; try clear hfz19_5
      try clear hfz19_6; try clear hfz23_0; try clear hfz23_1; try clear hfz23_2; try clear hfz23_3; try clear hfz23_4; try clear hfz23_5; try clear hfz23_6; try clear hfz6_0; try clear hfz6_1; try clear hfz6_2; try clear hfz6_3; try clear hfz6_4; try clear hfz6_5; try clear hfz6_6; try clear hx273_0; try clear hx273_1; try clear hx274_0; try clear hx274_1; try clear hx275_0; try clear hx275_1; try clear hx277_0
      try clear hx277_1; try clear p2; try clear p273; try clear p274; try clear p275; try clear p277; try clear q1; try clear q12; try clear q2; try clear q273; try clear q274; try clear q275; try clear q277
      obtain ⟨x5_2, x7_2, x272000_2, x272001_2, x272002_2, x272003_2, x272004_2, x272005_2, x272006_2, x273000_2, x273001_2, x273002_2, x273003_2, x273004_2, x273005_2, x273006_2, rfl, rfl, HA, HK2, HO_6, BK271, BK272, HB⟩ := hrel
      cases gk with
      | zero => exact absurd HA.out (by simp [ydg.l0])
      | succ k2 =>
       have H := HA.out
       clear HA
       simp only [ydg.l0] at H
       by_cases c25 : x7_2 < (l0.length : Int)
       ·rw [if_pos c25] at H
        have c25b0 : decide (x7_2 < (l0.length : Int)) = true := decide_eq_true c25
        clear c25
        have HC26 := Aside0.mk H
        clear H
        go_upto_block 2 with (fail)
        repeat (go_quiet (fail); go_upto_block 2 with (fail))
        go_cut [8] (fun v8 wc => ∃ (kq : Nat) (x8_25 : Int), v8 = .int .i64 x8_25 ∧ Aside0 (ydg.j3 kq l0 t278 x7_2 x8_25 x273000_2 x273001_2 x273002_2 x273003_2 x273004_2 x273005_2 x273006_2 = some (r1, r2, r3, r4, r5, r6, r7, r8)) ∧ Aside0 (kq ≤ k2) ∧ Aside0 (Kd.R Kd.string 9 wc w.heap.size (fun _ => True) v279 t278) ∧ Aside0 (wc.heap[gb271]? = some (.cells #[.string x272000_2, .string x272001_2, .int .i64 x272002_2, .int .i64 x272003_2, .int .i64 x272004_2, .int .i64 x272005_2, .int .i64 x272006_2] 74 (0, 0))) ∧ Aside0 (wc.heap[gb272]? = some (.cells #[.string x273000_2, .string x273001_2, .int .i64 x273002_2, .int .i64 x273003_2, .int .i64 x273004_2, .int .i64 x273005_2, .int .i64 x273006_2] 74 (0, 0))) ∧ Aside0 (Below w.heap.size w wc))
        case first =>
         have H := HC26.out
         clear HC26
         have H' := Aside0.mk H
         clear H
         go_wp2
         repeat (go_quiet (fail); try go_wp2)
         go_loopg [8] k2 (fun kq v8 w' => ∃ (x8_3 : Int), v8 = .int .i64 x8_3 ∧ Aside0 (ydg.l1 kq l0 t278 x7_2 x8_3 x273000_2 x273001_2 x273002_2 x273003_2 x273004_2 x273005_2 x273006_2 = some (r1, r2, r3, r4, r5, r6, r7, r8)) ∧ Aside0 (kq ≤ k2) ∧ Aside0 (Kd.R Kd.string 9 w' w.heap.size (fun _ => True) v279 t278) ∧ Aside0 (w'.heap[gb271]? = some (.cells #[.string x272000_2, .string x272001_2, .int .i64 x272002_2, .int .i64 x272003_2, .int .i64 x272004_2, .int .i64 x272005_2, .int .i64 x272006_2] 74 (0, 0))) ∧ Aside0 (w'.heap[gb272]? = some (.cells #[.string x273000_2, .string x273001_2, .int .i64 x273002_2, .int .i64 x273003_2, .int .i64 x273004_2, .int .i64 x273005_2, .int .i64 x273006_2] 74 (0, 0))) ∧ Aside0 (Below w.heap.size w w'))
         case atStart => exact ⟨(x5_2), (by first | rfl | (simp; done) | (simp [*]; done)), H', ⟨Nat.le_refl _⟩, ⟨by (with_reducible repeat (first | apply Kd.R_alloc | apply Kd.R_drewN | apply Kd.R_drew)); exact HO_6.out⟩, ⟨by (with_reducible repeat (first | refine zae ?_ _ | refine zag ?_ | refine zaf ?_ _)); exact BK271.out⟩, ⟨by (with_reducible repeat (first | refine zae ?_ _ | refine zag ?_ | refine zaf ?_ _)); exact BK272.out⟩, ⟨by repeat (first | (with_reducible first | exact HB.out | apply zab | apply zaa | apply zac | refine zai ?_ GE271.out | refine zai ?_ GE272.out) | exact HB.out)⟩⟩
         case round =>
          clear H'
          try clear c1; try clear q1; try clear c2; try clear p2; try clear q2; try clear hx2; try clear qi2; try clear c5; try clear c7; try clear c7b0; try clear c7b1; try clear c8; try clear c8b0; try clear c8b1; try clear c9; try clear c9b0; try clear c9b1; try clear c10; try clear c10b0; try clear c11; try clear c11b0; try clear c11b1; try clear q12; try clear c13; try clear c16; try clear c17
          try clear c20; try clear c20b0; try clear c20b1; try clear c22; try clear c25; try clear c25b0; try clear hcz18_0; try clear hcz18_1; try clear hcz18_2; try clear hcz18_3; try clear hcz18_4; try clear hcz18_5; try clear hcz18_6; try clear hcz19_0; try clear hcz19_1; try clear hcz19_2; try clear hcz19_3; try clear hcz19_4; try clear hcz19_5; try clear hcz19_6; try clear hcz23_0; try clear hcz23_1
          try clear hcz23_2; try clear hcz23_3; try clear hcz23_4; try clear hcz23_5; try clear hcz23_6; try clear hcz6_0; try clear hcz6_1; try clear hcz6_2; try clear hcz6_3; try clear hcz6_4; try clear hcz6_5; try clear hcz6_6; try clear hfz18_0; try clear hfz18_1; try clear hfz18_2; try clear hfz18_3; try clear hfz18_4; try clear hfz18_5; try clear hfz18_6; try clear hfz19_0; try clear hfz19_1
          try clear hfz19_2; try clear hfz19_3; try clear hfz19_4; try clear hfz19_5; try clear hfz19_6; try clear hfz23_0; try clear hfz23_1; try clear hfz23_2; try clear hfz23_3; try clear hfz23_4; try clear hfz23_5; try clear hfz23_6; try clear hfz6_0; try clear hfz6_1; try clear hfz6_2; try clear hfz6_3; try clear hfz6_4; try clear hfz6_5; try clear hfz6_6; try clear hx273_0; try clear hx273_1
          try clear hx274_0; try clear hx274_1; try clear hx275_0; try clear hx275_1; try clear hx277_0; try clear hx277_1; try clear p2; try clear p273; try clear p274; try clear p275; try clear p277; try clear q1; try clear q12; try clear q2; try clear q273; try clear q274; try clear q275; try clear q277
          obtain ⟨x8_3, rfl, HA, HK3, HO_6, BK271, BK272, HB⟩ := hrel
          cases gk with
          | zero => exact absurd HA.out (by simp [ydg.l1])
          | succ k3 =>
           have H := HA.out
           clear HA
           simp only [ydg.l1] at H
           by_cases c27 : x8_3 < (t278.length : Int)
           ·rw [if_pos c27] at H
            have c27b0 : decide (x8_3 < (t278.length : Int)) = true := decide_eq_true c27
            clear c27
            (first | rw [c27b0] | (simp only [zbp, zch]; rw [c27b0]) | rw [c27b9] | skip)
            by_cases c28 : 0 ≤ x8_3
            ·rw [if_pos c28] at H
             have c28b0 : decide (0 ≤ x8_3) = true := decide_eq_true c28
             clear c28
             by_cases c29 : 0 ≤ x7_2
             ·rw [if_pos c29] at H
              have c29b0 : decide (0 ≤ x7_2) = true := decide_eq_true c29
              clear c29
              by_cases c30 : x7_2 < (l0.length : Int)
              ·rw [if_pos c30] at H
               have c30b0 : decide (x7_2 < (l0.length : Int)) = true := decide_eq_true c30
               clear c30
               by_cases c31 : (rdOf ByteArray.empty t278 x8_3).toList = ((zay l0 x7_2).f0).toList
               ·rw [if_pos c31] at H
                have c31b0 : ((rdOf ByteArray.empty t278 x8_3).toList == ((zay l0 x7_2).f0).toList) = true := beq_iff_eq.mpr c31
                have c31b1 : ((rdOf ByteArray.empty t278 x8_3).toList != ((zay l0 x7_2).f0).toList) = false := bne_eq_false_iff_eq.mpr c31
                clear c31
                obtain ⟨bq32, hbq32⟩ : ∃ b_ : Bool, b_ = ((zay l0 x7_2).f1) := ⟨_, rfl⟩
                replace H : (if bq32 = true then (ydg.l1 k3 l0 t278 x7_2 (wrap64 (x8_3 + 1)) x273000_2 x273001_2 x273002_2 x273003_2 x273004_2 x273005_2 x273006_2) else (ydg.j3 k3 l0 t278 x7_2 x8_3 x273000_2 x273001_2 x273002_2 x273003_2 x273004_2 x273005_2 x273006_2)) = some (r1, r2, r3, r4, r5, r6, r7, r8) := by rw [← hbq32] at H; exact H
                have Nbq32 := Aside0.mk hbq32
                clear hbq32
                by_cases c33 : bq32 = true
                ·subst c33
                 have H1 : (ydg.l1 k3 l0 t278 x7_2 (wrap64 (x8_3 + 1)) x273000_2 x273001_2 x273002_2 x273003_2 x273004_2 x273005_2 x273006_2) = some (r1, r2, r3, r4, r5, r6, r7, r8) := by rw [if_pos rfl] at H; exact H
                 clear H
                 have H := H1
                 clear H1
                 have H' := Aside0.mk H
                 clear H
                 obtain ⟨Ao34, co34, eo34⟩ := Kd.R_slice HO_6.out
                 subst eo34
                 have p281 : 0 ≤ (x8_3 : Int) := of_decide_eq_true (by with_reducible assumption)
                 have q281 : x8_3 < (t278.length : Int) := of_decide_eq_true (by with_reducible assumption)
                 obtain ⟨ad281, e281, hx281_0⟩ := Kd.at_string (Kd.R_reads' HO_6.out).2.2 x8_3 p281 q281
                 cases e281
                 replace p281 := eq_true p281
                 replace q281 := eq_true q281
                 have p282 : 0 ≤ (x7_2 : Int) := of_decide_eq_true (by with_reducible assumption)
                 have q282 : x7_2 < (l0.length : Int) := of_decide_eq_true (by with_reducible assumption)
                 obtain ⟨ad282, e282, hx282_0, hx282_1⟩ := zct HR0.out x7_2 p282 q282
                 (try rw [← Nbq32.out] at hx282_1)
                 obtain rfl : ad277 = ad282 := (by injection e282)
                 replace hx282_0 := (HB.out.cell (World.block_lt_of_cell? w _ hx282_0)).trans hx282_0
                 replace hx282_1 := (HB.out.cell (World.block_lt_of_cell? w _ hx282_1)).trans hx282_1
                 replace p282 := eq_true p282
                 replace q282 := eq_true q282
                 have p283 : 0 ≤ (x7_2 : Int) := of_decide_eq_true (by with_reducible assumption)
                 have q283 : x7_2 < (l0.length : Int) := of_decide_eq_true (by with_reducible assumption)
                 obtain ⟨ad283, e283, hx283_0, hx283_1⟩ := zct HR0.out x7_2 p283 q283
                 (try rw [← Nbq32.out] at hx283_1)
                 obtain rfl : ad277 = ad283 := (by injection e283)
                 replace hx283_0 := (HB.out.cell (World.block_lt_of_cell? w _ hx283_0)).trans hx283_0
                 replace hx283_1 := (HB.out.cell (World.block_lt_of_cell? w _ hx283_1)).trans hx283_1
                 replace p283 := eq_true p283
                 replace q283 := eq_true q283
                 go_wp2
                 repeat (go_quiet (fail); try go_wp2)
                 go_roundg k3
                 case measure => have := HJ1.out; have := HK2.out; have := HK3.out; omega
                 case rel => exact ⟨(wrap64 (x8_3 + 1)), (by first | rfl | (simp; done) | (simp [*]; done)), H', ⟨by have := HJ1.out; have := HK2.out; have := HK3.out; omega⟩, ⟨by (with_reducible repeat (first | apply Kd.R_alloc | apply Kd.R_drewN | apply Kd.R_drew)); exact HO_6.out⟩, ⟨by (with_reducible repeat (first | refine zae ?_ _ | refine zag ?_ | refine zaf ?_ _)); exact BK271.out⟩, ⟨by (with_reducible repeat (first | refine zae ?_ _ | refine zag ?_ | refine zaf ?_ _)); exact BK272.out⟩, ⟨by repeat (first | (with_reducible first | exact HB.out | apply zab | apply zaa | apply zac | refine zai ?_ GE271.out | refine zai ?_ GE272.out) | exact HB.out)⟩⟩
                ·replace c33 := Bool.eq_false_iff.mpr c33
                 subst c33
                 have H1 : (ydg.j3 k3 l0 t278 x7_2 x8_3 x273000_2 x273001_2 x273002_2 x273003_2 x273004_2 x273005_2 x273006_2) = some (r1, r2, r3, r4, r5, r6, r7, r8) := by rw [if_neg (show ¬ (false = true) by decide)] at H; exact H
                 clear H
                 have H := H1
                 clear H1
                 have H' := Aside0.mk H
                 clear H
                 obtain ⟨Ao35, co35, eo35⟩ := Kd.R_slice HO_6.out
                 subst eo35
                 have p281 : 0 ≤ (x8_3 : Int) := of_decide_eq_true (by with_reducible assumption)
                 have q281 : x8_3 < (t278.length : Int) := of_decide_eq_true (by with_reducible assumption)
                 obtain ⟨ad281, e281, hx281_0⟩ := Kd.at_string (Kd.R_reads' HO_6.out).2.2 x8_3 p281 q281
                 cases e281
                 replace p281 := eq_true p281
                 replace q281 := eq_true q281
                 have p282 : 0 ≤ (x7_2 : Int) := of_decide_eq_true (by with_reducible assumption)
                 have q282 : x7_2 < (l0.length : Int) := of_decide_eq_true (by with_reducible assumption)
                 obtain ⟨ad282, e282, hx282_0, hx282_1⟩ := zct HR0.out x7_2 p282 q282
                 (try rw [← Nbq32.out] at hx282_1)
                 obtain rfl : ad277 = ad282 := (by injection e282)
                 replace hx282_0 := (HB.out.cell (World.block_lt_of_cell? w _ hx282_0)).trans hx282_0
                 replace hx282_1 := (HB.out.cell (World.block_lt_of_cell? w _ hx282_1)).trans hx282_1
                 replace p282 := eq_true p282
                 replace q282 := eq_true q282
                 have p283 : 0 ≤ (x7_2 : Int) := of_decide_eq_true (by with_reducible assumption)
                 have q283 : x7_2 < (l0.length : Int) := of_decide_eq_true (by with_reducible assumption)
                 obtain ⟨ad283, e283, hx283_0, hx283_1⟩ := zct HR0.out x7_2 p283 q283
                 (try rw [← Nbq32.out] at hx283_1)
                 obtain rfl : ad277 = ad283 := (by injection e283)
                 replace hx283_0 := (HB.out.cell (World.block_lt_of_cell? w _ hx283_0)).trans hx283_0
                 replace hx283_1 := (HB.out.cell (World.block_lt_of_cell? w _ hx283_1)).trans hx283_1
                 replace p283 := eq_true p283
                 replace q283 := eq_true q283
                 go_wp2
                 repeat (go_quiet (fail); try go_wp2)
                 go_meet
                 case rel => exact ⟨_, (x8_3), (by first | rfl | (simp; done) | (simp [*]; done)), H', ⟨by have := HJ1.out; have := HK2.out; have := HK3.out; first | omega | exact Nat.le_refl _⟩, ⟨by (with_reducible repeat (first | apply Kd.R_alloc | apply Kd.R_drewN | apply Kd.R_drew)); exact HO_6.out⟩, ⟨by (with_reducible repeat (first | refine zae ?_ _ | refine zag ?_ | refine zaf ?_ _)); exact BK271.out⟩, ⟨by (with_reducible repeat (first | refine zae ?_ _ | refine zag ?_ | refine zaf ?_ _)); exact BK272.out⟩, ⟨by repeat (first | (with_reducible first | exact HB.out | apply zab | apply zaa | apply zac | refine zai ?_ GE271.out | refine zai ?_ GE272.out) | exact HB.out)⟩⟩
               ·rw [if_neg c31] at H
                have c31b0 : ((rdOf ByteArray.empty t278 x8_3).toList == ((zay l0 x7_2).f0).toList) = false := beq_eq_false_iff_ne.mpr c31
                have c31b1 : ((rdOf ByteArray.empty t278 x8_3).toList != ((zay l0 x7_2).f0).toList) = true := bne_iff_ne.mpr c31
                have H' := Aside0.mk H
                clear H
                obtain ⟨Ao36, co36, eo36⟩ := Kd.R_slice HO_6.out
                subst eo36
                have p281 : 0 ≤ (x8_3 : Int) := of_decide_eq_true (by with_reducible assumption)
                have q281 : x8_3 < (t278.length : Int) := of_decide_eq_true (by with_reducible assumption)
                obtain ⟨ad281, e281, hx281_0⟩ := Kd.at_string (Kd.R_reads' HO_6.out).2.2 x8_3 p281 q281
                cases e281
                replace p281 := eq_true p281
                replace q281 := eq_true q281
                have p282 : 0 ≤ (x7_2 : Int) := of_decide_eq_true (by with_reducible assumption)
                have q282 : x7_2 < (l0.length : Int) := of_decide_eq_true (by with_reducible assumption)
                obtain ⟨ad282, e282, hx282_0, hx282_1⟩ := zct HR0.out x7_2 p282 q282
                obtain rfl : ad277 = ad282 := (by injection e282)
                replace hx282_0 := (HB.out.cell (World.block_lt_of_cell? w _ hx282_0)).trans hx282_0
                replace hx282_1 := (HB.out.cell (World.block_lt_of_cell? w _ hx282_1)).trans hx282_1
                replace p282 := eq_true p282
                replace q282 := eq_true q282
                go_wp2
                repeat (go_quiet (fail); try go_wp2)
                go_roundg k3
                case measure => have := HJ1.out; have := HK2.out; have := HK3.out; omega
                case rel => exact ⟨(wrap64 (x8_3 + 1)), (by first | rfl | (simp; done) | (simp [*]; done)), H', ⟨by have := HJ1.out; have := HK2.out; have := HK3.out; omega⟩, ⟨by (with_reducible repeat (first | apply Kd.R_alloc | apply Kd.R_drewN | apply Kd.R_drew)); exact HO_6.out⟩, ⟨by (with_reducible repeat (first | refine zae ?_ _ | refine zag ?_ | refine zaf ?_ _)); exact BK271.out⟩, ⟨by (with_reducible repeat (first | refine zae ?_ _ | refine zag ?_ | refine zaf ?_ _)); exact BK272.out⟩, ⟨by repeat (first | (with_reducible first | exact HB.out | apply zab | apply zaa | apply zac | refine zai ?_ GE271.out | refine zai ?_ GE272.out) | exact HB.out)⟩⟩
              ·rw [if_neg c30] at H
               exact absurd H (by simp)
             ·rw [if_neg c29] at H
              exact absurd H (by simp)
            ·rw [if_neg c28] at H
             exact absurd H (by simp)
           ·rw [if_neg c27] at H
            have c27b0 : decide (x8_3 < (t278.length : Int)) = false := decide_eq_false c27
            clear c27
            (first | rw [c27b0] | (simp only [zbp, zch]; rw [c27b0]) | rw [c27b9] | skip)
            have H' := Aside0.mk H
            clear H
            obtain ⟨Ao37, co37, eo37⟩ := Kd.R_slice HO_6.out
            subst eo37
            go_wp2
            repeat (go_quiet (fail); try go_wp2)
            go_meet
            case rel => exact ⟨_, (x8_3), (by first | rfl | (simp; done) | (simp [*]; done)), H', ⟨by have := HJ1.out; have := HK2.out; have := HK3.out; first | omega | exact Nat.le_refl _⟩, ⟨by (with_reducible repeat (first | apply Kd.R_alloc | apply Kd.R_drewN | apply Kd.R_drew)); exact HO_6.out⟩, ⟨by (with_reducible repeat (first | refine zae ?_ _ | refine zag ?_ | refine zaf ?_ _)); exact BK271.out⟩, ⟨by (with_reducible repeat (first | refine zae ?_ _ | refine zag ?_ | refine zaf ?_ _)); exact BK272.out⟩, ⟨by repeat (first | (with_reducible first | exact HB.out | apply zab | apply zaa | apply zac | refine zai ?_ GE271.out | refine zai ?_ GE272.out) | exact HB.out)⟩⟩
        case rest =>
         clear HC26
         try clear c1; try clear q1; try clear c2; try clear p2; try clear q2; try clear hx2; try clear qi2; try clear c3; try clear q3; try clear c5; try clear p6; try clear c7; try clear c7b0; try clear c7b1; try clear c8; try clear c8b0; try clear c8b1; try clear c9; try clear c9b0; try clear c9b1; try clear c10; try clear c10b0; try clear c11; try clear c11b0; try clear c11b1; try clear q12; try clear c13
         try clear c16; try clear c17; try clear c20; try clear c20b0; try clear c20b1; try clear c22; try clear c25; try clear c25b0; try clear c27; try clear c27b0; try clear p27; try clear q27; try clear hx27; try clear qi27; try clear c28; try clear c28b0; try clear p28; try clear q28; try clear hx28; try clear c29; try clear c29b0; try clear c30; try clear c30b0; try clear c31; try clear c31b0
         try clear c31b1; try clear q32; try clear c33; try clear hcz18_0; try clear hcz18_1; try clear hcz18_2; try clear hcz18_3; try clear hcz18_4; try clear hcz18_5; try clear hcz18_6; try clear hcz19_0; try clear hcz19_1; try clear hcz19_2; try clear hcz19_3; try clear hcz19_4; try clear hcz19_5; try clear hcz19_6; try clear hcz23_0; try clear hcz23_1; try clear hcz23_2; try clear hcz23_3; try clear hcz23_4
         try clear hcz23_5; try clear hcz23_6; try clear hcz6_0; try clear hcz6_1; try clear hcz6_2; try clear hcz6_3; try clear hcz6_4; try clear hcz6_5; try clear hcz6_6; try clear hfz18_0; try clear hfz18_1; try clear hfz18_2; try clear hfz18_3; try clear hfz18_4; try clear hfz18_5; try clear hfz18_6; try clear hfz19_0; try clear hfz19_1; try clear hfz19_2; try clear hfz19_3; try clear hfz19_4; try clear hfz19_5
         try clear hfz19_6; try clear hfz23_0; try clear hfz23_1; try clear hfz23_2; try clear hfz23_3; try clear hfz23_4; try clear hfz23_5; try clear hfz23_6; try clear hfz6_0; try clear hfz6_1; try clear hfz6_2; try clear hfz6_3; try clear hfz6_4; try clear hfz6_5; try clear hfz6_6; try clear hx273_0; try clear hx273_1; try clear hx274_0; try clear hx274_1; try clear hx275_0; try clear hx275_1; try clear hx277_0
         try clear hx277_1; try clear hx281_0; try clear hx282_0; try clear hx282_1; try clear hx283_0; try clear hx283_1; try clear p2; try clear p273; try clear p274; try clear p275; try clear p277; try clear p281; try clear p282; try clear p283; try clear q1; try clear q12; try clear q2; try clear q273; try clear q274; try clear q275; try clear q277; try clear q281; try clear q282; try clear q283
         obtain ⟨kq, x8_25, rfl, HA, HJ25, HO_6, BK271, BK272, HB⟩ := hcut
         cases kq with
         | zero => exact absurd HA.out (by simp [ydg.j3])
         | succ kj25 =>
          have H := HA.out
          clear HA
          simp only [ydg.j3] at H
          have HC38 := Aside0.mk H
          clear H
          go_upto_region 13 with (fail)
          repeat (go_quiet (fail); go_upto_region 13 with (fail))
          go_cut [94] (fun v94 wc => ∃ (kq : Nat) (x94_37 : Bool), v94 = .bool x94_37 ∧ Aside0 (ydg.j4 kq l0 t278 x7_2 x8_25 x94_37 x273000_2 x273001_2 x273002_2 x273003_2 x273004_2 x273005_2 x273006_2 = some (r1, r2, r3, r4, r5, r6, r7, r8)) ∧ Aside0 (kq ≤ kj25) ∧ Aside0 (Kd.R Kd.string 9 wc w.heap.size (fun _ => True) v279 t278) ∧ Aside0 (wc.heap[gb271]? = some (.cells #[.string x272000_2, .string x272001_2, .int .i64 x272002_2, .int .i64 x272003_2, .int .i64 x272004_2, .int .i64 x272005_2, .int .i64 x272006_2] 74 (0, 0))) ∧ Aside0 (wc.heap[gb272]? = some (.cells #[.string x273000_2, .string x273001_2, .int .i64 x273002_2, .int .i64 x273003_2, .int .i64 x273004_2, .int .i64 x273005_2, .int .i64 x273006_2] 74 (0, 0))) ∧ Aside0 (Below w.heap.size w wc))
          case first =>
           have H := HC38.out
           clear HC38
           by_cases c39 : x8_25 = (t278.length : Int)
           ·rw [if_pos c39] at H
            have c39b0 : (x8_25 == (t278.length : Int)) = true := beq_iff_eq.mpr c39
            have c39b1 : (x8_25 != (t278.length : Int)) = false := bne_eq_false_iff_eq.mpr c39
            clear c39
            (first | rw [c39b0] | (simp only [zbp, zch]; rw [c39b0]) | rw [c39b9] | skip)
            have H' := Aside0.mk H
            clear H
            obtain ⟨Ao40, co40, eo40⟩ := Kd.R_slice HO_6.out
            subst eo40
            go_wp2
            repeat (go_quiet (fail); try go_wp2)
            go_meet
            case rel => exact ⟨_, (true), (by first | rfl | (simp; done) | (simp [*]; done)), H', ⟨by have := HJ1.out; have := HK2.out; have := HJ25.out; first | omega | exact Nat.le_refl _⟩, ⟨by (with_reducible repeat (first | apply Kd.R_alloc | apply Kd.R_drewN | apply Kd.R_drew)); exact HO_6.out⟩, ⟨by (with_reducible repeat (first | refine zae ?_ _ | refine zag ?_ | refine zaf ?_ _)); exact BK271.out⟩, ⟨by (with_reducible repeat (first | refine zae ?_ _ | refine zag ?_ | refine zaf ?_ _)); exact BK272.out⟩, ⟨by repeat (first | (with_reducible first | exact HB.out | apply zab | apply zaa | apply zac | refine zai ?_ GE271.out | refine zai ?_ GE272.out) | exact HB.out)⟩⟩
           ·rw [if_neg c39] at H
            have c39b0 : (x8_25 == (t278.length : Int)) = false := beq_eq_false_iff_ne.mpr c39
            have c39b1 : (x8_25 != (t278.length : Int)) = true := bne_iff_ne.mpr c39
            (first | rw [c39b0] | (simp only [zbp, zch]; rw [c39b0]) | rw [c39b9] | skip)
            obtain ⟨ji41, hji41⟩ : ∃ j_ : Int, (wrap64 (x7_2 + 1)) = j_ := ⟨_, rfl⟩
            replace H : (if 0 ≤ (ji41) then (if (ji41) < (l0.length : Int) then (ydg.j4 kj25 l0 t278 x7_2 x8_25 ((x8_25 == 0) != ((zay l0 (ji41)).f1)) x273000_2 x273001_2 x273002_2 x273003_2 x273004_2 x273005_2 x273006_2) else (none)) else (none)) = some (r1, r2, r3, r4, r5, r6, r7, r8) := by first | (rw [hji41] at H; exact H) | (simp only [hji41] at H ⊢; exact H)
            have hji41w : (IntKind.i64.wrap (x7_2 + 1)) = ji41 := (zbp _).trans hji41
            by_cases c42 : 0 ≤ (ji41)
            ·rw [if_pos c42] at H
             have c42b0 : decide (0 ≤ (ji41)) = true := decide_eq_true c42
             clear c42
             by_cases c43 : (ji41) < (l0.length : Int)
             ·rw [if_pos c43] at H
              have c43b0 : decide ((ji41) < (l0.length : Int)) = true := decide_eq_true c43
              clear c43
              have H' := Aside0.mk H
              clear H
              obtain ⟨Ao44, co44, eo44⟩ := Kd.R_slice HO_6.out
              subst eo44
              have p284 : 0 ≤ ((ji41) : Int) := of_decide_eq_true (by with_reducible assumption)
              have q284 : (ji41) < (l0.length : Int) := of_decide_eq_true (by with_reducible assumption)
              obtain ⟨ad284, e284, hx284_0, hx284_1⟩ := zct HR0.out (ji41) p284 q284
              obtain rfl : ad277 = ad284 := (by injection e284)
              replace hx284_0 := (HB.out.cell (World.block_lt_of_cell? w _ hx284_0)).trans hx284_0
              replace hx284_1 := (HB.out.cell (World.block_lt_of_cell? w _ hx284_1)).trans hx284_1
              replace p284 := eq_true p284
              replace q284 := eq_true q284
              go_wp2
              repeat (go_quiet (fail); try go_wp2)
              go_meet
              case rel => exact ⟨_, (((x8_25 == 0) != ((zay l0 (ji41)).f1))), (by first | rfl | (simp; done) | (simp only [← hji41] <;> (first | rfl | simp)) | (simp [*]; done)), H', ⟨by have := HJ1.out; have := HK2.out; have := HJ25.out; first | omega | exact Nat.le_refl _⟩, ⟨by (with_reducible repeat (first | apply Kd.R_alloc | apply Kd.R_drewN | apply Kd.R_drew)); exact HO_6.out⟩, ⟨by (with_reducible repeat (first | refine zae ?_ _ | refine zag ?_ | refine zaf ?_ _)); exact BK271.out⟩, ⟨by (with_reducible repeat (first | refine zae ?_ _ | refine zag ?_ | refine zaf ?_ _)); exact BK272.out⟩, ⟨by repeat (first | (with_reducible first | exact HB.out | apply zab | apply zaa | apply zac | refine zai ?_ GE271.out | refine zai ?_ GE272.out) | exact HB.out)⟩⟩
             ·rw [if_neg c43] at H
              exact absurd H (by simp)
            ·rw [if_neg c42] at H
             exact absurd H (by simp)
          case rest =>
           clear HC38
           try clear c1; try clear q1; try clear c2; try clear p2; try clear q2; try clear hx2; try clear qi2; try clear c3; try clear q3; try clear c4; try clear c5; try clear p6; try clear c7; try clear c7b0; try clear c7b1; try clear c8; try clear c8b0; try clear c8b1; try clear c9; try clear c9b0; try clear c9b1; try clear c10; try clear c10b0; try clear c11; try clear c11b0; try clear c11b1; try clear q12
           try clear c13; try clear c16; try clear c17; try clear c20; try clear c20b0; try clear c20b1; try clear c22; try clear c25; try clear c25b0; try clear c27; try clear c27b0; try clear p27; try clear q27; try clear hx27; try clear qi27; try clear c28; try clear c28b0; try clear p28; try clear q28; try clear hx28; try clear c29; try clear c29b0; try clear c30; try clear c30b0; try clear c31
           try clear c31b0; try clear c31b1; try clear q32; try clear c33; try clear c39; try clear c39b0; try clear c39b1; try clear c42; try clear c42b0; try clear c43; try clear c43b0; try clear hcz18_0; try clear hcz18_1; try clear hcz18_2; try clear hcz18_3; try clear hcz18_4; try clear hcz18_5; try clear hcz18_6; try clear hcz19_0; try clear hcz19_1; try clear hcz19_2; try clear hcz19_3; try clear hcz19_4
           try clear hcz19_5; try clear hcz19_6; try clear hcz23_0; try clear hcz23_1; try clear hcz23_2; try clear hcz23_3; try clear hcz23_4; try clear hcz23_5; try clear hcz23_6; try clear hcz6_0; try clear hcz6_1; try clear hcz6_2; try clear hcz6_3; try clear hcz6_4; try clear hcz6_5; try clear hcz6_6; try clear hfz18_0; try clear hfz18_1; try clear hfz18_2; try clear hfz18_3; try clear hfz18_4
           try clear hfz18_5; try clear hfz18_6; try clear hfz19_0; try clear hfz19_1; try clear hfz19_2; try clear hfz19_3; try clear hfz19_4; try clear hfz19_5; try clear hfz19_6; try clear hfz23_0; try clear hfz23_1; try clear hfz23_2; try clear hfz23_3; try clear hfz23_4; try clear hfz23_5; try clear hfz23_6; try clear hfz6_0; try clear hfz6_1; try clear hfz6_2; try clear hfz6_3; try clear hfz6_4
           try clear hfz6_5; try clear hfz6_6; try clear hx273_0; try clear hx273_1; try clear hx274_0; try clear hx274_1; try clear hx275_0; try clear hx275_1; try clear hx277_0; try clear hx277_1; try clear hx281_0; try clear hx282_0; try clear hx282_1; try clear hx283_0; try clear hx283_1; try clear hx284_0; try clear hx284_1; try clear p2; try clear p27; try clear p273; try clear p274; try clear p275
           try clear p277; try clear p28; try clear p281; try clear p282; try clear p283; try clear p284; try clear p6; try clear q1; try clear q12; try clear q2; try clear q27; try clear q273; try clear q274; try clear q275; try clear q277; try clear q28; try clear q281; try clear q282; try clear q283; try clear q284; try clear q3; try clear q32
           obtain ⟨kq, x94_37, rfl, HA, HJ37, HO_6, BK271, BK272, HB⟩ := hcut
           cases kq with
           | zero => exact absurd HA.out (by simp [ydg.j4])
           | succ kj37 =>
            have H := HA.out
            clear HA
            simp only [ydg.j4] at H
            by_cases c45 : x94_37 = true
            ·subst c45
             have H1 : (some (x273000_2, x273001_2, x273002_2, x273003_2, x273004_2, x273005_2, x273006_2, false)) = some (r1, r2, r3, r4, r5, r6, r7, r8) := by rw [if_pos rfl] at H; exact H
             clear H
             have H := H1
             clear H1
             simp only [Option.some.injEq, Prod.mk.injEq] at H
             obtain ⟨rfl, rfl, rfl, rfl, rfl, rfl, rfl, rfl⟩ := H
             have hnb46 := NB272_271.out
             have hnc46 := NB271_272.out
             have hcz47_0 : wc.cell? ⟨gb272, 0, none⟩ = some (.string x273000_2) := (zah BK272.out 0).trans rfl
             have hcz47_1 : wc.cell? ⟨gb272, 1, none⟩ = some (.string x273001_2) := (zah BK272.out 1).trans rfl
             have hcz47_2 : wc.cell? ⟨gb272, 2, none⟩ = some (.int .i64 x273002_2) := (zah BK272.out 2).trans rfl
             have hcz47_3 : wc.cell? ⟨gb272, 3, none⟩ = some (.int .i64 x273003_2) := (zah BK272.out 3).trans rfl
             have hcz47_4 : wc.cell? ⟨gb272, 4, none⟩ = some (.int .i64 x273004_2) := (zah BK272.out 4).trans rfl
             have hcz47_5 : wc.cell? ⟨gb272, 5, none⟩ = some (.int .i64 x273005_2) := (zah BK272.out 5).trans rfl
             have hcz47_6 : wc.cell? ⟨gb272, 6, none⟩ = some (.int .i64 x273006_2) := (zah BK272.out 6).trans rfl
             have hfz47_0 := zad BK272.out 0
             have hfz47_1 := zad BK272.out 1
             have hfz47_2 := zad BK272.out 2
             have hfz47_3 := zad BK272.out 3
             have hfz47_4 := zad BK272.out 4
             have hfz47_5 := zad BK272.out 5
             have hfz47_6 := zad BK272.out 6
             have hcz48_0 : wc.cell? ⟨gb271, 0, none⟩ = some (.string x272000_2) := (zah BK271.out 0).trans rfl
             have hcz48_1 : wc.cell? ⟨gb271, 1, none⟩ = some (.string x272001_2) := (zah BK271.out 1).trans rfl
             have hcz48_2 : wc.cell? ⟨gb271, 2, none⟩ = some (.int .i64 x272002_2) := (zah BK271.out 2).trans rfl
             have hcz48_3 : wc.cell? ⟨gb271, 3, none⟩ = some (.int .i64 x272003_2) := (zah BK271.out 3).trans rfl
             have hcz48_4 : wc.cell? ⟨gb271, 4, none⟩ = some (.int .i64 x272004_2) := (zah BK271.out 4).trans rfl
             have hcz48_5 : wc.cell? ⟨gb271, 5, none⟩ = some (.int .i64 x272005_2) := (zah BK271.out 5).trans rfl
             have hcz48_6 : wc.cell? ⟨gb271, 6, none⟩ = some (.int .i64 x272006_2) := (zah BK271.out 6).trans rfl
             have hfz48_0 := zad BK271.out 0
             have hfz48_1 := zad BK271.out 1
             have hfz48_2 := zad BK271.out 2
             have hfz48_3 := zad BK271.out 3
             have hfz48_4 := zad BK271.out 4
             have hfz48_5 := zad BK271.out 5
             have hfz48_6 := zad BK271.out 6
             go_wp2
             repeat (go_quiet (fail); try go_wp2)
             refine bodyPost_ret (zcx rfl _ _ gb271 74 #[.string x273000_2, .string x273001_2, .int .i64 x273002_2, .int .i64 x273003_2, .int .i64 x273004_2, .int .i64 x273005_2, .int .i64 x273006_2] (0, 0) _ rfl (by (with_reducible repeat (first | refine zae ?_ _ | refine zag ?_ | refine zaf ?_ _)); refine zat (cs := #[.string x273000_2, .string x273001_2, .int .i64 x273002_2, .int .i64 x273003_2, .int .i64 x273004_2, .int .i64 x273005_2, .int .i64 x272006_2]) ?_ 6 _ rfl; (with_reducible repeat (first | refine zae ?_ _ | refine zag ?_ | refine zaf ?_ _)); refine zat (cs := #[.string x273000_2, .string x273001_2, .int .i64 x273002_2, .int .i64 x273003_2, .int .i64 x273004_2, .int .i64 x272005_2, .int .i64 x272006_2]) ?_ 5 _ rfl; (with_reducible repeat (first | refine zae ?_ _ | refine zag ?_ | refine zaf ?_ _)); refine zat (cs := #[.string x273000_2, .string x273001_2, .int .i64 x273002_2, .int .i64 x273003_2, .int .i64 x272004_2, .int .i64 x272005_2, .int .i64 x272006_2]) ?_ 4 _ rfl; (with_reducible repeat (first | refine zae ?_ _ | refine zag ?_ | refine zaf ?_ _)); refine zat (cs := #[.string x273000_2, .string x273001_2, .int .i64 x273002_2, .int .i64 x272003_2, .int .i64 x272004_2, .int .i64 x272005_2, .int .i64 x272006_2]) ?_ 3 _ rfl; (with_reducible repeat (first | refine zae ?_ _ | refine zag ?_ | refine zaf ?_ _)); refine zat (cs := #[.string x273000_2, .string x273001_2, .int .i64 x272002_2, .int .i64 x272003_2, .int .i64 x272004_2, .int .i64 x272005_2, .int .i64 x272006_2]) ?_ 2 _ rfl; (with_reducible repeat (first | refine zae ?_ _ | refine zag ?_ | refine zaf ?_ _)); refine zat (cs := #[.string x273000_2, .string x272001_2, .int .i64 x272002_2, .int .i64 x272003_2, .int .i64 x272004_2, .int .i64 x272005_2, .int .i64 x272006_2]) ?_ 1 _ rfl; (with_reducible repeat (first | refine zae ?_ _ | refine zag ?_ | refine zaf ?_ _)); refine zat (cs := #[.string x272000_2, .string x272001_2, .int .i64 x272002_2, .int .i64 x272003_2, .int .i64 x272004_2, .int .i64 x272005_2, .int .i64 x272006_2]) ?_ 0 _ rfl; (with_reducible repeat (first | refine zae ?_ _ | refine zag ?_ | refine zaf ?_ _)); exact BK271.out) Tryz.underlying74 rfl (by kernel_rfl)) rfl ?_
             exact ⟨by first | rfl | (simp [zal, zak] <;> rfl) | (simp [*, zal, zak] <;> rfl), by repeat (first | (with_reducible first | exact HB.out | apply zab | apply zaa | apply zac | refine zai ?_ GE271.out | refine zai ?_ GE272.out) | exact HB.out)⟩
            ·replace c45 := Bool.eq_false_iff.mpr c45
             subst c45
             have H1 : (if x8_25 = 0 then (if 0 ≤ (wrap64 (x7_2 + 1)) then (if (wrap64 (x7_2 + 1)) < (l0.length : Int) then (ydg.l0 kj37 l0 (wrap64 (x8_25 + 1)) t278 (wrap64 (x7_2 + 2)) x273000_2 ((zay l0 (wrap64 (x7_2 + 1))).f0) x273002_2 x273003_2 x273004_2 x273005_2 x273006_2) else (none)) else (none)) else (if 0 ≤ (wrap64 (x7_2 + 1)) then (if (wrap64 (x7_2 + 1)) < (l0.length : Int) then ((ydp.f kj37 ((zay l0 (wrap64 (x7_2 + 1))).f0)).bind fun t287 => (if t287 < 0 then (some (x273000_2, x273001_2, x273002_2, x273003_2, x273004_2, x273005_2, x273006_2, false)) else ((yeg.f x273000_2 x273001_2 x273002_2 x273003_2 x273004_2 x273005_2 x273006_2 x8_25 t287).bind fun bt288 => (ydg.l0 kj37 l0 (wrap64 (x8_25 + 1)) t278 (wrap64 (x7_2 + 2)) bt288.1 bt288.2.1 bt288.2.2.1 bt288.2.2.2.1 bt288.2.2.2.2.1 bt288.2.2.2.2.2.1 bt288.2.2.2.2.2.2)))) else (none)) else (none))) = some (r1, r2, r3, r4, r5, r6, r7, r8) := by rw [if_neg (show ¬ (false = true) by decide)] at H; exact H
             clear H
             have H := H1
             clear H1
             by_cases c49 : x8_25 = 0
             ·rw [if_pos c49] at H
              have c49b0 : (x8_25 == 0) = true := beq_iff_eq.mpr c49
              have c49b1 : (x8_25 != 0) = false := bne_eq_false_iff_eq.mpr c49
              clear c49
              obtain ⟨ji50, hji50⟩ : ∃ j_ : Int, (wrap64 (x7_2 + 1)) = j_ := ⟨_, rfl⟩
              replace H : (if 0 ≤ (ji50) then (if (ji50) < (l0.length : Int) then (ydg.l0 kj37 l0 (wrap64 (x8_25 + 1)) t278 (wrap64 (x7_2 + 2)) x273000_2 ((zay l0 (ji50)).f0) x273002_2 x273003_2 x273004_2 x273005_2 x273006_2) else (none)) else (none)) = some (r1, r2, r3, r4, r5, r6, r7, r8) := by first | (rw [hji50] at H; exact H) | (simp only [hji50] at H ⊢; exact H)
              have hji50w : (IntKind.i64.wrap (x7_2 + 1)) = ji50 := (zbp _).trans hji50
              by_cases c51 : 0 ≤ (ji50)
              ·rw [if_pos c51] at H
               have c51b0 : decide (0 ≤ (ji50)) = true := decide_eq_true c51
               clear c51
               by_cases c52 : (ji50) < (l0.length : Int)
               ·rw [if_pos c52] at H
                have c52b0 : decide ((ji50) < (l0.length : Int)) = true := decide_eq_true c52
                clear c52
                have H' := Aside0.mk H
                clear H
                have p285 : 0 ≤ ((ji50) : Int) := of_decide_eq_true (by with_reducible assumption)
                have q285 : (ji50) < (l0.length : Int) := of_decide_eq_true (by with_reducible assumption)
                obtain ⟨ad285, e285, hx285_0, hx285_1⟩ := zct HR0.out (ji50) p285 q285
                obtain rfl : ad277 = ad285 := (by injection e285)
                replace hx285_0 := (HB.out.cell (World.block_lt_of_cell? w _ hx285_0)).trans hx285_0
                replace hx285_1 := (HB.out.cell (World.block_lt_of_cell? w _ hx285_1)).trans hx285_1
                replace p285 := eq_true p285
                replace q285 := eq_true q285
                have hnb53 := NB272_271.out
                have hnc53 := NB271_272.out
                have hcz54_0 : wc.cell? ⟨gb272, 0, none⟩ = some (.string x273000_2) := (zah BK272.out 0).trans rfl
                have hcz54_1 : wc.cell? ⟨gb272, 1, none⟩ = some (.string x273001_2) := (zah BK272.out 1).trans rfl
                have hcz54_2 : wc.cell? ⟨gb272, 2, none⟩ = some (.int .i64 x273002_2) := (zah BK272.out 2).trans rfl
                have hcz54_3 : wc.cell? ⟨gb272, 3, none⟩ = some (.int .i64 x273003_2) := (zah BK272.out 3).trans rfl
                have hcz54_4 : wc.cell? ⟨gb272, 4, none⟩ = some (.int .i64 x273004_2) := (zah BK272.out 4).trans rfl
                have hcz54_5 : wc.cell? ⟨gb272, 5, none⟩ = some (.int .i64 x273005_2) := (zah BK272.out 5).trans rfl
                have hcz54_6 : wc.cell? ⟨gb272, 6, none⟩ = some (.int .i64 x273006_2) := (zah BK272.out 6).trans rfl
                have hfz54_0 := zad BK272.out 0
                have hfz54_1 := zad BK272.out 1
                have hfz54_2 := zad BK272.out 2
                have hfz54_3 := zad BK272.out 3
                have hfz54_4 := zad BK272.out 4
                have hfz54_5 := zad BK272.out 5
                have hfz54_6 := zad BK272.out 6
                go_wp2
                repeat (go_quiet (fail); try go_wp2)
                go_roundg kj37
                case measure => have := HJ1.out; have := HK2.out; have := HJ25.out; have := HJ37.out; omega
                case rel => exact ⟨(wrap64 (x8_25 + 1)), (wrap64 (x7_2 + 2)), (x272000_2), (x272001_2), (x272002_2), (x272003_2), (x272004_2), (x272005_2), (x272006_2), (x273000_2), ((zay l0 (ji50)).f0), (x273002_2), (x273003_2), (x273004_2), (x273005_2), (x273006_2), (by first | rfl | (simp; done) | (simp [*]; done)), (by first | rfl | (simp; done) | (simp [*]; done)), H', ⟨by have := HJ1.out; have := HK2.out; have := HJ25.out; have := HJ37.out; omega⟩, ⟨by (with_reducible repeat (first | apply Kd.R_alloc | apply Kd.R_drewN | apply Kd.R_drew)); exact Kd.R_mono (Kd.R_far (p := ⟨gb272, 1, none⟩) (Kd.R_types HO_6.out BK272.out (by decide)) (fun _ hk => hk.2) (.string ((zay l0 (ji50)).f0))) (fun _ hk => trivial)⟩, ⟨by (with_reducible repeat (first | refine zae ?_ _ | refine zag ?_ | refine zaf ?_ _)); refine zav ?_ NB271_272.out _; (with_reducible repeat (first | refine zae ?_ _ | refine zag ?_ | refine zaf ?_ _)); exact BK271.out⟩, ⟨by (with_reducible repeat (first | refine zae ?_ _ | refine zag ?_ | refine zaf ?_ _)); refine zat (cs := #[.string x273000_2, .string x273001_2, .int .i64 x273002_2, .int .i64 x273003_2, .int .i64 x273004_2, .int .i64 x273005_2, .int .i64 x273006_2]) ?_ 1 _ rfl; (with_reducible repeat (first | refine zae ?_ _ | refine zag ?_ | refine zaf ?_ _)); exact BK272.out⟩, ⟨by repeat (first | (with_reducible first | exact HB.out | apply zab | apply zaa | apply zac | refine zai ?_ GE271.out | refine zai ?_ GE272.out) | exact HB.out)⟩⟩
               ·rw [if_neg c52] at H
                exact absurd H (by simp)
              ·rw [if_neg c51] at H
               exact absurd H (by simp)
             ·rw [if_neg c49] at H
              have c49b0 : (x8_25 == 0) = false := beq_eq_false_iff_ne.mpr c49
              have c49b1 : (x8_25 != 0) = true := bne_iff_ne.mpr c49
              obtain ⟨ji55, hji55⟩ : ∃ j_ : Int, (wrap64 (x7_2 + 1)) = j_ := ⟨_, rfl⟩
              replace H : (if 0 ≤ (ji55) then (if (ji55) < (l0.length : Int) then ((ydp.f kj37 ((zay l0 (ji55)).f0)).bind fun t287 => (if t287 < 0 then (some (x273000_2, x273001_2, x273002_2, x273003_2, x273004_2, x273005_2, x273006_2, false)) else ((yeg.f x273000_2 x273001_2 x273002_2 x273003_2 x273004_2 x273005_2 x273006_2 x8_25 t287).bind fun bt288 => (ydg.l0 kj37 l0 (wrap64 (x8_25 + 1)) t278 (wrap64 (x7_2 + 2)) bt288.1 bt288.2.1 bt288.2.2.1 bt288.2.2.2.1 bt288.2.2.2.2.1 bt288.2.2.2.2.2.1 bt288.2.2.2.2.2.2)))) else (none)) else (none)) = some (r1, r2, r3, r4, r5, r6, r7, r8) := by first | (rw [hji55] at H; exact H) | (simp only [hji55] at H ⊢; exact H)
              have hji55w : (IntKind.i64.wrap (x7_2 + 1)) = ji55 := (zbp _).trans hji55
              by_cases c56 : 0 ≤ (ji55)
              ·rw [if_pos c56] at H
               have c56b0 : decide (0 ≤ (ji55)) = true := decide_eq_true c56
               clear c56
               by_cases c57 : (ji55) < (l0.length : Int)
               ·rw [if_pos c57] at H
                have c57b0 : decide ((ji55) < (l0.length : Int)) = true := decide_eq_true c57
                clear c57
                replace H := Option.bind_eq_some_iff.mp H
                obtain ⟨t287, A580, H⟩ := H
                replace H : (if t287 < 0 then (some (x273000_2, x273001_2, x273002_2, x273003_2, x273004_2, x273005_2, x273006_2, false)) else ((yeg.f x273000_2 x273001_2 x273002_2 x273003_2 x273004_2 x273005_2 x273006_2 x8_25 t287).bind fun bt288 => (ydg.l0 kj37 l0 (wrap64 (x8_25 + 1)) t278 (wrap64 (x7_2 + 2)) bt288.1 bt288.2.1 bt288.2.2.1 bt288.2.2.2.1 bt288.2.2.2.2.1 bt288.2.2.2.2.2.1 bt288.2.2.2.2.2.2))) = some (r1, r2, r3, r4, r5, r6, r7, r8) := H
                have A58 := Aside0.mk A580
                clear A580
                by_cases c59 : t287 < 0
                ·rw [if_pos c59] at H
                 have c59b0 : decide (t287 < 0) = true := decide_eq_true c59
                 clear c59
                 simp only [Option.some.injEq, Prod.mk.injEq] at H
                 obtain ⟨rfl, rfl, rfl, rfl, rfl, rfl, rfl, rfl⟩ := H
                 have p286 : 0 ≤ ((ji55) : Int) := of_decide_eq_true (by with_reducible assumption)
                 have q286 : (ji55) < (l0.length : Int) := of_decide_eq_true (by with_reducible assumption)
                 obtain ⟨ad286, e286, hx286_0, hx286_1⟩ := zct HR0.out (ji55) p286 q286
                 obtain rfl : ad277 = ad286 := (by injection e286)
                 replace hx286_0 := (HB.out.cell (World.block_lt_of_cell? w _ hx286_0)).trans hx286_0
                 replace hx286_1 := (HB.out.cell (World.block_lt_of_cell? w _ hx286_1)).trans hx286_1
                 replace p286 := eq_true p286
                 replace q286 := eq_true q286
                 go_wp2_with ((go_at_call 60; (with_reducible refine (ydp.calls kj37 ((zay l0 (ji55)).f0) t287 _ A58.out).mono ?_); rintro e w' ⟨rfl, ⟨nd, rfl⟩⟩; (try first | exact ⟨rfl, _, World.drewN_drewN _ _ _⟩ | exact ⟨rfl, _, Eq.trans (World.drewN_drewN _ _ _) (congrArg (World.drewN _) (Nat.add_assoc _ _ _))⟩); have hnb60 := NB272_271.out; have hnc60 := NB271_272.out; have hcz61_0 : wc.cell? ⟨gb272, 0, none⟩ = some (.string x273000_2) := (zah BK272.out 0).trans rfl; have hcz61_1 : wc.cell? ⟨gb272, 1, none⟩ = some (.string x273001_2) := (zah BK272.out 1).trans rfl; have hcz61_2 : wc.cell? ⟨gb272, 2, none⟩ = some (.int .i64 x273002_2) := (zah BK272.out 2).trans rfl; have hcz61_3 : wc.cell? ⟨gb272, 3, none⟩ = some (.int .i64 x273003_2) := (zah BK272.out 3).trans rfl; have hcz61_4 : wc.cell? ⟨gb272, 4, none⟩ = some (.int .i64 x273004_2) := (zah BK272.out 4).trans rfl; have hcz61_5 : wc.cell? ⟨gb272, 5, none⟩ = some (.int .i64 x273005_2) := (zah BK272.out 5).trans rfl; have hcz61_6 : wc.cell? ⟨gb272, 6, none⟩ = some (.int .i64 x273006_2) := (zah BK272.out 6).trans rfl; have hfz61_0 := zad BK272.out 0; have hfz61_1 := zad BK272.out 1; have hfz61_2 := zad BK272.out 2; have hfz61_3 := zad BK272.out 3; have hfz61_4 := zad BK272.out 4; have hfz61_5 := zad BK272.out 5; have hfz61_6 := zad BK272.out 6; have hcz62_0 : wc.cell? ⟨gb271, 0, none⟩ = some (.string x272000_2) := (zah BK271.out 0).trans rfl; have hcz62_1 : wc.cell? ⟨gb271, 1, none⟩ = some (.string x272001_2) := (zah BK271.out 1).trans rfl; have hcz62_2 : wc.cell? ⟨gb271, 2, none⟩ = some (.int .i64 x272002_2) := (zah BK271.out 2).trans rfl; have hcz62_3 : wc.cell? ⟨gb271, 3, none⟩ = some (.int .i64 x272003_2) := (zah BK271.out 3).trans rfl; have hcz62_4 : wc.cell? ⟨gb271, 4, none⟩ = some (.int .i64 x272004_2) := (zah BK271.out 4).trans rfl; have hcz62_5 : wc.cell? ⟨gb271, 5, none⟩ = some (.int .i64 x272005_2) := (zah BK271.out 5).trans rfl; have hcz62_6 : wc.cell? ⟨gb271, 6, none⟩ = some (.int .i64 x272006_2) := (zah BK271.out 6).trans rfl; have hfz62_0 := zad BK271.out 0; have hfz62_1 := zad BK271.out 1; have hfz62_2 := zad BK271.out 2; have hfz62_3 := zad BK271.out 3; have hfz62_4 := zad BK271.out 4; have hfz62_5 := zad BK271.out 5; have hfz62_6 := zad BK271.out 6))
                 repeat (go_quiet (fail); try go_wp2_with (fail))
                 refine bodyPost_ret (zcx rfl _ _ gb271 74 #[.string x273000_2, .string x273001_2, .int .i64 x273002_2, .int .i64 x273003_2, .int .i64 x273004_2, .int .i64 x273005_2, .int .i64 x273006_2] (0, 0) _ rfl (by (with_reducible repeat (first | refine zae ?_ _ | refine zag ?_ | refine zaf ?_ _)); refine zat (cs := #[.string x273000_2, .string x273001_2, .int .i64 x273002_2, .int .i64 x273003_2, .int .i64 x273004_2, .int .i64 x273005_2, .int .i64 x272006_2]) ?_ 6 _ rfl; (with_reducible repeat (first | refine zae ?_ _ | refine zag ?_ | refine zaf ?_ _)); refine zat (cs := #[.string x273000_2, .string x273001_2, .int .i64 x273002_2, .int .i64 x273003_2, .int .i64 x273004_2, .int .i64 x272005_2, .int .i64 x272006_2]) ?_ 5 _ rfl; (with_reducible repeat (first | refine zae ?_ _ | refine zag ?_ | refine zaf ?_ _)); refine zat (cs := #[.string x273000_2, .string x273001_2, .int .i64 x273002_2, .int .i64 x273003_2, .int .i64 x272004_2, .int .i64 x272005_2, .int .i64 x272006_2]) ?_ 4 _ rfl; (with_reducible repeat (first | refine zae ?_ _ | refine zag ?_ | refine zaf ?_ _)); refine zat (cs := #[.string x273000_2, .string x273001_2, .int .i64 x273002_2, .int .i64 x272003_2, .int .i64 x272004_2, .int .i64 x272005_2, .int .i64 x272006_2]) ?_ 3 _ rfl; (with_reducible repeat (first | refine zae ?_ _ | refine zag ?_ | refine zaf ?_ _)); refine zat (cs := #[.string x273000_2, .string x273001_2, .int .i64 x272002_2, .int .i64 x272003_2, .int .i64 x272004_2, .int .i64 x272005_2, .int .i64 x272006_2]) ?_ 2 _ rfl; (with_reducible repeat (first | refine zae ?_ _ | refine zag ?_ | refine zaf ?_ _)); refine zat (cs := #[.string x273000_2, .string x272001_2, .int .i64 x272002_2, .int .i64 x272003_2, .int .i64 x272004_2, .int .i64 x272005_2, .int .i64 x272006_2]) ?_ 1 _ rfl; (with_reducible repeat (first | refine zae ?_ _ | refine zag ?_ | refine zaf ?_ _)); refine zat (cs := #[.string x272000_2, .string x272001_2, .int .i64 x272002_2, .int .i64 x272003_2, .int .i64 x272004_2, .int .i64 x272005_2, .int .i64 x272006_2]) ?_ 0 _ rfl; (with_reducible repeat (first | refine zae ?_ _ | refine zag ?_ | refine zaf ?_ _)); exact BK271.out) Tryz.underlying74 rfl (by kernel_rfl)) rfl ?_
                 exact ⟨by first | rfl | (simp [zal, zak] <;> rfl) | (simp only [← hji55]; first | rfl | (simp [zal, zak] <;> rfl)) | (simp [*, zal, zak] <;> rfl), by repeat (first | (with_reducible first | exact HB.out | apply zab | apply zaa | apply zac | refine zai ?_ GE271.out | refine zai ?_ GE272.out) | exact HB.out)⟩
                ·rw [if_neg c59] at H
                 have c59b0 : decide (t287 < 0) = false := decide_eq_false c59
                 clear c59
                 replace H := Option.bind_eq_some_iff.mp H
                 obtain ⟨⟨t288, t289, t290, t291, t292, t293, t294⟩, A630, H⟩ := H
                 replace H : (ydg.l0 kj37 l0 (wrap64 (x8_25 + 1)) t278 (wrap64 (x7_2 + 2)) t288 t289 t290 t291 t292 t293 t294) = some (r1, r2, r3, r4, r5, r6, r7, r8) := H
                 have A63 := Aside0.mk A630
                 clear A630
                 have H' := Aside0.mk H
                 clear H
                 have p286 : 0 ≤ ((ji55) : Int) := of_decide_eq_true (by with_reducible assumption)
                 have q286 : (ji55) < (l0.length : Int) := of_decide_eq_true (by with_reducible assumption)
                 obtain ⟨ad286, e286, hx286_0, hx286_1⟩ := zct HR0.out (ji55) p286 q286
                 obtain rfl : ad277 = ad286 := (by injection e286)
                 replace hx286_0 := (HB.out.cell (World.block_lt_of_cell? w _ hx286_0)).trans hx286_0
                 replace hx286_1 := (HB.out.cell (World.block_lt_of_cell? w _ hx286_1)).trans hx286_1
                 replace p286 := eq_true p286
                 replace q286 := eq_true q286
                 go_wp2_with (first | (go_at_call 60; (with_reducible refine (ydp.calls kj37 ((zay l0 (ji55)).f0) t287 _ A58.out).mono ?_); rintro e w' ⟨rfl, ⟨nd, rfl⟩⟩; (try first | exact ⟨rfl, _, World.drewN_drewN _ _ _⟩ | exact ⟨rfl, _, Eq.trans (World.drewN_drewN _ _ _) (congrArg (World.drewN _) (Nat.add_assoc _ _ _))⟩); have hnb64 := NB272_271.out; have hnc64 := NB271_272.out; have hcz65_0 : wc.cell? ⟨gb272, 0, none⟩ = some (.string x273000_2) := (zah BK272.out 0).trans rfl; have hcz65_1 : wc.cell? ⟨gb272, 1, none⟩ = some (.string x273001_2) := (zah BK272.out 1).trans rfl; have hcz65_2 : wc.cell? ⟨gb272, 2, none⟩ = some (.int .i64 x273002_2) := (zah BK272.out 2).trans rfl; have hcz65_3 : wc.cell? ⟨gb272, 3, none⟩ = some (.int .i64 x273003_2) := (zah BK272.out 3).trans rfl; have hcz65_4 : wc.cell? ⟨gb272, 4, none⟩ = some (.int .i64 x273004_2) := (zah BK272.out 4).trans rfl; have hcz65_5 : wc.cell? ⟨gb272, 5, none⟩ = some (.int .i64 x273005_2) := (zah BK272.out 5).trans rfl; have hcz65_6 : wc.cell? ⟨gb272, 6, none⟩ = some (.int .i64 x273006_2) := (zah BK272.out 6).trans rfl; have hfz65_0 := zad BK272.out 0; have hfz65_1 := zad BK272.out 1; have hfz65_2 := zad BK272.out 2; have hfz65_3 := zad BK272.out 3; have hfz65_4 := zad BK272.out 4; have hfz65_5 := zad BK272.out 5; have hfz65_6 := zad BK272.out 6) | (go_at_call 61; (with_reducible refine (yeg.calls x273000_2 x273001_2 x273002_2 x273003_2 x273004_2 x273005_2 x273006_2 x8_25 t287 t288 t289 t290 t291 t292 t293 t294 _ A63.out).mono ?_); rintro e w66 ⟨rfl, hb⟩; have n0_ := Aside0.mk (Kd.R_below (by (with_reducible repeat (first | apply Kd.R_alloc | apply Kd.R_drewN | apply Kd.R_drew)); exact HO_6.out) hb); have n1_ := Aside0.mk (zau (g := gb271) (o := .cells #[.string x272000_2, .string x272001_2, .int .i64 x272002_2, .int .i64 x272003_2, .int .i64 x272004_2, .int .i64 x272005_2, .int .i64 x272006_2] 74 (0, 0)) (by (with_reducible repeat (first | refine zae ?_ _ | refine zag ?_ | refine zaf ?_ _)); exact BK271.out) hb); have n2_ := Aside0.mk (zau (g := gb272) (o := .cells #[.string x273000_2, .string x273001_2, .int .i64 x273002_2, .int .i64 x273003_2, .int .i64 x273004_2, .int .i64 x273005_2, .int .i64 x273006_2] 74 (0, 0)) (by (with_reducible repeat (first | refine zae ?_ _ | refine zag ?_ | refine zaf ?_ _)); exact BK272.out) hb); have n3_ := Aside0.mk (zap (by repeat (first | (with_reducible first | exact HB.out | apply zab | apply zaa | apply zac | refine zai ?_ GE271.out | refine zai ?_ GE272.out) | exact HB.out)) hb); clear HO_6; clear BK271; clear BK272; clear HB; have HO_6 := n0_; have BK271 := n1_; have BK272 := n2_; have HB := n3_; clear n0_ n1_ n2_ n3_; (try clear hb); (try clear hb2); (try clear hk); (try clear hi); have hcz67_0 : w66.cell? ⟨gb272, 0, none⟩ = some (.string x273000_2) := (zah BK272.out 0).trans rfl; have hcz67_1 : w66.cell? ⟨gb272, 1, none⟩ = some (.string x273001_2) := (zah BK272.out 1).trans rfl; have hcz67_2 : w66.cell? ⟨gb272, 2, none⟩ = some (.int .i64 x273002_2) := (zah BK272.out 2).trans rfl; have hcz67_3 : w66.cell? ⟨gb272, 3, none⟩ = some (.int .i64 x273003_2) := (zah BK272.out 3).trans rfl; have hcz67_4 : w66.cell? ⟨gb272, 4, none⟩ = some (.int .i64 x273004_2) := (zah BK272.out 4).trans rfl; have hcz67_5 : w66.cell? ⟨gb272, 5, none⟩ = some (.int .i64 x273005_2) := (zah BK272.out 5).trans rfl; have hcz67_6 : w66.cell? ⟨gb272, 6, none⟩ = some (.int .i64 x273006_2) := (zah BK272.out 6).trans rfl; have hfz67_0 := zad BK272.out 0; have hfz67_1 := zad BK272.out 1; have hfz67_2 := zad BK272.out 2; have hfz67_3 := zad BK272.out 3; have hfz67_4 := zad BK272.out 4; have hfz67_5 := zad BK272.out 5; have hfz67_6 := zad BK272.out 6))
                 repeat (go_quiet (fail); try go_wp2_with (fail))
                 go_roundg kj37
                 case measure => have := HJ1.out; have := HK2.out; have := HJ25.out; have := HJ37.out; omega
                 case rel => exact ⟨(wrap64 (x8_25 + 1)), (wrap64 (x7_2 + 2)), (x272000_2), (x272001_2), (x272002_2), (x272003_2), (x272004_2), (x272005_2), (x272006_2), (t288), (t289), (t290), (t291), (t292), (t293), (t294), (by first | rfl | (simp; done) | (simp [*]; done)), (by first | rfl | (simp; done) | (simp [*]; done)), H', ⟨by have := HJ1.out; have := HK2.out; have := HJ25.out; have := HJ37.out; omega⟩, ⟨by (with_reducible repeat (first | apply Kd.R_alloc | apply Kd.R_drewN | apply Kd.R_drew)); exact Kd.R_mono (Kd.R_far (p := ⟨gb272, 6, none⟩) (Kd.R_far (p := ⟨gb272, 5, none⟩) (Kd.R_far (p := ⟨gb272, 4, none⟩) (Kd.R_far (p := ⟨gb272, 3, none⟩) (Kd.R_far (p := ⟨gb272, 2, none⟩) (Kd.R_far (p := ⟨gb272, 1, none⟩) (Kd.R_far (p := ⟨gb272, 0, none⟩) (Kd.R_types HO_6.out BK272.out (by decide)) (fun _ hk => hk.2) (.string t288)) (fun _ hk => hk.2) (.string t289)) (fun _ hk => hk.2) (.int .i64 t290)) (fun _ hk => hk.2) (.int .i64 t291)) (fun _ hk => hk.2) (.int .i64 t292)) (fun _ hk => hk.2) (.int .i64 t293)) (fun _ hk => hk.2) (.int .i64 t294)) (fun _ hk => trivial)⟩, ⟨by (with_reducible repeat (first | refine zae ?_ _ | refine zag ?_ | refine zaf ?_ _)); refine zav ?_ NB271_272.out _; (with_reducible repeat (first | refine zae ?_ _ | refine zag ?_ | refine zaf ?_ _)); refine zav ?_ NB271_272.out _; (with_reducible repeat (first | refine zae ?_ _ | refine zag ?_ | refine zaf ?_ _)); refine zav ?_ NB271_272.out _; (with_reducible repeat (first | refine zae ?_ _ | refine zag ?_ | refine zaf ?_ _)); refine zav ?_ NB271_272.out _; (with_reducible repeat (first | refine zae ?_ _ | refine zag ?_ | refine zaf ?_ _)); refine zav ?_ NB271_272.out _; (with_reducible repeat (first | refine zae ?_ _ | refine zag ?_ | refine zaf ?_ _)); refine zav ?_ NB271_272.out _; (with_reducible repeat (first | refine zae ?_ _ | refine zag ?_ | refine zaf ?_ _)); refine zav ?_ NB271_272.out _; (with_reducible repeat (first | refine zae ?_ _ | refine zag ?_ | refine zaf ?_ _)); exact BK271.out⟩, ⟨by (with_reducible repeat (first | refine zae ?_ _ | refine zag ?_ | refine zaf ?_ _)); refine zat (cs := #[.string t288, .string t289, .int .i64 t290, .int .i64 t291, .int .i64 t292, .int .i64 t293, .int .i64 x273006_2]) ?_ 6 _ rfl; (with_reducible repeat (first | refine zae ?_ _ | refine zag ?_ | refine zaf ?_ _)); refine zat (cs := #[.string t288, .string t289, .int .i64 t290, .int .i64 t291, .int .i64 t292, .int .i64 x273005_2, .int .i64 x273006_2]) ?_ 5 _ rfl; (with_reducible repeat (first | refine zae ?_ _ | refine zag ?_ | refine zaf ?_ _)); refine zat (cs := #[.string t288, .string t289, .int .i64 t290, .int .i64 t291, .int .i64 x273004_2, .int .i64 x273005_2, .int .i64 x273006_2]) ?_ 4 _ rfl; (with_reducible repeat (first | refine zae ?_ _ | refine zag ?_ | refine zaf ?_ _)); refine zat (cs := #[.string t288, .string t289, .int .i64 t290, .int .i64 x273003_2, .int .i64 x273004_2, .int .i64 x273005_2, .int .i64 x273006_2]) ?_ 3 _ rfl; (with_reducible repeat (first | refine zae ?_ _ | refine zag ?_ | refine zaf ?_ _)); refine zat (cs := #[.string t288, .string t289, .int .i64 x273002_2, .int .i64 x273003_2, .int .i64 x273004_2, .int .i64 x273005_2, .int .i64 x273006_2]) ?_ 2 _ rfl; (with_reducible repeat (first | refine zae ?_ _ | refine zag ?_ | refine zaf ?_ _)); refine zat (cs := #[.string t288, .string x273001_2, .int .i64 x273002_2, .int .i64 x273003_2, .int .i64 x273004_2, .int .i64 x273005_2, .int .i64 x273006_2]) ?_ 1 _ rfl; (with_reducible repeat (first | refine zae ?_ _ | refine zag ?_ | refine zaf ?_ _)); refine zat (cs := #[.string x273000_2, .string x273001_2, .int .i64 x273002_2, .int .i64 x273003_2, .int .i64 x273004_2, .int .i64 x273005_2, .int .i64 x273006_2]) ?_ 0 _ rfl; (with_reducible repeat (first | refine zae ?_ _ | refine zag ?_ | refine zaf ?_ _)); exact BK272.out⟩, ⟨by repeat (first | (with_reducible first | exact HB.out | apply zab | apply zaa | apply zac | refine zai ?_ GE271.out | refine zai ?_ GE272.out) | exact HB.out)⟩⟩
               ·rw [if_neg c57] at H
                exact absurd H (by simp)
              ·rw [if_neg c56] at H
               exact absurd H (by simp)
       ·rw [if_neg c25] at H
        have c25b0 : decide (x7_2 < (l0.length : Int)) = false := decide_eq_false c25
        clear c25
        simp only [Option.some.injEq, Prod.mk.injEq] at H
        obtain ⟨rfl, rfl, rfl, rfl, rfl, rfl, rfl, rfl⟩ := H
        have hnb68 := NB272_271.out
        have hnc68 := NB271_272.out
        have hcz69_0 : wr.cell? ⟨gb272, 0, none⟩ = some (.string x273000_2) := (zah BK272.out 0).trans rfl
        have hcz69_1 : wr.cell? ⟨gb272, 1, none⟩ = some (.string x273001_2) := (zah BK272.out 1).trans rfl
        have hcz69_2 : wr.cell? ⟨gb272, 2, none⟩ = some (.int .i64 x273002_2) := (zah BK272.out 2).trans rfl
        have hcz69_3 : wr.cell? ⟨gb272, 3, none⟩ = some (.int .i64 x273003_2) := (zah BK272.out 3).trans rfl
        have hcz69_4 : wr.cell? ⟨gb272, 4, none⟩ = some (.int .i64 x273004_2) := (zah BK272.out 4).trans rfl
        have hcz69_5 : wr.cell? ⟨gb272, 5, none⟩ = some (.int .i64 x273005_2) := (zah BK272.out 5).trans rfl
        have hcz69_6 : wr.cell? ⟨gb272, 6, none⟩ = some (.int .i64 x273006_2) := (zah BK272.out 6).trans rfl
        have hfz69_0 := zad BK272.out 0
        have hfz69_1 := zad BK272.out 1
        have hfz69_2 := zad BK272.out 2
        have hfz69_3 := zad BK272.out 3
        have hfz69_4 := zad BK272.out 4
        have hfz69_5 := zad BK272.out 5
        have hfz69_6 := zad BK272.out 6
        have hcz70_0 : wr.cell? ⟨gb271, 0, none⟩ = some (.string x272000_2) := (zah BK271.out 0).trans rfl
        have hcz70_1 : wr.cell? ⟨gb271, 1, none⟩ = some (.string x272001_2) := (zah BK271.out 1).trans rfl
        have hcz70_2 : wr.cell? ⟨gb271, 2, none⟩ = some (.int .i64 x272002_2) := (zah BK271.out 2).trans rfl
        have hcz70_3 : wr.cell? ⟨gb271, 3, none⟩ = some (.int .i64 x272003_2) := (zah BK271.out 3).trans rfl
        have hcz70_4 : wr.cell? ⟨gb271, 4, none⟩ = some (.int .i64 x272004_2) := (zah BK271.out 4).trans rfl
        have hcz70_5 : wr.cell? ⟨gb271, 5, none⟩ = some (.int .i64 x272005_2) := (zah BK271.out 5).trans rfl
        have hcz70_6 : wr.cell? ⟨gb271, 6, none⟩ = some (.int .i64 x272006_2) := (zah BK271.out 6).trans rfl
        have hfz70_0 := zad BK271.out 0
        have hfz70_1 := zad BK271.out 1
        have hfz70_2 := zad BK271.out 2
        have hfz70_3 := zad BK271.out 3
        have hfz70_4 := zad BK271.out 4
        have hfz70_5 := zad BK271.out 5
        have hfz70_6 := zad BK271.out 6
        go_wp2
        repeat (go_quiet (fail); try go_wp2)
        refine bodyPost_ret (zcx rfl _ _ gb271 74 #[.string x273000_2, .string x273001_2, .int .i64 x273002_2, .int .i64 x273003_2, .int .i64 x273004_2, .int .i64 x273005_2, .int .i64 x273006_2] (0, 0) _ rfl (by (with_reducible repeat (first | refine zae ?_ _ | refine zag ?_ | refine zaf ?_ _)); refine zat (cs := #[.string x273000_2, .string x273001_2, .int .i64 x273002_2, .int .i64 x273003_2, .int .i64 x273004_2, .int .i64 x273005_2, .int .i64 x272006_2]) ?_ 6 _ rfl; (with_reducible repeat (first | refine zae ?_ _ | refine zag ?_ | refine zaf ?_ _)); refine zat (cs := #[.string x273000_2, .string x273001_2, .int .i64 x273002_2, .int .i64 x273003_2, .int .i64 x273004_2, .int .i64 x272005_2, .int .i64 x272006_2]) ?_ 5 _ rfl; (with_reducible repeat (first | refine zae ?_ _ | refine zag ?_ | refine zaf ?_ _)); refine zat (cs := #[.string x273000_2, .string x273001_2, .int .i64 x273002_2, .int .i64 x273003_2, .int .i64 x272004_2, .int .i64 x272005_2, .int .i64 x272006_2]) ?_ 4 _ rfl; (with_reducible repeat (first | refine zae ?_ _ | refine zag ?_ | refine zaf ?_ _)); refine zat (cs := #[.string x273000_2, .string x273001_2, .int .i64 x273002_2, .int .i64 x272003_2, .int .i64 x272004_2, .int .i64 x272005_2, .int .i64 x272006_2]) ?_ 3 _ rfl; (with_reducible repeat (first | refine zae ?_ _ | refine zag ?_ | refine zaf ?_ _)); refine zat (cs := #[.string x273000_2, .string x273001_2, .int .i64 x272002_2, .int .i64 x272003_2, .int .i64 x272004_2, .int .i64 x272005_2, .int .i64 x272006_2]) ?_ 2 _ rfl; (with_reducible repeat (first | refine zae ?_ _ | refine zag ?_ | refine zaf ?_ _)); refine zat (cs := #[.string x273000_2, .string x272001_2, .int .i64 x272002_2, .int .i64 x272003_2, .int .i64 x272004_2, .int .i64 x272005_2, .int .i64 x272006_2]) ?_ 1 _ rfl; (with_reducible repeat (first | refine zae ?_ _ | refine zag ?_ | refine zaf ?_ _)); refine zat (cs := #[.string x272000_2, .string x272001_2, .int .i64 x272002_2, .int .i64 x272003_2, .int .i64 x272004_2, .int .i64 x272005_2, .int .i64 x272006_2]) ?_ 0 _ rfl; (with_reducible repeat (first | refine zae ?_ _ | refine zag ?_ | refine zaf ?_ _)); exact BK271.out) Tryz.underlying74 rfl (by kernel_rfl)) rfl ?_
        exact ⟨by first | rfl | (simp [zal, zak] <;> rfl) | (simp [*, zal, zak] <;> rfl), by repeat (first | (with_reducible first | exact HB.out | apply zab | apply zaa | apply zac | refine zai ?_ GE271.out | refine zai ?_ GE272.out) | exact HB.out)⟩
    ·rw [if_neg c20] at H
     exact absurd H (by simp)
end Go.Proofs.YteamhfmpogbilaaGreatDoor.X
end
