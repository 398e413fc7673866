/- Printed by a tool of the kit for this seat; cut to what the claim uses. -/
import Derived.Test.YteamhfmpogbilaaGreatDoorZQ0
import Derived.WalkSmall
set_option linter.unusedVariables false
set_option linter.unusedSimpArgs false
section
namespace Go.Proofs.YteamhfmpogbilaaGreatDoor.X
open Go.RowKit Go.Proofs.YteamhfmpogbilaaGreatDoorW.PrintWords Go.Proofs.YteamhfmpogbilaaGreatDoorW.PrintLast Go.Proofs.YteamhfmpogbilaaGreatDoorW.PrintMore
attribute [local go_sem] zbw zbu zck zcj zbj zbi zbv zbt
attribute [local go_sem high] eqA122
def ydv.l0 : Nat → List (S74) → List (S74) → Int → Option ((List (S74)) × Int)
 | 0, _, _, _ => none
 | k + 1, x0, x4, x5 => if x5 < (x0.length : Int) then (if 0 ≤ x5 then ((ydh.f k x4 ((zam x0 x5).f0) ((zam x0 x5).f1) ((zam x0 x5).f2) ((zam x0 x5).f3) ((zam x0 x5).f4) ((zam x0 x5).f5) ((zam x0 x5).f6)).bind fun t218 => (if t218 = true then (if x4.length < 1954687338268 then (ydv.l0 k x0 (x4 ++ [(⟨(zam x0 x5).f0, (zam x0 x5).f1, (zam x0 x5).f2, (zam x0 x5).f3, (zam x0 x5).f4, (zam x0 x5).f5, (zam x0 x5).f6⟩ : S74)]) (wrap64 (x5 + 1))) else (none)) else (some (([] : List (S74)), 1)))) else (none)) else (if (x4.length : Int) = 0 then (some (([] : List (S74)), 1)) else (some (x4, 0)))
def ydv.f (k : Nat) (l0 : List (S74)) : Option ((List (S74)) × Int) := if (l0.length : Int) > 64 then (some (([] : List (S74)), 2)) else (ydv.l0 k l0 ([] : List (S74)) 0)
set_option maxHeartbeats 8000000 in
set_option maxRecDepth 100000 in
theorem ydv.calls (k : Nat) (A0 : Option Addr) (c0 : Nat) (l0 : List (S74)) (r1 : List (S74)) (r2 : Int) (w : World) (hr0 : Kd.C k74 w A0 l0.length l0) (hc0 : l0.length ≤ c0) (h : ydv.f k l0 = some (r1, r2)) :
  Calls Tryz.prog 29 #[.slice A0 l0.length c0] w fun e w' => ∃ v0_ : Value, e = .returned (.tuple #[.agg #[v0_], .int .i64 r2]) ∧ Kd.R k74 74 w' w.heap.size (fun _ => True) v0_ r1 ∧ Below w.heap.size w w' := by
 have hu28 := Tryz.underlying28
 have hu74 := Tryz.underlying74
 have HR0 := Aside0.mk hr0
 have HC0 := Aside0.mk hc0
 clear hr0 hc0
 have HB := Aside0.mk (Below.refl w.heap.size w)
 have H : (if (l0.length : Int) > 64 then (some (([] : List (S74)), 2)) else (ydv.l0 k l0 ([] : List (S74)) 0)) = some (r1, r2) := h
 clear h
 by_cases c2 : (l0.length : Int) > 64
 ·rw [if_pos c2] at H
  have c2b0 : decide (64 < (l0.length : Int)) = true := decide_eq_true c2
  have c2b1 : decide (64 < l0.length) = true := decide_eq_true (by omega)
  clear c2
  simp only [Option.some.injEq, Prod.mk.injEq] at H
  obtain ⟨rfl, rfl⟩ := H
  go_enter Tryz.func29, Tryz.ntmps29
  go_wp2_with (((with_reducible refine zby (N := 2) rfl ?_); refine zbr ?hg (N := 2) ?hd (cs := #[.slice none 0 0]) (t := 28) ?hr ?_; (case hd => rfl); (case hg => rfl); (case hr => first | (go_simp; done) | (go_simp; rfl)); intro gb216 hg w3 hbox hb; have n0_ := Aside0.mk (zap (by repeat (first | (with_reducible first | exact HB.out | apply zab | apply zaa | apply zac) | exact HB.out)) hb); have n1_ := Aside0.mk (hbox); have n2_ := Aside0.mk ((by rw [hg]; exact (zan (by repeat (first | (with_reducible first | exact HB.out | apply zab | apply zaa | apply zac) | exact HB.out))) : w.heap.size ≤ gb216)); have n3_ := Aside0.mk ((by rw [hg]; exact (zan (by repeat (first | (with_reducible first | exact HB.out | apply zab | apply zaa | apply zac) | exact HB.out))) : w.heap.size ≤ gb216)); clear HB; have HB := n0_; have BK216 := n1_; have GW216 := n2_; have GE216 := n3_; clear n0_ n1_ n2_ n3_; clear hb hbox hg; have hcz4_0 : w3.cell? ⟨gb216, 0, none⟩ = some (.slice none 0 0) := (zah BK216.out 0).trans rfl; have hfz4_0 := zad BK216.out 0))
  refine bodyPost_ret (zcx rfl _ _ gb216 28 #[.slice none 0 0] (0, 0) _ rfl (by (with_reducible repeat (first | refine zae ?_ _ | refine zag ?_ | refine zaf ?_ _)); refine zat (cs := #[.slice none 0 0]) ?_ 0 _ rfl; (with_reducible repeat (first | refine zae ?_ _ | refine zag ?_ | refine zaf ?_ _)); exact BK216.out) Tryz.underlying28 rfl (by kernel_rfl)) rfl ?_
  exact ⟨_, by first | rfl | (simp [zal, zak] <;> rfl) | (simp [*, zal, zak] <;> rfl), by first | exact Kd.R_nil _ _ _ _ _ | exact Kd.N_nil _ _ _ _ _ | exact Kd.V_nil _ _ _ _ _ | exact Kd.Q_nil _ _ _ _ _ | exact Kd.S_nil _ _ _ _ _, by repeat (first | (with_reducible first | exact HB.out | apply zab | apply zaa | apply zac | refine zai ?_ GE216.out) | exact HB.out)⟩
 ·rw [if_neg c2] at H
  have c2b0 : decide (64 < (l0.length : Int)) = false := decide_eq_false c2
  have c2b1 : decide (64 < l0.length) = false := decide_eq_false (by omega)
  clear c2
  have H' := Aside0.mk H
  clear H
  go_enter Tryz.func29, Tryz.ntmps29
  go_wp2_with (((with_reducible refine zby (N := 2) rfl ?_); refine zbr ?hg (N := 2) ?hd (cs := #[.slice none 0 0]) (t := 28) ?hr ?_; (case hd => rfl); (case hg => rfl); (case hr => first | (go_simp; done) | (go_simp; rfl)); intro gb216 hg w5 hbox hb; have n0_ := Aside0.mk (zap (by repeat (first | (with_reducible first | exact HB.out | apply zab | apply zaa | apply zac) | exact HB.out)) hb); have n1_ := Aside0.mk (hbox); have n2_ := Aside0.mk ((by rw [hg]; exact (zan (by repeat (first | (with_reducible first | exact HB.out | apply zab | apply zaa | apply zac) | exact HB.out))) : w.heap.size ≤ gb216)); have n3_ := Aside0.mk ((by rw [hg]; exact (zan (by repeat (first | (with_reducible first | exact HB.out | apply zab | apply zaa | apply zac) | exact HB.out))) : w.heap.size ≤ gb216)); clear HB; have HB := n0_; have BK216 := n1_; have GW216 := n2_; have GE216 := n3_; clear n0_ n1_ n2_ n3_; clear hb hbox hg))
  go_loopg [4, 5] k (fun kq v4 v5 w' => ∃ (x4_1 : List (S74)) (x5_1 : Int), v5 = .int .i64 x5_1 ∧ Aside0 (ydv.l0 kq l0 x4_1 x5_1 = some (r1, r2)) ∧ Aside0 (kq ≤ k) ∧ Aside0 (Kd.R k74 74 w' w.heap.size (fun _ => True) v4 x4_1) ∧ Aside0 (w'.heap[gb216]? = some (.cells #[(.slice none 0 0)] 28 (0, 0))) ∧ Aside0 (Below w.heap.size w w'))
  case atStart => exact ⟨(([] : List (S74))), (0), (by first | rfl | (simp; done) | (simp [*]; done)), H', ⟨Nat.le_refl _⟩, ⟨by first | exact Kd.R_nil _ _ _ _ _ | exact Kd.N_nil _ _ _ _ _ | exact Kd.V_nil _ _ _ _ _ | exact Kd.Q_nil _ _ _ _ _ | exact Kd.S_nil _ _ _ _ _⟩, ⟨by (with_reducible repeat (first | refine zae ?_ _ | refine zag ?_ | refine zaf ?_ _)); exact BK216.out⟩, ⟨by repeat (first | (with_reducible first | exact HB.out | apply zab | apply zaa | apply zac | refine zai ?_ GE216.out) | exact HB.out)⟩⟩
  case round =>
   clear H'
   try clear c2; try clear c2b0; try clear c2b1; try clear p2; try clear hcz4_0; try clear hfz4_0
   obtain ⟨x4_1, x5_1, rfl, HA, HK1, HO_4, BK216, HB⟩ := hrel
   cases gk with
   | zero => exact absurd HA.out (by simp [ydv.l0])
   | succ k1 =>
    have H := HA.out
    clear HA
    simp only [ydv.l0] at H
    by_cases c6 : x5_1 < (l0.length : Int)
    ·rw [if_pos c6] at H
     have c6b0 : decide (x5_1 < (l0.length : Int)) = true := decide_eq_true c6
     clear c6
     by_cases c7 : 0 ≤ x5_1
     ·rw [if_pos c7] at H
      have c7b0 : decide (0 ≤ x5_1) = true := decide_eq_true c7
      clear c7
      replace H := Option.bind_eq_some_iff.mp H
      obtain ⟨t218, A80, H⟩ := H
      replace H : (if t218 = true then (if x4_1.length < 1954687338268 then (ydv.l0 k1 l0 (x4_1 ++ [(⟨(zam l0 x5_1).f0, (zam l0 x5_1).f1, (zam l0 x5_1).f2, (zam l0 x5_1).f3, (zam l0 x5_1).f4, (zam l0 x5_1).f5, (zam l0 x5_1).f6⟩ : S74)]) (wrap64 (x5_1 + 1))) else (none)) else (some (([] : List (S74)), 1))) = some (r1, r2) := H
      have A8 := Aside0.mk A80
      clear A80
      by_cases c9 : t218 = true
      ·subst c9
       have H1 : (if x4_1.length < 1954687338268 then (ydv.l0 k1 l0 (x4_1 ++ [(⟨(zam l0 x5_1).f0, (zam l0 x5_1).f1, (zam l0 x5_1).f2, (zam l0 x5_1).f3, (zam l0 x5_1).f4, (zam l0 x5_1).f5, (zam l0 x5_1).f6⟩ : S74)]) (wrap64 (x5_1 + 1))) else (none)) = some (r1, r2) := by rw [if_pos rfl] at H; exact H
       clear H
       have H := H1
       clear H1
       by_cases c10 : x4_1.length < 1954687338268
       ·rw [if_pos c10] at H
        have LMc10 := Aside0.mk c10
        clear c10
        obtain ⟨y220, hy220⟩ : ∃ y_ : List (S74), y_ = (x4_1 ++ [(⟨(zam l0 x5_1).f0, (zam l0 x5_1).f1, (zam l0 x5_1).f2, (zam l0 x5_1).f3, (zam l0 x5_1).f4, (zam l0 x5_1).f5, (zam l0 x5_1).f6⟩ : S74)]) := ⟨_, rfl⟩
        replace H : (ydv.l0 k1 l0 y220 (wrap64 (x5_1 + 1))) = some (r1, r2) := by first | (rw [hy220]; with_reducible exact H) | (have H2_ := (Option.bind_some _ _).symm.trans H; rw [hy220]; with_reducible exact H2_) | (have H2_ := (Option.bind_some _ _).symm.trans H; with_reducible exact H2_) | with_reducible exact H | (rw [hy220]; exact H) | exact H
        have Ny220 := Aside0.mk hy220
        clear hy220
        have H' := Aside0.mk H
        clear H
        have p217 : 0 ≤ (x5_1 : Int) := of_decide_eq_true (by assumption)
        have q217 : x5_1 < (l0.length : Int) := of_decide_eq_true (by assumption)
        obtain ⟨ad217, e217, hx217_0, hx217_1, hx217_2, hx217_3, hx217_4, hx217_5, hx217_6⟩ := zda HR0.out x5_1 p217 q217
        cases e217
        replace hx217_0 := (HB.out.cell (World.block_lt_of_cell? w _ hx217_0)).trans hx217_0
        replace hx217_1 := (HB.out.cell (World.block_lt_of_cell? w _ hx217_1)).trans hx217_1
        replace hx217_2 := (HB.out.cell (World.block_lt_of_cell? w _ hx217_2)).trans hx217_2
        replace hx217_3 := (HB.out.cell (World.block_lt_of_cell? w _ hx217_3)).trans hx217_3
        replace hx217_4 := (HB.out.cell (World.block_lt_of_cell? w _ hx217_4)).trans hx217_4
        replace hx217_5 := (HB.out.cell (World.block_lt_of_cell? w _ hx217_5)).trans hx217_5
        replace hx217_6 := (HB.out.cell (World.block_lt_of_cell? w _ hx217_6)).trans hx217_6
        replace p217 := eq_true p217
        replace q217 := eq_true q217
        obtain ⟨Ao11, co11, eo11⟩ := Kd.R_slice HO_4.out
        subst eo11
        go_wp2_with (first | ((with_reducible refine zaq (f := 62) rfl ?_); refine zbb (some 22) rfl rfl Tryz.func62 (by kernel_rfl) rfl #[.slice Ao11 x4_1.length co11, .agg #[.string ((zam l0 x5_1).f0), .string ((zam l0 x5_1).f1), .int .i64 ((zam l0 x5_1).f2), .int .i64 ((zam l0 x5_1).f3), .int .i64 ((zam l0 x5_1).f4), .int .i64 ((zam l0 x5_1).f5), .int .i64 ((zam l0 x5_1).f6)]] rfl (by (try simp only [List.map_toArray, List.map_cons, List.map_nil]); first | done | rfl | (simp only [List.length_drop, List.length_take]; rfl)) ?_; (with_reducible refine (ydh.calls k1 _ _ x4_1 ((zam l0 x5_1).f0) ((zam l0 x5_1).f1) ((zam l0 x5_1).f2) ((zam l0 x5_1).f3) ((zam l0 x5_1).f4) ((zam l0 x5_1).f5) ((zam l0 x5_1).f6) true _ ?side1 ?side2 A8.out).mono ?_); (case side1 => repeat (first | exact (Kd.R_reads' HO_4.out).2.2 | (with_reducible refine Kd.C_alloc ?_ _) | (with_reducible refine Kd.C_drewN ?_ _) | (with_reducible refine Kd.C_drew ?_))); (case side2 => exact (Kd.R_reads' HO_4.out).2.1); rintro e w12 ⟨rfl, hb⟩; refine ⟨_, rfl, ?_⟩; have n0_ := Aside0.mk (Kd.R_below (by (with_reducible repeat (first | apply Kd.R_alloc | apply Kd.R_drewN | apply Kd.R_drew)); exact HO_4.out) hb); have n1_ := Aside0.mk (zau (g := gb216) (o := .cells #[.slice none 0 0] 28 (0, 0)) (by (with_reducible repeat (first | refine zae ?_ _ | refine zag ?_ | refine zaf ?_ _)); exact BK216.out) hb); have n2_ := Aside0.mk (zap (by repeat (first | (with_reducible first | exact HB.out | apply zab | apply zaa | apply zac | refine zai ?_ GE216.out) | exact HB.out)) hb); clear HO_4; clear BK216; clear HB; have HO_4 := n0_; have BK216 := n1_; have HB := n2_; clear n0_ n1_ n2_; (try clear hb); (try clear hb2); (try clear hk); (try clear hi); have p219 : 0 ≤ (x5_1 : Int) := of_decide_eq_true (by assumption); have q219 : x5_1 < (l0.length : Int) := of_decide_eq_true (by assumption); obtain ⟨ad219, e219, hx219_0, hx219_1, hx219_2, hx219_3, hx219_4, hx219_5, hx219_6⟩ := zda HR0.out x5_1 p219 q219; obtain rfl : ad217 = ad219 := (by injection e219); replace hx219_0 := (HB.out.cell (World.block_lt_of_cell? w _ hx219_0)).trans hx219_0; replace hx219_1 := (HB.out.cell (World.block_lt_of_cell? w _ hx219_1)).trans hx219_1; replace hx219_2 := (HB.out.cell (World.block_lt_of_cell? w _ hx219_2)).trans hx219_2; replace hx219_3 := (HB.out.cell (World.block_lt_of_cell? w _ hx219_3)).trans hx219_3; replace hx219_4 := (HB.out.cell (World.block_lt_of_cell? w _ hx219_4)).trans hx219_4; replace hx219_5 := (HB.out.cell (World.block_lt_of_cell? w _ hx219_5)).trans hx219_5; replace hx219_6 := (HB.out.cell (World.block_lt_of_cell? w _ hx219_6)).trans hx219_6; replace p219 := eq_true p219; replace q219 := eq_true q219) | ((with_reducible refine zax (b := .append) (xs := #[.tmp 26, .tmp 31]) rfl ?_); at_builtin; refine Kd.R_append k74 (w0 := w) w.heap.size rfl (.tmp 26) (.tmp 31) 26 74 (.agg #[(.string ⟨#[]⟩), (.string ⟨#[]⟩), (.int .i64 0), (.int .i64 0), (.int .i64 0), (.int .i64 0), (.int .i64 0)]) 72 rfl Tryz.underlying26 info74 rfl (by decide) (by omega) (.slice Ao11 x4_1.length co11) x4_1 (⟨(zam l0 x5_1).f0, (zam l0 x5_1).f1, (zam l0 x5_1).f2, (zam l0 x5_1).f3, (zam l0 x5_1).f4, (zam l0 x5_1).f5, (zam l0 x5_1).f6⟩ : S74) [.string ((zam l0 x5_1).f0), .string ((zam l0 x5_1).f1), .int .i64 ((zam l0 x5_1).f2), .int .i64 ((zam l0 x5_1).f3), .int .i64 ((zam l0 x5_1).f4), .int .i64 ((zam l0 x5_1).f5), .int .i64 ((zam l0 x5_1).f6)] (fun _ => True) (fun _ => False) rfl rfl ?aP (fun _ hk => hk.elim) ?aF ?aO ?aB ?aS ?aL ?_; (case aP => exact k74_mkM _ _ _ (⟨(zam l0 x5_1).f0, (zam l0 x5_1).f1, (zam l0 x5_1).f2, (zam l0 x5_1).f3, (zam l0 x5_1).f4, (zam l0 x5_1).f5, (zam l0 x5_1).f6⟩ : S74)); (case aB => exact (by repeat (first | (with_reducible first | exact HB.out | apply zab | apply zaa | apply zac | refine zai ?_ GE216.out) | exact HB.out))); (case aF => exact (fun _ _ => trivial)); (case aO => exact (by (with_reducible repeat (first | apply Kd.R_alloc | apply Kd.R_drewN | apply Kd.R_drew)); exact HO_4.out)); (case aS => exact (zan (by repeat (first | (with_reducible first | exact HB.out | apply zab | apply zaa | apply zac | refine zai ?_ GE216.out) | exact HB.out)))); (case aL => have := LMc10.out; omega); intro v221 w13 ho hb hg hat; rw [← Ny220.out] at ho; have n0_ := Aside0.mk (blk_grown (g := gb216) (o := .cells #[.slice none 0 0] 28 (0, 0)) (by (with_reducible repeat (first | refine zae ?_ _ | refine zag ?_ | refine zaf ?_ _)); exact BK216.out) hg (Kd.R_ne HO_4.out BK216.out (by decide))); have n1_ := Aside0.mk (hb); have n2_ := Aside0.mk (ho); clear BK216; clear HB; clear HO_4; have BK216 := n0_; have HB := n1_; have HO222 := n2_; clear n0_ n1_ n2_; clear ho hb hg hat))
        go_roundg k1
        case measure => have := HK1.out; omega
        case rel => exact ⟨(y220), (wrap64 (x5_1 + 1)), (by first | rfl | (simp; done) | (simp [*]; done)), H', ⟨by have := HK1.out; omega⟩, ⟨by (with_reducible repeat (first | apply Kd.R_alloc | apply Kd.R_drewN | apply Kd.R_drew)); exact HO222.out⟩, ⟨by (with_reducible repeat (first | refine zae ?_ _ | refine zag ?_ | refine zaf ?_ _)); exact BK216.out⟩, ⟨by repeat (first | (with_reducible first | exact HB.out | apply zab | apply zaa | apply zac | refine zai ?_ GE216.out) | exact HB.out)⟩⟩
       ·rw [if_neg c10] at H
        exact absurd H (by simp)
      ·replace c9 := Bool.eq_false_iff.mpr c9
       subst c9
       have H1 : (some (([] : List (S74)), 1)) = some (r1, r2) := by rw [if_neg (show ¬ (false = true) by decide)] at H; exact H
       clear H
       have H := H1
       clear H1
       simp only [Option.some.injEq, Prod.mk.injEq] at H
       obtain ⟨rfl, rfl⟩ := H
       have p217 : 0 ≤ (x5_1 : Int) := of_decide_eq_true (by assumption)
       have q217 : x5_1 < (l0.length : Int) := of_decide_eq_true (by assumption)
       obtain ⟨ad217, e217, hx217_0, hx217_1, hx217_2, hx217_3, hx217_4, hx217_5, hx217_6⟩ := zda HR0.out x5_1 p217 q217
       cases e217
       replace hx217_0 := (HB.out.cell (World.block_lt_of_cell? w _ hx217_0)).trans hx217_0
       replace hx217_1 := (HB.out.cell (World.block_lt_of_cell? w _ hx217_1)).trans hx217_1
       replace hx217_2 := (HB.out.cell (World.block_lt_of_cell? w _ hx217_2)).trans hx217_2
       replace hx217_3 := (HB.out.cell (World.block_lt_of_cell? w _ hx217_3)).trans hx217_3
       replace hx217_4 := (HB.out.cell (World.block_lt_of_cell? w _ hx217_4)).trans hx217_4
       replace hx217_5 := (HB.out.cell (World.block_lt_of_cell? w _ hx217_5)).trans hx217_5
       replace hx217_6 := (HB.out.cell (World.block_lt_of_cell? w _ hx217_6)).trans hx217_6
       replace p217 := eq_true p217
       replace q217 := eq_true q217
       obtain ⟨Ao14, co14, eo14⟩ := Kd.R_slice HO_4.out
       subst eo14
       go_wp2_with (((with_reducible refine zaq (f := 62) rfl ?_); refine zbb (some 22) rfl rfl Tryz.func62 (by kernel_rfl) rfl #[.slice Ao14 x4_1.length co14, .agg #[.string ((zam l0 x5_1).f0), .string ((zam l0 x5_1).f1), .int .i64 ((zam l0 x5_1).f2), .int .i64 ((zam l0 x5_1).f3), .int .i64 ((zam l0 x5_1).f4), .int .i64 ((zam l0 x5_1).f5), .int .i64 ((zam l0 x5_1).f6)]] rfl (by (try simp only [List.map_toArray, List.map_cons, List.map_nil]); first | done | rfl | (simp only [List.length_drop, List.length_take]; rfl)) ?_; (with_reducible refine (ydh.calls k1 _ _ x4_1 ((zam l0 x5_1).f0) ((zam l0 x5_1).f1) ((zam l0 x5_1).f2) ((zam l0 x5_1).f3) ((zam l0 x5_1).f4) ((zam l0 x5_1).f5) ((zam l0 x5_1).f6) false _ ?side1 ?side2 A8.out).mono ?_); (case side1 => repeat (first | exact (Kd.R_reads' HO_4.out).2.2 | (with_reducible refine Kd.C_alloc ?_ _) | (with_reducible refine Kd.C_drewN ?_ _) | (with_reducible refine Kd.C_drew ?_))); (case side2 => exact (Kd.R_reads' HO_4.out).2.1); rintro e w15 ⟨rfl, hb⟩; refine ⟨_, rfl, ?_⟩; have n0_ := Aside0.mk (Kd.R_below (by (with_reducible repeat (first | apply Kd.R_alloc | apply Kd.R_drewN | apply Kd.R_drew)); exact HO_4.out) hb); have n1_ := Aside0.mk (zau (g := gb216) (o := .cells #[.slice none 0 0] 28 (0, 0)) (by (with_reducible repeat (first | refine zae ?_ _ | refine zag ?_ | refine zaf ?_ _)); exact BK216.out) hb); have n2_ := Aside0.mk (zap (by repeat (first | (with_reducible first | exact HB.out | apply zab | apply zaa | apply zac | refine zai ?_ GE216.out) | exact HB.out)) hb); clear HO_4; clear BK216; clear HB; have HO_4 := n0_; have BK216 := n1_; have HB := n2_; clear n0_ n1_ n2_; (try clear hb); (try clear hb2); (try clear hk); (try clear hi); have hcz16_0 : w15.cell? ⟨gb216, 0, none⟩ = some (.slice none 0 0) := (zah BK216.out 0).trans rfl; have hfz16_0 := zad BK216.out 0))
       refine bodyPost_ret (zcx rfl _ _ gb216 28 #[.slice none 0 0] (0, 0) _ rfl (by (with_reducible repeat (first | refine zae ?_ _ | refine zag ?_ | refine zaf ?_ _)); refine zat (cs := #[.slice none 0 0]) ?_ 0 _ rfl; (with_reducible repeat (first | refine zae ?_ _ | refine zag ?_ | refine zaf ?_ _)); exact BK216.out) Tryz.underlying28 rfl (by kernel_rfl)) rfl ?_
       exact ⟨_, by first | rfl | (simp [zal, zak] <;> rfl) | (simp [*, zal, zak] <;> rfl), by first | exact Kd.R_nil _ _ _ _ _ | exact Kd.N_nil _ _ _ _ _ | exact Kd.V_nil _ _ _ _ _ | exact Kd.Q_nil _ _ _ _ _ | exact Kd.S_nil _ _ _ _ _, by repeat (first | (with_reducible first | exact HB.out | apply zab | apply zaa | apply zac | refine zai ?_ GE216.out) | exact HB.out)⟩
     ·rw [if_neg c7] at H
      exact absurd H (by simp)
    ·rw [if_neg c6] at H
     have c6b0 : decide (x5_1 < (l0.length : Int)) = false := decide_eq_false c6
     clear c6
     by_cases c17 : (x4_1.length : Int) = 0
     ·rw [if_pos c17] at H
      have c17b0 : ((x4_1.length : Int) == 0) = true := beq_iff_eq.mpr c17
      have c17b1 : ((x4_1.length : Int) != 0) = false := bne_eq_false_iff_eq.mpr c17
      clear c17
      simp only [Option.some.injEq, Prod.mk.injEq] at H
      obtain ⟨rfl, rfl⟩ := H
      obtain ⟨Ao18, co18, eo18⟩ := Kd.R_slice HO_4.out
      subst eo18
      have hcz19_0 : wr.cell? ⟨gb216, 0, none⟩ = some (.slice none 0 0) := (zah BK216.out 0).trans rfl
      have hfz19_0 := zad BK216.out 0
      go_wp2
      refine bodyPost_ret (zcx rfl _ _ gb216 28 #[.slice none 0 0] (0, 0) _ rfl (by (with_reducible repeat (first | refine zae ?_ _ | refine zag ?_ | refine zaf ?_ _)); refine zat (cs := #[.slice none 0 0]) ?_ 0 _ rfl; (with_reducible repeat (first | refine zae ?_ _ | refine zag ?_ | refine zaf ?_ _)); exact BK216.out) Tryz.underlying28 rfl (by kernel_rfl)) rfl ?_
      exact ⟨_, by first | rfl | (simp [zal, zak] <;> rfl) | (simp [*, zal, zak] <;> rfl), by first | exact Kd.R_nil _ _ _ _ _ | exact Kd.N_nil _ _ _ _ _ | exact Kd.V_nil _ _ _ _ _ | exact Kd.Q_nil _ _ _ _ _ | exact Kd.S_nil _ _ _ _ _, by repeat (first | (with_reducible first | exact HB.out | apply zab | apply zaa | apply zac | refine zai ?_ GE216.out) | exact HB.out)⟩
     ·rw [if_neg c17] at H
      have c17b0 : ((x4_1.length : Int) == 0) = false := beq_eq_false_iff_ne.mpr c17
      have c17b1 : ((x4_1.length : Int) != 0) = true := bne_iff_ne.mpr c17
      have c17b2 : ¬ (x4_1 = []) := fun h_ => c17 (by rw [h_]; rfl)
      simp only [Option.some.injEq, Prod.mk.injEq] at H
      obtain ⟨rfl, rfl⟩ := H
      obtain ⟨Ao20, co20, eo20⟩ := Kd.R_slice HO_4.out
      subst eo20
      have hcz21_0 : wr.cell? ⟨gb216, 0, none⟩ = some (.slice none 0 0) := (zah BK216.out 0).trans rfl
      have hfz21_0 := zad BK216.out 0
      go_wp2
      refine bodyPost_ret (zcx rfl _ _ gb216 28 #[.slice Ao20 x4_1.length co20] (0, 0) _ rfl (by (with_reducible repeat (first | refine zae ?_ _ | refine zag ?_ | refine zaf ?_ _)); refine zat (cs := #[.slice none 0 0]) ?_ 0 _ rfl; (with_reducible repeat (first | refine zae ?_ _ | refine zag ?_ | refine zaf ?_ _)); exact BK216.out) Tryz.underlying28 rfl (by kernel_rfl)) rfl ?_
      exact ⟨_, by first | rfl | (simp [zal, zak] <;> rfl) | (simp [*, zal, zak] <;> rfl), by (with_reducible repeat (first | apply Kd.R_alloc | apply Kd.R_drewN | apply Kd.R_drew)); exact Kd.R_mono (Kd.R_far (p := ⟨gb216, 0, none⟩) (Kd.R_types HO_4.out BK216.out (by decide)) (fun _ hk => hk.2) (.slice Ao20 x4_1.length co20)) (fun _ hk => trivial), by repeat (first | (with_reducible first | exact HB.out | apply zab | apply zaa | apply zac | refine zai ?_ GE216.out) | exact HB.out)⟩
def place_weight.f (a0 : Int) : Option (Int) := if a0 = 47 then (some (-1)) else (some (wrap64 (a0)))
set_option maxHeartbeats 8000000 in
set_option maxRecDepth 100000 in
theorem place_weight.calls (a0 : Int) (r : Int) (w : World) (h : place_weight.f a0 = some r) :
  Calls Tryz.prog 86 #[.int .u8 a0] w fun e w' => e = .returned (.int .i64 r) ∧ Drawn0 w w' := by
 have H : (if a0 = 47 then (some (-1)) else (some (wrap64 (a0)))) = some r := h
 clear h
 by_cases c2 : a0 = 47
 ·rw [if_pos c2] at H
  have c2b0 : (a0 == 47) = true := beq_iff_eq.mpr c2
  have c2b1 : (a0 != 47) = false := bne_eq_false_iff_eq.mpr c2
  clear c2
  obtain rfl := Option.some.inj H
  go_enter Tryz.func86, Tryz.ntmps86
  go_wp2
  go_ret
  exact ⟨by first | rfl | (simp; done) | (simp [*]; done), by repeat (first | exact Drawn0.refl _ | apply Drawn0.step)⟩
 ·rw [if_neg c2] at H
  have c2b0 : (a0 == 47) = false := beq_eq_false_iff_ne.mpr c2
  have c2b1 : (a0 != 47) = true := bne_iff_ne.mpr c2
  obtain rfl := Option.some.inj H
  go_enter Tryz.func86, Tryz.ntmps86
  go_wp2
  go_ret
  exact ⟨by first | rfl | (simp; done) | (simp [*]; done), by repeat (first | exact Drawn0.refl _ | apply Drawn0.step)⟩
def ydw.l0 : Nat → List Int → Int → Int → ByteArray → ByteArray → Int → Int → Int → Int → Int → Option (Bool)
 | 0, _, _, _, _, _, _, _, _, _, _ => none
 | k + 1, x13, x14, x15, x226000, x226001, x226002, x226003, x226004, x226005, x226006 => if x15 < x14 then (if 0 ≤ x15 then (if x15 < (x13.length : Int) then (if (rd x13 x15) < 0 then (some false) else (if (rd x13 x15) > 2147483647 then (some false) else (ydw.l0 k x13 x14 (wrap64 (x15 + 1)) x226000 x226001 x226002 x226003 x226004 x226005 x226006))) else (none)) else (none)) else (if (x226001.size : Int) ≤ 64 then (if x226006 ≥ 0 then (if x226006 ≤ 100000 then (if x226005 = 0 then (some true) else (some (x226006 == 0))) else (some false)) else (some false)) else (some false))
def ydw.f (k : Nat) (a0_0 : ByteArray) (a0_1 : ByteArray) (a0_2 : Int) (a0_3 : Int) (a0_4 : Int) (a0_5 : Int) (a0_6 : Int) : Option (Bool) := (some (([a0_2, a0_3, a0_4, a0_5] : List Int) : List Int)).bind fun y226 => (ydw.l0 k y226 (y226.length : Int) 0 a0_0 a0_1 a0_2 a0_3 a0_4 a0_5 a0_6)
set_option maxHeartbeats 8000000 in
set_option maxRecDepth 100000 in
theorem ydw.calls (k : Nat) (a0_0 : ByteArray) (a0_1 : ByteArray) (a0_2 : Int) (a0_3 : Int) (a0_4 : Int) (a0_5 : Int) (a0_6 : Int) (r : Bool) (w : World) (h : ydw.f k a0_0 a0_1 a0_2 a0_3 a0_4 a0_5 a0_6 = some r) :
  Calls Tryz.prog 45 #[.agg #[.string a0_0, .string a0_1, .int .i64 a0_2, .int .i64 a0_3, .int .i64 a0_4, .int .i64 a0_5, .int .i64 a0_6]] w fun e w' => e = .returned (.bool r) ∧ Below w.heap.size w w' := by
 have hu40 := Tryz.underlying40
 have HB := Aside0.mk (Below.refl w.heap.size w)
 have H : ((some (([a0_2, a0_3, a0_4, a0_5] : List Int) : List Int)).bind fun y226 => (ydw.l0 k y226 (y226.length : Int) 0 a0_0 a0_1 a0_2 a0_3 a0_4 a0_5 a0_6)) = some r := h
 clear h
 obtain ⟨y226, hy226⟩ : ∃ y_ : List Int, y_ = (([a0_2, a0_3, a0_4, a0_5] : List Int)) := ⟨_, rfl⟩
 replace H : (ydw.l0 k y226 (y226.length : Int) 0 a0_0 a0_1 a0_2 a0_3 a0_4 a0_5 a0_6) = some r := by first | (rw [hy226]; with_reducible exact H) | (have H2_ := (Option.bind_some _ _).symm.trans H; rw [hy226]; with_reducible exact H2_) | (have H2_ := (Option.bind_some _ _).symm.trans H; with_reducible exact H2_) | with_reducible exact H | (rw [hy226]; exact H) | exact H
 have Ny226 := Aside0.mk hy226
 clear hy226
 have H' := Aside0.mk H
 clear H
 go_enter Tryz.func45, Tryz.ntmps45
 go_wp2_with (first | ((with_reducible refine zby (N := 1) rfl ?_); refine zbr ?hg (N := 1) ?hd (cs := #[.string a0_0, .string a0_1, .int .i64 a0_2, .int .i64 a0_3, .int .i64 a0_4, .int .i64 a0_5, .int .i64 a0_6]) (t := 40) ?hr ?_; (case hd => rfl); (case hg => rfl); (case hr => first | (go_simp; done) | (go_simp; rfl)); intro gb225 hg w2 hbox hb; have n0_ := Aside0.mk (zap (by repeat (first | (with_reducible first | exact HB.out | apply zab | apply zaa | apply zac) | exact HB.out)) hb); have n1_ := Aside0.mk (hbox); have n2_ := Aside0.mk ((by rw [hg]; exact (zan (by repeat (first | (with_reducible first | exact HB.out | apply zab | apply zaa | apply zac) | exact HB.out))) : w.heap.size ≤ gb225)); have n3_ := Aside0.mk ((by rw [hg]; exact (zan (by repeat (first | (with_reducible first | exact HB.out | apply zab | apply zaa | apply zac) | exact HB.out))) : w.heap.size ≤ gb225)); clear HB; have HB := n0_; have BK225 := n1_; have GW225 := n2_; have GE225 := n3_; clear n0_ n1_ n2_ n3_; clear hb hbox hg; have hcz3_0 : w2.cell? ⟨gb225, 0, none⟩ = some (.string a0_0) := (zah BK225.out 0).trans rfl; have hcz3_1 : w2.cell? ⟨gb225, 1, none⟩ = some (.string a0_1) := (zah BK225.out 1).trans rfl; have hcz3_2 : w2.cell? ⟨gb225, 2, none⟩ = some (.int .i64 a0_2) := (zah BK225.out 2).trans rfl; have hcz3_3 : w2.cell? ⟨gb225, 3, none⟩ = some (.int .i64 a0_3) := (zah BK225.out 3).trans rfl; have hcz3_4 : w2.cell? ⟨gb225, 4, none⟩ = some (.int .i64 a0_4) := (zah BK225.out 4).trans rfl; have hcz3_5 : w2.cell? ⟨gb225, 5, none⟩ = some (.int .i64 a0_5) := (zah BK225.out 5).trans rfl; have hcz3_6 : w2.cell? ⟨gb225, 6, none⟩ = some (.int .i64 a0_6) := (zah BK225.out 6).trans rfl; have hfz3_0 := zad BK225.out 0; have hfz3_1 := zad BK225.out 1; have hfz3_2 := zad BK225.out 2; have hfz3_3 := zad BK225.out 3; have hfz3_4 := zad BK225.out 4; have hfz3_5 := zad BK225.out 5; have hfz3_6 := zad BK225.out 6) | ((with_reducible refine zby (N := 13) rfl ?_); refine Kd.R_lit (Kd.int .i64) _ 3 ?hg (N := 13) ?hd (xs := ([a0_2, a0_3, a0_4, a0_5] : List Int)) (inner := [.int .i64 a0_2, .int .i64 a0_3, .int .i64 a0_4, .int .i64 a0_5]) (ok := fun _ => True) (okp := fun _ => True) ?hr ?hp (fun _ hk => hk) trivial (Below.refl _ _) (Nat.le_refl _) (by simp) ?_; (case hd => rfl); (case hg => rfl); (case hr => first | (go_simp; done) | (go_simp; rfl)); (case hp => exact (Reps.one (show Kd.M (Kd.int .i64) _ _ _ a0_2 [.int .i64 a0_2] from rfl) (Reps.one (show Kd.M (Kd.int .i64) _ _ _ a0_3 [.int .i64 a0_3] from rfl) (Reps.one (show Kd.M (Kd.int .i64) _ _ _ a0_4 [.int .i64 a0_4] from rfl) (Reps.one (show Kd.M (Kd.int .i64) _ _ _ a0_5 [.int .i64 a0_5] from rfl) (Reps.none _ _)))))); intro v227 w4 ho5 hb hg_ hnew_; clear hg_ hnew_; (first | rw [← Ny226.out] at ho5 | (simp only [Int.reduceToNat] at ho5; rw [← Ny226.out] at ho5)); have n0_ := Aside0.mk (Kd.R_lower ho5 (zan (by repeat (first | (with_reducible first | exact HB.out | apply zab | apply zaa | apply zac | refine zai ?_ GE225.out) | exact HB.out)))); have n1_ := Aside0.mk (zau (g := gb225) (o := .cells #[.string a0_0, .string a0_1, .int .i64 a0_2, .int .i64 a0_3, .int .i64 a0_4, .int .i64 a0_5, .int .i64 a0_6] 40 (0, 0)) (by (with_reducible repeat (first | refine zae ?_ _ | refine zag ?_ | refine zaf ?_ _)); exact BK225.out) hb); have n2_ := Aside0.mk (zap (by repeat (first | (with_reducible first | exact HB.out | apply zab | apply zaa | apply zac | refine zai ?_ GE225.out) | exact HB.out)) hb); clear BK225; clear HB; have HO228 := n0_; have BK225 := n1_; have HB := n2_; clear n0_ n1_ n2_; clear hb ho5; obtain ⟨Ao6, co6, eo6⟩ := Kd.R_slice HO228.out; subst eo6))
 go_loopg [15] k (fun kq v15 w' => ∃ (x15_1 : Int), v15 = .int .i64 x15_1 ∧ Aside0 (ydw.l0 kq y226 (y226.length : Int) x15_1 a0_0 a0_1 a0_2 a0_3 a0_4 a0_5 a0_6 = some r) ∧ Aside0 (kq ≤ k) ∧ Aside0 (Kd.R (Kd.int .i64) 3 w' w.heap.size (fun _ => True) (.slice Ao6 y226.length co6) y226) ∧ Aside0 (w'.heap[gb225]? = some (.cells #[.string a0_0, .string a0_1, .int .i64 a0_2, .int .i64 a0_3, .int .i64 a0_4, .int .i64 a0_5, .int .i64 a0_6] 40 (0, 0))) ∧ Aside0 (Below w.heap.size w w'))
 case atStart => exact ⟨(0), (by first | rfl | (simp; done) | (simp [*]; done)), H', ⟨Nat.le_refl _⟩, ⟨by (with_reducible repeat (first | apply Kd.R_alloc | apply Kd.R_drewN | apply Kd.R_drew)); exact HO228.out⟩, ⟨by (with_reducible repeat (first | refine zae ?_ _ | refine zag ?_ | refine zaf ?_ _)); exact BK225.out⟩, ⟨by repeat (first | (with_reducible first | exact HB.out | apply zab | apply zaa | apply zac | refine zai ?_ GE225.out) | exact HB.out)⟩⟩
 case round =>
  clear H'
  try clear p2; try clear c4; try clear hcz3_0; try clear hcz3_1; try clear hcz3_2; try clear hcz3_3; try clear hcz3_4; try clear hcz3_5; try clear hcz3_6; try clear hfz3_0; try clear hfz3_1; try clear hfz3_2; try clear hfz3_3; try clear hfz3_4; try clear hfz3_5; try clear hfz3_6
  obtain ⟨x15_1, rfl, HA, HK1, HO_13, BK225, HB⟩ := hrel
  cases gk with
  | zero => exact absurd HA.out (by simp [ydw.l0])
  | succ k1 =>
   have H := HA.out
   clear HA
   simp only [ydw.l0] at H
   by_cases c7 : x15_1 < (y226.length : Int)
   ·rw [if_pos c7] at H
    have c7b0 : decide (x15_1 < (y226.length : Int)) = true := decide_eq_true c7
    clear c7
    by_cases c8 : 0 ≤ x15_1
    ·rw [if_pos c8] at H
     have c8b0 : decide (0 ≤ x15_1) = true := decide_eq_true c8
     clear c8
     by_cases c9 : x15_1 < (y226.length : Int)
     ·rw [if_pos c9] at H
      have c9b0 : decide (x15_1 < (y226.length : Int)) = true := decide_eq_true c9
      clear c9
      by_cases c10 : (rd y226 x15_1) < 0
      ·rw [if_pos c10] at H
       have c10b0 : decide ((rd y226 x15_1) < 0) = true := decide_eq_true c10
       clear c10
       obtain rfl := Option.some.inj H
       have p229 : 0 ≤ (x15_1 : Int) := of_decide_eq_true (by assumption)
       have q229 : x15_1 < (y226.length : Int) := of_decide_eq_true (by assumption)
       obtain ⟨ad229, e229, hx229_0⟩ := Kd.at_int (Kd.R_reads' HO_13.out).2.2 x15_1 p229 q229
       cases e229
       replace p229 := eq_true p229
       replace q229 := eq_true q229
       go_wp2
       go_ret
       exact ⟨by first | rfl | (simp [zal, zak] <;> rfl) | (simp [*, zal, zak] <;> rfl), by repeat (first | (with_reducible first | exact HB.out | apply zab | apply zaa | apply zac | refine zai ?_ GE225.out) | exact HB.out)⟩
      ·rw [if_neg c10] at H
       have c10b0 : decide ((rd y226 x15_1) < 0) = false := decide_eq_false c10
       clear c10
       by_cases c11 : (rd y226 x15_1) > 2147483647
       ·rw [if_pos c11] at H
        have c11b0 : decide (2147483647 < (rd y226 x15_1)) = true := decide_eq_true c11
        clear c11
        obtain rfl := Option.some.inj H
        have p229 : 0 ≤ (x15_1 : Int) := of_decide_eq_true (by assumption)
        have q229 : x15_1 < (y226.length : Int) := of_decide_eq_true (by assumption)
        obtain ⟨ad229, e229, hx229_0⟩ := Kd.at_int (Kd.R_reads' HO_13.out).2.2 x15_1 p229 q229
        cases e229
        replace p229 := eq_true p229
        replace q229 := eq_true q229
        go_wp2
        go_ret
        exact ⟨by first | rfl | (simp [zal, zak] <;> rfl) | (simp [*, zal, zak] <;> rfl), by repeat (first | (with_reducible first | exact HB.out | apply zab | apply zaa | apply zac | refine zai ?_ GE225.out) | exact HB.out)⟩
       ·rw [if_neg c11] at H
        have c11b0 : decide (2147483647 < (rd y226 x15_1)) = false := decide_eq_false c11
        clear c11
        have H' := Aside0.mk H
        clear H
        have p229 : 0 ≤ (x15_1 : Int) := of_decide_eq_true (by assumption)
        have q229 : x15_1 < (y226.length : Int) := of_decide_eq_true (by assumption)
        obtain ⟨ad229, e229, hx229_0⟩ := Kd.at_int (Kd.R_reads' HO_13.out).2.2 x15_1 p229 q229
        cases e229
        replace p229 := eq_true p229
        replace q229 := eq_true q229
        go_wp2
        go_roundg k1
        case measure => have := HK1.out; omega
        case rel => exact ⟨(wrap64 (x15_1 + 1)), (by first | rfl | (simp; done) | (simp [*]; done)), H', ⟨by have := HK1.out; omega⟩, ⟨by (with_reducible repeat (first | apply Kd.R_alloc | apply Kd.R_drewN | apply Kd.R_drew)); exact HO_13.out⟩, ⟨by (with_reducible repeat (first | refine zae ?_ _ | refine zag ?_ | refine zaf ?_ _)); exact BK225.out⟩, ⟨by repeat (first | (with_reducible first | exact HB.out | apply zab | apply zaa | apply zac | refine zai ?_ GE225.out) | exact HB.out)⟩⟩
     ·rw [if_neg c9] at H
      exact absurd H (by simp)
    ·rw [if_neg c8] at H
     exact absurd H (by simp)
   ·rw [if_neg c7] at H
    have c7b0 : decide (x15_1 < (y226.length : Int)) = false := decide_eq_false c7
    clear c7
    by_cases c12 : (a0_1.size : Int) ≤ 64
    ·rw [if_pos c12] at H
     have c12b0 : decide ((a0_1.size : Int) ≤ 64) = true := decide_eq_true c12
     have c12b1 : decide (a0_1.size ≤ 64) = true := decide_eq_true (by omega)
     clear c12
     by_cases c13 : a0_6 ≥ 0
     ·rw [if_pos c13] at H
      have c13b0 : decide (0 ≤ a0_6) = true := decide_eq_true c13
      clear c13
      by_cases c14 : a0_6 ≤ 100000
      ·rw [if_pos c14] at H
       have c14b0 : decide (a0_6 ≤ 100000) = true := decide_eq_true c14
       clear c14
       by_cases c15 : a0_5 = 0
       ·rw [if_pos c15] at H
        have c15b0 : (a0_5 == 0) = true := beq_iff_eq.mpr c15
        have c15b1 : (a0_5 != 0) = false := bne_eq_false_iff_eq.mpr c15
        clear c15
        obtain rfl := Option.some.inj H
        have hcz16_0 : wr.cell? ⟨gb225, 0, none⟩ = some (.string a0_0) := (zah BK225.out 0).trans rfl
        have hcz16_1 : wr.cell? ⟨gb225, 1, none⟩ = some (.string a0_1) := (zah BK225.out 1).trans rfl
        have hcz16_2 : wr.cell? ⟨gb225, 2, none⟩ = some (.int .i64 a0_2) := (zah BK225.out 2).trans rfl
        have hcz16_3 : wr.cell? ⟨gb225, 3, none⟩ = some (.int .i64 a0_3) := (zah BK225.out 3).trans rfl
        have hcz16_4 : wr.cell? ⟨gb225, 4, none⟩ = some (.int .i64 a0_4) := (zah BK225.out 4).trans rfl
        have hcz16_5 : wr.cell? ⟨gb225, 5, none⟩ = some (.int .i64 a0_5) := (zah BK225.out 5).trans rfl
        have hcz16_6 : wr.cell? ⟨gb225, 6, none⟩ = some (.int .i64 a0_6) := (zah BK225.out 6).trans rfl
        have hfz16_0 := zad BK225.out 0
        have hfz16_1 := zad BK225.out 1
        have hfz16_2 := zad BK225.out 2
        have hfz16_3 := zad BK225.out 3
        have hfz16_4 := zad BK225.out 4
        have hfz16_5 := zad BK225.out 5
        have hfz16_6 := zad BK225.out 6
        go_wp2
        go_ret
        exact ⟨by first | rfl | (simp [zal, zak] <;> rfl) | (simp [*, zal, zak] <;> rfl), by repeat (first | (with_reducible first | exact HB.out | apply zab | apply zaa | apply zac | refine zai ?_ GE225.out) | exact HB.out)⟩
       ·rw [if_neg c15] at H
        have c15b0 : (a0_5 == 0) = false := beq_eq_false_iff_ne.mpr c15
        have c15b1 : (a0_5 != 0) = true := bne_iff_ne.mpr c15
        obtain rfl := Option.some.inj H
        have hcz17_0 : wr.cell? ⟨gb225, 0, none⟩ = some (.string a0_0) := (zah BK225.out 0).trans rfl
        have hcz17_1 : wr.cell? ⟨gb225, 1, none⟩ = some (.string a0_1) := (zah BK225.out 1).trans rfl
        have hcz17_2 : wr.cell? ⟨gb225, 2, none⟩ = some (.int .i64 a0_2) := (zah BK225.out 2).trans rfl
        have hcz17_3 : wr.cell? ⟨gb225, 3, none⟩ = some (.int .i64 a0_3) := (zah BK225.out 3).trans rfl
        have hcz17_4 : wr.cell? ⟨gb225, 4, none⟩ = some (.int .i64 a0_4) := (zah BK225.out 4).trans rfl
        have hcz17_5 : wr.cell? ⟨gb225, 5, none⟩ = some (.int .i64 a0_5) := (zah BK225.out 5).trans rfl
        have hcz17_6 : wr.cell? ⟨gb225, 6, none⟩ = some (.int .i64 a0_6) := (zah BK225.out 6).trans rfl
        have hfz17_0 := zad BK225.out 0
        have hfz17_1 := zad BK225.out 1
        have hfz17_2 := zad BK225.out 2
        have hfz17_3 := zad BK225.out 3
        have hfz17_4 := zad BK225.out 4
        have hfz17_5 := zad BK225.out 5
        have hfz17_6 := zad BK225.out 6
        go_wp2
        go_ret
        exact ⟨by first | rfl | (simp [zal, zak] <;> rfl) | (simp [*, zal, zak] <;> rfl), by repeat (first | (with_reducible first | exact HB.out | apply zab | apply zaa | apply zac | refine zai ?_ GE225.out) | exact HB.out)⟩
      ·rw [if_neg c14] at H
       have c14b0 : decide (a0_6 ≤ 100000) = false := decide_eq_false c14
       clear c14
       obtain rfl := Option.some.inj H
       have hcz18_0 : wr.cell? ⟨gb225, 0, none⟩ = some (.string a0_0) := (zah BK225.out 0).trans rfl
       have hcz18_1 : wr.cell? ⟨gb225, 1, none⟩ = some (.string a0_1) := (zah BK225.out 1).trans rfl
       have hcz18_2 : wr.cell? ⟨gb225, 2, none⟩ = some (.int .i64 a0_2) := (zah BK225.out 2).trans rfl
       have hcz18_3 : wr.cell? ⟨gb225, 3, none⟩ = some (.int .i64 a0_3) := (zah BK225.out 3).trans rfl
       have hcz18_4 : wr.cell? ⟨gb225, 4, none⟩ = some (.int .i64 a0_4) := (zah BK225.out 4).trans rfl
       have hcz18_5 : wr.cell? ⟨gb225, 5, none⟩ = some (.int .i64 a0_5) := (zah BK225.out 5).trans rfl
       have hcz18_6 : wr.cell? ⟨gb225, 6, none⟩ = some (.int .i64 a0_6) := (zah BK225.out 6).trans rfl
       have hfz18_0 := zad BK225.out 0
       have hfz18_1 := zad BK225.out 1
       have hfz18_2 := zad BK225.out 2
       have hfz18_3 := zad BK225.out 3
       have hfz18_4 := zad BK225.out 4
       have hfz18_5 := zad BK225.out 5
       have hfz18_6 := zad BK225.out 6
       go_wp2
       go_ret
       exact ⟨by first | rfl | (simp [zal, zak] <;> rfl) | (simp [*, zal, zak] <;> rfl), by repeat (first | (with_reducible first | exact HB.out | apply zab | apply zaa | apply zac | refine zai ?_ GE225.out) | exact HB.out)⟩
     ·rw [if_neg c13] at H
      have c13b0 : decide (0 ≤ a0_6) = false := decide_eq_false c13
      clear c13
      obtain rfl := Option.some.inj H
      have hcz19_0 : wr.cell? ⟨gb225, 0, none⟩ = some (.string a0_0) := (zah BK225.out 0).trans rfl
      have hcz19_1 : wr.cell? ⟨gb225, 1, none⟩ = some (.string a0_1) := (zah BK225.out 1).trans rfl
      have hcz19_2 : wr.cell? ⟨gb225, 2, none⟩ = some (.int .i64 a0_2) := (zah BK225.out 2).trans rfl
      have hcz19_3 : wr.cell? ⟨gb225, 3, none⟩ = some (.int .i64 a0_3) := (zah BK225.out 3).trans rfl
      have hcz19_4 : wr.cell? ⟨gb225, 4, none⟩ = some (.int .i64 a0_4) := (zah BK225.out 4).trans rfl
      have hcz19_5 : wr.cell? ⟨gb225, 5, none⟩ = some (.int .i64 a0_5) := (zah BK225.out 5).trans rfl
      have hcz19_6 : wr.cell? ⟨gb225, 6, none⟩ = some (.int .i64 a0_6) := (zah BK225.out 6).trans rfl
      have hfz19_0 := zad BK225.out 0
      have hfz19_1 := zad BK225.out 1
      have hfz19_2 := zad BK225.out 2
      have hfz19_3 := zad BK225.out 3
      have hfz19_4 := zad BK225.out 4
      have hfz19_5 := zad BK225.out 5
      have hfz19_6 := zad BK225.out 6
      go_wp2
      go_ret
      exact ⟨by first | rfl | (simp [zal, zak] <;> rfl) | (simp [*, zal, zak] <;> rfl), by repeat (first | (with_reducible first | exact HB.out | apply zab | apply zaa | apply zac | refine zai ?_ GE225.out) | exact HB.out)⟩
    ·rw [if_neg c12] at H
     have c12b0 : decide ((a0_1.size : Int) ≤ 64) = false := decide_eq_false c12
     have c12b1 : decide (a0_1.size ≤ 64) = false := decide_eq_false (by omega)
     clear c12
     obtain rfl := Option.some.inj H
     have hcz20_0 : wr.cell? ⟨gb225, 0, none⟩ = some (.string a0_0) := (zah BK225.out 0).trans rfl
     have hcz20_1 : wr.cell? ⟨gb225, 1, none⟩ = some (.string a0_1) := (zah BK225.out 1).trans rfl
     have hcz20_2 : wr.cell? ⟨gb225, 2, none⟩ = some (.int .i64 a0_2) := (zah BK225.out 2).trans rfl
     have hcz20_3 : wr.cell? ⟨gb225, 3, none⟩ = some (.int .i64 a0_3) := (zah BK225.out 3).trans rfl
     have hcz20_4 : wr.cell? ⟨gb225, 4, none⟩ = some (.int .i64 a0_4) := (zah BK225.out 4).trans rfl
     have hcz20_5 : wr.cell? ⟨gb225, 5, none⟩ = some (.int .i64 a0_5) := (zah BK225.out 5).trans rfl
     have hcz20_6 : wr.cell? ⟨gb225, 6, none⟩ = some (.int .i64 a0_6) := (zah BK225.out 6).trans rfl
     have hfz20_0 := zad BK225.out 0
     have hfz20_1 := zad BK225.out 1
     have hfz20_2 := zad BK225.out 2
     have hfz20_3 := zad BK225.out 3
     have hfz20_4 := zad BK225.out 4
     have hfz20_5 := zad BK225.out 5
     have hfz20_6 := zad BK225.out 6
     go_wp2
     go_ret
     exact ⟨by first | rfl | (simp [zal, zak] <;> rfl) | (simp [*, zal, zak] <;> rfl), by repeat (first | (with_reducible first | exact HB.out | apply zab | apply zaa | apply zac | refine zai ?_ GE225.out) | exact HB.out)⟩
def yea.l0 : Nat → List (S122) → List (S122) → Int → Int → Option (Bool)
 | 0, _, _, _, _ => none
 | k + 1, x0, x1, x12, x13 => if x13 < x12 then (if 0 ≤ x13 then (if x13 < (x0.length : Int) then (if x13 < (x1.length : Int) then (if (!((((zcd x0 x13).f0).toList) == (((zcd x1 x13).f0).toList)) || (!(((zcd x0 x13).f1) == ((zcd x1 x13).f1)))) = true then (some false) else (yea.l0 k x0 x1 x12 (wrap64 (x13 + 1)))) else (none)) else (none)) else (none)) else (some true)
def yea.f (k : Nat) (l0 : List (S122)) (l1 : List (S122)) : Option (Bool) := if (l0.length : Int) = (l1.length : Int) then (yea.l0 k l0 l1 (l0.length : Int) 0) else (some false)
set_option maxHeartbeats 8000000 in
set_option maxRecDepth 100000 in
theorem yea.calls (k : Nat) (A0 : Option Addr) (c0 : Nat) (l0 : List (S122)) (A1 : Option Addr) (c1 : Nat) (l1 : List (S122)) (r : Bool) (w : World) (hr0 : Kd.C k122 w A0 l0.length l0) (hc0 : l0.length ≤ c0) (hr1 : Kd.C k122 w A1 l1.length l1) (hc1 : l1.length ≤ c1) (h : yea.f k l0 l1 = some r) :
  Calls Tryz.prog 52 #[.slice A0 l0.length c0, .slice A1 l1.length c1] w fun e w' => e = .returned (.bool r) ∧ Drawn0 w w' := by
 have hu122 := Tryz.underlying122
 have HR0 := Aside0.mk hr0
 have HC0 := Aside0.mk hc0
 clear hr0 hc0
 have HR1 := Aside0.mk hr1
 have HC1 := Aside0.mk hc1
 clear hr1 hc1
 have H : (if (l0.length : Int) = (l1.length : Int) then (yea.l0 k l0 l1 (l0.length : Int) 0) else (some false)) = some r := h
 clear h
 by_cases c3 : (l0.length : Int) = (l1.length : Int)
 ·rw [if_pos c3] at H
  have c3b0 : ((l0.length : Int) == (l1.length : Int)) = true := beq_iff_eq.mpr c3
  have c3b1 : ((l0.length : Int) != (l1.length : Int)) = false := bne_eq_false_iff_eq.mpr c3
  have c3b2 : (l0.length == l1.length) = true := by first | simpa using c3 | (simp at c3 ⊢; omega)
  clear c3
  have H' := Aside0.mk H
  clear H
  go_enter Tryz.func52, Tryz.ntmps52
  go_wp2
  repeat (go_quiet (fail); try go_wp2)
  go_loopg [13] k (fun kq v13 w' => ∃ (x13_1 : Int), v13 = .int .i64 x13_1 ∧ Aside0 (yea.l0 kq l0 l1 (l0.length : Int) x13_1 = some r) ∧ Aside0 (kq ≤ k) ∧ Drawn0 w w')
  case atStart => exact ⟨(0), (by first | rfl | (simp; done) | (simp [*]; done)), H', ⟨Nat.le_refl _⟩, by repeat (first | exact Drawn0.refl _ | apply Drawn0.step)⟩
  case round =>
   clear H'
   try clear c1; try clear p2; try clear c3; try clear c3b0; try clear c3b1; try clear c3b2
   obtain ⟨x13_1, rfl, HA, HK1, ⟨m1, rfl⟩⟩ := hrel
   cases gk with
   | zero => exact absurd HA.out (by simp [yea.l0])
   | succ k1 =>
    have H := HA.out
    clear HA
    simp only [yea.l0] at H
    by_cases c4 : x13_1 < (l0.length : Int)
    ·rw [if_pos c4] at H
     have c4b0 : decide (x13_1 < (l0.length : Int)) = true := decide_eq_true c4
     clear c4
     by_cases c5 : 0 ≤ x13_1
     ·rw [if_pos c5] at H
      have c5b0 : decide (0 ≤ x13_1) = true := decide_eq_true c5
      clear c5
      by_cases c6 : x13_1 < (l0.length : Int)
      ·rw [if_pos c6] at H
       have c6b0 : decide (x13_1 < (l0.length : Int)) = true := decide_eq_true c6
       clear c6
       by_cases c7 : x13_1 < (l1.length : Int)
       ·rw [if_pos c7] at H
        have c7b0 : decide (x13_1 < (l1.length : Int)) = true := decide_eq_true c7
        clear c7
        by_cases c8 : (!((((zcd l0 x13_1).f0).toList) == (((zcd l1 x13_1).f0).toList)) || (!(((zcd l0 x13_1).f1) == ((zcd l1 x13_1).f1)))) = true
        ·rw [if_pos c8] at H
         have c8b0 : (!((((zcd l0 x13_1).f0).toList) == (((zcd l1 x13_1).f0).toList)) || (!(((zcd l0 x13_1).f1) == ((zcd l1 x13_1).f1)))) = true := c8
         clear c8
         obtain rfl := Option.some.inj H
         have p230 : 0 ≤ (x13_1 : Int) := of_decide_eq_true (by assumption)
         have q230 : x13_1 < (l0.length : Int) := of_decide_eq_true (by assumption)
         obtain ⟨ad230, e230, hx230_0, hx230_1⟩ := at_T122 HR0.out x13_1 p230 q230
         cases e230
         replace p230 := eq_true p230
         replace q230 := eq_true q230
         have p231 : 0 ≤ (x13_1 : Int) := of_decide_eq_true (by assumption)
         have q231 : x13_1 < (l1.length : Int) := of_decide_eq_true (by assumption)
         obtain ⟨ad231, e231, hx231_0, hx231_1⟩ := at_T122 HR1.out x13_1 p231 q231
         cases e231
         replace p231 := eq_true p231
         replace q231 := eq_true q231
         go_wp2
         repeat (go_quiet (fail); try go_wp2)
         go_ret
         exact ⟨by first | rfl | (simp; done) | (simp [*]; done), by repeat (first | exact Drawn0.refl _ | apply Drawn0.step)⟩
        ·rw [if_neg c8] at H
         have c8b0 : (!((((zcd l0 x13_1).f0).toList) == (((zcd l1 x13_1).f0).toList)) || (!(((zcd l0 x13_1).f1) == ((zcd l1 x13_1).f1)))) = false := by simpa using c8
         clear c8
         have H' := Aside0.mk H
         clear H
         have p230 : 0 ≤ (x13_1 : Int) := of_decide_eq_true (by assumption)
         have q230 : x13_1 < (l0.length : Int) := of_decide_eq_true (by assumption)
         obtain ⟨ad230, e230, hx230_0, hx230_1⟩ := at_T122 HR0.out x13_1 p230 q230
         cases e230
         replace p230 := eq_true p230
         replace q230 := eq_true q230
         have p231 : 0 ≤ (x13_1 : Int) := of_decide_eq_true (by assumption)
         have q231 : x13_1 < (l1.length : Int) := of_decide_eq_true (by assumption)
         obtain ⟨ad231, e231, hx231_0, hx231_1⟩ := at_T122 HR1.out x13_1 p231 q231
         cases e231
         replace p231 := eq_true p231
         replace q231 := eq_true q231
         go_wp2
         repeat (go_quiet (fail); try go_wp2)
         go_roundg k1
         case measure => have := HK1.out; omega
         case rel => exact ⟨(wrap64 (x13_1 + 1)), (by first | rfl | (simp; done) | (simp [*]; done)), H', ⟨by have := HK1.out; omega⟩, by repeat (first | exact Drawn0.refl _ | apply Drawn0.step)⟩
       ·rw [if_neg c7] at H
        exact absurd H (by simp)
      ·rw [if_neg c6] at H
       exact absurd H (by simp)
     ·rw [if_neg c5] at H
      exact absurd H (by simp)
    ·rw [if_neg c4] at H
     have c4b0 : decide (x13_1 < (l0.length : Int)) = false := decide_eq_false c4
     clear c4
     obtain rfl := Option.some.inj H
     go_wp2
     repeat (go_quiet (fail); try go_wp2)
     go_ret
     exact ⟨by first | rfl | (simp; done) | (simp [*]; done), by repeat (first | exact Drawn0.refl _ | apply Drawn0.step)⟩
 ·rw [if_neg c3] at H
  have c3b0 : ((l0.length : Int) == (l1.length : Int)) = false := beq_eq_false_iff_ne.mpr c3
  have c3b1 : ((l0.length : Int) != (l1.length : Int)) = true := bne_iff_ne.mpr c3
  have c3b2 : (l0.length == l1.length) = false := by first | simpa using c3 | (simp at c3 ⊢; omega)
  obtain rfl := Option.some.inj H
  go_enter Tryz.func52, Tryz.ntmps52
  go_wp2
  repeat (go_quiet (fail); try go_wp2)
  go_ret
  exact ⟨by first | rfl | (simp; done) | (simp [*]; done), by repeat (first | exact Drawn0.refl _ | apply Drawn0.step)⟩
end Go.Proofs.YteamhfmpogbilaaGreatDoor.X
end
section
namespace Go.Proofs.YteamhfmpogbilaaGreatDoor.X
open Go.RowKit Go.Proofs.YteamhfmpogbilaaGreatDoorW.PrintWords Go.Proofs.YteamhfmpogbilaaGreatDoorW.PrintLast Go.Proofs.YteamhfmpogbilaaGreatDoorW.PrintMore
attribute [local go_sem] zbw zbu zck zcj zbj zbi zbv zbt
def ydu.l0 : Nat → ByteArray → List ByteArray → Int → Int → Option (List ByteArray)
 | 0, _, _, _, _ => none
 | k + 1, x0, x3, x4, x5 => if x5 ≤ (x0.size : Int) then (if x5 = (x0.size : Int) then (if 0 ≤ x4 then (if x4 ≤ x5 then (if x3.length < 8796093022208 then (ydu.l0 k x0 (x3 ++ [x0.extract (x4 : Int).toNat (x5 : Int).toNat]) (wrap64 (x5 + 1)) (wrap64 (x5 + 1))) else (none)) else (none)) else (none)) else (if 0 ≤ x5 then (if x5 < (x0.size : Int) then (if (bt x0 x5) = 10 then (if 0 ≤ x4 then (if x4 ≤ x5 then (if x3.length < 8796093022208 then (ydu.l0 k x0 (x3 ++ [x0.extract (x4 : Int).toNat (x5 : Int).toNat]) (wrap64 (x5 + 1)) (wrap64 (x5 + 1))) else (none)) else (none)) else (none)) else (ydu.l0 k x0 x3 x4 (wrap64 (x5 + 1)))) else (none)) else (none))) else (some x3)
def ydu.f (k : Nat) (a0 : ByteArray) : Option (List ByteArray) := ydu.l0 k a0 ([] : List ByteArray) 0 0
set_option maxHeartbeats 8000000 in
set_option maxRecDepth 100000 in
theorem ydu.calls (k : Nat) (a0 : ByteArray) (r : List ByteArray) (w : World) (h : ydu.f k a0 = some r) :
  Calls Tryz.prog 25 #[.string a0] w fun e w' => ∃ v0_ : Value, e = .returned (v0_) ∧ Kd.R Kd.string 9 w' w.heap.size (fun _ => True) v0_ r ∧ Below w.heap.size w w' := by
 have HB := Aside0.mk (Below.refl w.heap.size w)
 have H : (ydu.l0 k a0 ([] : List ByteArray) 0 0) = some r := h
 clear h
 have H' := Aside0.mk H
 clear H
 go_enter Tryz.func25, Tryz.ntmps25
 go_wp2
 go_loopg [3, 4, 5] k (fun kq v3 v4 v5 w' => ∃ (x3_1 : List ByteArray) (x4_1 : Int) (x5_1 : Int), v4 = .int .i64 x4_1 ∧ v5 = .int .i64 x5_1 ∧ Aside0 (ydu.l0 kq a0 x3_1 x4_1 x5_1 = some r) ∧ Aside0 (kq ≤ k) ∧ Aside0 (Kd.R Kd.string 9 w' w.heap.size (fun _ => True) v3 x3_1) ∧ Aside0 (Below w.heap.size w w'))
 case atStart => exact ⟨(([] : List ByteArray)), (0), (0), (by first | rfl | (simp; done) | (simp [*]; done)), (by first | rfl | (simp; done) | (simp [*]; done)), H', ⟨Nat.le_refl _⟩, ⟨by first | exact Kd.R_nil _ _ _ _ _ | exact Kd.N_nil _ _ _ _ _ | exact Kd.V_nil _ _ _ _ _ | exact Kd.Q_nil _ _ _ _ _ | exact Kd.S_nil _ _ _ _ _⟩, ⟨by repeat (first | (with_reducible first | exact HB.out | apply zab | apply zaa | apply zac) | exact HB.out)⟩⟩
 case round =>
  clear H'
  obtain ⟨x3_1, x4_1, x5_1, rfl, rfl, HA, HK1, HO_3, HB⟩ := hrel
  cases gk with
  | zero => exact absurd HA.out (by simp [ydu.l0])
  | succ k1 =>
   have H := HA.out
   clear HA
   simp only [ydu.l0] at H
   by_cases c2 : x5_1 ≤ (a0.size : Int)
   ·rw [if_pos c2] at H
    have c2b0 : decide (x5_1 ≤ (a0.size : Int)) = true := decide_eq_true c2
    clear c2
    by_cases c3 : x5_1 = (a0.size : Int)
    ·rw [if_pos c3] at H
     have c3b0 : (x5_1 == (a0.size : Int)) = true := beq_iff_eq.mpr c3
     have c3b1 : (x5_1 != (a0.size : Int)) = false := bne_eq_false_iff_eq.mpr c3
     clear c3
     by_cases c4 : 0 ≤ x4_1
     ·rw [if_pos c4] at H
      have c4b0 := eq_true c4
      have c4b1 : decide (0 ≤ x4_1) = true := decide_eq_true c4
      clear c4
      by_cases c5 : x4_1 ≤ x5_1
      ·rw [if_pos c5] at H
       have c5b0 := eq_true c5
       have c5b1 : decide (x4_1 ≤ x5_1) = true := decide_eq_true c5
       clear c5
       have c6b0 := eq_true (of_decide_eq_true (by assumption) : x5_1 ≤ (a0.size : Int))
       by_cases c7 : x3_1.length < 8796093022208
       ·rw [if_pos c7] at H
        have LMc7 := Aside0.mk c7
        clear c7
        obtain ⟨y232, hy232⟩ : ∃ y_ : List ByteArray, y_ = (x3_1 ++ [a0.extract (x4_1 : Int).toNat (x5_1 : Int).toNat]) := ⟨_, rfl⟩
        replace H : (ydu.l0 k1 a0 y232 (wrap64 (x5_1 + 1)) (wrap64 (x5_1 + 1))) = some r := by first | (rw [hy232]; with_reducible exact H) | (have H2_ := (Option.bind_some _ _).symm.trans H; rw [hy232]; with_reducible exact H2_) | (have H2_ := (Option.bind_some _ _).symm.trans H; with_reducible exact H2_) | with_reducible exact H | (rw [hy232]; exact H) | exact H
        have Ny232 := Aside0.mk hy232
        clear hy232
        have H' := Aside0.mk H
        clear H
        go_wp2_with (((with_reducible refine zax (b := .append) (xs := #[.tmp 22, .tmp 27]) rfl ?_); at_builtin; refine Kd.R_append Kd.string (w0 := w) w.heap.size rfl (.tmp 22) (.tmp 27) 41 9 (.string ⟨#[]⟩) 16 rfl Tryz.underlying41 info9 rfl (by decide) (by omega) u3 x3_1 (a0.extract (x4_1 : Int).toNat (x5_1 : Int).toNat) [.string (a0.extract (x4_1 : Int).toNat (x5_1 : Int).toNat)] (fun _ => True) (fun _ => False) rfl rfl ?aP (fun _ hk => hk.elim) ?aF ?aO ?aB ?aS ?aL ?_; (case aP => exact rfl); (case aB => exact (by repeat (first | (with_reducible first | exact HB.out | apply zab | apply zaa | apply zac) | exact HB.out))); (case aF => exact (fun _ _ => trivial)); (case aO => exact (by (with_reducible repeat (first | apply Kd.R_alloc | apply Kd.R_drewN | apply Kd.R_drew)); exact HO_3.out)); (case aS => exact (zan (by repeat (first | (with_reducible first | exact HB.out | apply zab | apply zaa | apply zac) | exact HB.out)))); (case aL => have := LMc7.out; omega); intro v233 w8 ho hb hg hat; rw [← Ny232.out] at ho; have n0_ := Aside0.mk (hb); have n1_ := Aside0.mk (ho); clear HB; clear HO_3; have HB := n0_; have HO234 := n1_; clear n0_ n1_; clear ho hb hg hat))
        go_roundg k1
        case measure => have := HK1.out; omega
        case rel => exact ⟨(y232), (wrap64 (x5_1 + 1)), (wrap64 (x5_1 + 1)), (by first | rfl | (simp; done) | (simp [*]; done)), (by first | rfl | (simp; done) | (simp [*]; done)), H', ⟨by have := HK1.out; omega⟩, ⟨by (with_reducible repeat (first | apply Kd.R_alloc | apply Kd.R_drewN | apply Kd.R_drew)); exact HO234.out⟩, ⟨by repeat (first | (with_reducible first | exact HB.out | apply zab | apply zaa | apply zac) | exact HB.out)⟩⟩
       ·rw [if_neg c7] at H
        exact absurd H (by simp)
      ·rw [if_neg c5] at H
       exact absurd H (by simp)
     ·rw [if_neg c4] at H
      exact absurd H (by simp)
    ·rw [if_neg c3] at H
     have c3b0 : (x5_1 == (a0.size : Int)) = false := beq_eq_false_iff_ne.mpr c3
     have c3b1 : (x5_1 != (a0.size : Int)) = true := bne_iff_ne.mpr c3
     by_cases c9 : 0 ≤ x5_1
     ·rw [if_pos c9] at H
      have c9b0 : decide (0 ≤ x5_1) = true := decide_eq_true c9
      clear c9
      by_cases c10 : x5_1 < (a0.size : Int)
      ·rw [if_pos c10] at H
       have c10b0 : decide (x5_1 < (a0.size : Int)) = true := decide_eq_true c10
       clear c10
       by_cases c12 : (bt a0 x5_1) = 10
       ·rw [if_pos c12] at H
        have c12b0 : ((bt a0 x5_1) == 10) = true := beq_iff_eq.mpr c12
        have c12b1 : ((bt a0 x5_1) != 10) = false := bne_eq_false_iff_eq.mpr c12
        clear c12
        by_cases c13 : 0 ≤ x4_1
        ·rw [if_pos c13] at H
         have c13b0 := eq_true c13
         have c13b1 : decide (0 ≤ x4_1) = true := decide_eq_true c13
         clear c13
         by_cases c14 : x4_1 ≤ x5_1
         ·rw [if_pos c14] at H
          have c14b0 := eq_true c14
          have c14b1 : decide (x4_1 ≤ x5_1) = true := decide_eq_true c14
          clear c14
          have c15b0 := eq_true (of_decide_eq_true (by assumption) : x5_1 ≤ (a0.size : Int))
          by_cases c16 : x3_1.length < 8796093022208
          ·rw [if_pos c16] at H
           have LMc16 := Aside0.mk c16
           clear c16
           obtain ⟨y235, hy235⟩ : ∃ y_ : List ByteArray, y_ = (x3_1 ++ [a0.extract (x4_1 : Int).toNat (x5_1 : Int).toNat]) := ⟨_, rfl⟩
           replace H : (ydu.l0 k1 a0 y235 (wrap64 (x5_1 + 1)) (wrap64 (x5_1 + 1))) = some r := by first | (rw [hy235]; with_reducible exact H) | (have H2_ := (Option.bind_some _ _).symm.trans H; rw [hy235]; with_reducible exact H2_) | (have H2_ := (Option.bind_some _ _).symm.trans H; with_reducible exact H2_) | with_reducible exact H | (rw [hy235]; exact H) | exact H
           have Ny235 := Aside0.mk hy235
           clear hy235
           have H' := Aside0.mk H
           clear H
           have p11 : 0 ≤ (x5_1 : Int) := of_decide_eq_true (by assumption)
           have q11 : x5_1 < (a0.size : Int) := of_decide_eq_true (by assumption)
           have hx11 := zbq a0 x5_1
           replace p11 := eq_true p11
           replace q11 := eq_true q11
           go_wp2_with (((with_reducible refine zax (b := .append) (xs := #[.tmp 22, .tmp 27]) rfl ?_); at_builtin; refine Kd.R_append Kd.string (w0 := w) w.heap.size rfl (.tmp 22) (.tmp 27) 41 9 (.string ⟨#[]⟩) 16 rfl Tryz.underlying41 info9 rfl (by decide) (by omega) u3 x3_1 (a0.extract (x4_1 : Int).toNat (x5_1 : Int).toNat) [.string (a0.extract (x4_1 : Int).toNat (x5_1 : Int).toNat)] (fun _ => True) (fun _ => False) rfl rfl ?aP (fun _ hk => hk.elim) ?aF ?aO ?aB ?aS ?aL ?_; (case aP => exact rfl); (case aB => exact (by repeat (first | (with_reducible first | exact HB.out | apply zab | apply zaa | apply zac) | exact HB.out))); (case aF => exact (fun _ _ => trivial)); (case aO => exact (by (with_reducible repeat (first | apply Kd.R_alloc | apply Kd.R_drewN | apply Kd.R_drew)); exact HO_3.out)); (case aS => exact (zan (by repeat (first | (with_reducible first | exact HB.out | apply zab | apply zaa | apply zac) | exact HB.out)))); (case aL => have := LMc16.out; omega); intro v236 w17 ho hb hg hat; rw [← Ny235.out] at ho; have n0_ := Aside0.mk (hb); have n1_ := Aside0.mk (ho); clear HB; clear HO_3; have HB := n0_; have HO237 := n1_; clear n0_ n1_; clear ho hb hg hat))
           go_roundg k1
           case measure => have := HK1.out; omega
           case rel => exact ⟨(y235), (wrap64 (x5_1 + 1)), (wrap64 (x5_1 + 1)), (by first | rfl | (simp; done) | (simp [*]; done)), (by first | rfl | (simp; done) | (simp [*]; done)), H', ⟨by have := HK1.out; omega⟩, ⟨by (with_reducible repeat (first | apply Kd.R_alloc | apply Kd.R_drewN | apply Kd.R_drew)); exact HO237.out⟩, ⟨by repeat (first | (with_reducible first | exact HB.out | apply zab | apply zaa | apply zac) | exact HB.out)⟩⟩
          ·rw [if_neg c16] at H
           exact absurd H (by simp)
         ·rw [if_neg c14] at H
          exact absurd H (by simp)
        ·rw [if_neg c13] at H
         exact absurd H (by simp)
       ·rw [if_neg c12] at H
        have c12b0 : ((bt a0 x5_1) == 10) = false := beq_eq_false_iff_ne.mpr c12
        have c12b1 : ((bt a0 x5_1) != 10) = true := bne_iff_ne.mpr c12
        have H' := Aside0.mk H
        clear H
        have p11 : 0 ≤ (x5_1 : Int) := of_decide_eq_true (by assumption)
        have q11 : x5_1 < (a0.size : Int) := of_decide_eq_true (by assumption)
        have hx11 := zbq a0 x5_1
        replace p11 := eq_true p11
        replace q11 := eq_true q11
        go_wp2
        go_roundg k1
        case measure => have := HK1.out; omega
        case rel => exact ⟨(x3_1), (x4_1), (wrap64 (x5_1 + 1)), (by first | rfl | (simp; done) | (simp [*]; done)), (by first | rfl | (simp; done) | (simp [*]; done)), H', ⟨by have := HK1.out; omega⟩, ⟨by (with_reducible repeat (first | apply Kd.R_alloc | apply Kd.R_drewN | apply Kd.R_drew)); exact HO_3.out⟩, ⟨by repeat (first | (with_reducible first | exact HB.out | apply zab | apply zaa | apply zac) | exact HB.out)⟩⟩
      ·rw [if_neg c10] at H
       exact absurd H (by simp)
     ·rw [if_neg c9] at H
      exact absurd H (by simp)
   ·rw [if_neg c2] at H
    have c2b0 : decide (x5_1 ≤ (a0.size : Int)) = false := decide_eq_false c2
    clear c2
    obtain rfl := Option.some.inj H
    go_wp2
    go_ret
    exact ⟨_, by first | rfl | (simp [zal, zak] <;> rfl) | (simp [*, zal, zak] <;> rfl), by (with_reducible repeat (first | apply Kd.R_alloc | apply Kd.R_drewN | apply Kd.R_drew)); exact HO_3.out, by repeat (first | (with_reducible first | exact HB.out | apply zab | apply zaa | apply zac) | exact HB.out)⟩
def ydk.j0 : Nat → Int → Bool → Option (Int)
 | 0, _, _ => none
 | k + 1, x0, x3 => if x3 = true then (some ((x0 - 48) % 256)) else (if x0 ≥ 97 then (if x0 ≤ 102 then (some (((x0 - 97) % 256) + 10)) else (some (-1))) else (some (-1)))
def ydk.f (k : Nat) (a0 : Int) : Option (Int) := if a0 ≥ 48 then (ydk.j0 k a0 (decide (a0 ≤ 57))) else (ydk.j0 k a0 false)
set_option maxHeartbeats 8000000 in
set_option maxRecDepth 100000 in
theorem ydk.calls (k : Nat) (a0 : Int) (r : Int) (w : World) (h : ydk.f k a0 = some r) :
  Calls Tryz.prog 102 #[.int .u8 a0] w fun e w' => e = .returned (.int .i64 r) ∧ Drawn0 w w' := by
 have H : (if a0 ≥ 48 then (ydk.j0 k a0 (decide (a0 ≤ 57))) else (ydk.j0 k a0 false)) = some r := h
 clear h
 have HC2 := Aside0.mk H
 clear H
 go_enter Tryz.func102, Tryz.ntmps102
 go_upto_region 1 with (fail)
 go_cut [3] (fun v3 wc => ∃ (kq : Nat) (x3_1 : Bool), v3 = .bool x3_1 ∧ Aside0 (ydk.j0 kq a0 x3_1 = some r) ∧ Aside0 (kq ≤ k) ∧ Drawn0 w wc)
 case first =>
  have H := HC2.out
  clear HC2
  by_cases c3 : a0 ≥ 48
  ·rw [if_pos c3] at H
   have c3b0 : decide (48 ≤ a0) = true := decide_eq_true c3
   clear c3
   (first | rw [c3b0] | (simp only [zbp, zch]; rw [c3b0]) | rw [c3b9] | skip)
   have H' := Aside0.mk H
   clear H
   go_wp2
   go_meet
   case rel => exact ⟨_, (decide (a0 ≤ 57)), (by first | rfl | (simp; done) | (simp [*]; done)), H', ⟨by first | omega | exact Nat.le_refl _⟩, by repeat (first | exact Drawn0.refl _ | apply Drawn0.step)⟩
  ·rw [if_neg c3] at H
   have c3b0 : decide (48 ≤ a0) = false := decide_eq_false c3
   clear c3
   (first | rw [c3b0] | (simp only [zbp, zch]; rw [c3b0]) | rw [c3b9] | skip)
   have H' := Aside0.mk H
   clear H
   go_wp2
   go_meet
   case rel => exact ⟨_, (false), (by first | rfl | (simp; done) | (simp [*]; done)), H', ⟨by first | omega | exact Nat.le_refl _⟩, by repeat (first | exact Drawn0.refl _ | apply Drawn0.step)⟩
 case rest =>
  clear HC2
  try clear c1; try clear p2; try clear c3; try clear c3b0
  obtain ⟨kq, x3_1, rfl, HA, HJ1, ⟨mc1, rfl⟩⟩ := hcut
  cases kq with
  | zero => exact absurd HA.out (by simp [ydk.j0])
  | succ kj1 =>
   have H := HA.out
   clear HA
   simp only [ydk.j0] at H
   by_cases c4 : x3_1 = true
   ·subst c4
    have H1 : (some ((a0 - 48) % 256)) = some r := by rw [if_pos rfl] at H; exact H
    clear H
    have H := H1
    clear H1
    obtain rfl := Option.some.inj H
    go_wp2
    go_ret
    exact ⟨by first | rfl | (simp; done) | (simp [*]; done), by repeat (first | exact Drawn0.refl _ | apply Drawn0.step)⟩
   ·replace c4 := Bool.eq_false_iff.mpr c4
    subst c4
    have H1 : (if a0 ≥ 97 then (if a0 ≤ 102 then (some (((a0 - 97) % 256) + 10)) else (some (-1))) else (some (-1))) = some r := by rw [if_neg (show ¬ (false = true) by decide)] at H; exact H
    clear H
    have H := H1
    clear H1
    by_cases c5 : a0 ≥ 97
    ·rw [if_pos c5] at H
     have c5b0 : decide (97 ≤ a0) = true := decide_eq_true c5
     clear c5
     by_cases c6 : a0 ≤ 102
     ·rw [if_pos c6] at H
      have c6b0 : decide (a0 ≤ 102) = true := decide_eq_true c6
      clear c6
      obtain rfl := Option.some.inj H
      go_wp2
      go_ret
      exact ⟨by first | rfl | (simp; done) | (simp [*]; done), by repeat (first | exact Drawn0.refl _ | apply Drawn0.step)⟩
     ·rw [if_neg c6] at H
      have c6b0 : decide (a0 ≤ 102) = false := decide_eq_false c6
      clear c6
      obtain rfl := Option.some.inj H
      go_wp2
      go_ret
      exact ⟨by first | rfl | (simp; done) | (simp [*]; done), by repeat (first | exact Drawn0.refl _ | apply Drawn0.step)⟩
    ·rw [if_neg c5] at H
     have c5b0 : decide (97 ≤ a0) = false := decide_eq_false c5
     clear c5
     obtain rfl := Option.some.inj H
     go_wp2
     go_ret
     exact ⟨by first | rfl | (simp; done) | (simp [*]; done), by repeat (first | exact Drawn0.refl _ | apply Drawn0.step)⟩
end Go.Proofs.YteamhfmpogbilaaGreatDoor.X
end
section
namespace Go.Proofs.YteamhfmpogbilaaGreatDoor.X
open Go.RowKit Go.Proofs.YteamhfmpogbilaaGreatDoorW.PrintWords Go.Proofs.YteamhfmpogbilaaGreatDoorW.PrintLast Go.Proofs.YteamhfmpogbilaaGreatDoorW.PrintMore
attribute [local go_sem] zbw zbu zck zcj zbj zbi zbv zbt
mutual
def ydf.l0 : Nat → ByteArray → List Int → Int → Option (ByteArray × Int)
 | 0, _, _, _ => none
 | k + 1, x0, x6, x7 => if x7 < (x0.size : Int) then (if 0 ≤ x7 then (if (bt x0 x7) = 34 then (some (strOfNums x6, wrap64 (x7 + 1))) else (if (bt x0 x7) < 32 then (ydf.j1 k x0 x6 x7 (bt x0 x7) true) else (ydf.j1 k x0 x6 x7 (bt x0 x7) (decide ((bt x0 x7) > 126))))) else (none)) else (some ((⟨#[]⟩ : ByteArray), (-1)))
def ydf.j1 : Nat → ByteArray → List Int → Int → Int → Bool → Option (ByteArray × Int)
 | 0, _, _, _, _, _ => none
 | k + 1, x0, x6, x7, x8, x27 => if x27 = true then (some ((⟨#[]⟩ : ByteArray), (-1))) else (if x8 = 92 then (if (wrap64 (x7 + 1)) < (x0.size : Int) then (if 0 ≤ (wrap64 (x7 + 1)) then (if (bt x0 (wrap64 (x7 + 1))) = 34 then (ydf.j2 k x0 x6 x7 true) else (ydf.j2 k x0 x6 x7 ((bt x0 (wrap64 (x7 + 1))) == 92))) else (none)) else (ydf.j2 k x0 x6 x7 false)) else (if x6.length < 140737488355328 then (ydf.l0 k x0 (x6 ++ [x8]) (wrap64 (x7 + 1))) else (none)))
def ydf.j2 : Nat → ByteArray → List Int → Int → Bool → Option (ByteArray × Int)
 | 0, _, _, _, _ => none
 | k + 1, x0, x6, x7, x41 => if x41 = true then (if 0 ≤ (wrap64 (x7 + 1)) then (if (wrap64 (x7 + 1)) < (x0.size : Int) then (if x6.length < 140737488355328 then (ydf.l0 k x0 (x6 ++ [bt x0 (wrap64 (x7 + 1))]) (wrap64 ((wrap64 (x7 + 1)) + 1))) else (none)) else (none)) else (none)) else (if (wrap64 (x7 + 3)) < (x0.size : Int) then (if 0 ≤ (wrap64 (x7 + 1)) then (if (wrap64 (x7 + 1)) < (x0.size : Int) then (if (bt x0 (wrap64 (x7 + 1))) = 120 then (if 0 ≤ (wrap64 (x7 + 2)) then (if (wrap64 (x7 + 2)) < (x0.size : Int) then ((ydk.f k (bt x0 (wrap64 (x7 + 2)))).bind fun t241 => (if t241 ≥ 0 then (if 0 ≤ (wrap64 (x7 + 3)) then ((ydk.f k (bt x0 (wrap64 (x7 + 3)))).bind fun t242 => (ydf.j3 k x0 x6 x7 (decide (t242 ≥ 0)))) else (none)) else (ydf.j3 k x0 x6 x7 false))) else (none)) else (none)) else (ydf.j3 k x0 x6 x7 false)) else (none)) else (none)) else (ydf.j3 k x0 x6 x7 false))
def ydf.j3 : Nat → ByteArray → List Int → Int → Bool → Option (ByteArray × Int)
 | 0, _, _, _, _ => none
 | k + 1, x0, x6, x7, x70 => if x70 = true then (if 0 ≤ (wrap64 (x7 + 2)) then (if (wrap64 (x7 + 2)) < (x0.size : Int) then ((ydk.f k (bt x0 (wrap64 (x7 + 2)))).bind fun t243 => (if 0 ≤ (wrap64 (x7 + 3)) then (if (wrap64 (x7 + 3)) < (x0.size : Int) then ((ydk.f k (bt x0 (wrap64 (x7 + 3)))).bind fun t244 => (if x6.length < 140737488355328 then (ydf.l0 k x0 (x6 ++ [(wrap64 ((wrap64 (16 * t243)) + t244)) % 256]) (wrap64 ((wrap64 (x7 + 3)) + 1))) else (none))) else (none)) else (none))) else (none)) else (none)) else (some ((⟨#[]⟩ : ByteArray), (-1)))
end
def ydf.f (k : Nat) (a0 : ByteArray) (a1 : Int) : Option (ByteArray × Int) := ydf.l0 k a0 ([] : List Int) (wrap64 (a1 + 1))
def ydf.T17 : Bool × List (List Nat × List Nat) := (true, [([], []), ([], []), ([], []), ([2], [2]), ([1, 3], [1, 3]), ([4], [4]), ([5], [5]), ([], []), ([], []), ([8], [8]), ([7, 9], [7, 9]), ([10, 5], [10]), ([6, 11], [6, 11]), ([12], [12]), ([13], [13]), ([0, 14, 11], [0, 14]), ([15, 15, 0, 1, 2, 3, 4, 5, 6, 7, 8, 9, 10, 11, 12, 13, 14, 15], [0, 15])])
def ydf.B17 : List Nat := [0, 0, 0, 4, 14, 30, 62, 0, 0, 256, 896, 1982, 4094, 8190, 16382, 32767, 65535]
theorem ydf.tab17 : rtab .any (opsOf Tryz.f56 17) = ydf.T17 := by kernel_rfl
theorem ydf.bits17 : waitsOk ydf.T17.2 ydf.B17 = true := by kernel_rfl
set_option maxHeartbeats 8000000 in
set_option maxRecDepth 100000 in
theorem ydf.calls (k : Nat) (a0 : ByteArray) (a1 : Int) (r1 : ByteArray) (r2 : Int) (w : World) (h : ydf.f k a0 a1 = some (r1, r2)) :
  Calls Tryz.prog 56 #[.string a0, .int .i64 a1] w fun e w' => e = .returned (.tuple #[.string r1, .int .i64 r2]) ∧ Below w.heap.size w w' := by
 have HB := Aside0.mk (Below.refl w.heap.size w)
 have H : (ydf.l0 k a0 ([] : List Int) (wrap64 (a1 + 1))) = some (r1, r2) := h
 clear h
 have H' := Aside0.mk H
 clear H
 go_enter Tryz.func56, Tryz.ntmps56
 go_wp2
 go_loopg [6, 7] k (fun kq v6 v7 w' => ∃ (x6_1 : List Int) (x7_1 : Int), v7 = .int .i64 x7_1 ∧ Aside0 (ydf.l0 kq a0 x6_1 x7_1 = some (r1, r2)) ∧ Aside0 (kq ≤ k) ∧ Aside0 (Kd.R (Kd.int .u8) 5 w' w.heap.size (fun _ => True) v6 x6_1) ∧ Aside0 (Below w.heap.size w w'))
 case atStart => exact ⟨(([] : List Int)), (wrap64 (a1 + 1)), (by first | rfl | (simp; done) | (simp [*]; done)), H', ⟨Nat.le_refl _⟩, ⟨by first | exact Kd.R_nil _ _ _ _ _ | exact Kd.N_nil _ _ _ _ _ | exact Kd.V_nil _ _ _ _ _ | exact Kd.Q_nil _ _ _ _ _ | exact Kd.S_nil _ _ _ _ _⟩, ⟨by repeat (first | (with_reducible first | exact HB.out | apply zab | apply zaa | apply zac) | exact HB.out)⟩⟩
 case round =>
  clear H'
  try clear p2
  obtain ⟨x6_1, x7_1, rfl, HA, HK1, HO_6, HB⟩ := hrel
  cases gk with
  | zero => exact absurd HA.out (by simp [ydf.l0])
  | succ k1 =>
   have H := HA.out
   clear HA
   simp only [ydf.l0] at H
   by_cases c3 : x7_1 < (a0.size : Int)
   ·rw [if_pos c3] at H
    have c3b0 : decide (x7_1 < (a0.size : Int)) = true := decide_eq_true c3
    clear c3
    by_cases c4 : 0 ≤ x7_1
    ·rw [if_pos c4] at H
     have c4b0 : decide (0 ≤ x7_1) = true := decide_eq_true c4
     clear c4
     by_cases c6 : (bt a0 x7_1) = 34
     ·rw [if_pos c6] at H
      have c6b0 : ((bt a0 x7_1) == 34) = true := beq_iff_eq.mpr c6
      have c6b1 : ((bt a0 x7_1) != 34) = false := bne_eq_false_iff_eq.mpr c6
      clear c6
      simp only [Option.some.injEq, Prod.mk.injEq] at H
      obtain ⟨rfl, rfl⟩ := H
      have p5 : 0 ≤ (x7_1 : Int) := of_decide_eq_true (by assumption)
      have q5 : x7_1 < (a0.size : Int) := of_decide_eq_true (by assumption)
      have hx5 := zbq a0 x7_1
      replace p5 := eq_true p5
      replace q5 := eq_true q5
      have hcv7 := own_string (P := Tryz.prog) Tryz.underlying85 Tryz.underlying5 Tryz.underlying9 (Kd.own_of_R HO_6.out)
      go_wp2
      go_ret2
      exact ⟨by first | rfl | (simp [zal, zak] <;> rfl) | (simp [*, zal, zak] <;> rfl), by repeat (first | (with_reducible first | exact HB.out | apply zab | apply zaa | apply zac) | exact HB.out)⟩
     ·rw [if_neg c6] at H
      have c6b0 : ((bt a0 x7_1) == 34) = false := beq_eq_false_iff_ne.mpr c6
      have c6b1 : ((bt a0 x7_1) != 34) = true := bne_iff_ne.mpr c6
      have HC8 := Aside0.mk H
      clear H
      have p5 : 0 ≤ (x7_1 : Int) := of_decide_eq_true (by assumption)
      have q5 : x7_1 < (a0.size : Int) := of_decide_eq_true (by assumption)
      have hx5 := zbq a0 x7_1
      replace p5 := eq_true p5
      replace q5 := eq_true q5
      go_upto_region 9 with (fail)
      go_cut [27] (fun v27 wc => ∃ (kq : Nat) (x27_7 : Bool), v27 = .bool x27_7 ∧ Aside0 (ydf.j1 kq a0 x6_1 x7_1 (bt a0 x7_1) x27_7 = some (r1, r2)) ∧ Aside0 (kq ≤ k1) ∧ Aside0 (Kd.R (Kd.int .u8) 5 wc w.heap.size (fun _ => True) u6 x6_1) ∧ Aside0 (Below w.heap.size w wc))
      case first =>
       have H := HC8.out
       clear HC8
       by_cases c9 : (bt a0 x7_1) < 32
       ·rw [if_pos c9] at H
        have c9b0 : decide ((bt a0 x7_1) < 32) = true := decide_eq_true c9
        clear c9
        (first | rw [c9b0] | (simp only [zbp, zch]; rw [c9b0]) | rw [c9b9] | skip)
        have H' := Aside0.mk H
        clear H
        go_wp2
        go_meet
        case rel => exact ⟨_, (true), (by first | rfl | (simp; done) | (simp [*]; done)), H', ⟨by have := HK1.out; first | omega | exact Nat.le_refl _⟩, ⟨by (with_reducible repeat (first | apply Kd.R_alloc | apply Kd.R_drewN | apply Kd.R_drew)); exact HO_6.out⟩, ⟨by repeat (first | (with_reducible first | exact HB.out | apply zab | apply zaa | apply zac) | exact HB.out)⟩⟩
       ·rw [if_neg c9] at H
        have c9b0 : decide ((bt a0 x7_1) < 32) = false := decide_eq_false c9
        clear c9
        (first | rw [c9b0] | (simp only [zbp, zch]; rw [c9b0]) | rw [c9b9] | skip)
        have H' := Aside0.mk H
        clear H
        go_wp2
        go_meet
        case rel => exact ⟨_, (decide ((bt a0 x7_1) > 126)), (by first | rfl | (simp; done) | (simp [*]; done)), H', ⟨by have := HK1.out; first | omega | exact Nat.le_refl _⟩, ⟨by (with_reducible repeat (first | apply Kd.R_alloc | apply Kd.R_drewN | apply Kd.R_drew)); exact HO_6.out⟩, ⟨by repeat (first | (with_reducible first | exact HB.out | apply zab | apply zaa | apply zac) | exact HB.out)⟩⟩
      case rest =>
       clear HC8
       try clear p2; try clear c3; try clear c3b0; try clear c4; try clear c4b0; try clear c5; try clear p5; try clear q5; try clear hx5; try clear c6; try clear c6b0; try clear c6b1; try clear p6; try clear hcv7; try clear c9; try clear c9b0; try clear p2; try clear p5; try clear q5
       obtain ⟨kq, x27_7, rfl, HA, HJ7, HO_6, HB⟩ := hcut
       cases kq with
       | zero => exact absurd HA.out (by simp [ydf.j1])
       | succ kj7 =>
        have H := HA.out
        clear HA
        simp only [ydf.j1] at H
        by_cases c10 : x27_7 = true
        ·subst c10
         have H1 : (some ((⟨#[]⟩ : ByteArray), (-1))) = some (r1, r2) := by rw [if_pos rfl] at H; exact H
         clear H
         have H := H1
         clear H1
         simp only [Option.some.injEq, Prod.mk.injEq] at H
         obtain ⟨rfl, rfl⟩ := H
         go_wp2
         go_ret2
         exact ⟨by first | rfl | (simp [zal, zak] <;> rfl) | (simp [*, zal, zak] <;> rfl), by repeat (first | (with_reducible first | exact HB.out | apply zab | apply zaa | apply zac) | exact HB.out)⟩
        ·replace c10 := Bool.eq_false_iff.mpr c10
         subst c10
         have H1 : (if (bt a0 x7_1) = 92 then (if (wrap64 (x7_1 + 1)) < (a0.size : Int) then (if 0 ≤ (wrap64 (x7_1 + 1)) then (if (bt a0 (wrap64 (x7_1 + 1))) = 34 then (ydf.j2 kj7 a0 x6_1 x7_1 true) else (ydf.j2 kj7 a0 x6_1 x7_1 ((bt a0 (wrap64 (x7_1 + 1))) == 92))) else (none)) else (ydf.j2 kj7 a0 x6_1 x7_1 false)) else (if x6_1.length < 140737488355328 then (ydf.l0 kj7 a0 (x6_1 ++ [(bt a0 x7_1)]) (wrap64 (x7_1 + 1))) else (none))) = some (r1, r2) := by rw [if_neg (show ¬ (false = true) by decide)] at H; exact H
         clear H
         have H := H1
         clear H1
         by_cases c11 : (bt a0 x7_1) = 92
         ·rw [if_pos c11] at H
          have c11b0 : ((bt a0 x7_1) == 92) = true := beq_iff_eq.mpr c11
          have c11b1 : ((bt a0 x7_1) != 92) = false := bne_eq_false_iff_eq.mpr c11
          clear c11
          have HC12 := Aside0.mk H
          clear H
          go_upto_region 13 with (fail)
          go_cut [41] (fun v41 wc => ∃ (kq : Nat) (x41_11 : Bool), v41 = .bool x41_11 ∧ Aside0 (ydf.j2 kq a0 x6_1 x7_1 x41_11 = some (r1, r2)) ∧ Aside0 (kq ≤ kj7) ∧ Aside0 (Kd.R (Kd.int .u8) 5 wc w.heap.size (fun _ => True) u6 x6_1) ∧ Aside0 (Below w.heap.size w wc))
          case first =>
           have H := HC12.out
           clear HC12
           by_cases c13 : (wrap64 (x7_1 + 1)) < (a0.size : Int)
           ·rw [if_pos c13] at H
            have c13b0 : decide ((wrap64 (x7_1 + 1)) < (a0.size : Int)) = true := decide_eq_true c13
            clear c13
            (first | rw [c13b0] | (simp only [zbp, zch]; rw [c13b0]) | rw [c13b9] | skip)
            obtain ⟨ji14, hji14⟩ : ∃ j_ : Int, (wrap64 (x7_1 + 1)) = j_ := ⟨_, rfl⟩
            replace H : (if 0 ≤ (ji14) then (if (bt a0 (ji14)) = 34 then (ydf.j2 kj7 a0 x6_1 x7_1 true) else (ydf.j2 kj7 a0 x6_1 x7_1 ((bt a0 (ji14)) == 92))) else (none)) = some (r1, r2) := by first | (rw [hji14] at H; exact H) | (simp only [hji14] at H ⊢; exact H)
            (try rw [hji14] at c13b0)
            have hji14w : (IntKind.i64.wrap (x7_1 + 1)) = ji14 := (zbp _).trans hji14
            by_cases c15 : 0 ≤ (ji14)
            ·rw [if_pos c15] at H
             have c15b0 : decide (0 ≤ (ji14)) = true := decide_eq_true c15
             clear c15
             by_cases c17 : (bt a0 (ji14)) = 34
             ·rw [if_pos c17] at H
              have c17b0 : ((bt a0 (ji14)) == 34) = true := beq_iff_eq.mpr c17
              have c17b1 : ((bt a0 (ji14)) != 34) = false := bne_eq_false_iff_eq.mpr c17
              clear c17
              have H' := Aside0.mk H
              clear H
              have p16 : 0 ≤ ((ji14) : Int) := of_decide_eq_true (by assumption)
              have q16 : (ji14) < (a0.size : Int) := of_decide_eq_true (by assumption)
              have hx16 := zbq a0 (ji14)
              replace p16 := eq_true p16
              replace q16 := eq_true q16
              go_wp2
              go_meet
              case rel => exact ⟨_, (true), (by first | rfl | (simp; done) | (simp [*]; done)), H', ⟨by have := HK1.out; have := HJ7.out; first | omega | exact Nat.le_refl _⟩, ⟨by (with_reducible repeat (first | apply Kd.R_alloc | apply Kd.R_drewN | apply Kd.R_drew)); exact HO_6.out⟩, ⟨by repeat (first | (with_reducible first | exact HB.out | apply zab | apply zaa | apply zac) | exact HB.out)⟩⟩
             ·rw [if_neg c17] at H
              have c17b0 : ((bt a0 (ji14)) == 34) = false := beq_eq_false_iff_ne.mpr c17
              have c17b1 : ((bt a0 (ji14)) != 34) = true := bne_iff_ne.mpr c17
              have H' := Aside0.mk H
              clear H
              have p16 : 0 ≤ ((ji14) : Int) := of_decide_eq_true (by assumption)
              have q16 : (ji14) < (a0.size : Int) := of_decide_eq_true (by assumption)
              have hx16 := zbq a0 (ji14)
              replace p16 := eq_true p16
              replace q16 := eq_true q16
              have p18 : 0 ≤ ((ji14) : Int) := of_decide_eq_true (by assumption)
              have q18 : (ji14) < (a0.size : Int) := of_decide_eq_true (by assumption)
              have hx18 := zbq a0 (ji14)
              replace p18 := eq_true p18
              replace q18 := eq_true q18
              go_wp2
              go_meet
              case rel => exact ⟨_, (((bt a0 (ji14)) == 92)), (by first | rfl | (simp; done) | (simp only [← hji14] <;> (first | rfl | simp)) | (simp [*]; done)), H', ⟨by have := HK1.out; have := HJ7.out; first | omega | exact Nat.le_refl _⟩, ⟨by (with_reducible repeat (first | apply Kd.R_alloc | apply Kd.R_drewN | apply Kd.R_drew)); exact HO_6.out⟩, ⟨by repeat (first | (with_reducible first | exact HB.out | apply zab | apply zaa | apply zac) | exact HB.out)⟩⟩
            ·rw [if_neg c15] at H
             exact absurd H (by simp)
           ·rw [if_neg c13] at H
            have c13b0 : decide ((wrap64 (x7_1 + 1)) < (a0.size : Int)) = false := decide_eq_false c13
            clear c13
            (first | rw [c13b0] | (simp only [zbp, zch]; rw [c13b0]) | rw [c13b9] | skip)
            have H' := Aside0.mk H
            clear H
            go_wp2
            go_meet
            case rel => exact ⟨_, (false), (by first | rfl | (simp; done) | (simp [*]; done)), H', ⟨by have := HK1.out; have := HJ7.out; first | omega | exact Nat.le_refl _⟩, ⟨by (with_reducible repeat (first | apply Kd.R_alloc | apply Kd.R_drewN | apply Kd.R_drew)); exact HO_6.out⟩, ⟨by repeat (first | (with_reducible first | exact HB.out | apply zab | apply zaa | apply zac) | exact HB.out)⟩⟩
          case rest =>
           clear HC12
           try clear c1; try clear p1; try clear q1; try clear hx1; try clear p2; try clear c3; try clear c3b0; try clear c4; try clear c4b0; try clear c5; try clear p5; try clear q5; try clear hx5; try clear c6; try clear c6b0; try clear c6b1; try clear p6; try clear hcv7; try clear c9; try clear c9b0; try clear c10; try clear c11; try clear c11b0; try clear c11b1; try clear c13; try clear c13b0; try clear c15
           try clear c15b0; try clear p16; try clear q16; try clear hx16; try clear c17; try clear c17b0; try clear c17b1; try clear p18; try clear q18; try clear hx18; try clear p16; try clear p18; try clear p2; try clear p5; try clear p6; try clear q16; try clear q18; try clear q5
           obtain ⟨kq, x41_11, rfl, HA, HJ11, HO_6, HB⟩ := hcut
           cases kq with
           | zero => exact absurd HA.out (by simp [ydf.j2])
           | succ kj11 =>
            have H := HA.out
            clear HA
            simp only [ydf.j2] at H
            by_cases c19 : x41_11 = true
            ·subst c19
             have H1 : (if 0 ≤ (wrap64 (x7_1 + 1)) then (if (wrap64 (x7_1 + 1)) < (a0.size : Int) then (if x6_1.length < 140737488355328 then (ydf.l0 kj11 a0 (x6_1 ++ [bt a0 (wrap64 (x7_1 + 1))]) (wrap64 ((wrap64 (x7_1 + 1)) + 1))) else (none)) else (none)) else (none)) = some (r1, r2) := by rw [if_pos rfl] at H; exact H
             clear H
             have H := H1
             clear H1
             obtain ⟨ji20, hji20⟩ : ∃ j_ : Int, (wrap64 (x7_1 + 1)) = j_ := ⟨_, rfl⟩
             replace H : (if 0 ≤ (ji20) then (if (ji20) < (a0.size : Int) then (if x6_1.length < 140737488355328 then (ydf.l0 kj11 a0 (x6_1 ++ [bt a0 (ji20)]) (wrap64 ((ji20) + 1))) else (none)) else (none)) else (none)) = some (r1, r2) := by first | (rw [hji20] at H; exact H) | (simp only [hji20] at H ⊢; exact H)
             have hji20w : (IntKind.i64.wrap (x7_1 + 1)) = ji20 := (zbp _).trans hji20
             by_cases c21 : 0 ≤ (ji20)
             ·rw [if_pos c21] at H
              have c21b0 : decide (0 ≤ (ji20)) = true := decide_eq_true c21
              clear c21
              by_cases c22 : (ji20) < (a0.size : Int)
              ·rw [if_pos c22] at H
               have c22b0 : decide ((ji20) < (a0.size : Int)) = true := decide_eq_true c22
               clear c22
               by_cases c24 : x6_1.length < 140737488355328
               ·rw [if_pos c24] at H
                have LMc24 := Aside0.mk c24
                clear c24
                obtain ⟨y238, hy238⟩ : ∃ y_ : List Int, y_ = (x6_1 ++ [bt a0 (ji20)]) := ⟨_, rfl⟩
                replace H : (ydf.l0 kj11 a0 y238 (wrap64 ((ji20) + 1))) = some (r1, r2) := by first | (rw [hy238]; with_reducible exact H) | (have H2_ := (Option.bind_some _ _).symm.trans H; rw [hy238]; with_reducible exact H2_) | (have H2_ := (Option.bind_some _ _).symm.trans H; with_reducible exact H2_) | with_reducible exact H | (rw [hy238]; exact H) | exact H
                have Ny238 := Aside0.mk hy238
                clear hy238
                have H' := Aside0.mk H
                clear H
                have p23 : 0 ≤ ((ji20) : Int) := of_decide_eq_true (by assumption)
                have q23 : (ji20) < (a0.size : Int) := of_decide_eq_true (by assumption)
                have hx23 := zbq a0 (ji20)
                replace p23 := eq_true p23
                replace q23 := eq_true q23
                go_wp2_with (((with_reducible refine zax (b := .append) (xs := #[.tmp 61, .tmp 66]) rfl ?_); at_builtin; refine Kd.R_append (Kd.int .u8) (w0 := w) w.heap.size rfl (.tmp 61) (.tmp 66) 85 5 (.int .u8 0) 1 rfl Tryz.underlying85 info5 rfl (by decide) (by omega) u6 x6_1 (bt a0 (ji20)) [.int .u8 (bt a0 (ji20))] (fun _ => True) (fun _ => False) rfl rfl ?aP (fun _ hk => hk.elim) ?aF ?aO ?aB ?aS ?aL ?_; (case aP => exact rfl); (case aB => exact (by repeat (first | (with_reducible first | exact HB.out | apply zab | apply zaa | apply zac) | exact HB.out))); (case aF => exact (fun _ _ => trivial)); (case aO => exact (by (with_reducible repeat (first | apply Kd.R_alloc | apply Kd.R_drewN | apply Kd.R_drew)); exact HO_6.out)); (case aS => exact (zan (by repeat (first | (with_reducible first | exact HB.out | apply zab | apply zaa | apply zac) | exact HB.out)))); (case aL => have := LMc24.out; omega); intro v239 w25 ho hb hg hat; rw [← Ny238.out] at ho; have n0_ := Aside0.mk (hb); have n1_ := Aside0.mk (ho); clear HB; clear HO_6; have HB := n0_; have HO240 := n1_; clear n0_ n1_; clear ho hb hg hat))
                go_roundg kj11
                case measure => have := HK1.out; have := HJ7.out; have := HJ11.out; omega
                case rel => exact ⟨(y238), (wrap64 ((ji20) + 1)), (by first | rfl | (simp; done) | (simp only [← hji20] <;> (first | rfl | simp)) | (simp [*]; done)), H', ⟨by have := HK1.out; have := HJ7.out; have := HJ11.out; omega⟩, ⟨by (with_reducible repeat (first | apply Kd.R_alloc | apply Kd.R_drewN | apply Kd.R_drew)); exact HO240.out⟩, ⟨by repeat (first | (with_reducible first | exact HB.out | apply zab | apply zaa | apply zac) | exact HB.out)⟩⟩
               ·rw [if_neg c24] at H
                exact absurd H (by simp)
              ·rw [if_neg c22] at H
               exact absurd H (by simp)
             ·rw [if_neg c21] at H
              exact absurd H (by simp)
            ·replace c19 := Bool.eq_false_iff.mpr c19
             subst c19
             have H1 : (if (wrap64 (x7_1 + 3)) < (a0.size : Int) then (if 0 ≤ (wrap64 (x7_1 + 1)) then (if (wrap64 (x7_1 + 1)) < (a0.size : Int) then (if (bt a0 (wrap64 (x7_1 + 1))) = 120 then (if 0 ≤ (wrap64 (x7_1 + 2)) then (if (wrap64 (x7_1 + 2)) < (a0.size : Int) then ((ydk.f kj11 (bt a0 (wrap64 (x7_1 + 2)))).bind fun t241 => (if t241 ≥ 0 then (if 0 ≤ (wrap64 (x7_1 + 3)) then ((ydk.f kj11 (bt a0 (wrap64 (x7_1 + 3)))).bind fun t242 => (ydf.j3 kj11 a0 x6_1 x7_1 (decide (t242 ≥ 0)))) else (none)) else (ydf.j3 kj11 a0 x6_1 x7_1 false))) else (none)) else (none)) else (ydf.j3 kj11 a0 x6_1 x7_1 false)) else (none)) else (none)) else (ydf.j3 kj11 a0 x6_1 x7_1 false)) = some (r1, r2) := by rw [if_neg (show ¬ (false = true) by decide)] at H; exact H
             clear H
             have H := H1
             clear H1
             have HC26 := Aside0.mk H
             clear H
             go_upto_region 16 with (fail)
             go_cut [70] (fun v70 wc => ∃ (kq : Nat) (x70_25 : Bool), v70 = .bool x70_25 ∧ Aside0 (ydf.j3 kq a0 x6_1 x7_1 x70_25 = some (r1, r2)) ∧ Aside0 (kq ≤ kj11) ∧ Aside0 (Kd.R (Kd.int .u8) 5 wc w.heap.size (fun _ => True) u6 x6_1) ∧ Aside0 (Below w.heap.size w wc))
             case first =>
              have H := HC26.out
              clear HC26
              by_cases c27 : (wrap64 (x7_1 + 3)) < (a0.size : Int)
              ·rw [if_pos c27] at H
               have c27b0 : decide ((wrap64 (x7_1 + 3)) < (a0.size : Int)) = true := decide_eq_true c27
               clear c27
               (first | rw [c27b0] | (simp only [zbp, zch]; rw [c27b0]) | rw [c27b9] | skip)
               obtain ⟨ji28, hji28⟩ : ∃ j_ : Int, (wrap64 (x7_1 + 1)) = j_ := ⟨_, rfl⟩
               replace H : (if 0 ≤ (ji28) then (if (ji28) < (a0.size : Int) then (if (bt a0 (ji28)) = 120 then (if 0 ≤ (wrap64 (x7_1 + 2)) then (if (wrap64 (x7_1 + 2)) < (a0.size : Int) then ((ydk.f kj11 (bt a0 (wrap64 (x7_1 + 2)))).bind fun t241 => (if t241 ≥ 0 then (if 0 ≤ (wrap64 (x7_1 + 3)) then ((ydk.f kj11 (bt a0 (wrap64 (x7_1 + 3)))).bind fun t242 => (ydf.j3 kj11 a0 x6_1 x7_1 (decide (t242 ≥ 0)))) else (none)) else (ydf.j3 kj11 a0 x6_1 x7_1 false))) else (none)) else (none)) else (ydf.j3 kj11 a0 x6_1 x7_1 false)) else (none)) else (none)) = some (r1, r2) := by first | (rw [hji28] at H; exact H) | (simp only [hji28] at H ⊢; exact H)
               have hji28w : (IntKind.i64.wrap (x7_1 + 1)) = ji28 := (zbp _).trans hji28
               by_cases c29 : 0 ≤ (ji28)
               ·rw [if_pos c29] at H
                have c29b0 : decide (0 ≤ (ji28)) = true := decide_eq_true c29
                clear c29
                by_cases c30 : (ji28) < (a0.size : Int)
                ·rw [if_pos c30] at H
                 have c30b0 : decide ((ji28) < (a0.size : Int)) = true := decide_eq_true c30
                 clear c30
                 by_cases c32 : (bt a0 (ji28)) = 120
                 ·rw [if_pos c32] at H
                  have c32b0 : ((bt a0 (ji28)) == 120) = true := beq_iff_eq.mpr c32
                  have c32b1 : ((bt a0 (ji28)) != 120) = false := bne_eq_false_iff_eq.mpr c32
                  clear c32
                  obtain ⟨ji33, hji33⟩ : ∃ j_ : Int, (wrap64 (x7_1 + 2)) = j_ := ⟨_, rfl⟩
                  replace H : (if 0 ≤ (ji33) then (if (ji33) < (a0.size : Int) then ((ydk.f kj11 (bt a0 (ji33))).bind fun t241 => (if t241 ≥ 0 then (if 0 ≤ (wrap64 (x7_1 + 3)) then ((ydk.f kj11 (bt a0 (wrap64 (x7_1 + 3)))).bind fun t242 => (ydf.j3 kj11 a0 x6_1 x7_1 (decide (t242 ≥ 0)))) else (none)) else (ydf.j3 kj11 a0 x6_1 x7_1 false))) else (none)) else (none)) = some (r1, r2) := by first | (rw [hji33] at H; exact H) | (simp only [hji33] at H ⊢; exact H)
                  have hji33w : (IntKind.i64.wrap (x7_1 + 2)) = ji33 := (zbp _).trans hji33
                  by_cases c34 : 0 ≤ (ji33)
                  ·rw [if_pos c34] at H
                   have c34b0 : decide (0 ≤ (ji33)) = true := decide_eq_true c34
                   clear c34
                   by_cases c35 : (ji33) < (a0.size : Int)
                   ·rw [if_pos c35] at H
                    have c35b0 : decide ((ji33) < (a0.size : Int)) = true := decide_eq_true c35
                    clear c35
                    replace H := Option.bind_eq_some_iff.mp H
                    obtain ⟨t241, A370, H⟩ := H
                    replace H : (if t241 ≥ 0 then (if 0 ≤ (wrap64 (x7_1 + 3)) then ((ydk.f kj11 (bt a0 (wrap64 (x7_1 + 3)))).bind fun t242 => (ydf.j3 kj11 a0 x6_1 x7_1 (decide (t242 ≥ 0)))) else (none)) else (ydf.j3 kj11 a0 x6_1 x7_1 false)) = some (r1, r2) := H
                    have A37 := Aside0.mk A370
                    clear A370
                    by_cases c38 : t241 ≥ 0
                    ·rw [if_pos c38] at H
                     have c38b0 : decide (0 ≤ t241) = true := decide_eq_true c38
                     clear c38
                     obtain ⟨ji39, hji39⟩ : ∃ j_ : Int, (wrap64 (x7_1 + 3)) = j_ := ⟨_, rfl⟩
                     replace H : (if 0 ≤ (ji39) then ((ydk.f kj11 (bt a0 (ji39))).bind fun t242 => (ydf.j3 kj11 a0 x6_1 x7_1 (decide (t242 ≥ 0)))) else (none)) = some (r1, r2) := by first | (rw [hji39] at H; exact H) | (simp only [hji39] at H ⊢; exact H)
                     (try rw [hji39] at c27b0)
                     (try rw [hji39] at A37)
                     have hji39w : (IntKind.i64.wrap (x7_1 + 3)) = ji39 := (zbp _).trans hji39
                     by_cases c40 : 0 ≤ (ji39)
                     ·rw [if_pos c40] at H
                      have c40b0 : decide (0 ≤ (ji39)) = true := decide_eq_true c40
                      clear c40
                      replace H := Option.bind_eq_some_iff.mp H
                      obtain ⟨t242, A420, H⟩ := H
                      replace H : (ydf.j3 kj11 a0 x6_1 x7_1 (decide (t242 ≥ 0))) = some (r1, r2) := H
                      have A42 := Aside0.mk A420
                      clear A420
                      have H' := Aside0.mk H
                      clear H
                      have p31 : 0 ≤ ((ji28) : Int) := of_decide_eq_true (by assumption)
                      have q31 : (ji28) < (a0.size : Int) := of_decide_eq_true (by assumption)
                      have hx31 := zbq a0 (ji28)
                      replace p31 := eq_true p31
                      replace q31 := eq_true q31
                      have p36 : 0 ≤ ((ji33) : Int) := of_decide_eq_true (by assumption)
                      have q36 : (ji33) < (a0.size : Int) := of_decide_eq_true (by assumption)
                      have hx36 := zbq a0 (ji33)
                      replace p36 := eq_true p36
                      replace q36 := eq_true q36
                      go_wp2_with (first | (go_at_call 102; (with_reducible refine (ydk.calls kj11 (bt a0 (ji33)) t241 _ A37.out).mono ?_); rintro e w' ⟨rfl, ⟨nd, rfl⟩⟩; have p41 : 0 ≤ ((ji39) : Int) := of_decide_eq_true (by assumption); have q41 : (ji39) < (a0.size : Int) := of_decide_eq_true (by assumption); have hx41 := zbq a0 (ji39); replace p41 := eq_true p41; replace q41 := eq_true q41) | (go_at_call 102; (with_reducible refine (ydk.calls kj11 (bt a0 (ji39)) t242 _ A42.out).mono ?_); rintro e w' ⟨rfl, ⟨nd, rfl⟩⟩))
                      go_meet
                      case rel => exact ⟨_, (decide (t242 ≥ 0)), (by first | rfl | (simp; done) | (simp [*]; done)), H', ⟨by have := HK1.out; have := HJ7.out; have := HJ11.out; first | omega | exact Nat.le_refl _⟩, ⟨by (with_reducible repeat (first | apply Kd.R_alloc | apply Kd.R_drewN | apply Kd.R_drew)); exact HO_6.out⟩, ⟨by repeat (first | (with_reducible first | exact HB.out | apply zab | apply zaa | apply zac) | exact HB.out)⟩⟩
                     ·rw [if_neg c40] at H
                      exact absurd H (by simp)
                    ·rw [if_neg c38] at H
                     have c38b0 : decide (0 ≤ t241) = false := decide_eq_false c38
                     clear c38
                     have H' := Aside0.mk H
                     clear H
                     have p31 : 0 ≤ ((ji28) : Int) := of_decide_eq_true (by assumption)
                     have q31 : (ji28) < (a0.size : Int) := of_decide_eq_true (by assumption)
                     have hx31 := zbq a0 (ji28)
                     replace p31 := eq_true p31
                     replace q31 := eq_true q31
                     have p36 : 0 ≤ ((ji33) : Int) := of_decide_eq_true (by assumption)
                     have q36 : (ji33) < (a0.size : Int) := of_decide_eq_true (by assumption)
                     have hx36 := zbq a0 (ji33)
                     replace p36 := eq_true p36
                     replace q36 := eq_true q36
                     go_wp2_with ((go_at_call 102; (with_reducible refine (ydk.calls kj11 (bt a0 (ji33)) t241 _ A37.out).mono ?_); rintro e w' ⟨rfl, ⟨nd, rfl⟩⟩))
                     go_meet
                     case rel => exact ⟨_, (false), (by first | rfl | (simp; done) | (simp [*]; done)), H', ⟨by have := HK1.out; have := HJ7.out; have := HJ11.out; first | omega | exact Nat.le_refl _⟩, ⟨by (with_reducible repeat (first | apply Kd.R_alloc | apply Kd.R_drewN | apply Kd.R_drew)); exact HO_6.out⟩, ⟨by repeat (first | (with_reducible first | exact HB.out | apply zab | apply zaa | apply zac) | exact HB.out)⟩⟩
                   ·rw [if_neg c35] at H
                    exact absurd H (by simp)
                  ·rw [if_neg c34] at H
                   exact absurd H (by simp)
                 ·rw [if_neg c32] at H
                  have c32b0 : ((bt a0 (ji28)) == 120) = false := beq_eq_false_iff_ne.mpr c32
                  have c32b1 : ((bt a0 (ji28)) != 120) = true := bne_iff_ne.mpr c32
                  have H' := Aside0.mk H
                  clear H
                  have p31 : 0 ≤ ((ji28) : Int) := of_decide_eq_true (by assumption)
                  have q31 : (ji28) < (a0.size : Int) := of_decide_eq_true (by assumption)
                  have hx31 := zbq a0 (ji28)
                  replace p31 := eq_true p31
                  replace q31 := eq_true q31
                  go_wp2
                  go_meet
                  case rel => exact ⟨_, (false), (by first | rfl | (simp; done) | (simp [*]; done)), H', ⟨by have := HK1.out; have := HJ7.out; have := HJ11.out; first | omega | exact Nat.le_refl _⟩, ⟨by (with_reducible repeat (first | apply Kd.R_alloc | apply Kd.R_drewN | apply Kd.R_drew)); exact HO_6.out⟩, ⟨by repeat (first | (with_reducible first | exact HB.out | apply zab | apply zaa | apply zac) | exact HB.out)⟩⟩
                ·rw [if_neg c30] at H
                 exact absurd H (by simp)
               ·rw [if_neg c29] at H
                exact absurd H (by simp)
              ·rw [if_neg c27] at H
               have c27b0 : decide ((wrap64 (x7_1 + 3)) < (a0.size : Int)) = false := decide_eq_false c27
               clear c27
               (first | rw [c27b0] | (simp only [zbp, zch]; rw [c27b0]) | rw [c27b9] | skip)
               have H' := Aside0.mk H
               clear H
               go_wp2
               go_meet
               case rel => exact ⟨_, (false), (by first | rfl | (simp; done) | (simp [*]; done)), H', ⟨by have := HK1.out; have := HJ7.out; have := HJ11.out; first | omega | exact Nat.le_refl _⟩, ⟨by (with_reducible repeat (first | apply Kd.R_alloc | apply Kd.R_drewN | apply Kd.R_drew)); exact HO_6.out⟩, ⟨by repeat (first | (with_reducible first | exact HB.out | apply zab | apply zaa | apply zac) | exact HB.out)⟩⟩
             case rest =>
              clear HC26
              try clear c1; try clear p1; try clear q1; try clear hx1; try clear c2; try clear p2; try clear q2; try clear hx2; try clear c3; try clear c3b0; try clear p3; try clear q3; try clear hx3; try clear c4; try clear c4b0; try clear p4; try clear q4; try clear hx4; try clear c5; try clear p5; try clear q5; try clear hx5; try clear c6; try clear c6b0; try clear c6b1; try clear p6; try clear hcv7
              try clear c9; try clear c9b0; try clear c10; try clear c11; try clear c11b0; try clear c11b1; try clear c13; try clear c13b0; try clear c15; try clear c15b0; try clear p16; try clear q16; try clear hx16; try clear c17; try clear c17b0; try clear c17b1; try clear p18; try clear q18; try clear hx18; try clear c19; try clear c21; try clear c21b0; try clear c22; try clear c22b0; try clear p23
              try clear q23; try clear hx23; try clear c24; try clear c27; try clear c27b0; try clear c29; try clear c29b0; try clear c30; try clear c30b0; try clear p31; try clear q31; try clear hx31; try clear c32; try clear c32b0; try clear c32b1; try clear c34; try clear c34b0; try clear c35; try clear c35b0; try clear p36; try clear q36; try clear hx36; try clear c38; try clear c38b0; try clear c40
              try clear c40b0; try clear p41; try clear q41; try clear hx41; try clear p1; try clear p16; try clear p18; try clear p2; try clear p23; try clear p31; try clear p36; try clear p41; try clear p5; try clear p6; try clear q1; try clear q16; try clear q18; try clear q23; try clear q31; try clear q36; try clear q41; try clear q5
              obtain ⟨kq, x70_25, rfl, HA, HJ25, HO_6, HB⟩ := hcut
              cases kq with
              | zero => exact absurd HA.out (by simp [ydf.j3])
              | succ kj25 =>
               have H := HA.out
               clear HA
               simp only [ydf.j3] at H
               by_cases c43 : x70_25 = true
               ·subst c43
                have H1 : (if 0 ≤ (wrap64 (x7_1 + 2)) then (if (wrap64 (x7_1 + 2)) < (a0.size : Int) then ((ydk.f kj25 (bt a0 (wrap64 (x7_1 + 2)))).bind fun t243 => (if 0 ≤ (wrap64 (x7_1 + 3)) then (if (wrap64 (x7_1 + 3)) < (a0.size : Int) then ((ydk.f kj25 (bt a0 (wrap64 (x7_1 + 3)))).bind fun t244 => (if x6_1.length < 140737488355328 then (ydf.l0 kj25 a0 (x6_1 ++ [(wrap64 ((wrap64 (16 * t243)) + t244)) % 256]) (wrap64 ((wrap64 (x7_1 + 3)) + 1))) else (none))) else (none)) else (none))) else (none)) else (none)) = some (r1, r2) := by rw [if_pos rfl] at H; exact H
                clear H
                have H := H1
                clear H1
                obtain ⟨ji44, hji44⟩ : ∃ j_ : Int, (wrap64 (x7_1 + 2)) = j_ := ⟨_, rfl⟩
                replace H : (if 0 ≤ (ji44) then (if (ji44) < (a0.size : Int) then ((ydk.f kj25 (bt a0 (ji44))).bind fun t243 => (if 0 ≤ (wrap64 (x7_1 + 3)) then (if (wrap64 (x7_1 + 3)) < (a0.size : Int) then ((ydk.f kj25 (bt a0 (wrap64 (x7_1 + 3)))).bind fun t244 => (if x6_1.length < 140737488355328 then (ydf.l0 kj25 a0 (x6_1 ++ [(wrap64 ((wrap64 (16 * t243)) + t244)) % 256]) (wrap64 ((wrap64 (x7_1 + 3)) + 1))) else (none))) else (none)) else (none))) else (none)) else (none)) = some (r1, r2) := by first | (rw [hji44] at H; exact H) | (simp only [hji44] at H ⊢; exact H)
                have hji44w : (IntKind.i64.wrap (x7_1 + 2)) = ji44 := (zbp _).trans hji44
                by_cases c45 : 0 ≤ (ji44)
                ·rw [if_pos c45] at H
                 have c45b0 : decide (0 ≤ (ji44)) = true := decide_eq_true c45
                 clear c45
                 by_cases c46 : (ji44) < (a0.size : Int)
                 ·rw [if_pos c46] at H
                  have c46b0 : decide ((ji44) < (a0.size : Int)) = true := decide_eq_true c46
                  clear c46
                  replace H := Option.bind_eq_some_iff.mp H
                  obtain ⟨t243, A480, H⟩ := H
                  replace H : (if 0 ≤ (wrap64 (x7_1 + 3)) then (if (wrap64 (x7_1 + 3)) < (a0.size : Int) then ((ydk.f kj25 (bt a0 (wrap64 (x7_1 + 3)))).bind fun t244 => (if x6_1.length < 140737488355328 then (ydf.l0 kj25 a0 (x6_1 ++ [(wrap64 ((wrap64 (16 * t243)) + t244)) % 256]) (wrap64 ((wrap64 (x7_1 + 3)) + 1))) else (none))) else (none)) else (none)) = some (r1, r2) := H
                  have A48 := Aside0.mk A480
                  clear A480
                  obtain ⟨ji49, hji49⟩ : ∃ j_ : Int, (wrap64 (x7_1 + 3)) = j_ := ⟨_, rfl⟩
                  replace H : (if 0 ≤ (ji49) then (if (ji49) < (a0.size : Int) then ((ydk.f kj25 (bt a0 (ji49))).bind fun t244 => (if x6_1.length < 140737488355328 then (ydf.l0 kj25 a0 (x6_1 ++ [(wrap64 ((wrap64 (16 * t243)) + t244)) % 256]) (wrap64 ((ji49) + 1))) else (none))) else (none)) else (none)) = some (r1, r2) := by first | (rw [hji49] at H; exact H) | (simp only [hji49] at H ⊢; exact H)
                  (try rw [hji49] at A48)
                  have hji49w : (IntKind.i64.wrap (x7_1 + 3)) = ji49 := (zbp _).trans hji49
                  by_cases c50 : 0 ≤ (ji49)
                  ·rw [if_pos c50] at H
                   have c50b0 : decide (0 ≤ (ji49)) = true := decide_eq_true c50
                   clear c50
                   by_cases c51 : (ji49) < (a0.size : Int)
                   ·rw [if_pos c51] at H
                    have c51b0 : decide ((ji49) < (a0.size : Int)) = true := decide_eq_true c51
                    clear c51
                    replace H := Option.bind_eq_some_iff.mp H
                    obtain ⟨t244, A530, H⟩ := H
                    replace H : (if x6_1.length < 140737488355328 then (ydf.l0 kj25 a0 (x6_1 ++ [(wrap64 ((wrap64 (16 * t243)) + t244)) % 256]) (wrap64 ((ji49) + 1))) else (none)) = some (r1, r2) := H
                    have A53 := Aside0.mk A530
                    clear A530
                    by_cases c54 : x6_1.length < 140737488355328
                    ·rw [if_pos c54] at H
                     have LMc54 := Aside0.mk c54
                     clear c54
                     obtain ⟨y245, hy245⟩ : ∃ y_ : List Int, y_ = (x6_1 ++ [(wrap64 ((wrap64 (16 * t243)) + t244)) % 256]) := ⟨_, rfl⟩
                     replace H : (ydf.l0 kj25 a0 y245 (wrap64 ((ji49) + 1))) = some (r1, r2) := by first | (rw [hy245]; with_reducible exact H) | (have H2_ := (Option.bind_some _ _).symm.trans H; rw [hy245]; with_reducible exact H2_) | (have H2_ := (Option.bind_some _ _).symm.trans H; with_reducible exact H2_) | with_reducible exact H | (rw [hy245]; exact H) | exact H
                     have Ny245 := Aside0.mk hy245
                     clear hy245
                     have H' := Aside0.mk H
                     clear H
                     try go_wp2
                     have n0_ := Aside0.mk (Kd.R_drew HO_6.out)
                     have n1_ := Aside0.mk (zac HB.out)
                     clear HO_6
                     clear HB
                     have HO_6 := n0_
                     have HB := n1_
                     clear n0_ n1_
                     have p47 : 0 ≤ ((ji44) : Int) := of_decide_eq_true (by assumption)
                     have q47 : (ji44) < (a0.size : Int) := of_decide_eq_true (by assumption)
                     have hx47 := zbq a0 (ji44)
                     replace p47 := eq_true p47
                     replace q47 := eq_true q47
                     have p52 : 0 ≤ ((ji49) : Int) := of_decide_eq_true (by assumption)
                     have q52 : (ji49) < (a0.size : Int) := of_decide_eq_true (by assumption)
                     have hx52 := zbq a0 (ji49)
                     replace p52 := eq_true p52
                     replace q52 := eq_true q52
                     refine start_ (n := 17) (S := fun w' => True) (ds := []) #[false, false, false, false, false, false, false, false, false, false, false, false, false, false, false, false, false] (by kernel_rfl) rfl rfl trivial (fun hHeld => ?_); refine with_tabW ydf.tab17 ydf.bits17 (fun HT_ HW_ => ?_)
                     generalize wc.drew = w55 at HO_6 HB hHeld ⊢
                     refine pure_ (i := 0) (N := some 99) (v := ?_) (a' := ?_) #[true, false, false, false, false, false, false, false, false, false, false, false, false, false, false, false, false] rfl rfl (any_of HT_.out (by kernel_rfl)) (fun _ _ _ h => h) (Or.inl ⟨by rfl, ?_⟩) ?_ ?_
                     rotate_left
                     ·intro w'
                      go_simp
                      with_reducible rfl
                     rotate_left
                     ·simp only [Act.put, List.setIfInBounds_toArray, List.set_cons_zero, List.set_cons_succ, zbp, zch]
                      rfl
                     refine pure_ (i := 1) (N := some 100) (v := ?_) (a' := ?_) #[true, true, false, false, false, false, false, false, false, false, false, false, false, false, false, false, false] rfl rfl (any_of HT_.out (by kernel_rfl)) (fun _ _ _ h => h) (Or.inl ⟨by rfl, ?_⟩) ?_ ?_
                     rotate_left
                     ·intro w'
                      go_simp
                      with_reducible rfl
                     rotate_left
                     ·simp only [Act.put, List.setIfInBounds_toArray, List.set_cons_zero, List.set_cons_succ, zbp, zch]
                      rfl
                     refine pure_ (i := 2) (N := some 101) (v := ?_) (a' := ?_) #[true, true, true, false, false, false, false, false, false, false, false, false, false, false, false, false, false] rfl rfl (any_of HT_.out (by kernel_rfl)) (fun _ _ _ h => h) (Or.inl ⟨by rfl, ?_⟩) ?_ ?_
                     rotate_left
                     ·intro w'
                      go_simp
                      with_reducible rfl
                     rotate_left
                     ·simp only [Act.put, List.setIfInBounds_toArray, List.set_cons_zero, List.set_cons_succ, zbp, zch]
                      rfl
                     refine pure_ (i := 3) (N := some 102) (v := ?_) (a' := ?_) #[true, true, true, true, false, false, false, false, false, false, false, false, false, false, false, false, false] rfl rfl (any_of HT_.out (by kernel_rfl)) (fun _ _ _ h => h) (Or.inl ⟨by rfl, ?_⟩) ?_ ?_
                     rotate_left
                     ·intro w'
                      go_simp
                      with_reducible rfl
                     rotate_left
                     ·simp only [Act.put, List.setIfInBounds_toArray, List.set_cons_zero, List.set_cons_succ, zbp, zch]
                      rfl
                     refine pure_ (i := 7) (N := some 106) (v := ?_) (a' := ?_) #[true, true, true, true, false, false, false, true, false, false, false, false, false, false, false, false, false] rfl rfl (any_of HT_.out (by kernel_rfl)) (fun _ _ _ h => h) (Or.inl ⟨by rfl, ?_⟩) ?_ ?_
                     rotate_left
                     ·intro w'
                      go_simp
                      with_reducible rfl
                     rotate_left
                     ·simp only [Act.put, List.setIfInBounds_toArray, List.set_cons_zero, List.set_cons_succ, zbp, zch]
                      rfl
                     refine pure_ (i := 8) (N := some 107) (v := ?_) (a' := ?_) #[true, true, true, true, false, false, false, true, true, false, false, false, false, false, false, false, false] rfl rfl (any_of HT_.out (by kernel_rfl)) (fun _ _ _ h => h) (Or.inl ⟨by rfl, ?_⟩) ?_ ?_
                     rotate_left
                     ·intro w'
                      go_simp
                      with_reducible rfl
                     rotate_left
                     ·simp only [Act.put, List.setIfInBounds_toArray, List.set_cons_zero, List.set_cons_succ, zbp, zch]
                      rfl
                     refine pure_ (i := 9) (N := some 108) (v := ?_) (a' := ?_) #[true, true, true, true, false, false, false, true, true, true, false, false, false, false, false, false, false] rfl rfl (any_of HT_.out (by kernel_rfl)) (fun _ _ _ h => h) (Or.inl ⟨by rfl, ?_⟩) ?_ ?_
                     rotate_left
                     ·intro w'
                      go_simp
                      with_reducible rfl
                     rotate_left
                     ·simp only [Act.put, List.setIfInBounds_toArray, List.set_cons_zero, List.set_cons_succ, zbp, zch]
                      rfl
                     refine take_ (i := 4) (N := some 103) (v := ?_) (a' := ?_) #[true, true, true, true, true, false, false, true, true, true, false, false, false, false, false, false, false] rfl rfl (take_ofW HT_.out HW_.out (by kernel_rfl)) (fun _ _ _ h => h) (Or.inl ⟨by rfl, ?_⟩) hHeld ?_ ?_
                     rotate_left
                     ·intro w' _
                      go_simp
                      with_reducible rfl
                     rotate_left
                     ·simp only [Act.put, List.setIfInBounds_toArray, List.set_cons_zero, List.set_cons_succ, zbp, zch]
                      rfl
                     refine take_ (i := 10) (N := some 109) (v := ?_) (a' := ?_) #[true, true, true, true, true, false, false, true, true, true, true, false, false, false, false, false, false] rfl rfl (take_ofW HT_.out HW_.out (by kernel_rfl)) (fun _ _ _ h => h) (Or.inl ⟨by rfl, ?_⟩) hHeld ?_ ?_
                     rotate_left
                     ·intro w' _
                      go_simp
                      with_reducible rfl
                     rotate_left
                     ·simp only [Act.put, List.setIfInBounds_toArray, List.set_cons_zero, List.set_cons_succ, zbp, zch]
                      rfl
                     refine one_ (i := 5) (N := some 104) #[true, true, true, true, true, true, false, true, true, true, true, false, false, false, false, false, false] rfl rfl (one_of HT_.out (by kernel_rfl)) (by decide) (fun K hK => ?_)
                     refine goes_ Tryz.func102 (by kernel_rfl) rfl #[.int .u8 (bt a0 (ji44))] (by rfl) rfl rfl (by (try simp only [List.map_toArray, List.map_cons, List.map_nil]); first | done | (simp only [hji44]; rfl) | rfl | (simp only [List.length_drop, List.length_take]; rfl)) ?_
                     with_reducible refine (ydk.calls kj25 (bt a0 (ji44)) t243 _ A48.out).mono ?_
                     rintro e w' ⟨rfl, ⟨nd, rfl⟩⟩
                     refine ⟨_, rfl, ?_⟩
                     refine hK.out _ _ trivial (fun hHeld => ?_)
                     clear hK K
                     refine norm_ (a' := ?_) ?_ ?_
                     rotate_left
                     ·show Act.put _ (some 104) _ = _
                      simp only [Act.put, List.setIfInBounds_toArray, List.set_cons_zero, List.set_cons_succ, zbp, zch]
                      rfl
                     refine pure_ (i := 6) (N := some 105) (v := ?_) (a' := ?_) #[true, true, true, true, true, true, true, true, true, true, true, false, false, false, false, false, false] rfl rfl (any_of HT_.out (by kernel_rfl)) (fun _ _ _ h => h) (Or.inl ⟨by rfl, ?_⟩) ?_ ?_
                     rotate_left
                     ·intro w'
                      go_simp
                      with_reducible rfl
                     rotate_left
                     ·simp only [Act.put, List.setIfInBounds_toArray, List.set_cons_zero, List.set_cons_succ, zbp, zch]
                      rfl
                     refine one_ (i := 11) (N := some 110) #[true, true, true, true, true, true, true, true, true, true, true, true, false, false, false, false, false] rfl rfl (one_of HT_.out (by kernel_rfl)) (by decide) (fun K hK => ?_)
                     refine goes_ Tryz.func102 (by kernel_rfl) rfl #[.int .u8 (bt a0 (ji49))] (by rfl) rfl rfl (by (try simp only [List.map_toArray, List.map_cons, List.map_nil]); first | done | (simp only [hji49]; rfl) | rfl | (simp only [List.length_drop, List.length_take]; rfl)) ?_
                     with_reducible refine (ydk.calls kj25 (bt a0 (ji49)) t244 _ A53.out).mono ?_
                     rintro e w' ⟨rfl, ⟨nd, rfl⟩⟩
                     refine ⟨_, rfl, ?_⟩
                     refine hK.out _ _ trivial (fun hHeld => ?_)
                     clear hK K
                     refine norm_ (a' := ?_) ?_ ?_
                     rotate_left
                     ·show Act.put _ (some 110) _ = _
                      simp only [Act.put, List.setIfInBounds_toArray, List.set_cons_zero, List.set_cons_succ, zbp, zch]
                      rfl
                     refine pure_ (i := 12) (N := some 111) (v := ?_) (a' := ?_) #[true, true, true, true, true, true, true, true, true, true, true, true, true, false, false, false, false] rfl rfl (any_of HT_.out (by kernel_rfl)) (fun _ _ _ h => h) (Or.inl ⟨by rfl, ?_⟩) ?_ ?_
                     rotate_left
                     ·intro w'
                      go_simp
                      with_reducible rfl
                     rotate_left
                     ·simp only [Act.put, List.setIfInBounds_toArray, List.set_cons_zero, List.set_cons_succ, zbp, zch]
                      rfl
                     refine pure_ (i := 13) (N := some 112) (v := ?_) (a' := ?_) #[true, true, true, true, true, true, true, true, true, true, true, true, true, true, false, false, false] rfl rfl (any_of HT_.out (by kernel_rfl)) (fun _ _ _ h => h) (Or.inl ⟨by rfl, ?_⟩) ?_ ?_
                     rotate_left
                     ·intro w'
                      go_simp
                      with_reducible rfl
                     rotate_left
                     ·simp only [Act.put, List.setIfInBounds_toArray, List.set_cons_zero, List.set_cons_succ, zbp, zch]
                      rfl
                     refine one_ (i := 14) (N := some 113) #[true, true, true, true, true, true, true, true, true, true, true, true, true, true, true, false, false] rfl rfl (one_of HT_.out (by kernel_rfl)) (by decide) (fun K hK => ?_)
                     refine value_ (w1 := ?_) (v := ?_) (by rfl) rfl ?_ ?_
                     rotate_left 2
                     ·go_simp
                      constructor
                      ·rfl
                      ·rfl
                     refine hK.out _ _ trivial (fun hHeld => ?_)
                     clear hK K
                     refine norm_ (a' := ?_) ?_ ?_
                     rotate_left
                     ·show Act.put _ (some 113) _ = _
                      simp only [Act.put, List.setIfInBounds_toArray, List.set_cons_zero, List.set_cons_succ, zbp, zch]
                      rfl
                     refine one_ (i := 15) (N := some 114) #[true, true, true, true, true, true, true, true, true, true, true, true, true, true, true, true, false] rfl rfl (one_of HT_.out (by kernel_rfl)) (by decide) (fun K hK => ?_)
                     refine Kd.R_append_step (Kd.int .u8) (w0 := w) w.heap.size (by rfl) (.tmp 99) (.tmp 113) 85 5 (.int .u8 0) 1 rfl Tryz.underlying85 info5 rfl (by decide) (by omega) u6 x6_1 ((wrap64 ((wrap64 (16 * t243)) + t244)) % 256) [.int .u8 ((wrap64 ((wrap64 (16 * t243)) + t244)) % 256)] (fun _ => True) (fun _ => False) rfl rfl ?aP (fun _ hk => hk.elim) ?aF ?aO ?aB ?aS ?aL ?_
                     (case aP => exact rfl)
                     (case aB => exact (by repeat (first | (with_reducible first | exact HB.out | apply zab | apply zaa | apply zac) | exact HB.out)))
                     (case aF => exact (fun _ _ => trivial))
                     (case aO => exact (by (with_reducible repeat (first | apply Kd.R_alloc | apply Kd.R_drewN | apply Kd.R_drew)); exact HO_6.out))
                     (case aS => exact (zan (by repeat (first | (with_reducible first | exact HB.out | apply zab | apply zaa | apply zac) | exact HB.out))))
                     (case aL => have := LMc54.out; omega)
                     intro v246 w56 ho hb hg hat
                     rw [← Ny245.out] at ho
                     have n0_ := Aside0.mk (hb)
                     have n1_ := Aside0.mk (ho)
                     clear HB
                     clear HO_6
                     have HB := n0_
                     have HO247 := n1_
                     clear n0_ n1_
                     clear ho hb hg hat
                     refine hK.out _ _ trivial (fun hHeld => ?_)
                     clear hK K
                     refine norm_ (a' := ?_) ?_ ?_
                     rotate_left
                     ·show Act.put _ (some 114) _ = _
                      simp only [Act.put, List.setIfInBounds_toArray, List.set_cons_zero, List.set_cons_succ, zbp, zch]
                      rfl
                     refine pure_ (i := 16) (N := some 6) (v := ?_) (a' := ?_) #[true, true, true, true, true, true, true, true, true, true, true, true, true, true, true, true, true] rfl rfl (any_of HT_.out (by kernel_rfl)) (fun _ _ _ h => h) (Or.inl ⟨by rfl, ?_⟩) ?_ ?_
                     rotate_left
                     ·intro w'
                      go_simp
                      with_reducible rfl
                     rotate_left
                     ·simp only [Act.put, List.setIfInBounds_toArray, List.set_cons_zero, List.set_cons_succ, zbp, zch]
                      rfl
                     refine done_ (done_of HT_.out (by kernel_rfl)) ?_
                     try go_wp2
                     go_roundg kj25
                     case measure => have := HK1.out; have := HJ7.out; have := HJ11.out; have := HJ25.out; omega
                     case rel => exact ⟨(y245), (wrap64 ((ji49) + 1)), (by first | rfl | (simp; done) | (simp only [← hji49] <;> (first | rfl | simp)) | (simp [*]; done)), H', ⟨by have := HK1.out; have := HJ7.out; have := HJ11.out; have := HJ25.out; omega⟩, ⟨by (with_reducible repeat (first | apply Kd.R_alloc | apply Kd.R_drewN | apply Kd.R_drew)); exact HO247.out⟩, ⟨by repeat (first | (with_reducible first | exact HB.out | apply zab | apply zaa | apply zac) | exact HB.out)⟩⟩
                    ·rw [if_neg c54] at H
                     exact absurd H (by simp)
                   ·rw [if_neg c51] at H
                    exact absurd H (by simp)
                  ·rw [if_neg c50] at H
                   exact absurd H (by simp)
                 ·rw [if_neg c46] at H
                  exact absurd H (by simp)
                ·rw [if_neg c45] at H
                 exact absurd H (by simp)
               ·replace c43 := Bool.eq_false_iff.mpr c43
                subst c43
                have H1 : (some ((⟨#[]⟩ : ByteArray), (-1))) = some (r1, r2) := by rw [if_neg (show ¬ (false = true) by decide)] at H; exact H
                clear H
                have H := H1
                clear H1
                simp only [Option.some.injEq, Prod.mk.injEq] at H
                obtain ⟨rfl, rfl⟩ := H
                go_wp2
                go_ret2
                exact ⟨by first | rfl | (simp [zal, zak] <;> rfl) | (simp [*, zal, zak] <;> rfl), by repeat (first | (with_reducible first | exact HB.out | apply zab | apply zaa | apply zac) | exact HB.out)⟩
         ·rw [if_neg c11] at H
          have c11b0 : ((bt a0 x7_1) == 92) = false := beq_eq_false_iff_ne.mpr c11
          have c11b1 : ((bt a0 x7_1) != 92) = true := bne_iff_ne.mpr c11
          by_cases c57 : x6_1.length < 140737488355328
          ·rw [if_pos c57] at H
           have LMc57 := Aside0.mk c57
           clear c57
           obtain ⟨y248, hy248⟩ : ∃ y_ : List Int, y_ = (x6_1 ++ [(bt a0 x7_1)]) := ⟨_, rfl⟩
           replace H : (ydf.l0 kj7 a0 y248 (wrap64 (x7_1 + 1))) = some (r1, r2) := by first | (rw [hy248]; with_reducible exact H) | (have H2_ := (Option.bind_some _ _).symm.trans H; rw [hy248]; with_reducible exact H2_) | (have H2_ := (Option.bind_some _ _).symm.trans H; with_reducible exact H2_) | with_reducible exact H | (rw [hy248]; exact H) | exact H
           have Ny248 := Aside0.mk hy248
           clear hy248
           have H' := Aside0.mk H
           clear H
           go_wp2_with (((with_reducible refine zax (b := .append) (xs := #[.tmp 37, .tmp 39]) rfl ?_); at_builtin; refine Kd.R_append (Kd.int .u8) (w0 := w) w.heap.size rfl (.tmp 37) (.tmp 39) 85 5 (.int .u8 0) 1 rfl Tryz.underlying85 info5 rfl (by decide) (by omega) u6 x6_1 (bt a0 x7_1) [.int .u8 (bt a0 x7_1)] (fun _ => True) (fun _ => False) rfl rfl ?aP (fun _ hk => hk.elim) ?aF ?aO ?aB ?aS ?aL ?_; (case aP => exact rfl); (case aB => exact (by repeat (first | (with_reducible first | exact HB.out | apply zab | apply zaa | apply zac) | exact HB.out))); (case aF => exact (fun _ _ => trivial)); (case aO => exact (by (with_reducible repeat (first | apply Kd.R_alloc | apply Kd.R_drewN | apply Kd.R_drew)); exact HO_6.out)); (case aS => exact (zan (by repeat (first | (with_reducible first | exact HB.out | apply zab | apply zaa | apply zac) | exact HB.out)))); (case aL => have := LMc57.out; omega); intro v249 w58 ho hb hg hat; rw [← Ny248.out] at ho; have n0_ := Aside0.mk (hb); have n1_ := Aside0.mk (ho); clear HB; clear HO_6; have HB := n0_; have HO250 := n1_; clear n0_ n1_; clear ho hb hg hat))
           go_roundg kj7
           case measure => have := HK1.out; have := HJ7.out; omega
           case rel => exact ⟨(y248), (wrap64 (x7_1 + 1)), (by first | rfl | (simp; done) | (simp [*]; done)), H', ⟨by have := HK1.out; have := HJ7.out; omega⟩, ⟨by (with_reducible repeat (first | apply Kd.R_alloc | apply Kd.R_drewN | apply Kd.R_drew)); exact HO250.out⟩, ⟨by repeat (first | (with_reducible first | exact HB.out | apply zab | apply zaa | apply zac) | exact HB.out)⟩⟩
          ·rw [if_neg c57] at H
           exact absurd H (by simp)
    ·rw [if_neg c4] at H
     exact absurd H (by simp)
   ·rw [if_neg c3] at H
    have c3b0 : decide (x7_1 < (a0.size : Int)) = false := decide_eq_false c3
    clear c3
    simp only [Option.some.injEq, Prod.mk.injEq] at H
    obtain ⟨rfl, rfl⟩ := H
    go_wp2
    go_ret2
    exact ⟨by first | rfl | (simp [zal, zak] <;> rfl) | (simp [*, zal, zak] <;> rfl), by repeat (first | (with_reducible first | exact HB.out | apply zab | apply zaa | apply zac) | exact HB.out)⟩
end Go.Proofs.YteamhfmpogbilaaGreatDoor.X
end
section
namespace Go.Proofs.YteamhfmpogbilaaGreatDoor.X
open Go.RowKit Go.Proofs.YteamhfmpogbilaaGreatDoorW.PrintWords Go.Proofs.YteamhfmpogbilaaGreatDoorW.PrintLast Go.Proofs.YteamhfmpogbilaaGreatDoorW.PrintMore
attribute [local go_sem] zbw zbu zck zcj zbj zbi zbv zbt
def yek.f (a0 : Int) : Option (Bool) := if a0 = 32 then (some true) else (some (a0 == 9))
set_option maxHeartbeats 8000000 in
set_option maxRecDepth 100000 in
theorem yek.calls (a0 : Int) (r : Bool) (w : World) (h : yek.f a0 = some r) :
  Calls Tryz.prog 57 #[.int .u8 a0] w fun e w' => e = .returned (.bool r) ∧ Drawn0 w w' := by
 have H : (if a0 = 32 then (some true) else (some (a0 == 9))) = some r := h
 clear h
 by_cases c2 : a0 = 32
 ·rw [if_pos c2] at H
  have c2b0 : (a0 == 32) = true := beq_iff_eq.mpr c2
  have c2b1 : (a0 != 32) = false := bne_eq_false_iff_eq.mpr c2
  clear c2
  obtain rfl := Option.some.inj H
  go_enter Tryz.func57, Tryz.ntmps57
  go_wp2
  go_ret
  exact ⟨by first | rfl | (simp; done) | (simp [*]; done), by repeat (first | exact Drawn0.refl _ | apply Drawn0.step)⟩
 ·rw [if_neg c2] at H
  have c2b0 : (a0 == 32) = false := beq_eq_false_iff_ne.mpr c2
  have c2b1 : (a0 != 32) = true := bne_iff_ne.mpr c2
  obtain rfl := Option.some.inj H
  go_enter Tryz.func57, Tryz.ntmps57
  go_wp2
  go_ret
  exact ⟨by first | rfl | (simp; done) | (simp [*]; done), by repeat (first | exact Drawn0.refl _ | apply Drawn0.step)⟩
mutual
def ydj.l0 : Nat → ByteArray → List (S73) → Int → Option ((List (S73)) × Bool)
 | 0, _, _, _ => none
 | k + 1, x0, x4, x5 => if x5 < (x0.size : Int) then (if 0 ≤ x5 then (if (bt x0 x5) = 32 then (ydj.j1 k x0 x4 x5 true) else (ydj.j1 k x0 x4 x5 ((bt x0 x5) == 9))) else (none)) else (some (x4, true))
def ydj.j1 : Nat → ByteArray → List (S73) → Int → Bool → Option ((List (S73)) × Bool)
 | 0, _, _, _, _ => none
 | k + 1, x0, x4, x5, x22 => if x22 = true then (ydj.l0 k x0 x4 (wrap64 (x5 + 1))) else (if 0 ≤ x5 then (if x5 < (x0.size : Int) then (if (bt x0 x5) = 35 then (some (x4, true)) else (if (bt x0 x5) = 34 then ((ydf.f k x0 x5).bind fun bt251 => (if bt251.2 < 0 then (some (([] : List (S73)), false)) else (if bt251.2 < (x0.size : Int) then (if 0 ≤ bt251.2 then ((yek.f (bt x0 bt251.2)).bind fun t253 => (if t253 = true then (if x4.length < 5864062014805 then (ydj.l0 k x0 (x4 ++ [(⟨bt251.1, true⟩ : S73)]) bt251.2) else (none)) else (some (([] : List (S73)), false)))) else (none)) else (if x4.length < 5864062014805 then (ydj.l0 k x0 (x4 ++ [(⟨bt251.1, true⟩ : S73)]) bt251.2) else (none))))) else (ydj.l1 k x0 x4 x5 x5))) else (none)) else (none))
def ydj.l1 : Nat → ByteArray → List (S73) → Int → Int → Option ((List (S73)) × Bool)
 | 0, _, _, _, _ => none
 | k + 1, x0, x4, x5, x8 => if x5 < (x0.size : Int) then (if 0 ≤ x5 then (if (bt x0 x5) = 32 then (if 0 ≤ x8 then (if x8 ≤ x5 then (if x5 ≤ (x0.size : Int) then (if x4.length < 5864062014805 then (ydj.l0 k x0 (x4 ++ [(⟨x0.extract (x8 : Int).toNat (x5 : Int).toNat, false⟩ : S73)]) x5) else (none)) else (none)) else (none)) else (none)) else (if (bt x0 x5) = 9 then (if 0 ≤ x8 then (if x8 ≤ x5 then (if x5 ≤ (x0.size : Int) then (if x4.length < 5864062014805 then (ydj.l0 k x0 (x4 ++ [(⟨x0.extract (x8 : Int).toNat (x5 : Int).toNat, false⟩ : S73)]) x5) else (none)) else (none)) else (none)) else (none)) else (ydj.l1 k x0 x4 (wrap64 (x5 + 1)) x8))) else (none)) else (if 0 ≤ x8 then (if x8 ≤ x5 then (if x5 ≤ (x0.size : Int) then (if x4.length < 5864062014805 then (ydj.l0 k x0 (x4 ++ [(⟨x0.extract (x8 : Int).toNat (x5 : Int).toNat, false⟩ : S73)]) x5) else (none)) else (none)) else (none)) else (none))
end
def ydj.f (k : Nat) (a0 : ByteArray) : Option ((List (S73)) × Bool) := ydj.l0 k a0 ([] : List (S73)) 0
set_option maxHeartbeats 8000000 in
set_option maxRecDepth 100000 in
theorem ydj.calls (k : Nat) (a0 : ByteArray) (r1 : List (S73)) (r2 : Bool) (w : World) (h : ydj.f k a0 = some (r1, r2)) :
  Calls Tryz.prog 26 #[.string a0] w fun e w' => ∃ v0_ : Value, e = .returned (.tuple #[v0_, .bool r2]) ∧ Kd.R k73 73 w' w.heap.size (fun _ => True) v0_ r1 ∧ Below w.heap.size w w' := by
 have hu73 := Tryz.underlying73
 have HB := Aside0.mk (Below.refl w.heap.size w)
 have H : (ydj.l0 k a0 ([] : List (S73)) 0) = some (r1, r2) := h
 clear h
 have H' := Aside0.mk H
 clear H
 go_enter Tryz.func26, Tryz.ntmps26
 go_wp2
 go_loopg [4, 5] k (fun kq v4 v5 w' => ∃ (x4_1 : List (S73)) (x5_1 : Int), v5 = .int .i64 x5_1 ∧ Aside0 (ydj.l0 kq a0 x4_1 x5_1 = some (r1, r2)) ∧ Aside0 (kq ≤ k) ∧ Aside0 (Kd.R k73 73 w' w.heap.size (fun _ => True) v4 x4_1) ∧ Aside0 (Below w.heap.size w w'))
 case atStart => exact ⟨(([] : List (S73))), (0), (by first | rfl | (simp; done) | (simp [*]; done)), H', ⟨Nat.le_refl _⟩, ⟨by first | exact Kd.R_nil _ _ _ _ _ | exact Kd.N_nil _ _ _ _ _ | exact Kd.V_nil _ _ _ _ _ | exact Kd.Q_nil _ _ _ _ _ | exact Kd.S_nil _ _ _ _ _⟩, ⟨by repeat (first | (with_reducible first | exact HB.out | apply zab | apply zaa | apply zac) | exact HB.out)⟩⟩
 case round =>
  clear H'
  obtain ⟨x4_1, x5_1, rfl, HA, HK1, HO_4, HB⟩ := hrel
  cases gk with
  | zero => exact absurd HA.out (by simp [ydj.l0])
  | succ k1 =>
   have H := HA.out
   clear HA
   simp only [ydj.l0] at H
   by_cases c2 : x5_1 < (a0.size : Int)
   ·rw [if_pos c2] at H
    have c2b0 : decide (x5_1 < (a0.size : Int)) = true := decide_eq_true c2
    clear c2
    have HC3 := Aside0.mk H
    clear H
    go_upto_region 4 with (fail)
    go_cut [22] (fun v22 wc => ∃ (kq : Nat) (x22_2 : Bool), v22 = .bool x22_2 ∧ Aside0 (ydj.j1 kq a0 x4_1 x5_1 x22_2 = some (r1, r2)) ∧ Aside0 (kq ≤ k1) ∧ Aside0 (Kd.R k73 73 wc w.heap.size (fun _ => True) u4 x4_1) ∧ Aside0 (Below w.heap.size w wc))
    case first =>
     have H := HC3.out
     clear HC3
     by_cases c4 : 0 ≤ x5_1
     ·rw [if_pos c4] at H
      have c4b0 : decide (0 ≤ x5_1) = true := decide_eq_true c4
      clear c4
      (first | rw [c4b0] | (simp only [zbp, zch]; rw [c4b0]) | rw [c4b9] | skip)
      by_cases c6 : (bt a0 x5_1) = 32
      ·rw [if_pos c6] at H
       have c6b0 : ((bt a0 x5_1) == 32) = true := beq_iff_eq.mpr c6
       have c6b1 : ((bt a0 x5_1) != 32) = false := bne_eq_false_iff_eq.mpr c6
       clear c6
       have H' := Aside0.mk H
       clear H
       have p5 : 0 ≤ (x5_1 : Int) := of_decide_eq_true (by assumption)
       have q5 : x5_1 < (a0.size : Int) := of_decide_eq_true (by assumption)
       have hx5 := zbq a0 x5_1
       replace p5 := eq_true p5
       replace q5 := eq_true q5
       go_wp2
       go_meet
       case rel => exact ⟨_, (true), (by first | rfl | (simp; done) | (simp [*]; done)), H', ⟨by have := HK1.out; first | omega | exact Nat.le_refl _⟩, ⟨by (with_reducible repeat (first | apply Kd.R_alloc | apply Kd.R_drewN | apply Kd.R_drew)); exact HO_4.out⟩, ⟨by repeat (first | (with_reducible first | exact HB.out | apply zab | apply zaa | apply zac) | exact HB.out)⟩⟩
      ·rw [if_neg c6] at H
       have c6b0 : ((bt a0 x5_1) == 32) = false := beq_eq_false_iff_ne.mpr c6
       have c6b1 : ((bt a0 x5_1) != 32) = true := bne_iff_ne.mpr c6
       have H' := Aside0.mk H
       clear H
       have p5 : 0 ≤ (x5_1 : Int) := of_decide_eq_true (by assumption)
       have q5 : x5_1 < (a0.size : Int) := of_decide_eq_true (by assumption)
       have hx5 := zbq a0 x5_1
       replace p5 := eq_true p5
       replace q5 := eq_true q5
       have p7 : 0 ≤ (x5_1 : Int) := of_decide_eq_true (by assumption)
       have q7 : x5_1 < (a0.size : Int) := of_decide_eq_true (by assumption)
       have hx7 := zbq a0 x5_1
       replace p7 := eq_true p7
       replace q7 := eq_true q7
       go_wp2
       go_meet
       case rel => exact ⟨_, (((bt a0 x5_1) == 9)), (by first | rfl | (simp; done) | (simp [*]; done)), H', ⟨by have := HK1.out; first | omega | exact Nat.le_refl _⟩, ⟨by (with_reducible repeat (first | apply Kd.R_alloc | apply Kd.R_drewN | apply Kd.R_drew)); exact HO_4.out⟩, ⟨by repeat (first | (with_reducible first | exact HB.out | apply zab | apply zaa | apply zac) | exact HB.out)⟩⟩
     ·rw [if_neg c4] at H
      exact absurd H (by simp)
    case rest =>
     clear HC3
     try clear c2; try clear c2b0; try clear p2; try clear c4; try clear c4b0; try clear p5; try clear q5; try clear hx5; try clear c6; try clear c6b0; try clear c6b1; try clear p7; try clear q7; try clear hx7; try clear p5; try clear p7; try clear q5; try clear q7
     obtain ⟨kq, x22_2, rfl, HA, HJ2, HO_4, HB⟩ := hcut
     cases kq with
     | zero => exact absurd HA.out (by simp [ydj.j1])
     | succ kj2 =>
      have H := HA.out
      clear HA
      simp only [ydj.j1] at H
      by_cases c8 : x22_2 = true
      ·subst c8
       have H1 : (ydj.l0 kj2 a0 x4_1 (wrap64 (x5_1 + 1))) = some (r1, r2) := by rw [if_pos rfl] at H; exact H
       clear H
       have H := H1
       clear H1
       have H' := Aside0.mk H
       clear H
       go_wp2
       go_roundg kj2
       case measure => have := HK1.out; have := HJ2.out; omega
       case rel => exact ⟨(x4_1), (wrap64 (x5_1 + 1)), (by first | rfl | (simp; done) | (simp [*]; done)), H', ⟨by have := HK1.out; have := HJ2.out; omega⟩, ⟨by (with_reducible repeat (first | apply Kd.R_alloc | apply Kd.R_drewN | apply Kd.R_drew)); exact HO_4.out⟩, ⟨by repeat (first | (with_reducible first | exact HB.out | apply zab | apply zaa | apply zac) | exact HB.out)⟩⟩
      ·replace c8 := Bool.eq_false_iff.mpr c8
       subst c8
       have H1 : (if 0 ≤ x5_1 then (if x5_1 < (a0.size : Int) then (if (bt a0 x5_1) = 35 then (some (x4_1, true)) else (if (bt a0 x5_1) = 34 then ((ydf.f kj2 a0 x5_1).bind fun bt251 => (if bt251.2 < 0 then (some (([] : List (S73)), false)) else (if bt251.2 < (a0.size : Int) then (if 0 ≤ bt251.2 then ((yek.f (bt a0 bt251.2)).bind fun t253 => (if t253 = true then (if x4_1.length < 5864062014805 then (ydj.l0 kj2 a0 (x4_1 ++ [(⟨bt251.1, true⟩ : S73)]) bt251.2) else (none)) else (some (([] : List (S73)), false)))) else (none)) else (if x4_1.length < 5864062014805 then (ydj.l0 kj2 a0 (x4_1 ++ [(⟨bt251.1, true⟩ : S73)]) bt251.2) else (none))))) else (ydj.l1 kj2 a0 x4_1 x5_1 x5_1))) else (none)) else (none)) = some (r1, r2) := by rw [if_neg (show ¬ (false = true) by decide)] at H; exact H
       clear H
       have H := H1
       clear H1
       by_cases c9 : 0 ≤ x5_1
       ·rw [if_pos c9] at H
        have c9b0 : decide (0 ≤ x5_1) = true := decide_eq_true c9
        clear c9
        by_cases c10 : x5_1 < (a0.size : Int)
        ·rw [if_pos c10] at H
         have c10b0 : decide (x5_1 < (a0.size : Int)) = true := decide_eq_true c10
         clear c10
         by_cases c12 : (bt a0 x5_1) = 35
         ·rw [if_pos c12] at H
          have c12b0 : ((bt a0 x5_1) == 35) = true := beq_iff_eq.mpr c12
          have c12b1 : ((bt a0 x5_1) != 35) = false := bne_eq_false_iff_eq.mpr c12
          clear c12
          simp only [Option.some.injEq, Prod.mk.injEq] at H
          obtain ⟨rfl, rfl⟩ := H
          have p11 : 0 ≤ (x5_1 : Int) := of_decide_eq_true (by assumption)
          have q11 : x5_1 < (a0.size : Int) := of_decide_eq_true (by assumption)
          have hx11 := zbq a0 x5_1
          replace p11 := eq_true p11
          replace q11 := eq_true q11
          go_wp2
          go_ret2
          exact ⟨_, by first | rfl | (simp [zal, zak] <;> rfl) | (simp [*, zal, zak] <;> rfl), by (with_reducible repeat (first | apply Kd.R_alloc | apply Kd.R_drewN | apply Kd.R_drew)); exact HO_4.out, by repeat (first | (with_reducible first | exact HB.out | apply zab | apply zaa | apply zac) | exact HB.out)⟩
         ·rw [if_neg c12] at H
          have c12b0 : ((bt a0 x5_1) == 35) = false := beq_eq_false_iff_ne.mpr c12
          have c12b1 : ((bt a0 x5_1) != 35) = true := bne_iff_ne.mpr c12
          by_cases c14 : (bt a0 x5_1) = 34
          ·rw [if_pos c14] at H
           have c14b0 : ((bt a0 x5_1) == 34) = true := beq_iff_eq.mpr c14
           have c14b1 : ((bt a0 x5_1) != 34) = false := bne_eq_false_iff_eq.mpr c14
           clear c14
           replace H := Option.bind_eq_some_iff.mp H
           obtain ⟨⟨t251, t252⟩, A150, H⟩ := H
           replace H : (if t252 < 0 then (some (([] : List (S73)), false)) else (if t252 < (a0.size : Int) then (if 0 ≤ t252 then ((yek.f (bt a0 t252)).bind fun t253 => (if t253 = true then (if x4_1.length < 5864062014805 then (ydj.l0 kj2 a0 (x4_1 ++ [(⟨t251, true⟩ : S73)]) t252) else (none)) else (some (([] : List (S73)), false)))) else (none)) else (if x4_1.length < 5864062014805 then (ydj.l0 kj2 a0 (x4_1 ++ [(⟨t251, true⟩ : S73)]) t252) else (none)))) = some (r1, r2) := H
           have A15 := Aside0.mk A150
           clear A150
           by_cases c16 : t252 < 0
           ·rw [if_pos c16] at H
            have c16b0 : decide (t252 < 0) = true := decide_eq_true c16
            clear c16
            simp only [Option.some.injEq, Prod.mk.injEq] at H
            obtain ⟨rfl, rfl⟩ := H
            have p11 : 0 ≤ (x5_1 : Int) := of_decide_eq_true (by assumption)
            have q11 : x5_1 < (a0.size : Int) := of_decide_eq_true (by assumption)
            have hx11 := zbq a0 x5_1
            replace p11 := eq_true p11
            replace q11 := eq_true q11
            have p13 : 0 ≤ (x5_1 : Int) := of_decide_eq_true (by assumption)
            have q13 : x5_1 < (a0.size : Int) := of_decide_eq_true (by assumption)
            have hx13 := zbq a0 x5_1
            replace p13 := eq_true p13
            replace q13 := eq_true q13
            go_wp2_with (((with_reducible refine zaq (f := 56) rfl ?_); refine zbb (some 37) rfl rfl Tryz.func56 (by kernel_rfl) rfl #[.string a0, .int .i64 x5_1] rfl (by (try simp only [List.map_toArray, List.map_cons, List.map_nil]); first | done | rfl | (simp only [List.length_drop, List.length_take]; rfl)) ?_; (with_reducible refine (ydf.calls kj2 a0 x5_1 t251 t252 _ A15.out).mono ?_); rintro e w17 ⟨rfl, hb⟩; refine ⟨_, rfl, ?_⟩; have n0_ := Aside0.mk (Kd.R_below (by (with_reducible repeat (first | apply Kd.R_alloc | apply Kd.R_drewN | apply Kd.R_drew)); exact HO_4.out) hb); have n1_ := Aside0.mk (zap (by repeat (first | (with_reducible first | exact HB.out | apply zab | apply zaa | apply zac) | exact HB.out)) hb); clear HO_4; clear HB; have HO_4 := n0_; have HB := n1_; clear n0_ n1_; (try clear hb); (try clear hb2); (try clear hk); (try clear hi)))
            go_ret2
            exact ⟨_, by first | rfl | (simp [zal, zak] <;> rfl) | (simp [*, zal, zak] <;> rfl), by first | exact Kd.R_nil _ _ _ _ _ | exact Kd.N_nil _ _ _ _ _ | exact Kd.V_nil _ _ _ _ _ | exact Kd.Q_nil _ _ _ _ _ | exact Kd.S_nil _ _ _ _ _, by repeat (first | (with_reducible first | exact HB.out | apply zab | apply zaa | apply zac) | exact HB.out)⟩
           ·rw [if_neg c16] at H
            have c16b0 : decide (t252 < 0) = false := decide_eq_false c16
            clear c16
            by_cases c18 : t252 < (a0.size : Int)
            ·rw [if_pos c18] at H
             have c18b0 : decide (t252 < (a0.size : Int)) = true := decide_eq_true c18
             clear c18
             by_cases c19 : 0 ≤ t252
             ·rw [if_pos c19] at H
              have c19b0 : decide (0 ≤ t252) = true := decide_eq_true c19
              clear c19
              replace H := Option.bind_eq_some_iff.mp H
              obtain ⟨t253, A210, H⟩ := H
              replace H : (if t253 = true then (if x4_1.length < 5864062014805 then (ydj.l0 kj2 a0 (x4_1 ++ [(⟨t251, true⟩ : S73)]) t252) else (none)) else (some (([] : List (S73)), false))) = some (r1, r2) := H
              have A21 := Aside0.mk A210
              clear A210
              by_cases c22 : t253 = true
              ·subst c22
               have H1 : (if x4_1.length < 5864062014805 then (ydj.l0 kj2 a0 (x4_1 ++ [(⟨t251, true⟩ : S73)]) t252) else (none)) = some (r1, r2) := by rw [if_pos rfl] at H; exact H
               clear H
               have H := H1
               clear H1
               by_cases c23 : x4_1.length < 5864062014805
               ·rw [if_pos c23] at H
                have LMc23 := Aside0.mk c23
                clear c23
                obtain ⟨y254, hy254⟩ : ∃ y_ : List (S73), y_ = (x4_1 ++ [(⟨t251, true⟩ : S73)]) := ⟨_, rfl⟩
                replace H : (ydj.l0 kj2 a0 y254 t252) = some (r1, r2) := by first | (rw [hy254]; with_reducible exact H) | (have H2_ := (Option.bind_some _ _).symm.trans H; rw [hy254]; with_reducible exact H2_) | (have H2_ := (Option.bind_some _ _).symm.trans H; with_reducible exact H2_) | with_reducible exact H | (rw [hy254]; exact H) | exact H
                have Ny254 := Aside0.mk hy254
                clear hy254
                have H' := Aside0.mk H
                clear H
                have p11 : 0 ≤ (x5_1 : Int) := of_decide_eq_true (by assumption)
                have q11 : x5_1 < (a0.size : Int) := of_decide_eq_true (by assumption)
                have hx11 := zbq a0 x5_1
                replace p11 := eq_true p11
                replace q11 := eq_true q11
                have p13 : 0 ≤ (x5_1 : Int) := of_decide_eq_true (by assumption)
                have q13 : x5_1 < (a0.size : Int) := of_decide_eq_true (by assumption)
                have hx13 := zbq a0 x5_1
                replace p13 := eq_true p13
                replace q13 := eq_true q13
                go_wp2_with (first | ((with_reducible refine zaq (f := 56) rfl ?_); refine zbb (some 37) rfl rfl Tryz.func56 (by kernel_rfl) rfl #[.string a0, .int .i64 x5_1] rfl (by (try simp only [List.map_toArray, List.map_cons, List.map_nil]); first | done | rfl | (simp only [List.length_drop, List.length_take]; rfl)) ?_; (with_reducible refine (ydf.calls kj2 a0 x5_1 t251 t252 _ A15.out).mono ?_); rintro e w24 ⟨rfl, hb⟩; refine ⟨_, rfl, ?_⟩; have n0_ := Aside0.mk (Kd.R_below (by (with_reducible repeat (first | apply Kd.R_alloc | apply Kd.R_drewN | apply Kd.R_drew)); exact HO_4.out) hb); have n1_ := Aside0.mk (zap (by repeat (first | (with_reducible first | exact HB.out | apply zab | apply zaa | apply zac) | exact HB.out)) hb); clear HO_4; clear HB; have HO_4 := n0_; have HB := n1_; clear n0_ n1_; (try clear hb); (try clear hb2); (try clear hk); (try clear hi); have p20 : 0 ≤ (t252 : Int) := of_decide_eq_true (by assumption); have q20 : t252 < (a0.size : Int) := of_decide_eq_true (by assumption); have hx20 := zbq a0 t252; replace p20 := eq_true p20; replace q20 := eq_true q20) | (go_at_call 57; (with_reducible refine (yek.calls (bt a0 t252) true _ A21.out).mono ?_); rintro e w' ⟨rfl, ⟨nd, rfl⟩⟩) | ((with_reducible refine zax (b := .append) (xs := #[.tmp 55, .tmp 58]) rfl ?_); (try (refine zcz (by rfl) ?_; dsimp only)); at_builtin; refine Kd.R_append k73 (w0 := w) w.heap.size rfl (.tmp 55) (.tmp 58) 69 73 (.agg #[(.string ⟨#[]⟩), (.bool false)]) 24 rfl Tryz.underlying69 info73 rfl (by decide) (by omega) u4 x4_1 (⟨t251, true⟩ : S73) [.string t251, .bool true] (fun _ => True) (fun _ => False) rfl rfl ?aP (fun _ hk => hk.elim) ?aF ?aO ?aB ?aS ?aL ?_; (case aP => exact k73_mkM _ _ _ (⟨t251, true⟩ : S73)); (case aB => exact (by repeat (first | (with_reducible first | exact HB.out | apply zab | apply zaa | apply zac) | exact HB.out))); (case aF => exact (fun _ _ => trivial)); (case aO => exact (by (with_reducible repeat (first | apply Kd.R_alloc | apply Kd.R_drewN | apply Kd.R_drew)); exact HO_4.out)); (case aS => exact (zan (by repeat (first | (with_reducible first | exact HB.out | apply zab | apply zaa | apply zac) | exact HB.out)))); (case aL => have := LMc23.out; omega); intro v255 w25 ho hb hg hat; rw [← Ny254.out] at ho; have n0_ := Aside0.mk (hb); have n1_ := Aside0.mk (ho); clear HB; clear HO_4; have HB := n0_; have HO256 := n1_; clear n0_ n1_; clear ho hb hg hat))
                go_roundg kj2
                case measure => have := HK1.out; have := HJ2.out; omega
                case rel => exact ⟨(y254), (t252), (by first | rfl | (simp; done) | (simp [*]; done)), H', ⟨by have := HK1.out; have := HJ2.out; omega⟩, ⟨by (with_reducible repeat (first | apply Kd.R_alloc | apply Kd.R_drewN | apply Kd.R_drew)); exact HO256.out⟩, ⟨by repeat (first | (with_reducible first | exact HB.out | apply zab | apply zaa | apply zac) | exact HB.out)⟩⟩
               ·rw [if_neg c23] at H
                exact absurd H (by simp)
              ·replace c22 := Bool.eq_false_iff.mpr c22
               subst c22
               have H1 : (some (([] : List (S73)), false)) = some (r1, r2) := by rw [if_neg (show ¬ (false = true) by decide)] at H; exact H
               clear H
               have H := H1
               clear H1
               simp only [Option.some.injEq, Prod.mk.injEq] at H
               obtain ⟨rfl, rfl⟩ := H
               have p11 : 0 ≤ (x5_1 : Int) := of_decide_eq_true (by assumption)
               have q11 : x5_1 < (a0.size : Int) := of_decide_eq_true (by assumption)
               have hx11 := zbq a0 x5_1
               replace p11 := eq_true p11
               replace q11 := eq_true q11
               have p13 : 0 ≤ (x5_1 : Int) := of_decide_eq_true (by assumption)
               have q13 : x5_1 < (a0.size : Int) := of_decide_eq_true (by assumption)
               have hx13 := zbq a0 x5_1
               replace p13 := eq_true p13
               replace q13 := eq_true q13
               go_wp2_with (first | ((with_reducible refine zaq (f := 56) rfl ?_); refine zbb (some 37) rfl rfl Tryz.func56 (by kernel_rfl) rfl #[.string a0, .int .i64 x5_1] rfl (by (try simp only [List.map_toArray, List.map_cons, List.map_nil]); first | done | rfl | (simp only [List.length_drop, List.length_take]; rfl)) ?_; (with_reducible refine (ydf.calls kj2 a0 x5_1 t251 t252 _ A15.out).mono ?_); rintro e w26 ⟨rfl, hb⟩; refine ⟨_, rfl, ?_⟩; have n0_ := Aside0.mk (Kd.R_below (by (with_reducible repeat (first | apply Kd.R_alloc | apply Kd.R_drewN | apply Kd.R_drew)); exact HO_4.out) hb); have n1_ := Aside0.mk (zap (by repeat (first | (with_reducible first | exact HB.out | apply zab | apply zaa | apply zac) | exact HB.out)) hb); clear HO_4; clear HB; have HO_4 := n0_; have HB := n1_; clear n0_ n1_; (try clear hb); (try clear hb2); (try clear hk); (try clear hi); have p20 : 0 ≤ (t252 : Int) := of_decide_eq_true (by assumption); have q20 : t252 < (a0.size : Int) := of_decide_eq_true (by assumption); have hx20 := zbq a0 t252; replace p20 := eq_true p20; replace q20 := eq_true q20) | (go_at_call 57; (with_reducible refine (yek.calls (bt a0 t252) false _ A21.out).mono ?_); rintro e w' ⟨rfl, ⟨nd, rfl⟩⟩))
               go_ret2
               exact ⟨_, by first | rfl | (simp [zal, zak] <;> rfl) | (simp [*, zal, zak] <;> rfl), by first | exact Kd.R_nil _ _ _ _ _ | exact Kd.N_nil _ _ _ _ _ | exact Kd.V_nil _ _ _ _ _ | exact Kd.Q_nil _ _ _ _ _ | exact Kd.S_nil _ _ _ _ _, by repeat (first | (with_reducible first | exact HB.out | apply zab | apply zaa | apply zac) | exact HB.out)⟩
             ·rw [if_neg c19] at H
              exact absurd H (by simp)
            ·rw [if_neg c18] at H
             have c18b0 : decide (t252 < (a0.size : Int)) = false := decide_eq_false c18
             clear c18
             by_cases c27 : x4_1.length < 5864062014805
             ·rw [if_pos c27] at H
              have LMc27 := Aside0.mk c27
              clear c27
              obtain ⟨y257, hy257⟩ : ∃ y_ : List (S73), y_ = (x4_1 ++ [(⟨t251, true⟩ : S73)]) := ⟨_, rfl⟩
              replace H : (ydj.l0 kj2 a0 y257 t252) = some (r1, r2) := by first | (rw [hy257]; with_reducible exact H) | (have H2_ := (Option.bind_some _ _).symm.trans H; rw [hy257]; with_reducible exact H2_) | (have H2_ := (Option.bind_some _ _).symm.trans H; with_reducible exact H2_) | with_reducible exact H | (rw [hy257]; exact H) | exact H
              have Ny257 := Aside0.mk hy257
              clear hy257
              have H' := Aside0.mk H
              clear H
              have p11 : 0 ≤ (x5_1 : Int) := of_decide_eq_true (by assumption)
              have q11 : x5_1 < (a0.size : Int) := of_decide_eq_true (by assumption)
              have hx11 := zbq a0 x5_1
              replace p11 := eq_true p11
              replace q11 := eq_true q11
              have p13 : 0 ≤ (x5_1 : Int) := of_decide_eq_true (by assumption)
              have q13 : x5_1 < (a0.size : Int) := of_decide_eq_true (by assumption)
              have hx13 := zbq a0 x5_1
              replace p13 := eq_true p13
              replace q13 := eq_true q13
              go_wp2_with (first | ((with_reducible refine zaq (f := 56) rfl ?_); refine zbb (some 37) rfl rfl Tryz.func56 (by kernel_rfl) rfl #[.string a0, .int .i64 x5_1] rfl (by (try simp only [List.map_toArray, List.map_cons, List.map_nil]); first | done | rfl | (simp only [List.length_drop, List.length_take]; rfl)) ?_; (with_reducible refine (ydf.calls kj2 a0 x5_1 t251 t252 _ A15.out).mono ?_); rintro e w28 ⟨rfl, hb⟩; refine ⟨_, rfl, ?_⟩; have n0_ := Aside0.mk (Kd.R_below (by (with_reducible repeat (first | apply Kd.R_alloc | apply Kd.R_drewN | apply Kd.R_drew)); exact HO_4.out) hb); have n1_ := Aside0.mk (zap (by repeat (first | (with_reducible first | exact HB.out | apply zab | apply zaa | apply zac) | exact HB.out)) hb); clear HO_4; clear HB; have HO_4 := n0_; have HB := n1_; clear n0_ n1_; (try clear hb); (try clear hb2); (try clear hk); (try clear hi)) | ((with_reducible refine zax (b := .append) (xs := #[.tmp 55, .tmp 58]) rfl ?_); (try (refine zcz (by rfl) ?_; dsimp only)); at_builtin; refine Kd.R_append k73 (w0 := w) w.heap.size rfl (.tmp 55) (.tmp 58) 69 73 (.agg #[(.string ⟨#[]⟩), (.bool false)]) 24 rfl Tryz.underlying69 info73 rfl (by decide) (by omega) u4 x4_1 (⟨t251, true⟩ : S73) [.string t251, .bool true] (fun _ => True) (fun _ => False) rfl rfl ?aP (fun _ hk => hk.elim) ?aF ?aO ?aB ?aS ?aL ?_; (case aP => exact k73_mkM _ _ _ (⟨t251, true⟩ : S73)); (case aB => exact (by repeat (first | (with_reducible first | exact HB.out | apply zab | apply zaa | apply zac) | exact HB.out))); (case aF => exact (fun _ _ => trivial)); (case aO => exact (by (with_reducible repeat (first | apply Kd.R_alloc | apply Kd.R_drewN | apply Kd.R_drew)); exact HO_4.out)); (case aS => exact (zan (by repeat (first | (with_reducible first | exact HB.out | apply zab | apply zaa | apply zac) | exact HB.out)))); (case aL => have := LMc27.out; omega); intro v258 w29 ho hb hg hat; rw [← Ny257.out] at ho; have n0_ := Aside0.mk (hb); have n1_ := Aside0.mk (ho); clear HB; clear HO_4; have HB := n0_; have HO259 := n1_; clear n0_ n1_; clear ho hb hg hat))
              go_roundg kj2
              case measure => have := HK1.out; have := HJ2.out; omega
              case rel => exact ⟨(y257), (t252), (by first | rfl | (simp; done) | (simp [*]; done)), H', ⟨by have := HK1.out; have := HJ2.out; omega⟩, ⟨by (with_reducible repeat (first | apply Kd.R_alloc | apply Kd.R_drewN | apply Kd.R_drew)); exact HO259.out⟩, ⟨by repeat (first | (with_reducible first | exact HB.out | apply zab | apply zaa | apply zac) | exact HB.out)⟩⟩
             ·rw [if_neg c27] at H
              exact absurd H (by simp)
          ·rw [if_neg c14] at H
           have c14b0 : ((bt a0 x5_1) == 34) = false := beq_eq_false_iff_ne.mpr c14
           have c14b1 : ((bt a0 x5_1) != 34) = true := bne_iff_ne.mpr c14
           have H' := Aside0.mk H
           clear H
           have p11 : 0 ≤ (x5_1 : Int) := of_decide_eq_true (by assumption)
           have q11 : x5_1 < (a0.size : Int) := of_decide_eq_true (by assumption)
           have hx11 := zbq a0 x5_1
           replace p11 := eq_true p11
           replace q11 := eq_true q11
           have p13 : 0 ≤ (x5_1 : Int) := of_decide_eq_true (by assumption)
           have q13 : x5_1 < (a0.size : Int) := of_decide_eq_true (by assumption)
           have hx13 := zbq a0 x5_1
           replace p13 := eq_true p13
           replace q13 := eq_true q13
           go_wp2
           go_loopg [5] kj2 (fun kq v5 w' => ∃ (x5_3 : Int), v5 = .int .i64 x5_3 ∧ Aside0 (ydj.l1 kq a0 x4_1 x5_3 x5_1 = some (r1, r2)) ∧ Aside0 (kq ≤ kj2) ∧ Aside0 (Kd.R k73 73 w' w.heap.size (fun _ => True) u4 x4_1) ∧ Aside0 (Below w.heap.size w w'))
           case atStart => exact ⟨(x5_1), (by first | rfl | (simp; done) | (simp [*]; done)), H', ⟨Nat.le_refl _⟩, ⟨by (with_reducible repeat (first | apply Kd.R_alloc | apply Kd.R_drewN | apply Kd.R_drew)); exact HO_4.out⟩, ⟨by repeat (first | (with_reducible first | exact HB.out | apply zab | apply zaa | apply zac) | exact HB.out)⟩⟩
           case round =>
            clear H'
            try clear c1; try clear p1; try clear q1; try clear hx1; try clear c2; try clear c2b0; try clear p2; try clear q2; try clear hx2; try clear c4; try clear c4b0; try clear c5; try clear p5; try clear q5; try clear hx5; try clear c6; try clear c6b0; try clear c6b1; try clear p6; try clear p7; try clear q7; try clear hx7; try clear c8; try clear c9; try clear c9b0; try clear c10; try clear c10b0
            try clear p11; try clear q11; try clear hx11; try clear c12; try clear c12b0; try clear c12b1; try clear p13; try clear q13; try clear hx13; try clear c14; try clear c14b0; try clear c14b1; try clear c16; try clear c16b0; try clear c18; try clear c18b0; try clear c19; try clear c19b0; try clear p20; try clear q20; try clear hx20; try clear c22; try clear c23; try clear c26; try clear c27
            try clear p11; try clear p13; try clear p2; try clear p20; try clear p5; try clear p7; try clear q11; try clear q13; try clear q20; try clear q5; try clear q7
            obtain ⟨x5_3, rfl, HA, HK3, HO_4, HB⟩ := hrel
            cases gk with
            | zero => exact absurd HA.out (by simp [ydj.l1])
            | succ k3 =>
             have H := HA.out
             clear HA
             simp only [ydj.l1] at H
             by_cases c30 : x5_3 < (a0.size : Int)
             ·rw [if_pos c30] at H
              have c30b0 : decide (x5_3 < (a0.size : Int)) = true := decide_eq_true c30
              clear c30
              by_cases c31 : 0 ≤ x5_3
              ·rw [if_pos c31] at H
               have c31b0 : decide (0 ≤ x5_3) = true := decide_eq_true c31
               clear c31
               by_cases c33 : (bt a0 x5_3) = 32
               ·rw [if_pos c33] at H
                have c33b0 : ((bt a0 x5_3) == 32) = true := beq_iff_eq.mpr c33
                have c33b1 : ((bt a0 x5_3) != 32) = false := bne_eq_false_iff_eq.mpr c33
                clear c33
                by_cases c34 : 0 ≤ x5_1
                ·rw [if_pos c34] at H
                 have c34b0 := eq_true c34
                 have c34b1 : decide (0 ≤ x5_1) = true := decide_eq_true c34
                 clear c34
                 by_cases c35 : x5_1 ≤ x5_3
                 ·rw [if_pos c35] at H
                  have c35b0 := eq_true c35
                  have c35b1 : decide (x5_1 ≤ x5_3) = true := decide_eq_true c35
                  clear c35
                  by_cases c36 : x5_3 ≤ (a0.size : Int)
                  ·rw [if_pos c36] at H
                   have c36b0 := eq_true c36
                   have c36b1 : decide (x5_3 ≤ (a0.size : Int)) = true := decide_eq_true c36
                   clear c36
                   by_cases c37 : x4_1.length < 5864062014805
                   ·rw [if_pos c37] at H
                    have LMc37 := Aside0.mk c37
                    clear c37
                    obtain ⟨y260, hy260⟩ : ∃ y_ : List (S73), y_ = (x4_1 ++ [(⟨a0.extract (x5_1 : Int).toNat (x5_3 : Int).toNat, false⟩ : S73)]) := ⟨_, rfl⟩
                    replace H : (ydj.l0 k3 a0 y260 x5_3) = some (r1, r2) := by first | (rw [hy260]; with_reducible exact H) | (have H2_ := (Option.bind_some _ _).symm.trans H; rw [hy260]; with_reducible exact H2_) | (have H2_ := (Option.bind_some _ _).symm.trans H; with_reducible exact H2_) | with_reducible exact H | (rw [hy260]; exact H) | exact H
                    have Ny260 := Aside0.mk hy260
                    clear hy260
                    have H' := Aside0.mk H
                    clear H
                    have p32 : 0 ≤ (x5_3 : Int) := of_decide_eq_true (by assumption)
                    have q32 : x5_3 < (a0.size : Int) := of_decide_eq_true (by assumption)
                    have hx32 := zbq a0 x5_3
                    replace p32 := eq_true p32
                    replace q32 := eq_true q32
                    go_wp2_with (((with_reducible refine zax (b := .append) (xs := #[.tmp 80, .tmp 86]) rfl ?_); (try (refine zcz (by rfl) ?_; dsimp only)); at_builtin; refine Kd.R_append k73 (w0 := w) w.heap.size rfl (.tmp 80) (.tmp 86) 69 73 (.agg #[(.string ⟨#[]⟩), (.bool false)]) 24 rfl Tryz.underlying69 info73 rfl (by decide) (by omega) u4 x4_1 (⟨a0.extract (x5_1 : Int).toNat (x5_3 : Int).toNat, false⟩ : S73) [.string (a0.extract (x5_1 : Int).toNat (x5_3 : Int).toNat), .bool false] (fun _ => True) (fun _ => False) rfl rfl ?aP (fun _ hk => hk.elim) ?aF ?aO ?aB ?aS ?aL ?_; (case aP => exact k73_mkM _ _ _ (⟨a0.extract (x5_1 : Int).toNat (x5_3 : Int).toNat, false⟩ : S73)); (case aB => exact (by repeat (first | (with_reducible first | exact HB.out | apply zab | apply zaa | apply zac) | exact HB.out))); (case aF => exact (fun _ _ => trivial)); (case aO => exact (by (with_reducible repeat (first | apply Kd.R_alloc | apply Kd.R_drewN | apply Kd.R_drew)); exact HO_4.out)); (case aS => exact (zan (by repeat (first | (with_reducible first | exact HB.out | apply zab | apply zaa | apply zac) | exact HB.out)))); (case aL => have := LMc37.out; omega); intro v261 w38 ho hb hg hat; rw [← Ny260.out] at ho; have n0_ := Aside0.mk (hb); have n1_ := Aside0.mk (ho); clear HB; clear HO_4; have HB := n0_; have HO262 := n1_; clear n0_ n1_; clear ho hb hg hat))
                    go_roundg k3
                    case measure => have := HK1.out; have := HJ2.out; have := HK3.out; omega
                    case rel => exact ⟨(y260), (x5_3), (by first | rfl | (simp; done) | (simp [*]; done)), H', ⟨by have := HK1.out; have := HJ2.out; have := HK3.out; omega⟩, ⟨by (with_reducible repeat (first | apply Kd.R_alloc | apply Kd.R_drewN | apply Kd.R_drew)); exact HO262.out⟩, ⟨by repeat (first | (with_reducible first | exact HB.out | apply zab | apply zaa | apply zac) | exact HB.out)⟩⟩
                   ·rw [if_neg c37] at H
                    exact absurd H (by simp)
                  ·rw [if_neg c36] at H
                   exact absurd H (by simp)
                 ·rw [if_neg c35] at H
                  exact absurd H (by simp)
                ·rw [if_neg c34] at H
                 exact absurd H (by simp)
               ·rw [if_neg c33] at H
                have c33b0 : ((bt a0 x5_3) == 32) = false := beq_eq_false_iff_ne.mpr c33
                have c33b1 : ((bt a0 x5_3) != 32) = true := bne_iff_ne.mpr c33
                by_cases c40 : (bt a0 x5_3) = 9
                ·rw [if_pos c40] at H
                 have c40b0 : ((bt a0 x5_3) == 9) = true := beq_iff_eq.mpr c40
                 have c40b1 : ((bt a0 x5_3) != 9) = false := bne_eq_false_iff_eq.mpr c40
                 clear c40
                 by_cases c41 : 0 ≤ x5_1
                 ·rw [if_pos c41] at H
                  have c41b0 := eq_true c41
                  have c41b1 : decide (0 ≤ x5_1) = true := decide_eq_true c41
                  clear c41
                  by_cases c42 : x5_1 ≤ x5_3
                  ·rw [if_pos c42] at H
                   have c42b0 := eq_true c42
                   have c42b1 : decide (x5_1 ≤ x5_3) = true := decide_eq_true c42
                   clear c42
                   by_cases c43 : x5_3 ≤ (a0.size : Int)
                   ·rw [if_pos c43] at H
                    have c43b0 := eq_true c43
                    have c43b1 : decide (x5_3 ≤ (a0.size : Int)) = true := decide_eq_true c43
                    clear c43
                    by_cases c44 : x4_1.length < 5864062014805
                    ·rw [if_pos c44] at H
                     have LMc44 := Aside0.mk c44
                     clear c44
                     obtain ⟨y263, hy263⟩ : ∃ y_ : List (S73), y_ = (x4_1 ++ [(⟨a0.extract (x5_1 : Int).toNat (x5_3 : Int).toNat, false⟩ : S73)]) := ⟨_, rfl⟩
                     replace H : (ydj.l0 k3 a0 y263 x5_3) = some (r1, r2) := by first | (rw [hy263]; with_reducible exact H) | (have H2_ := (Option.bind_some _ _).symm.trans H; rw [hy263]; with_reducible exact H2_) | (have H2_ := (Option.bind_some _ _).symm.trans H; with_reducible exact H2_) | with_reducible exact H | (rw [hy263]; exact H) | exact H
                     have Ny263 := Aside0.mk hy263
                     clear hy263
                     have H' := Aside0.mk H
                     clear H
                     have p32 : 0 ≤ (x5_3 : Int) := of_decide_eq_true (by assumption)
                     have q32 : x5_3 < (a0.size : Int) := of_decide_eq_true (by assumption)
                     have hx32 := zbq a0 x5_3
                     replace p32 := eq_true p32
                     replace q32 := eq_true q32
                     have p39 : 0 ≤ (x5_3 : Int) := of_decide_eq_true (by assumption)
                     have q39 : x5_3 < (a0.size : Int) := of_decide_eq_true (by assumption)
                     have hx39 := zbq a0 x5_3
                     replace p39 := eq_true p39
                     replace q39 := eq_true q39
                     go_wp2_with (((with_reducible refine zax (b := .append) (xs := #[.tmp 80, .tmp 86]) rfl ?_); (try (refine zcz (by rfl) ?_; dsimp only)); at_builtin; refine Kd.R_append k73 (w0 := w) w.heap.size rfl (.tmp 80) (.tmp 86) 69 73 (.agg #[(.string ⟨#[]⟩), (.bool false)]) 24 rfl Tryz.underlying69 info73 rfl (by decide) (by omega) u4 x4_1 (⟨a0.extract (x5_1 : Int).toNat (x5_3 : Int).toNat, false⟩ : S73) [.string (a0.extract (x5_1 : Int).toNat (x5_3 : Int).toNat), .bool false] (fun _ => True) (fun _ => False) rfl rfl ?aP (fun _ hk => hk.elim) ?aF ?aO ?aB ?aS ?aL ?_; (case aP => exact k73_mkM _ _ _ (⟨a0.extract (x5_1 : Int).toNat (x5_3 : Int).toNat, false⟩ : S73)); (case aB => exact (by repeat (first | (with_reducible first | exact HB.out | apply zab | apply zaa | apply zac) | exact HB.out))); (case aF => exact (fun _ _ => trivial)); (case aO => exact (by (with_reducible repeat (first | apply Kd.R_alloc | apply Kd.R_drewN | apply Kd.R_drew)); exact HO_4.out)); (case aS => exact (zan (by repeat (first | (with_reducible first | exact HB.out | apply zab | apply zaa | apply zac) | exact HB.out)))); (case aL => have := LMc44.out; omega); intro v264 w45 ho hb hg hat; rw [← Ny263.out] at ho; have n0_ := Aside0.mk (hb); have n1_ := Aside0.mk (ho); clear HB; clear HO_4; have HB := n0_; have HO265 := n1_; clear n0_ n1_; clear ho hb hg hat))
                     go_roundg k3
                     case measure => have := HK1.out; have := HJ2.out; have := HK3.out; omega
                     case rel => exact ⟨(y263), (x5_3), (by first | rfl | (simp; done) | (simp [*]; done)), H', ⟨by have := HK1.out; have := HJ2.out; have := HK3.out; omega⟩, ⟨by (with_reducible repeat (first | apply Kd.R_alloc | apply Kd.R_drewN | apply Kd.R_drew)); exact HO265.out⟩, ⟨by repeat (first | (with_reducible first | exact HB.out | apply zab | apply zaa | apply zac) | exact HB.out)⟩⟩
                    ·rw [if_neg c44] at H
                     exact absurd H (by simp)
                   ·rw [if_neg c43] at H
                    exact absurd H (by simp)
                  ·rw [if_neg c42] at H
                   exact absurd H (by simp)
                 ·rw [if_neg c41] at H
                  exact absurd H (by simp)
                ·rw [if_neg c40] at H
                 have c40b0 : ((bt a0 x5_3) == 9) = false := beq_eq_false_iff_ne.mpr c40
                 have c40b1 : ((bt a0 x5_3) != 9) = true := bne_iff_ne.mpr c40
                 have H' := Aside0.mk H
                 clear H
                 have p32 : 0 ≤ (x5_3 : Int) := of_decide_eq_true (by assumption)
                 have q32 : x5_3 < (a0.size : Int) := of_decide_eq_true (by assumption)
                 have hx32 := zbq a0 x5_3
                 replace p32 := eq_true p32
                 replace q32 := eq_true q32
                 have p39 : 0 ≤ (x5_3 : Int) := of_decide_eq_true (by assumption)
                 have q39 : x5_3 < (a0.size : Int) := of_decide_eq_true (by assumption)
                 have hx39 := zbq a0 x5_3
                 replace p39 := eq_true p39
                 replace q39 := eq_true q39
                 go_wp2
                 go_roundg k3
                 case measure => have := HK1.out; have := HJ2.out; have := HK3.out; omega
                 case rel => exact ⟨(wrap64 (x5_3 + 1)), (by first | rfl | (simp; done) | (simp [*]; done)), H', ⟨by have := HK1.out; have := HJ2.out; have := HK3.out; omega⟩, ⟨by (with_reducible repeat (first | apply Kd.R_alloc | apply Kd.R_drewN | apply Kd.R_drew)); exact HO_4.out⟩, ⟨by repeat (first | (with_reducible first | exact HB.out | apply zab | apply zaa | apply zac) | exact HB.out)⟩⟩
              ·rw [if_neg c31] at H
               exact absurd H (by simp)
             ·rw [if_neg c30] at H
              have c30b0 : decide (x5_3 < (a0.size : Int)) = false := decide_eq_false c30
              clear c30
              by_cases c46 : 0 ≤ x5_1
              ·rw [if_pos c46] at H
               have c46b0 := eq_true c46
               have c46b1 : decide (0 ≤ x5_1) = true := decide_eq_true c46
               clear c46
               by_cases c47 : x5_1 ≤ x5_3
               ·rw [if_pos c47] at H
                have c47b0 := eq_true c47
                have c47b1 : decide (x5_1 ≤ x5_3) = true := decide_eq_true c47
                clear c47
                by_cases c48 : x5_3 ≤ (a0.size : Int)
                ·rw [if_pos c48] at H
                 have c48b0 := eq_true c48
                 have c48b1 : decide (x5_3 ≤ (a0.size : Int)) = true := decide_eq_true c48
                 clear c48
                 by_cases c49 : x4_1.length < 5864062014805
                 ·rw [if_pos c49] at H
                  have LMc49 := Aside0.mk c49
                  clear c49
                  obtain ⟨y266, hy266⟩ : ∃ y_ : List (S73), y_ = (x4_1 ++ [(⟨a0.extract (x5_1 : Int).toNat (x5_3 : Int).toNat, false⟩ : S73)]) := ⟨_, rfl⟩
                  replace H : (ydj.l0 k3 a0 y266 x5_3) = some (r1, r2) := by first | (rw [hy266]; with_reducible exact H) | (have H2_ := (Option.bind_some _ _).symm.trans H; rw [hy266]; with_reducible exact H2_) | (have H2_ := (Option.bind_some _ _).symm.trans H; with_reducible exact H2_) | with_reducible exact H | (rw [hy266]; exact H) | exact H
                  have Ny266 := Aside0.mk hy266
                  clear hy266
                  have H' := Aside0.mk H
                  clear H
                  go_wp2_with (((with_reducible refine zax (b := .append) (xs := #[.tmp 80, .tmp 86]) rfl ?_); (try (refine zcz (by rfl) ?_; dsimp only)); at_builtin; refine Kd.R_append k73 (w0 := w) w.heap.size rfl (.tmp 80) (.tmp 86) 69 73 (.agg #[(.string ⟨#[]⟩), (.bool false)]) 24 rfl Tryz.underlying69 info73 rfl (by decide) (by omega) u4 x4_1 (⟨a0.extract (x5_1 : Int).toNat (x5_3 : Int).toNat, false⟩ : S73) [.string (a0.extract (x5_1 : Int).toNat (x5_3 : Int).toNat), .bool false] (fun _ => True) (fun _ => False) rfl rfl ?aP (fun _ hk => hk.elim) ?aF ?aO ?aB ?aS ?aL ?_; (case aP => exact k73_mkM _ _ _ (⟨a0.extract (x5_1 : Int).toNat (x5_3 : Int).toNat, false⟩ : S73)); (case aB => exact (by repeat (first | (with_reducible first | exact HB.out | apply zab | apply zaa | apply zac) | exact HB.out))); (case aF => exact (fun _ _ => trivial)); (case aO => exact (by (with_reducible repeat (first | apply Kd.R_alloc | apply Kd.R_drewN | apply Kd.R_drew)); exact HO_4.out)); (case aS => exact (zan (by repeat (first | (with_reducible first | exact HB.out | apply zab | apply zaa | apply zac) | exact HB.out)))); (case aL => have := LMc49.out; omega); intro v267 w50 ho hb hg hat; rw [← Ny266.out] at ho; have n0_ := Aside0.mk (hb); have n1_ := Aside0.mk (ho); clear HB; clear HO_4; have HB := n0_; have HO268 := n1_; clear n0_ n1_; clear ho hb hg hat))
                  go_roundg k3
                  case measure => have := HK1.out; have := HJ2.out; have := HK3.out; omega
                  case rel => exact ⟨(y266), (x5_3), (by first | rfl | (simp; done) | (simp [*]; done)), H', ⟨by have := HK1.out; have := HJ2.out; have := HK3.out; omega⟩, ⟨by (with_reducible repeat (first | apply Kd.R_alloc | apply Kd.R_drewN | apply Kd.R_drew)); exact HO268.out⟩, ⟨by repeat (first | (with_reducible first | exact HB.out | apply zab | apply zaa | apply zac) | exact HB.out)⟩⟩
                 ·rw [if_neg c49] at H
                  exact absurd H (by simp)
                ·rw [if_neg c48] at H
                 exact absurd H (by simp)
               ·rw [if_neg c47] at H
                exact absurd H (by simp)
              ·rw [if_neg c46] at H
               exact absurd H (by simp)
        ·rw [if_neg c10] at H
         exact absurd H (by simp)
       ·rw [if_neg c9] at H
        exact absurd H (by simp)
   ·rw [if_neg c2] at H
    have c2b0 : decide (x5_1 < (a0.size : Int)) = false := decide_eq_false c2
    clear c2
    simp only [Option.some.injEq, Prod.mk.injEq] at H
    obtain ⟨rfl, rfl⟩ := H
    go_wp2
    go_ret2
    exact ⟨_, by first | rfl | (simp [zal, zak] <;> rfl) | (simp [*, zal, zak] <;> rfl), by (with_reducible repeat (first | apply Kd.R_alloc | apply Kd.R_drewN | apply Kd.R_drew)); exact HO_4.out, by repeat (first | (with_reducible first | exact HB.out | apply zab | apply zaa | apply zac) | exact HB.out)⟩
end Go.Proofs.YteamhfmpogbilaaGreatDoor.X
end
section
namespace Go.Proofs.YteamhfmpogbilaaGreatDoor.X
open Go.RowKit Go.Proofs.YteamhfmpogbilaaGreatDoorW.PrintWords Go.Proofs.YteamhfmpogbilaaGreatDoorW.PrintLast Go.Proofs.YteamhfmpogbilaaGreatDoorW.PrintMore
attribute [local go_sem] zbw zbu zck zcj zbj zbi zbv zbt
mutual
def ydp.j0 : Nat → ByteArray → Bool → Option (Int)
 | 0, _, _ => none
 | k + 1, x0, x21 => if x21 = true then (some (-1)) else (ydp.l0 k x0 0 0)
def ydp.l0 : Nat → ByteArray → Int → Int → Option (Int)
 | 0, _, _, _ => none
 | k + 1, x0, x3, x4 => if x4 < (x0.size : Int) then (if 0 ≤ x4 then (if (bt x0 x4) < 48 then (some (-1)) else (if (bt x0 x4) > 57 then (some (-1)) else (ydp.l0 k x0 (wrap64 ((wrap64 (10 * x3)) + (((bt x0 x4) - 48) % 256))) (wrap64 (x4 + 1))))) else (none)) else (if x3 > 2147483647 then (some (-1)) else (some x3))
end
def ydp.f (k : Nat) (a0 : ByteArray) : Option (Int) := if a0.toList = ([] : List UInt8) then (ydp.j0 k a0 true) else (if (a0.size : Int) > 10 then (ydp.j0 k a0 true) else (if (a0.size : Int) > 1 then (if 0 < (a0.size : Int) then (ydp.j0 k a0 ((bt a0 0) == 48)) else (none)) else (ydp.j0 k a0 false)))
set_option maxHeartbeats 8000000 in
set_option maxRecDepth 100000 in
theorem ydp.calls (k : Nat) (a0 : ByteArray) (r : Int) (w : World) (h : ydp.f k a0 = some r) :
  Calls Tryz.prog 60 #[.string a0] w fun e w' => e = .returned (.int .i64 r) ∧ Drawn0 w w' := by
 have H : (if a0.toList = ([] : List UInt8) then (ydp.j0 k a0 true) else (if (a0.size : Int) > 10 then (ydp.j0 k a0 true) else (if (a0.size : Int) > 1 then (if 0 < (a0.size : Int) then (ydp.j0 k a0 ((bt a0 0) == 48)) else (none)) else (ydp.j0 k a0 false)))) = some r := h
 clear h
 have HC2 := Aside0.mk H
 clear H
 go_enter Tryz.func60, Tryz.ntmps60
 go_upto_region 1 with (fail)
 go_cut [21] (fun v21 wc => ∃ (kq : Nat) (x21_1 : Bool), v21 = .bool x21_1 ∧ Aside0 (ydp.j0 kq a0 x21_1 = some r) ∧ Aside0 (kq ≤ k) ∧ Drawn0 w wc)
 case first =>
  have H := HC2.out
  clear HC2
  by_cases c3 : a0.toList = ([] : List UInt8)
  ·rw [if_pos c3] at H
   have c3b0 : (a0.toList == ([] : List UInt8)) = true := beq_iff_eq.mpr c3
   try have c3b9 : a0.toList.isEmpty = true := by have z_ := c3b0; simpa using z_
   have c3b1 : (a0.toList != ([] : List UInt8)) = false := bne_eq_false_iff_eq.mpr c3
   clear c3
   (first | rw [c3b0] | (simp only [zbp, zch]; rw [c3b0]) | rw [c3b9] | skip)
   have H' := Aside0.mk H
   clear H
   go_wp2
   go_meet
   case rel => exact ⟨_, (true), (by first | rfl | (simp; done) | (simp [*]; done)), H', ⟨by first | omega | exact Nat.le_refl _⟩, by repeat (first | exact Drawn0.refl _ | apply Drawn0.step)⟩
  ·rw [if_neg c3] at H
   have c3b0 : (a0.toList == ([] : List UInt8)) = false := beq_eq_false_iff_ne.mpr c3
   try have c3b9 : a0.toList.isEmpty = false := by have z_ := c3b0; simpa using z_
   have c3b1 : (a0.toList != ([] : List UInt8)) = true := bne_iff_ne.mpr c3
   (first | rw [c3b0] | (simp only [zbp, zch]; rw [c3b0]) | rw [c3b9] | skip)
   by_cases c4 : (a0.size : Int) > 10
   ·rw [if_pos c4] at H
    have c4b0 : decide (10 < (a0.size : Int)) = true := decide_eq_true c4
    have c4b1 : decide (10 < a0.size) = true := decide_eq_true (by omega)
    clear c4
    have H' := Aside0.mk H
    clear H
    go_wp2
    go_meet
    case rel => exact ⟨_, (true), (by first | rfl | (simp; done) | (simp [*]; done)), H', ⟨by first | omega | exact Nat.le_refl _⟩, by repeat (first | exact Drawn0.refl _ | apply Drawn0.step)⟩
   ·rw [if_neg c4] at H
    have c4b0 : decide (10 < (a0.size : Int)) = false := decide_eq_false c4
    have c4b1 : decide (10 < a0.size) = false := decide_eq_false (by omega)
    clear c4
    by_cases c5 : (a0.size : Int) > 1
    ·rw [if_pos c5] at H
     have c5b0 : decide (1 < (a0.size : Int)) = true := decide_eq_true c5
     have c5b1 : decide (1 < a0.size) = true := decide_eq_true (by omega)
     clear c5
     by_cases c6 : 0 < (a0.size : Int)
     ·rw [if_pos c6] at H
      have c6b0 : decide (0 < (a0.size : Int)) = true := decide_eq_true c6
      have c6b1 : decide (0 < a0.size) = true := decide_eq_true (by omega)
      clear c6
      have H' := Aside0.mk H
      clear H
      have p7 : 0 ≤ (0 : Int) := (by omega)
      have q7 : 0 < a0.size := (by have : (0 : Int) < (a0.size : Int) := of_decide_eq_true (by assumption); omega)
      have hx7 : ∀ h : 0 < a0.size, ((a0[0]'h).toNat : Int) = bt a0 0 := zbq a0 0
      clear p7
      have qi7 : (0 < (a0.size : Int)) = True := eq_true (of_decide_eq_true (by assumption))
      replace q7 := eq_true q7
      go_wp2
      go_meet
      case rel => exact ⟨_, (((bt a0 0) == 48)), (by first | rfl | (simp; done) | (simp [*]; done)), H', ⟨by first | omega | exact Nat.le_refl _⟩, by repeat (first | exact Drawn0.refl _ | apply Drawn0.step)⟩
     ·rw [if_neg c6] at H
      exact absurd H (by simp)
    ·rw [if_neg c5] at H
     have c5b0 : decide (1 < (a0.size : Int)) = false := decide_eq_false c5
     have c5b1 : decide (1 < a0.size) = false := decide_eq_false (by omega)
     clear c5
     have H' := Aside0.mk H
     clear H
     go_wp2
     go_meet
     case rel => exact ⟨_, (false), (by first | rfl | (simp; done) | (simp [*]; done)), H', ⟨by first | omega | exact Nat.le_refl _⟩, by repeat (first | exact Drawn0.refl _ | apply Drawn0.step)⟩
 case rest =>
  clear HC2
  try clear p2; try clear c3; try clear c3b0; try clear c3b1; try clear c4; try clear c4b0; try clear c4b1; try clear c5; try clear c5b0; try clear c5b1; try clear c6; try clear c6b0; try clear c6b1; try clear p7; try clear q7; try clear hx7; try clear qi7; try clear p7; try clear q7
  obtain ⟨kq, x21_1, rfl, HA, HJ1, ⟨mc1, rfl⟩⟩ := hcut
  cases kq with
  | zero => exact absurd HA.out (by simp [ydp.j0])
  | succ kj1 =>
   have H := HA.out
   clear HA
   simp only [ydp.j0] at H
   by_cases c8 : x21_1 = true
   ·subst c8
    have H1 : (some (-1)) = some r := by rw [if_pos rfl] at H; exact H
    clear H
    have H := H1
    clear H1
    obtain rfl := Option.some.inj H
    go_wp2
    go_ret
    exact ⟨by first | rfl | (simp; done) | (simp [*]; done), by repeat (first | exact Drawn0.refl _ | apply Drawn0.step)⟩
   ·replace c8 := Bool.eq_false_iff.mpr c8
    subst c8
    have H1 : (ydp.l0 kj1 a0 0 0) = some r := by rw [if_neg (show ¬ (false = true) by decide)] at H; exact H
    clear H
    have H := H1
    clear H1
    have H' := Aside0.mk H
    clear H
    go_wp2
    go_loopg [3, 4] kj1 (fun kq v3 v4 w' => ∃ (x3_2 : Int) (x4_2 : Int), v3 = .int .i64 x3_2 ∧ v4 = .int .i64 x4_2 ∧ Aside0 (ydp.l0 kq a0 x3_2 x4_2 = some r) ∧ Aside0 (kq ≤ kj1) ∧ Drawn0 w w')
    case atStart => exact ⟨(0), (0), (by first | rfl | (simp; done) | (simp [*]; done)), (by first | rfl | (simp; done) | (simp [*]; done)), H', ⟨Nat.le_refl _⟩, by repeat (first | exact Drawn0.refl _ | apply Drawn0.step)⟩
    case round =>
     clear H'
     try clear c1; try clear p2; try clear c3; try clear c3b0; try clear c3b1; try clear c4; try clear c4b0; try clear c4b1; try clear c5; try clear c5b0; try clear c5b1; try clear c6; try clear c6b0; try clear c6b1; try clear p7; try clear q7; try clear hx7; try clear qi7; try clear c8; try clear p2; try clear p7; try clear q7
     obtain ⟨x3_2, x4_2, rfl, rfl, HA, HK2, ⟨m2, rfl⟩⟩ := hrel
     cases gk with
     | zero => exact absurd HA.out (by simp [ydp.l0])
     | succ k2 =>
      have H := HA.out
      clear HA
      simp only [ydp.l0] at H
      by_cases c9 : x4_2 < (a0.size : Int)
      ·rw [if_pos c9] at H
       have c9b0 : decide (x4_2 < (a0.size : Int)) = true := decide_eq_true c9
       clear c9
       by_cases c10 : 0 ≤ x4_2
       ·rw [if_pos c10] at H
        have c10b0 : decide (0 ≤ x4_2) = true := decide_eq_true c10
        clear c10
        by_cases c12 : (bt a0 x4_2) < 48
        ·rw [if_pos c12] at H
         have c12b0 : decide ((bt a0 x4_2) < 48) = true := decide_eq_true c12
         clear c12
         obtain rfl := Option.some.inj H
         have p11 : 0 ≤ (x4_2 : Int) := of_decide_eq_true (by assumption)
         have q11 : x4_2 < (a0.size : Int) := of_decide_eq_true (by assumption)
         have hx11 := zbq a0 x4_2
         replace p11 := eq_true p11
         replace q11 := eq_true q11
         go_wp2
         go_ret
         exact ⟨by first | rfl | (simp; done) | (simp [*]; done), by repeat (first | exact Drawn0.refl _ | apply Drawn0.step)⟩
        ·rw [if_neg c12] at H
         have c12b0 : decide ((bt a0 x4_2) < 48) = false := decide_eq_false c12
         clear c12
         by_cases c14 : (bt a0 x4_2) > 57
         ·rw [if_pos c14] at H
          have c14b0 : decide (57 < (bt a0 x4_2)) = true := decide_eq_true c14
          clear c14
          obtain rfl := Option.some.inj H
          have p11 : 0 ≤ (x4_2 : Int) := of_decide_eq_true (by assumption)
          have q11 : x4_2 < (a0.size : Int) := of_decide_eq_true (by assumption)
          have hx11 := zbq a0 x4_2
          replace p11 := eq_true p11
          replace q11 := eq_true q11
          have p13 : 0 ≤ (x4_2 : Int) := of_decide_eq_true (by assumption)
          have q13 : x4_2 < (a0.size : Int) := of_decide_eq_true (by assumption)
          have hx13 := zbq a0 x4_2
          replace p13 := eq_true p13
          replace q13 := eq_true q13
          go_wp2
          go_ret
          exact ⟨by first | rfl | (simp; done) | (simp [*]; done), by repeat (first | exact Drawn0.refl _ | apply Drawn0.step)⟩
         ·rw [if_neg c14] at H
          have c14b0 : decide (57 < (bt a0 x4_2)) = false := decide_eq_false c14
          clear c14
          have H' := Aside0.mk H
          clear H
          have p11 : 0 ≤ (x4_2 : Int) := of_decide_eq_true (by assumption)
          have q11 : x4_2 < (a0.size : Int) := of_decide_eq_true (by assumption)
          have hx11 := zbq a0 x4_2
          replace p11 := eq_true p11
          replace q11 := eq_true q11
          have p13 : 0 ≤ (x4_2 : Int) := of_decide_eq_true (by assumption)
          have q13 : x4_2 < (a0.size : Int) := of_decide_eq_true (by assumption)
          have hx13 := zbq a0 x4_2
          replace p13 := eq_true p13
          replace q13 := eq_true q13
          have p15 : 0 ≤ (x4_2 : Int) := of_decide_eq_true (by assumption)
          have q15 : x4_2 < (a0.size : Int) := of_decide_eq_true (by assumption)
          have hx15 := zbq a0 x4_2
          replace p15 := eq_true p15
          replace q15 := eq_true q15
          go_wp2
          go_roundg k2
          case measure => have := HJ1.out; have := HK2.out; omega
          case rel => exact ⟨(wrap64 ((wrap64 (10 * x3_2)) + (((bt a0 x4_2) - 48) % 256))), (wrap64 (x4_2 + 1)), (by first | rfl | (simp; done) | (simp [*]; done)), (by first | rfl | (simp; done) | (simp [*]; done)), H', ⟨by have := HJ1.out; have := HK2.out; omega⟩, by repeat (first | exact Drawn0.refl _ | apply Drawn0.step)⟩
       ·rw [if_neg c10] at H
        exact absurd H (by simp)
      ·rw [if_neg c9] at H
       have c9b0 : decide (x4_2 < (a0.size : Int)) = false := decide_eq_false c9
       clear c9
       by_cases c16 : x3_2 > 2147483647
       ·rw [if_pos c16] at H
        have c16b0 : decide (2147483647 < x3_2) = true := decide_eq_true c16
        clear c16
        obtain rfl := Option.some.inj H
        go_wp2
        go_ret
        exact ⟨by first | rfl | (simp; done) | (simp [*]; done), by repeat (first | exact Drawn0.refl _ | apply Drawn0.step)⟩
       ·rw [if_neg c16] at H
        have c16b0 : decide (2147483647 < x3_2) = false := decide_eq_false c16
        clear c16
        obtain rfl := Option.some.inj H
        go_wp2
        go_ret
        exact ⟨by first | rfl | (simp; done) | (simp [*]; done), by repeat (first | exact Drawn0.refl _ | apply Drawn0.step)⟩
def yeg.f (a0_0 : ByteArray) (a0_1 : ByteArray) (a0_2 : Int) (a0_3 : Int) (a0_4 : Int) (a0_5 : Int) (a0_6 : Int) (a1 : Int) (a2 : Int) : Option (ByteArray × ByteArray × Int × Int × Int × Int × Int) := if a1 = 1 then (some (a0_0, a0_1, a2, a0_3, a0_4, a0_5, a0_6)) else (if a1 = 2 then (some (a0_0, a0_1, a0_2, a2, a0_4, a0_5, a0_6)) else (if a1 = 3 then (some (a0_0, a0_1, a0_2, a0_3, a2, a0_5, a0_6)) else (if a1 = 4 then (some (a0_0, a0_1, a0_2, a0_3, a0_4, a2, a0_6)) else (if a1 = 5 then (some (a0_0, a0_1, a0_2, a0_3, a0_4, a0_5, a2)) else (some (a0_0, a0_1, a0_2, a0_3, a0_4, a0_5, a0_6))))))
theorem two_new (w : World) (o1 o2 : Obj) : ((w.alloc o1).alloc o2).heap[w.heap.size + 1]? = some o2 := by
 have h := (MapKept.heap_alloc (w.alloc o1) o2).1
 have e : (w.alloc o1).heap.size = w.heap.size + 1 := by simp
 rw [e] at h; exact h
set_option maxHeartbeats 4000000 in
set_option maxRecDepth 100000 in
theorem yeg.calls (a0_0 : ByteArray) (a0_1 : ByteArray) (a0_2 : Int) (a0_3 : Int) (a0_4 : Int) (a0_5 : Int) (a0_6 : Int) (a1 : Int) (a2 : Int) (r1 : ByteArray) (r2 : ByteArray) (r3 : Int) (r4 : Int) (r5 : Int) (r6 : Int) (r7 : Int) (w : World) (h : yeg.f a0_0 a0_1 a0_2 a0_3 a0_4 a0_5 a0_6 a1 a2 = some (r1, r2, r3, r4, r5, r6, r7)) :
  Calls Tryz.prog 61 #[.agg #[.string a0_0, .string a0_1, .int .i64 a0_2, .int .i64 a0_3, .int .i64 a0_4, .int .i64 a0_5, .int .i64 a0_6], .int .i64 a1, .int .i64 a2] w fun e w' => e = .returned (.agg #[.string r1, .string r2, .int .i64 r3, .int .i64 r4, .int .i64 r5, .int .i64 r6, .int .i64 r7]) ∧ Below w.heap.size w w' := by
 have HB := Aside0.mk (Below.refl w.heap.size w)
 unfold yeg.f at h
 by_cases c1 : a1 = 1
 ·subst c1
  rw [if_pos rfl] at h
  simp only [Option.some.injEq, Prod.mk.injEq] at h
  obtain ⟨rfl, rfl, rfl, rfl, rfl, rfl, rfl⟩ := h
  go_enter Tryz.func61, Tryz.ntmps61
  go_wp2
  refine bodyPost_ret (results_cell_row rfl _ _ (w.heap.size + 1) 74 #[.string a0_0, .string a0_1, .int .i64 a2, .int .i64 a0_3, .int .i64 a0_4, .int .i64 a0_5, .int .i64 a0_6] (0, 0) _ rfl ?_ Tryz.underlying74 rfl (by kernel_rfl)) rfl ?_
  ·exact two_new w _ _
  ·exact ⟨rfl, by repeat (first | exact HB.out | apply zab | apply below_drewN | apply Below.drew)⟩
 rw [if_neg c1] at h
 have b1 : (a1 == 1) = false := beq_eq_false_iff_ne.mpr c1
 by_cases c2 : a1 = 2
 ·subst c2
  rw [if_pos rfl] at h
  simp only [Option.some.injEq, Prod.mk.injEq] at h
  obtain ⟨rfl, rfl, rfl, rfl, rfl, rfl, rfl⟩ := h
  go_enter Tryz.func61, Tryz.ntmps61
  go_wp2
  refine bodyPost_ret (results_cell_row rfl _ _ (w.heap.size + 1) 74 #[.string a0_0, .string a0_1, .int .i64 a0_2, .int .i64 a2, .int .i64 a0_4, .int .i64 a0_5, .int .i64 a0_6] (0, 0) _ rfl ?_ Tryz.underlying74 rfl (by kernel_rfl)) rfl ?_
  ·exact two_new w _ _
  ·exact ⟨rfl, by repeat (first | exact HB.out | apply zab | apply below_drewN | apply Below.drew)⟩
 rw [if_neg c2] at h
 have b2 : (a1 == 2) = false := beq_eq_false_iff_ne.mpr c2
 by_cases c3 : a1 = 3
 ·subst c3
  rw [if_pos rfl] at h
  simp only [Option.some.injEq, Prod.mk.injEq] at h
  obtain ⟨rfl, rfl, rfl, rfl, rfl, rfl, rfl⟩ := h
  go_enter Tryz.func61, Tryz.ntmps61
  go_wp2
  refine bodyPost_ret (results_cell_row rfl _ _ (w.heap.size + 1) 74 #[.string a0_0, .string a0_1, .int .i64 a0_2, .int .i64 a0_3, .int .i64 a2, .int .i64 a0_5, .int .i64 a0_6] (0, 0) _ rfl ?_ Tryz.underlying74 rfl (by kernel_rfl)) rfl ?_
  ·exact two_new w _ _
  ·exact ⟨rfl, by repeat (first | exact HB.out | apply zab | apply below_drewN | apply Below.drew)⟩
 rw [if_neg c3] at h
 have b3 : (a1 == 3) = false := beq_eq_false_iff_ne.mpr c3
 by_cases c4 : a1 = 4
 ·subst c4
  rw [if_pos rfl] at h
  simp only [Option.some.injEq, Prod.mk.injEq] at h
  obtain ⟨rfl, rfl, rfl, rfl, rfl, rfl, rfl⟩ := h
  go_enter Tryz.func61, Tryz.ntmps61
  go_wp2
  refine bodyPost_ret (results_cell_row rfl _ _ (w.heap.size + 1) 74 #[.string a0_0, .string a0_1, .int .i64 a0_2, .int .i64 a0_3, .int .i64 a0_4, .int .i64 a2, .int .i64 a0_6] (0, 0) _ rfl ?_ Tryz.underlying74 rfl (by kernel_rfl)) rfl ?_
  ·exact two_new w _ _
  ·exact ⟨rfl, by repeat (first | exact HB.out | apply zab | apply below_drewN | apply Below.drew)⟩
 rw [if_neg c4] at h
 have b4 : (a1 == 4) = false := beq_eq_false_iff_ne.mpr c4
 by_cases c5 : a1 = 5
 ·subst c5
  rw [if_pos rfl] at h
  simp only [Option.some.injEq, Prod.mk.injEq] at h
  obtain ⟨rfl, rfl, rfl, rfl, rfl, rfl, rfl⟩ := h
  go_enter Tryz.func61, Tryz.ntmps61
  go_wp2
  refine bodyPost_ret (results_cell_row rfl _ _ (w.heap.size + 1) 74 #[.string a0_0, .string a0_1, .int .i64 a0_2, .int .i64 a0_3, .int .i64 a0_4, .int .i64 a0_5, .int .i64 a2] (0, 0) _ rfl ?_ Tryz.underlying74 rfl (by kernel_rfl)) rfl ?_
  ·exact two_new w _ _
  ·exact ⟨rfl, by repeat (first | exact HB.out | apply zab | apply below_drewN | apply Below.drew)⟩
 rw [if_neg c5] at h
 have b5 : (a1 == 5) = false := beq_eq_false_iff_ne.mpr c5
 simp only [Option.some.injEq, Prod.mk.injEq] at h
 obtain ⟨rfl, rfl, rfl, rfl, rfl, rfl, rfl⟩ := h
 go_enter Tryz.func61, Tryz.ntmps61
 go_wp2
 refine bodyPost_ret (results_cell_row rfl _ _ (w.heap.size + 1) 74 #[.string a0_0, .string a0_1, .int .i64 a0_2, .int .i64 a0_3, .int .i64 a0_4, .int .i64 a0_5, .int .i64 a0_6] (0, 0) _ rfl ?_ Tryz.underlying74 rfl (by kernel_rfl)) rfl ?_
 ·exact two_new w _ _
 ·exact ⟨rfl, by repeat (first | exact HB.out | apply zab | apply below_drewN | apply Below.drew)⟩
end Go.Proofs.YteamhfmpogbilaaGreatDoor.X
end
section
namespace Go.Proofs.YteamhfmpogbilaaGreatDoor.X
open Go.RowKit Go.Proofs.YteamhfmpogbilaaGreatDoorW.PrintWords Go.Proofs.YteamhfmpogbilaaGreatDoorW.PrintLast Go.Proofs.YteamhfmpogbilaaGreatDoorW.PrintMore
attribute [local go_sem] zbw zbu zck zcj zbj zbi zbv zbt
end Go.Proofs.YteamhfmpogbilaaGreatDoor.X
end
section
namespace Go.Proofs.YteamhfmpogbilaaGreatDoor.X
open Go.RowKit Go.Proofs.YteamhfmpogbilaaGreatDoorW.PrintWords Go.Proofs.YteamhfmpogbilaaGreatDoorW.PrintLast Go.Proofs.YteamhfmpogbilaaGreatDoorW.PrintMore
attribute [local go_sem] zbw zbu zck zcj zbj zbi zbv zbt
end Go.Proofs.YteamhfmpogbilaaGreatDoor.X
end
section
namespace Go.Proofs.YteamhfmpogbilaaGreatDoor.X
open Go.RowKit Go.Proofs.YteamhfmpogbilaaGreatDoorW.PrintWords Go.Proofs.YteamhfmpogbilaaGreatDoorW.PrintLast Go.Proofs.YteamhfmpogbilaaGreatDoorW.PrintMore
structure S40 where
 f0 : ByteArray
 f1 : ByteArray
 f2 : Int
 f3 : Int
 f4 : Int
 f5 : Int
 f6 : Int
def z40 : S40 := ⟨(⟨#[]⟩ : ByteArray), (⟨#[]⟩ : ByteArray), (0 : Int), (0 : Int), (0 : Int), (0 : Int), (0 : Int)⟩
def k40 : Kd S40 := Kd.iso (Kd.pair Kd.string (Kd.pair Kd.string (Kd.pair (Kd.int .i64) (Kd.pair (Kd.int .i64) (Kd.pair (Kd.int .i64) (Kd.pair (Kd.int .i64) (Kd.int .i64))))))) (fun x : S40 => (x.f0, x.f1, x.f2, x.f3, x.f4, x.f5, x.f6))
theorem k40_open {w : World} {x : S40} {cs : List Value} (h : k40.K w x cs) : cs = [.string x.f0, .string x.f1, .int .i64 x.f2, .int .i64 x.f3, .int .i64 x.f4, .int .i64 x.f5, .int .i64 x.f6] := by
 obtain ⟨_, _, rfl, rfl, ⟨_, _, rfl, rfl, ⟨_, _, rfl, rfl, ⟨_, _, rfl, rfl, ⟨_, _, rfl, rfl, ⟨_, _, rfl, rfl, rfl⟩⟩⟩⟩⟩⟩ := h
 exact rfl
theorem k40_openM {w : World} {base : Nat} {ok : Nat → Prop} {x : S40} {cs : List Value} (h : k40.M w base ok x cs) : cs = [.string x.f0, .string x.f1, .int .i64 x.f2, .int .i64 x.f3, .int .i64 x.f4, .int .i64 x.f5, .int .i64 x.f6] := by
 obtain ⟨_, _, rfl, rfl, ⟨_, _, rfl, rfl, ⟨_, _, rfl, rfl, ⟨_, _, rfl, rfl, ⟨_, _, rfl, rfl, ⟨_, _, rfl, rfl, rfl⟩⟩⟩⟩⟩⟩ := h
 exact rfl
theorem k40_mk (w : World) (x : S40)  : k40.K w x [.string x.f0, .string x.f1, .int .i64 x.f2, .int .i64 x.f3, .int .i64 x.f4, .int .i64 x.f5, .int .i64 x.f6] := ⟨[.string x.f0], [.string x.f1, .int .i64 x.f2, .int .i64 x.f3, .int .i64 x.f4, .int .i64 x.f5, .int .i64 x.f6], rfl, rfl, ⟨[.string x.f1], [.int .i64 x.f2, .int .i64 x.f3, .int .i64 x.f4, .int .i64 x.f5, .int .i64 x.f6], rfl, rfl, ⟨[.int .i64 x.f2], [.int .i64 x.f3, .int .i64 x.f4, .int .i64 x.f5, .int .i64 x.f6], rfl, rfl, ⟨[.int .i64 x.f3], [.int .i64 x.f4, .int .i64 x.f5, .int .i64 x.f6], rfl, rfl, ⟨[.int .i64 x.f4], [.int .i64 x.f5, .int .i64 x.f6], rfl, rfl, ⟨[.int .i64 x.f5], [.int .i64 x.f6], rfl, rfl, rfl⟩⟩⟩⟩⟩⟩
theorem k40_mkM (w : World) (base : Nat) (ok : Nat → Prop) (x : S40)  : k40.M w base ok x [.string x.f0, .string x.f1, .int .i64 x.f2, .int .i64 x.f3, .int .i64 x.f4, .int .i64 x.f5, .int .i64 x.f6] := ⟨[.string x.f0], [.string x.f1, .int .i64 x.f2, .int .i64 x.f3, .int .i64 x.f4, .int .i64 x.f5, .int .i64 x.f6], rfl, rfl, ⟨[.string x.f1], [.int .i64 x.f2, .int .i64 x.f3, .int .i64 x.f4, .int .i64 x.f5, .int .i64 x.f6], rfl, rfl, ⟨[.int .i64 x.f2], [.int .i64 x.f3, .int .i64 x.f4, .int .i64 x.f5, .int .i64 x.f6], rfl, rfl, ⟨[.int .i64 x.f3], [.int .i64 x.f4, .int .i64 x.f5, .int .i64 x.f6], rfl, rfl, ⟨[.int .i64 x.f4], [.int .i64 x.f5, .int .i64 x.f6], rfl, rfl, ⟨[.int .i64 x.f5], [.int .i64 x.f6], rfl, rfl, rfl⟩⟩⟩⟩⟩⟩
def rd_T40 (xs : List S40) (i : Int) : S40 := xs.getD i.toNat z40
theorem at_T40 {w : World} {A : Option Addr} {n : Nat} {xs : List S40} (h : Kd.C k40 w A n xs) (i : Int) (h0 : 0 ≤ i) (h1 : i < n) : ∃ ad , A = some ad ∧ w.cell? (ad.add (i.toNat * 7)) = some (.string (rd_T40 xs i).f0) ∧ w.cell? ⟨(ad.add (i.toNat * 7)).block, (ad.add (i.toNat * 7)).off + 1, none⟩ = some (.string (rd_T40 xs i).f1) ∧ w.cell? ⟨(ad.add (i.toNat * 7)).block, (ad.add (i.toNat * 7)).off + 2, none⟩ = some (.int .i64 (rd_T40 xs i).f2) ∧ w.cell? ⟨(ad.add (i.toNat * 7)).block, (ad.add (i.toNat * 7)).off + 3, none⟩ = some (.int .i64 (rd_T40 xs i).f3) ∧ w.cell? ⟨(ad.add (i.toNat * 7)).block, (ad.add (i.toNat * 7)).off + 4, none⟩ = some (.int .i64 (rd_T40 xs i).f4) ∧ w.cell? ⟨(ad.add (i.toNat * 7)).block, (ad.add (i.toNat * 7)).off + 5, none⟩ = some (.int .i64 (rd_T40 xs i).f5) ∧ w.cell? ⟨(ad.add (i.toNat * 7)).block, (ad.add (i.toNat * 7)).off + 6, none⟩ = some (.int .i64 (rd_T40 xs i).f6) := by
 obtain ⟨ad, c, e, _, hK, hc0⟩ := Kd.C_get h z40 i h0 h1
 have hc : ∀ j u, c[j]? = some u → w.cell? (ad.add (i.toNat * 7 + j)) = some u := hc0
 obtain rfl := k40_open hK
 exact ⟨ad, e, hc 0 _ rfl, by rw [← zcb _ _ 1 (by omega)]; exact hc 1 _ rfl, by rw [← zcb _ _ 2 (by omega)]; exact hc 2 _ rfl, by rw [← zcb _ _ 3 (by omega)]; exact hc 3 _ rfl, by rw [← zcb _ _ 4 (by omega)]; exact hc 4 _ rfl, by rw [← zcb _ _ 5 (by omega)]; exact hc 5 _ rfl, by rw [← zcb _ _ 6 (by omega)]; exact hc 6 _ rfl⟩
end Go.Proofs.YteamhfmpogbilaaGreatDoor.X
end
