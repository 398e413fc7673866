/- Printed by a tool of the kit for this seat; cut to what the claim uses. -/
import Derived.Test.YteamhfmpogbilaaGreatDoorZQ0
section
namespace Go.Proofs.YteamhfmpogbilaaGreatDoor.X
open Go.RowKit Go.Proofs.YteamhfmpogbilaaGreatDoorW.PrintWords Go.Proofs.YteamhfmpogbilaaGreatDoorW.PrintLast Go.Proofs.YteamhfmpogbilaaGreatDoorW.PrintMore
attribute [local go_sem] max2_int min2_int max_two min_two max_three min_three max_four min_four   -- for this text's walks alone
set_option linter.unusedVariables false
set_option linter.unusedSimpArgs false
mutual
def heraldref4_fits.j0 : Nat → List (S74) → Bool → ByteArray → ByteArray → Int → Int → Int → Int → Int → Option (Bool)
  | 0, _, _, _, _, _, _, _, _, _ => none
  | k + 1, x0, x38, x204000, x204001, x204002, x204003, x204004, x204005, x204006 => if x38 = true then (some false) else ((heraldref4_in.f x204005 2147483647).bind fun t208 => (if t208 = true then ((heraldref4_in.f x204006 100000).bind fun t209 => (if t209 = true then (if x204005 > 0 then (heraldref4_fits.j1 k x0 (decide (x204006 > 0)) x204000 x204001 x204002 x204003 x204004 x204005 x204006) else (heraldref4_fits.j1 k x0 false x204000 x204001 x204002 x204003 x204004 x204005 x204006)) else (heraldref4_fits.j1 k x0 true x204000 x204001 x204002 x204003 x204004 x204005 x204006))) else (heraldref4_fits.j1 k x0 true x204000 x204001 x204002 x204003 x204004 x204005 x204006)))
def heraldref4_fits.j1 : Nat → List (S74) → Bool → ByteArray → ByteArray → Int → Int → Int → Int → Int → Option (Bool)
  | 0, _, _, _, _, _, _, _, _, _ => none
  | k + 1, x0, x58, x204000, x204001, x204002, x204003, x204004, x204005, x204006 => if x58 = true then (some false) else (if (x0.length : Int) = 0 then (if x204000.toList = ([47] : List UInt8) then (some (x204005 == 0)) else (some false)) else ((heraldref1_Parent.f k x204000).bind fun bt210 => (if 0 ≤ (wrap64 ((x0.length : Int) - 1)) then (if (wrap64 ((x0.length : Int) - 1)) < (x0.length : Int) then ((heraldref1_Order.f k ((rd_T74 x0 (wrap64 ((x0.length : Int) - 1))).f0) x204000).bind fun t213 => (if bt210.2 = 0 then (if t213 ≥ 0 then (some false) else ((heraldref4_find.f k x0 bt210.1).bind fun t214 => (if t214 ≥ 0 then (if 0 ≤ t214 then (if t214 < (x0.length : Int) then (some (((rd_T74 x0 t214).f5) == 0)) else (none)) else (none)) else (some false)))) else (some false))) else (none)) else (none))))
end
def heraldref4_fits.f (k : Nat) (l0 : List (S74)) (a1_0 : ByteArray) (a1_1 : ByteArray) (a1_2 : Int) (a1_3 : Int) (a1_4 : Int) (a1_5 : Int) (a1_6 : Int) : Option (Bool) := (heraldref1_Is.f k a1_0).bind fun t204 => (if t204 = true then (if (a1_1.size : Int) > 64 then (heraldref4_fits.j0 k l0 true a1_0 a1_1 a1_2 a1_3 a1_4 a1_5 a1_6) else ((heraldref4_in.f a1_2 2147483647).bind fun t205 => (if t205 = true then ((heraldref4_in.f a1_3 2147483647).bind fun t206 => (if t206 = true then ((heraldref4_in.f a1_4 2147483647).bind fun t207 => (heraldref4_fits.j0 k l0 (!t207) a1_0 a1_1 a1_2 a1_3 a1_4 a1_5 a1_6)) else (heraldref4_fits.j0 k l0 true a1_0 a1_1 a1_2 a1_3 a1_4 a1_5 a1_6))) else (heraldref4_fits.j0 k l0 true a1_0 a1_1 a1_2 a1_3 a1_4 a1_5 a1_6)))) else (heraldref4_fits.j0 k l0 true a1_0 a1_1 a1_2 a1_3 a1_4 a1_5 a1_6))
set_option maxHeartbeats 8000000 in
set_option maxRecDepth 100000 in
theorem heraldref4_fits.calls (k : Nat) (A0 : Option Addr) (c0 : Nat) (l0 : List (S74)) (a1_0 : ByteArray) (a1_1 : ByteArray) (a1_2 : Int) (a1_3 : Int) (a1_4 : Int) (a1_5 : Int) (a1_6 : Int) (r : Bool) (w : World) (hr0 : Kd.C k74 w A0 l0.length l0) (hc0 : l0.length ≤ c0) (h : heraldref4_fits.f k l0 a1_0 a1_1 a1_2 a1_3 a1_4 a1_5 a1_6 = some r) :
    Calls Tryz.prog 62 #[.slice A0 l0.length c0, .agg #[.string a1_0, .string a1_1, .int .i64 a1_2, .int .i64 a1_3, .int .i64 a1_4, .int .i64 a1_5, .int .i64 a1_6]] w fun e w' => e = .returned (.bool r) ∧ Below w.heap.size w w' := by
  have hu74 := Tryz.underlying74
  have HR0 := Aside0.mk hr0
  have HC0 := Aside0.mk hc0
  clear hr0 hc0
  have HB := Aside0.mk (Below.refl w.heap.size w)
  have H : ((heraldref1_Is.f k a1_0).bind fun t204 => (if t204 = true then (if (a1_1.size : Int) > 64 then (heraldref4_fits.j0 k l0 true a1_0 a1_1 a1_2 a1_3 a1_4 a1_5 a1_6) else ((heraldref4_in.f a1_2 2147483647).bind fun t205 => (if t205 = true then ((heraldref4_in.f a1_3 2147483647).bind fun t206 => (if t206 = true then ((heraldref4_in.f a1_4 2147483647).bind fun t207 => (heraldref4_fits.j0 k l0 (!t207) a1_0 a1_1 a1_2 a1_3 a1_4 a1_5 a1_6)) else (heraldref4_fits.j0 k l0 true a1_0 a1_1 a1_2 a1_3 a1_4 a1_5 a1_6))) else (heraldref4_fits.j0 k l0 true a1_0 a1_1 a1_2 a1_3 a1_4 a1_5 a1_6)))) else (heraldref4_fits.j0 k l0 true a1_0 a1_1 a1_2 a1_3 a1_4 a1_5 a1_6))) = some r := h
  clear h
  replace H := Option.bind_eq_some_iff.mp H
  obtain ⟨t204, A30, H⟩ := H
  replace H : (if t204 = true then (if (a1_1.size : Int) > 64 then (heraldref4_fits.j0 k l0 true a1_0 a1_1 a1_2 a1_3 a1_4 a1_5 a1_6) else ((heraldref4_in.f a1_2 2147483647).bind fun t205 => (if t205 = true then ((heraldref4_in.f a1_3 2147483647).bind fun t206 => (if t206 = true then ((heraldref4_in.f a1_4 2147483647).bind fun t207 => (heraldref4_fits.j0 k l0 (!t207) a1_0 a1_1 a1_2 a1_3 a1_4 a1_5 a1_6)) else (heraldref4_fits.j0 k l0 true a1_0 a1_1 a1_2 a1_3 a1_4 a1_5 a1_6))) else (heraldref4_fits.j0 k l0 true a1_0 a1_1 a1_2 a1_3 a1_4 a1_5 a1_6)))) else (heraldref4_fits.j0 k l0 true a1_0 a1_1 a1_2 a1_3 a1_4 a1_5 a1_6)) = some r := H
  have A3 := Aside0.mk A30
  clear A30
  have HC4 := Aside0.mk H
  clear H
  go_enter Tryz.func62, Tryz.ntmps62
  go_upto_region 2 with (first | ((with_reducible refine gate_dst (N := 3) rfl ?_); (try (refine gate_guard (by rfl) ?_; dsimp only)); refine box_event ?hg (N := 3) ?hd (cs := #[.string a1_0, .string a1_1, .int .i64 a1_2, .int .i64 a1_3, .int .i64 a1_4, .int .i64 a1_5, .int .i64 a1_6]) (t := 74) ?hr ?_; (case hd => rfl); (case hg => rfl); (case hr => first | (go_simp; done) | (go_simp; rfl)); intro gb203 hg w5 hbox hb; have n0_ := Aside0.mk (below_step (by repeat (first | (with_reducible first | exact HB.out | apply below_alloc | apply pw_below_drewN | apply below_drew1) | exact HB.out)) hb); have n1_ := Aside0.mk (hbox); have n2_ := Aside0.mk ((by rw [hg]; exact (below_size (by repeat (first | (with_reducible first | exact HB.out | apply below_alloc | apply pw_below_drewN | apply below_drew1) | exact HB.out))) : w.heap.size ≤ gb203)); have n3_ := Aside0.mk ((by rw [hg]; exact (below_size (by repeat (first | (with_reducible first | exact HB.out | apply below_alloc | apply pw_below_drewN | apply below_drew1) | exact HB.out))) : w.heap.size ≤ gb203)); clear HB; have HB := n0_; have BK203 := n1_; have GW203 := n2_; have GE203 := n3_; clear n0_ n1_ n2_ n3_; clear hb hbox hg; have hcz6_0 : w5.cell? ⟨gb203, 0, none⟩ = some (.string a1_0) := (blk_cell BK203.out 0).trans rfl; have hcz6_1 : w5.cell? ⟨gb203, 1, none⟩ = some (.string a1_1) := (blk_cell BK203.out 1).trans rfl; have hcz6_2 : w5.cell? ⟨gb203, 2, none⟩ = some (.int .i64 a1_2) := (blk_cell BK203.out 2).trans rfl; have hcz6_3 : w5.cell? ⟨gb203, 3, none⟩ = some (.int .i64 a1_3) := (blk_cell BK203.out 3).trans rfl; have hcz6_4 : w5.cell? ⟨gb203, 4, none⟩ = some (.int .i64 a1_4) := (blk_cell BK203.out 4).trans rfl; have hcz6_5 : w5.cell? ⟨gb203, 5, none⟩ = some (.int .i64 a1_5) := (blk_cell BK203.out 5).trans rfl; have hcz6_6 : w5.cell? ⟨gb203, 6, none⟩ = some (.int .i64 a1_6) := (blk_cell BK203.out 6).trans rfl; have hfz6_0 := blk_frozen BK203.out 0; have hfz6_1 := blk_frozen BK203.out 1; have hfz6_2 := blk_frozen BK203.out 2; have hfz6_3 := blk_frozen BK203.out 3; have hfz6_4 := blk_frozen BK203.out 4; have hfz6_5 := blk_frozen BK203.out 5; have hfz6_6 := blk_frozen BK203.out 6) | (go_at_call 58; (with_reducible refine (heraldref1_Is.calls k a1_0 t204 _ A3.out).mono ?_); rintro e w7 ⟨rfl, hb⟩; have n0_ := Aside0.mk (blk_below (g := gb203) (o := .cells #[.string a1_0, .string a1_1, .int .i64 a1_2, .int .i64 a1_3, .int .i64 a1_4, .int .i64 a1_5, .int .i64 a1_6] 74 (0, 0)) (by (with_reducible repeat (first | refine blk_drewN ?_ _ | refine blk_drew ?_ | refine blk_alloc ?_ _)); exact BK203.out) hb); have n1_ := Aside0.mk (below_step (by repeat (first | (with_reducible first | exact HB.out | apply below_alloc | apply pw_below_drewN | apply below_drew1 | refine below_set ?_ GE203.out) | exact HB.out)) hb); clear BK203; clear HB; have BK203 := n0_; have HB := n1_; clear n0_ n1_; (try clear hb); (try clear hb2); (try clear hk); (try clear hi)))
  repeat (go_quiet (first | ((with_reducible refine gate_dst (N := 3) rfl ?_); (try (refine gate_guard (by rfl) ?_; dsimp only)); refine box_event ?hg (N := 3) ?hd (cs := #[.string a1_0, .string a1_1, .int .i64 a1_2, .int .i64 a1_3, .int .i64 a1_4, .int .i64 a1_5, .int .i64 a1_6]) (t := 74) ?hr ?_; (case hd => rfl); (case hg => rfl); (case hr => first | (go_simp; done) | (go_simp; rfl)); intro gb203 hg w5 hbox hb; have n0_ := Aside0.mk (below_step (by repeat (first | (with_reducible first | exact HB.out | apply below_alloc | apply pw_below_drewN | apply below_drew1) | exact HB.out)) hb); have n1_ := Aside0.mk (hbox); have n2_ := Aside0.mk ((by rw [hg]; exact (below_size (by repeat (first | (with_reducible first | exact HB.out | apply below_alloc | apply pw_below_drewN | apply below_drew1) | exact HB.out))) : w.heap.size ≤ gb203)); have n3_ := Aside0.mk ((by rw [hg]; exact (below_size (by repeat (first | (with_reducible first | exact HB.out | apply below_alloc | apply pw_below_drewN | apply below_drew1) | exact HB.out))) : w.heap.size ≤ gb203)); clear HB; have HB := n0_; have BK203 := n1_; have GW203 := n2_; have GE203 := n3_; clear n0_ n1_ n2_ n3_; clear hb hbox hg; have hcz6_0 : w5.cell? ⟨gb203, 0, none⟩ = some (.string a1_0) := (blk_cell BK203.out 0).trans rfl; have hcz6_1 : w5.cell? ⟨gb203, 1, none⟩ = some (.string a1_1) := (blk_cell BK203.out 1).trans rfl; have hcz6_2 : w5.cell? ⟨gb203, 2, none⟩ = some (.int .i64 a1_2) := (blk_cell BK203.out 2).trans rfl; have hcz6_3 : w5.cell? ⟨gb203, 3, none⟩ = some (.int .i64 a1_3) := (blk_cell BK203.out 3).trans rfl; have hcz6_4 : w5.cell? ⟨gb203, 4, none⟩ = some (.int .i64 a1_4) := (blk_cell BK203.out 4).trans rfl; have hcz6_5 : w5.cell? ⟨gb203, 5, none⟩ = some (.int .i64 a1_5) := (blk_cell BK203.out 5).trans rfl; have hcz6_6 : w5.cell? ⟨gb203, 6, none⟩ = some (.int .i64 a1_6) := (blk_cell BK203.out 6).trans rfl; have hfz6_0 := blk_frozen BK203.out 0; have hfz6_1 := blk_frozen BK203.out 1; have hfz6_2 := blk_frozen BK203.out 2; have hfz6_3 := blk_frozen BK203.out 3; have hfz6_4 := blk_frozen BK203.out 4; have hfz6_5 := blk_frozen BK203.out 5; have hfz6_6 := blk_frozen BK203.out 6) | (go_at_call 58; (with_reducible refine (heraldref1_Is.calls k a1_0 t204 _ A3.out).mono ?_); rintro e w7 ⟨rfl, hb⟩; have n0_ := Aside0.mk (blk_below (g := gb203) (o := .cells #[.string a1_0, .string a1_1, .int .i64 a1_2, .int .i64 a1_3, .int .i64 a1_4, .int .i64 a1_5, .int .i64 a1_6] 74 (0, 0)) (by (with_reducible repeat (first | refine blk_drewN ?_ _ | refine blk_drew ?_ | refine blk_alloc ?_ _)); exact BK203.out) hb); have n1_ := Aside0.mk (below_step (by repeat (first | (with_reducible first | exact HB.out | apply below_alloc | apply pw_below_drewN | apply below_drew1 | refine below_set ?_ GE203.out) | exact HB.out)) hb); clear BK203; clear HB; have BK203 := n0_; have HB := n1_; clear n0_ n1_; (try clear hb); (try clear hb2); (try clear hk); (try clear hi))); go_upto_region 2 with (first | ((with_reducible refine gate_dst (N := 3) rfl ?_); (try (refine gate_guard (by rfl) ?_; dsimp only)); refine box_event ?hg (N := 3) ?hd (cs := #[.string a1_0, .string a1_1, .int .i64 a1_2, .int .i64 a1_3, .int .i64 a1_4, .int .i64 a1_5, .int .i64 a1_6]) (t := 74) ?hr ?_; (case hd => rfl); (case hg => rfl); (case hr => first | (go_simp; done) | (go_simp; rfl)); intro gb203 hg w5 hbox hb; have n0_ := Aside0.mk (below_step (by repeat (first | (with_reducible first | exact HB.out | apply below_alloc | apply pw_below_drewN | apply below_drew1) | exact HB.out)) hb); have n1_ := Aside0.mk (hbox); have n2_ := Aside0.mk ((by rw [hg]; exact (below_size (by repeat (first | (with_reducible first | exact HB.out | apply below_alloc | apply pw_below_drewN | apply below_drew1) | exact HB.out))) : w.heap.size ≤ gb203)); have n3_ := Aside0.mk ((by rw [hg]; exact (below_size (by repeat (first | (with_reducible first | exact HB.out | apply below_alloc | apply pw_below_drewN | apply below_drew1) | exact HB.out))) : w.heap.size ≤ gb203)); clear HB; have HB := n0_; have BK203 := n1_; have GW203 := n2_; have GE203 := n3_; clear n0_ n1_ n2_ n3_; clear hb hbox hg; have hcz6_0 : w5.cell? ⟨gb203, 0, none⟩ = some (.string a1_0) := (blk_cell BK203.out 0).trans rfl; have hcz6_1 : w5.cell? ⟨gb203, 1, none⟩ = some (.string a1_1) := (blk_cell BK203.out 1).trans rfl; have hcz6_2 : w5.cell? ⟨gb203, 2, none⟩ = some (.int .i64 a1_2) := (blk_cell BK203.out 2).trans rfl; have hcz6_3 : w5.cell? ⟨gb203, 3, none⟩ = some (.int .i64 a1_3) := (blk_cell BK203.out 3).trans rfl; have hcz6_4 : w5.cell? ⟨gb203, 4, none⟩ = some (.int .i64 a1_4) := (blk_cell BK203.out 4).trans rfl; have hcz6_5 : w5.cell? ⟨gb203, 5, none⟩ = some (.int .i64 a1_5) := (blk_cell BK203.out 5).trans rfl; have hcz6_6 : w5.cell? ⟨gb203, 6, none⟩ = some (.int .i64 a1_6) := (blk_cell BK203.out 6).trans rfl; have hfz6_0 := blk_frozen BK203.out 0; have hfz6_1 := blk_frozen BK203.out 1; have hfz6_2 := blk_frozen BK203.out 2; have hfz6_3 := blk_frozen BK203.out 3; have hfz6_4 := blk_frozen BK203.out 4; have hfz6_5 := blk_frozen BK203.out 5; have hfz6_6 := blk_frozen BK203.out 6) | (go_at_call 58; (with_reducible refine (heraldref1_Is.calls k a1_0 t204 _ A3.out).mono ?_); rintro e w7 ⟨rfl, hb⟩; have n0_ := Aside0.mk (blk_below (g := gb203) (o := .cells #[.string a1_0, .string a1_1, .int .i64 a1_2, .int .i64 a1_3, .int .i64 a1_4, .int .i64 a1_5, .int .i64 a1_6] 74 (0, 0)) (by (with_reducible repeat (first | refine blk_drewN ?_ _ | refine blk_drew ?_ | refine blk_alloc ?_ _)); exact BK203.out) hb); have n1_ := Aside0.mk (below_step (by repeat (first | (with_reducible first | exact HB.out | apply below_alloc | apply pw_below_drewN | apply below_drew1 | refine below_set ?_ GE203.out) | exact HB.out)) hb); clear BK203; clear HB; have BK203 := n0_; have HB := n1_; clear n0_ n1_; (try clear hb); (try clear hb2); (try clear hk); (try clear hi))))
  (try simp only [Act.put, List.setIfInBounds_toArray, List.set_cons_zero, List.set_cons_succ])
  go_cut [38] (fun v38 wc => ∃ (kq : Nat) (x38_3 : Bool), v38 = .bool x38_3 ∧ Aside0 (heraldref4_fits.j0 kq l0 x38_3 a1_0 a1_1 a1_2 a1_3 a1_4 a1_5 a1_6 = some r) ∧ Aside0 (kq ≤ k) ∧ Aside0 (wc.heap[gb203]? = some (.cells #[.string a1_0, .string a1_1, .int .i64 a1_2, .int .i64 a1_3, .int .i64 a1_4, .int .i64 a1_5, .int .i64 a1_6] 74 (0, 0))) ∧ Aside0 (Below w.heap.size w wc))
  case first =>
    have H := HC4.out
    clear HC4
    by_cases c8 : t204 = true
    · subst c8
      have H1 : (if (a1_1.size : Int) > 64 then (heraldref4_fits.j0 k l0 true a1_0 a1_1 a1_2 a1_3 a1_4 a1_5 a1_6) else ((heraldref4_in.f a1_2 2147483647).bind fun t205 => (if t205 = true then ((heraldref4_in.f a1_3 2147483647).bind fun t206 => (if t206 = true then ((heraldref4_in.f a1_4 2147483647).bind fun t207 => (heraldref4_fits.j0 k l0 (!t207) a1_0 a1_1 a1_2 a1_3 a1_4 a1_5 a1_6)) else (heraldref4_fits.j0 k l0 true a1_0 a1_1 a1_2 a1_3 a1_4 a1_5 a1_6))) else (heraldref4_fits.j0 k l0 true a1_0 a1_1 a1_2 a1_3 a1_4 a1_5 a1_6)))) = some r := by rw [if_pos rfl] at H; exact H
      clear H
      have H := H1
      clear H1
      by_cases c9 : (a1_1.size : Int) > 64
      · rw [if_pos c9] at H
        have c9b0 : decide (64 < (a1_1.size : Int)) = true := decide_eq_true c9
        have c9b1 : decide (64 < a1_1.size) = true := decide_eq_true (by omega)
        clear c9
        (first | rw [c9b0] | (simp only [i64_w, i32_w]; rw [c9b0]) | rw [c9b9] | skip)
        have H' := Aside0.mk H
        clear H
        have hcz10_0 : w7.cell? ⟨gb203, 0, none⟩ = some (.string a1_0) := (blk_cell BK203.out 0).trans rfl
        have hcz10_1 : w7.cell? ⟨gb203, 1, none⟩ = some (.string a1_1) := (blk_cell BK203.out 1).trans rfl
        have hcz10_2 : w7.cell? ⟨gb203, 2, none⟩ = some (.int .i64 a1_2) := (blk_cell BK203.out 2).trans rfl
        have hcz10_3 : w7.cell? ⟨gb203, 3, none⟩ = some (.int .i64 a1_3) := (blk_cell BK203.out 3).trans rfl
        have hcz10_4 : w7.cell? ⟨gb203, 4, none⟩ = some (.int .i64 a1_4) := (blk_cell BK203.out 4).trans rfl
        have hcz10_5 : w7.cell? ⟨gb203, 5, none⟩ = some (.int .i64 a1_5) := (blk_cell BK203.out 5).trans rfl
        have hcz10_6 : w7.cell? ⟨gb203, 6, none⟩ = some (.int .i64 a1_6) := (blk_cell BK203.out 6).trans rfl
        have hfz10_0 := blk_frozen BK203.out 0
        have hfz10_1 := blk_frozen BK203.out 1
        have hfz10_2 := blk_frozen BK203.out 2
        have hfz10_3 := blk_frozen BK203.out 3
        have hfz10_4 := blk_frozen BK203.out 4
        have hfz10_5 := blk_frozen BK203.out 5
        have hfz10_6 := blk_frozen BK203.out 6
        go_wp2
        repeat (go_quiet (fail); try go_wp2)
        go_meet
        case rel => exact ⟨_, (true), (by first | rfl | (simp; done) | (simp [*]; done)), H', ⟨by first | omega | exact Nat.le_refl _⟩, ⟨by (with_reducible repeat (first | refine blk_drewN ?_ _ | refine blk_drew ?_ | refine blk_alloc ?_ _)); exact BK203.out⟩, ⟨by repeat (first | (with_reducible first | exact HB.out | apply below_alloc | apply pw_below_drewN | apply below_drew1 | refine below_set ?_ GE203.out) | exact HB.out)⟩⟩
      · rw [if_neg c9] at H
        have c9b0 : decide (64 < (a1_1.size : Int)) = false := decide_eq_false c9
        have c9b1 : decide (64 < a1_1.size) = false := decide_eq_false (by omega)
        clear c9
        (first | rw [c9b0] | (simp only [i64_w, i32_w]; rw [c9b0]) | rw [c9b9] | skip)
        replace H := Option.bind_eq_some_iff.mp H
        obtain ⟨t205, A110, H⟩ := H
        replace H : (if t205 = true then ((heraldref4_in.f a1_3 2147483647).bind fun t206 => (if t206 = true then ((heraldref4_in.f a1_4 2147483647).bind fun t207 => (heraldref4_fits.j0 k l0 (!t207) a1_0 a1_1 a1_2 a1_3 a1_4 a1_5 a1_6)) else (heraldref4_fits.j0 k l0 true a1_0 a1_1 a1_2 a1_3 a1_4 a1_5 a1_6))) else (heraldref4_fits.j0 k l0 true a1_0 a1_1 a1_2 a1_3 a1_4 a1_5 a1_6)) = some r := H
        have A11 := Aside0.mk A110
        clear A110
        by_cases c12 : t205 = true
        · subst c12
          have H1 : ((heraldref4_in.f a1_3 2147483647).bind fun t206 => (if t206 = true then ((heraldref4_in.f a1_4 2147483647).bind fun t207 => (heraldref4_fits.j0 k l0 (!t207) a1_0 a1_1 a1_2 a1_3 a1_4 a1_5 a1_6)) else (heraldref4_fits.j0 k l0 true a1_0 a1_1 a1_2 a1_3 a1_4 a1_5 a1_6))) = some r := by rw [if_pos rfl] at H; exact H
          clear H
          have H := H1
          clear H1
          replace H := Option.bind_eq_some_iff.mp H
          obtain ⟨t206, A130, H⟩ := H
          replace H : (if t206 = true then ((heraldref4_in.f a1_4 2147483647).bind fun t207 => (heraldref4_fits.j0 k l0 (!t207) a1_0 a1_1 a1_2 a1_3 a1_4 a1_5 a1_6)) else (heraldref4_fits.j0 k l0 true a1_0 a1_1 a1_2 a1_3 a1_4 a1_5 a1_6)) = some r := H
          have A13 := Aside0.mk A130
          clear A130
          by_cases c14 : t206 = true
          · subst c14
            have H1 : ((heraldref4_in.f a1_4 2147483647).bind fun t207 => (heraldref4_fits.j0 k l0 (!t207) a1_0 a1_1 a1_2 a1_3 a1_4 a1_5 a1_6)) = some r := by rw [if_pos rfl] at H; exact H
            clear H
            have H := H1
            clear H1
            replace H := Option.bind_eq_some_iff.mp H
            obtain ⟨t207, A150, H⟩ := H
            replace H : (heraldref4_fits.j0 k l0 (!t207) a1_0 a1_1 a1_2 a1_3 a1_4 a1_5 a1_6) = some r := H
            have A15 := Aside0.mk A150
            clear A150
            have H' := Aside0.mk H
            clear H
            have hcz16_0 : w7.cell? ⟨gb203, 0, none⟩ = some (.string a1_0) := (blk_cell BK203.out 0).trans rfl
            have hcz16_1 : w7.cell? ⟨gb203, 1, none⟩ = some (.string a1_1) := (blk_cell BK203.out 1).trans rfl
            have hcz16_2 : w7.cell? ⟨gb203, 2, none⟩ = some (.int .i64 a1_2) := (blk_cell BK203.out 2).trans rfl
            have hcz16_3 : w7.cell? ⟨gb203, 3, none⟩ = some (.int .i64 a1_3) := (blk_cell BK203.out 3).trans rfl
            have hcz16_4 : w7.cell? ⟨gb203, 4, none⟩ = some (.int .i64 a1_4) := (blk_cell BK203.out 4).trans rfl
            have hcz16_5 : w7.cell? ⟨gb203, 5, none⟩ = some (.int .i64 a1_5) := (blk_cell BK203.out 5).trans rfl
            have hcz16_6 : w7.cell? ⟨gb203, 6, none⟩ = some (.int .i64 a1_6) := (blk_cell BK203.out 6).trans rfl
            have hfz16_0 := blk_frozen BK203.out 0
            have hfz16_1 := blk_frozen BK203.out 1
            have hfz16_2 := blk_frozen BK203.out 2
            have hfz16_3 := blk_frozen BK203.out 3
            have hfz16_4 := blk_frozen BK203.out 4
            have hfz16_5 := blk_frozen BK203.out 5
            have hfz16_6 := blk_frozen BK203.out 6
            go_wp2_with (first | (go_at_call 104; (with_reducible refine (heraldref4_in.calls a1_2 2147483647 true _ A11.out).mono ?_); rintro e w' ⟨rfl, ⟨nd, rfl⟩⟩; (try first | exact ⟨rfl, _, World.drewN_drewN _ _ _⟩ | exact ⟨rfl, _, Eq.trans (World.drewN_drewN _ _ _) (congrArg (World.drewN _) (Nat.add_assoc _ _ _))⟩)) | (go_at_call 104; (with_reducible refine (heraldref4_in.calls a1_3 2147483647 true _ A13.out).mono ?_); rintro e w' ⟨rfl, ⟨nd, rfl⟩⟩; (try first | exact ⟨rfl, _, World.drewN_drewN _ _ _⟩ | exact ⟨rfl, _, Eq.trans (World.drewN_drewN _ _ _) (congrArg (World.drewN _) (Nat.add_assoc _ _ _))⟩)) | (go_at_call 104; (with_reducible refine (heraldref4_in.calls a1_4 2147483647 t207 _ A15.out).mono ?_); rintro e w' ⟨rfl, ⟨nd, rfl⟩⟩; (try first | exact ⟨rfl, _, World.drewN_drewN _ _ _⟩ | exact ⟨rfl, _, Eq.trans (World.drewN_drewN _ _ _) (congrArg (World.drewN _) (Nat.add_assoc _ _ _))⟩)))
            repeat (go_quiet (first | (go_at_call 104; (with_reducible refine (heraldref4_in.calls a1_2 2147483647 true _ A11.out).mono ?_); rintro e w' ⟨rfl, ⟨nd, rfl⟩⟩; (try first | exact ⟨rfl, _, World.drewN_drewN _ _ _⟩ | exact ⟨rfl, _, Eq.trans (World.drewN_drewN _ _ _) (congrArg (World.drewN _) (Nat.add_assoc _ _ _))⟩)) | (go_at_call 104; (with_reducible refine (heraldref4_in.calls a1_3 2147483647 true _ A13.out).mono ?_); rintro e w' ⟨rfl, ⟨nd, rfl⟩⟩; (try first | exact ⟨rfl, _, World.drewN_drewN _ _ _⟩ | exact ⟨rfl, _, Eq.trans (World.drewN_drewN _ _ _) (congrArg (World.drewN _) (Nat.add_assoc _ _ _))⟩)) | (go_at_call 104; (with_reducible refine (heraldref4_in.calls a1_4 2147483647 t207 _ A15.out).mono ?_); rintro e w' ⟨rfl, ⟨nd, rfl⟩⟩; (try first | exact ⟨rfl, _, World.drewN_drewN _ _ _⟩ | exact ⟨rfl, _, Eq.trans (World.drewN_drewN _ _ _) (congrArg (World.drewN _) (Nat.add_assoc _ _ _))⟩))); try go_wp2_with (first | (go_at_call 104; (with_reducible refine (heraldref4_in.calls a1_2 2147483647 true _ A11.out).mono ?_); rintro e w' ⟨rfl, ⟨nd, rfl⟩⟩; (try first | exact ⟨rfl, _, World.drewN_drewN _ _ _⟩ | exact ⟨rfl, _, Eq.trans (World.drewN_drewN _ _ _) (congrArg (World.drewN _) (Nat.add_assoc _ _ _))⟩)) | (go_at_call 104; (with_reducible refine (heraldref4_in.calls a1_3 2147483647 true _ A13.out).mono ?_); rintro e w' ⟨rfl, ⟨nd, rfl⟩⟩; (try first | exact ⟨rfl, _, World.drewN_drewN _ _ _⟩ | exact ⟨rfl, _, Eq.trans (World.drewN_drewN _ _ _) (congrArg (World.drewN _) (Nat.add_assoc _ _ _))⟩)) | (go_at_call 104; (with_reducible refine (heraldref4_in.calls a1_4 2147483647 t207 _ A15.out).mono ?_); rintro e w' ⟨rfl, ⟨nd, rfl⟩⟩; (try first | exact ⟨rfl, _, World.drewN_drewN _ _ _⟩ | exact ⟨rfl, _, Eq.trans (World.drewN_drewN _ _ _) (congrArg (World.drewN _) (Nat.add_assoc _ _ _))⟩))))
            go_meet
            case rel => exact ⟨_, (!t207), (by first | rfl | (simp; done) | (simp [*]; done)), H', ⟨by first | omega | exact Nat.le_refl _⟩, ⟨by (with_reducible repeat (first | refine blk_drewN ?_ _ | refine blk_drew ?_ | refine blk_alloc ?_ _)); exact BK203.out⟩, ⟨by repeat (first | (with_reducible first | exact HB.out | apply below_alloc | apply pw_below_drewN | apply below_drew1 | refine below_set ?_ GE203.out) | exact HB.out)⟩⟩
          · replace c14 := Bool.eq_false_iff.mpr c14
            subst c14
            have H1 : (heraldref4_fits.j0 k l0 true a1_0 a1_1 a1_2 a1_3 a1_4 a1_5 a1_6) = some r := by rw [if_neg (show ¬ (false = true) by decide)] at H; exact H
            clear H
            have H := H1
            clear H1
            have H' := Aside0.mk H
            clear H
            have hcz17_0 : w7.cell? ⟨gb203, 0, none⟩ = some (.string a1_0) := (blk_cell BK203.out 0).trans rfl
            have hcz17_1 : w7.cell? ⟨gb203, 1, none⟩ = some (.string a1_1) := (blk_cell BK203.out 1).trans rfl
            have hcz17_2 : w7.cell? ⟨gb203, 2, none⟩ = some (.int .i64 a1_2) := (blk_cell BK203.out 2).trans rfl
            have hcz17_3 : w7.cell? ⟨gb203, 3, none⟩ = some (.int .i64 a1_3) := (blk_cell BK203.out 3).trans rfl
            have hcz17_4 : w7.cell? ⟨gb203, 4, none⟩ = some (.int .i64 a1_4) := (blk_cell BK203.out 4).trans rfl
            have hcz17_5 : w7.cell? ⟨gb203, 5, none⟩ = some (.int .i64 a1_5) := (blk_cell BK203.out 5).trans rfl
            have hcz17_6 : w7.cell? ⟨gb203, 6, none⟩ = some (.int .i64 a1_6) := (blk_cell BK203.out 6).trans rfl
            have hfz17_0 := blk_frozen BK203.out 0
            have hfz17_1 := blk_frozen BK203.out 1
            have hfz17_2 := blk_frozen BK203.out 2
            have hfz17_3 := blk_frozen BK203.out 3
            have hfz17_4 := blk_frozen BK203.out 4
            have hfz17_5 := blk_frozen BK203.out 5
            have hfz17_6 := blk_frozen BK203.out 6
            go_wp2_with (first | (go_at_call 104; (with_reducible refine (heraldref4_in.calls a1_2 2147483647 true _ A11.out).mono ?_); rintro e w' ⟨rfl, ⟨nd, rfl⟩⟩; (try first | exact ⟨rfl, _, World.drewN_drewN _ _ _⟩ | exact ⟨rfl, _, Eq.trans (World.drewN_drewN _ _ _) (congrArg (World.drewN _) (Nat.add_assoc _ _ _))⟩)) | (go_at_call 104; (with_reducible refine (heraldref4_in.calls a1_3 2147483647 false _ A13.out).mono ?_); rintro e w' ⟨rfl, ⟨nd, rfl⟩⟩; (try first | exact ⟨rfl, _, World.drewN_drewN _ _ _⟩ | exact ⟨rfl, _, Eq.trans (World.drewN_drewN _ _ _) (congrArg (World.drewN _) (Nat.add_assoc _ _ _))⟩)))
            repeat (go_quiet (first | (go_at_call 104; (with_reducible refine (heraldref4_in.calls a1_2 2147483647 true _ A11.out).mono ?_); rintro e w' ⟨rfl, ⟨nd, rfl⟩⟩; (try first | exact ⟨rfl, _, World.drewN_drewN _ _ _⟩ | exact ⟨rfl, _, Eq.trans (World.drewN_drewN _ _ _) (congrArg (World.drewN _) (Nat.add_assoc _ _ _))⟩)) | (go_at_call 104; (with_reducible refine (heraldref4_in.calls a1_3 2147483647 false _ A13.out).mono ?_); rintro e w' ⟨rfl, ⟨nd, rfl⟩⟩; (try first | exact ⟨rfl, _, World.drewN_drewN _ _ _⟩ | exact ⟨rfl, _, Eq.trans (World.drewN_drewN _ _ _) (congrArg (World.drewN _) (Nat.add_assoc _ _ _))⟩))); try go_wp2_with (first | (go_at_call 104; (with_reducible refine (heraldref4_in.calls a1_2 2147483647 true _ A11.out).mono ?_); rintro e w' ⟨rfl, ⟨nd, rfl⟩⟩; (try first | exact ⟨rfl, _, World.drewN_drewN _ _ _⟩ | exact ⟨rfl, _, Eq.trans (World.drewN_drewN _ _ _) (congrArg (World.drewN _) (Nat.add_assoc _ _ _))⟩)) | (go_at_call 104; (with_reducible refine (heraldref4_in.calls a1_3 2147483647 false _ A13.out).mono ?_); rintro e w' ⟨rfl, ⟨nd, rfl⟩⟩; (try first | exact ⟨rfl, _, World.drewN_drewN _ _ _⟩ | exact ⟨rfl, _, Eq.trans (World.drewN_drewN _ _ _) (congrArg (World.drewN _) (Nat.add_assoc _ _ _))⟩))))
            go_meet
            case rel => exact ⟨_, (true), (by first | rfl | (simp; done) | (simp [*]; done)), H', ⟨by first | omega | exact Nat.le_refl _⟩, ⟨by (with_reducible repeat (first | refine blk_drewN ?_ _ | refine blk_drew ?_ | refine blk_alloc ?_ _)); exact BK203.out⟩, ⟨by repeat (first | (with_reducible first | exact HB.out | apply below_alloc | apply pw_below_drewN | apply below_drew1 | refine below_set ?_ GE203.out) | exact HB.out)⟩⟩
        · replace c12 := Bool.eq_false_iff.mpr c12
          subst c12
          have H1 : (heraldref4_fits.j0 k l0 true a1_0 a1_1 a1_2 a1_3 a1_4 a1_5 a1_6) = some r := by rw [if_neg (show ¬ (false = true) by decide)] at H; exact H
          clear H
          have H := H1
          clear H1
          have H' := Aside0.mk H
          clear H
          have hcz18_0 : w7.cell? ⟨gb203, 0, none⟩ = some (.string a1_0) := (blk_cell BK203.out 0).trans rfl
          have hcz18_1 : w7.cell? ⟨gb203, 1, none⟩ = some (.string a1_1) := (blk_cell BK203.out 1).trans rfl
          have hcz18_2 : w7.cell? ⟨gb203, 2, none⟩ = some (.int .i64 a1_2) := (blk_cell BK203.out 2).trans rfl
          have hcz18_3 : w7.cell? ⟨gb203, 3, none⟩ = some (.int .i64 a1_3) := (blk_cell BK203.out 3).trans rfl
          have hcz18_4 : w7.cell? ⟨gb203, 4, none⟩ = some (.int .i64 a1_4) := (blk_cell BK203.out 4).trans rfl
          have hcz18_5 : w7.cell? ⟨gb203, 5, none⟩ = some (.int .i64 a1_5) := (blk_cell BK203.out 5).trans rfl
          have hcz18_6 : w7.cell? ⟨gb203, 6, none⟩ = some (.int .i64 a1_6) := (blk_cell BK203.out 6).trans rfl
          have hfz18_0 := blk_frozen BK203.out 0
          have hfz18_1 := blk_frozen BK203.out 1
          have hfz18_2 := blk_frozen BK203.out 2
          have hfz18_3 := blk_frozen BK203.out 3
          have hfz18_4 := blk_frozen BK203.out 4
          have hfz18_5 := blk_frozen BK203.out 5
          have hfz18_6 := blk_frozen BK203.out 6
          go_wp2_with (first | (go_at_call 104; (with_reducible refine (heraldref4_in.calls a1_2 2147483647 false _ A11.out).mono ?_); rintro e w' ⟨rfl, ⟨nd, rfl⟩⟩; (try first | exact ⟨rfl, _, World.drewN_drewN _ _ _⟩ | exact ⟨rfl, _, Eq.trans (World.drewN_drewN _ _ _) (congrArg (World.drewN _) (Nat.add_assoc _ _ _))⟩)))
          repeat (go_quiet (first | (go_at_call 104; (with_reducible refine (heraldref4_in.calls a1_2 2147483647 false _ A11.out).mono ?_); rintro e w' ⟨rfl, ⟨nd, rfl⟩⟩; (try first | exact ⟨rfl, _, World.drewN_drewN _ _ _⟩ | exact ⟨rfl, _, Eq.trans (World.drewN_drewN _ _ _) (congrArg (World.drewN _) (Nat.add_assoc _ _ _))⟩))); try go_wp2_with (first | (go_at_call 104; (with_reducible refine (heraldref4_in.calls a1_2 2147483647 false _ A11.out).mono ?_); rintro e w' ⟨rfl, ⟨nd, rfl⟩⟩; (try first | exact ⟨rfl, _, World.drewN_drewN _ _ _⟩ | exact ⟨rfl, _, Eq.trans (World.drewN_drewN _ _ _) (congrArg (World.drewN _) (Nat.add_assoc _ _ _))⟩))))
          go_meet
          case rel => exact ⟨_, (true), (by first | rfl | (simp; done) | (simp [*]; done)), H', ⟨by first | omega | exact Nat.le_refl _⟩, ⟨by (with_reducible repeat (first | refine blk_drewN ?_ _ | refine blk_drew ?_ | refine blk_alloc ?_ _)); exact BK203.out⟩, ⟨by repeat (first | (with_reducible first | exact HB.out | apply below_alloc | apply pw_below_drewN | apply below_drew1 | refine below_set ?_ GE203.out) | exact HB.out)⟩⟩
    · replace c8 := Bool.eq_false_iff.mpr c8
      subst c8
      have H1 : (heraldref4_fits.j0 k l0 true a1_0 a1_1 a1_2 a1_3 a1_4 a1_5 a1_6) = some r := by rw [if_neg (show ¬ (false = true) by decide)] at H; exact H
      clear H
      have H := H1
      clear H1
      have H' := Aside0.mk H
      clear H
      go_wp2
      repeat (go_quiet (fail); try go_wp2)
      go_meet
      case rel => exact ⟨_, (true), (by first | rfl | (simp; done) | (simp [*]; done)), H', ⟨by first | omega | exact Nat.le_refl _⟩, ⟨by (with_reducible repeat (first | refine blk_drewN ?_ _ | refine blk_drew ?_ | refine blk_alloc ?_ _)); exact BK203.out⟩, ⟨by repeat (first | (with_reducible first | exact HB.out | apply below_alloc | apply pw_below_drewN | apply below_drew1 | refine below_set ?_ GE203.out) | exact HB.out)⟩⟩
  case rest =>
    clear HC4
    try clear c1
    try clear p2
    try clear c6
    try clear c8
    try clear c9
    try clear c9b0
    try clear c9b1
    try clear c12
    try clear c14
    try clear hcz10_0
    try clear hcz10_1
    try clear hcz10_2
    try clear hcz10_3
    try clear hcz10_4
    try clear hcz10_5
    try clear hcz10_6
    try clear hcz16_0
    try clear hcz16_1
    try clear hcz16_2
    try clear hcz16_3
    try clear hcz16_4
    try clear hcz16_5
    try clear hcz16_6
    try clear hcz17_0
    try clear hcz17_1
    try clear hcz17_2
    try clear hcz17_3
    try clear hcz17_4
    try clear hcz17_5
    try clear hcz17_6
    try clear hcz18_0
    try clear hcz18_1
    try clear hcz18_2
    try clear hcz18_3
    try clear hcz18_4
    try clear hcz18_5
    try clear hcz18_6
    try clear hcz6_0
    try clear hcz6_1
    try clear hcz6_2
    try clear hcz6_3
    try clear hcz6_4
    try clear hcz6_5
    try clear hcz6_6
    try clear hfz10_0
    try clear hfz10_1
    try clear hfz10_2
    try clear hfz10_3
    try clear hfz10_4
    try clear hfz10_5
    try clear hfz10_6
    try clear hfz16_0
    try clear hfz16_1
    try clear hfz16_2
    try clear hfz16_3
    try clear hfz16_4
    try clear hfz16_5
    try clear hfz16_6
    try clear hfz17_0
    try clear hfz17_1
    try clear hfz17_2
    try clear hfz17_3
    try clear hfz17_4
    try clear hfz17_5
    try clear hfz17_6
    try clear hfz18_0
    try clear hfz18_1
    try clear hfz18_2
    try clear hfz18_3
    try clear hfz18_4
    try clear hfz18_5
    try clear hfz18_6
    try clear hfz6_0
    try clear hfz6_1
    try clear hfz6_2
    try clear hfz6_3
    try clear hfz6_4
    try clear hfz6_5
    try clear hfz6_6
    obtain ⟨kq, x38_3, rfl, HA, HJ3, BK203, HB⟩ := hcut
    cases kq with
    | zero => exact absurd HA.out (by simp [heraldref4_fits.j0])
    | succ kj3 =>
      have H := HA.out
      clear HA
      simp only [heraldref4_fits.j0] at H
      by_cases c19 : x38_3 = true
      · subst c19
        have H1 : (some false) = some r := by rw [if_pos rfl] at H; exact H
        clear H
        have H := H1
        clear H1
        obtain rfl := Option.some.inj H
        go_wp2
        repeat (go_quiet (fail); try go_wp2)
        go_ret
        exact ⟨by first | rfl | (simp [errW_none, errW_some] <;> rfl) | (simp [*, errW_none, errW_some] <;> rfl), by repeat (first | (with_reducible first | exact HB.out | apply below_alloc | apply pw_below_drewN | apply below_drew1 | refine below_set ?_ GE203.out) | exact HB.out)⟩
      · replace c19 := Bool.eq_false_iff.mpr c19
        subst c19
        have H1 : ((heraldref4_in.f a1_5 2147483647).bind fun t208 => (if t208 = true then ((heraldref4_in.f a1_6 100000).bind fun t209 => (if t209 = true then (if a1_5 > 0 then (heraldref4_fits.j1 kj3 l0 (decide (a1_6 > 0)) a1_0 a1_1 a1_2 a1_3 a1_4 a1_5 a1_6) else (heraldref4_fits.j1 kj3 l0 false a1_0 a1_1 a1_2 a1_3 a1_4 a1_5 a1_6)) else (heraldref4_fits.j1 kj3 l0 true a1_0 a1_1 a1_2 a1_3 a1_4 a1_5 a1_6))) else (heraldref4_fits.j1 kj3 l0 true a1_0 a1_1 a1_2 a1_3 a1_4 a1_5 a1_6))) = some r := by rw [if_neg (show ¬ (false = true) by decide)] at H; exact H
        clear H
        have H := H1
        clear H1
        have HC20 := Aside0.mk H
        clear H
        go_upto_region 4 with (fail)
        repeat (go_quiet (fail); go_upto_region 4 with (fail))
        go_cut [58] (fun v58 wc => ∃ (kq : Nat) (x58_19 : Bool), v58 = .bool x58_19 ∧ Aside0 (heraldref4_fits.j1 kq l0 x58_19 a1_0 a1_1 a1_2 a1_3 a1_4 a1_5 a1_6 = some r) ∧ Aside0 (kq ≤ kj3) ∧ Aside0 (wc.heap[gb203]? = some (.cells #[.string a1_0, .string a1_1, .int .i64 a1_2, .int .i64 a1_3, .int .i64 a1_4, .int .i64 a1_5, .int .i64 a1_6] 74 (0, 0))) ∧ Aside0 (Below w.heap.size w wc))
        case first =>
          have H := HC20.out
          clear HC20
          replace H := Option.bind_eq_some_iff.mp H
          obtain ⟨t208, A210, H⟩ := H
          replace H : (if t208 = true then ((heraldref4_in.f a1_6 100000).bind fun t209 => (if t209 = true then (if a1_5 > 0 then (heraldref4_fits.j1 kj3 l0 (decide (a1_6 > 0)) a1_0 a1_1 a1_2 a1_3 a1_4 a1_5 a1_6) else (heraldref4_fits.j1 kj3 l0 false a1_0 a1_1 a1_2 a1_3 a1_4 a1_5 a1_6)) else (heraldref4_fits.j1 kj3 l0 true a1_0 a1_1 a1_2 a1_3 a1_4 a1_5 a1_6))) else (heraldref4_fits.j1 kj3 l0 true a1_0 a1_1 a1_2 a1_3 a1_4 a1_5 a1_6)) = some r := H
          have A21 := Aside0.mk A210
          clear A210
          by_cases c22 : t208 = true
          · subst c22
            have H1 : ((heraldref4_in.f a1_6 100000).bind fun t209 => (if t209 = true then (if a1_5 > 0 then (heraldref4_fits.j1 kj3 l0 (decide (a1_6 > 0)) a1_0 a1_1 a1_2 a1_3 a1_4 a1_5 a1_6) else (heraldref4_fits.j1 kj3 l0 false a1_0 a1_1 a1_2 a1_3 a1_4 a1_5 a1_6)) else (heraldref4_fits.j1 kj3 l0 true a1_0 a1_1 a1_2 a1_3 a1_4 a1_5 a1_6))) = some r := by rw [if_pos rfl] at H; exact H
            clear H
            have H := H1
            clear H1
            replace H := Option.bind_eq_some_iff.mp H
            obtain ⟨t209, A230, H⟩ := H
            replace H : (if t209 = true then (if a1_5 > 0 then (heraldref4_fits.j1 kj3 l0 (decide (a1_6 > 0)) a1_0 a1_1 a1_2 a1_3 a1_4 a1_5 a1_6) else (heraldref4_fits.j1 kj3 l0 false a1_0 a1_1 a1_2 a1_3 a1_4 a1_5 a1_6)) else (heraldref4_fits.j1 kj3 l0 true a1_0 a1_1 a1_2 a1_3 a1_4 a1_5 a1_6)) = some r := H
            have A23 := Aside0.mk A230
            clear A230
            by_cases c24 : t209 = true
            · subst c24
              have H1 : (if a1_5 > 0 then (heraldref4_fits.j1 kj3 l0 (decide (a1_6 > 0)) a1_0 a1_1 a1_2 a1_3 a1_4 a1_5 a1_6) else (heraldref4_fits.j1 kj3 l0 false a1_0 a1_1 a1_2 a1_3 a1_4 a1_5 a1_6)) = some r := by rw [if_pos rfl] at H; exact H
              clear H
              have H := H1
              clear H1
              by_cases c25 : a1_5 > 0
              · rw [if_pos c25] at H
                have c25b0 : decide (0 < a1_5) = true := decide_eq_true c25
                clear c25
                (first | rw [c25b0] | (simp only [i64_w, i32_w]; rw [c25b0]) | rw [c25b9] | skip)
                have H' := Aside0.mk H
                clear H
                have hcz26_0 : wc.cell? ⟨gb203, 0, none⟩ = some (.string a1_0) := (blk_cell BK203.out 0).trans rfl
                have hcz26_1 : wc.cell? ⟨gb203, 1, none⟩ = some (.string a1_1) := (blk_cell BK203.out 1).trans rfl
                have hcz26_2 : wc.cell? ⟨gb203, 2, none⟩ = some (.int .i64 a1_2) := (blk_cell BK203.out 2).trans rfl
                have hcz26_3 : wc.cell? ⟨gb203, 3, none⟩ = some (.int .i64 a1_3) := (blk_cell BK203.out 3).trans rfl
                have hcz26_4 : wc.cell? ⟨gb203, 4, none⟩ = some (.int .i64 a1_4) := (blk_cell BK203.out 4).trans rfl
                have hcz26_5 : wc.cell? ⟨gb203, 5, none⟩ = some (.int .i64 a1_5) := (blk_cell BK203.out 5).trans rfl
                have hcz26_6 : wc.cell? ⟨gb203, 6, none⟩ = some (.int .i64 a1_6) := (blk_cell BK203.out 6).trans rfl
                have hfz26_0 := blk_frozen BK203.out 0
                have hfz26_1 := blk_frozen BK203.out 1
                have hfz26_2 := blk_frozen BK203.out 2
                have hfz26_3 := blk_frozen BK203.out 3
                have hfz26_4 := blk_frozen BK203.out 4
                have hfz26_5 := blk_frozen BK203.out 5
                have hfz26_6 := blk_frozen BK203.out 6
                go_wp2_with (first | (go_at_call 104; (with_reducible refine (heraldref4_in.calls a1_5 2147483647 true _ A21.out).mono ?_); rintro e w' ⟨rfl, ⟨nd, rfl⟩⟩; (try first | exact ⟨rfl, _, World.drewN_drewN _ _ _⟩ | exact ⟨rfl, _, Eq.trans (World.drewN_drewN _ _ _) (congrArg (World.drewN _) (Nat.add_assoc _ _ _))⟩)) | (go_at_call 104; (with_reducible refine (heraldref4_in.calls a1_6 100000 true _ A23.out).mono ?_); rintro e w' ⟨rfl, ⟨nd, rfl⟩⟩; (try first | exact ⟨rfl, _, World.drewN_drewN _ _ _⟩ | exact ⟨rfl, _, Eq.trans (World.drewN_drewN _ _ _) (congrArg (World.drewN _) (Nat.add_assoc _ _ _))⟩)))
                repeat (go_quiet (first | (go_at_call 104; (with_reducible refine (heraldref4_in.calls a1_5 2147483647 true _ A21.out).mono ?_); rintro e w' ⟨rfl, ⟨nd, rfl⟩⟩; (try first | exact ⟨rfl, _, World.drewN_drewN _ _ _⟩ | exact ⟨rfl, _, Eq.trans (World.drewN_drewN _ _ _) (congrArg (World.drewN _) (Nat.add_assoc _ _ _))⟩)) | (go_at_call 104; (with_reducible refine (heraldref4_in.calls a1_6 100000 true _ A23.out).mono ?_); rintro e w' ⟨rfl, ⟨nd, rfl⟩⟩; (try first | exact ⟨rfl, _, World.drewN_drewN _ _ _⟩ | exact ⟨rfl, _, Eq.trans (World.drewN_drewN _ _ _) (congrArg (World.drewN _) (Nat.add_assoc _ _ _))⟩))); try go_wp2_with (first | (go_at_call 104; (with_reducible refine (heraldref4_in.calls a1_5 2147483647 true _ A21.out).mono ?_); rintro e w' ⟨rfl, ⟨nd, rfl⟩⟩; (try first | exact ⟨rfl, _, World.drewN_drewN _ _ _⟩ | exact ⟨rfl, _, Eq.trans (World.drewN_drewN _ _ _) (congrArg (World.drewN _) (Nat.add_assoc _ _ _))⟩)) | (go_at_call 104; (with_reducible refine (heraldref4_in.calls a1_6 100000 true _ A23.out).mono ?_); rintro e w' ⟨rfl, ⟨nd, rfl⟩⟩; (try first | exact ⟨rfl, _, World.drewN_drewN _ _ _⟩ | exact ⟨rfl, _, Eq.trans (World.drewN_drewN _ _ _) (congrArg (World.drewN _) (Nat.add_assoc _ _ _))⟩))))
                go_meet
                case rel => exact ⟨_, (decide (a1_6 > 0)), (by first | rfl | (simp; done) | (simp [*]; done)), H', ⟨by have := HJ3.out; first | omega | exact Nat.le_refl _⟩, ⟨by (with_reducible repeat (first | refine blk_drewN ?_ _ | refine blk_drew ?_ | refine blk_alloc ?_ _)); exact BK203.out⟩, ⟨by repeat (first | (with_reducible first | exact HB.out | apply below_alloc | apply pw_below_drewN | apply below_drew1 | refine below_set ?_ GE203.out) | exact HB.out)⟩⟩
              · rw [if_neg c25] at H
                have c25b0 : decide (0 < a1_5) = false := decide_eq_false c25
                clear c25
                (first | rw [c25b0] | (simp only [i64_w, i32_w]; rw [c25b0]) | rw [c25b9] | skip)
                have H' := Aside0.mk H
                clear H
                have hcz27_0 : wc.cell? ⟨gb203, 0, none⟩ = some (.string a1_0) := (blk_cell BK203.out 0).trans rfl
                have hcz27_1 : wc.cell? ⟨gb203, 1, none⟩ = some (.string a1_1) := (blk_cell BK203.out 1).trans rfl
                have hcz27_2 : wc.cell? ⟨gb203, 2, none⟩ = some (.int .i64 a1_2) := (blk_cell BK203.out 2).trans rfl
                have hcz27_3 : wc.cell? ⟨gb203, 3, none⟩ = some (.int .i64 a1_3) := (blk_cell BK203.out 3).trans rfl
                have hcz27_4 : wc.cell? ⟨gb203, 4, none⟩ = some (.int .i64 a1_4) := (blk_cell BK203.out 4).trans rfl
                have hcz27_5 : wc.cell? ⟨gb203, 5, none⟩ = some (.int .i64 a1_5) := (blk_cell BK203.out 5).trans rfl
                have hcz27_6 : wc.cell? ⟨gb203, 6, none⟩ = some (.int .i64 a1_6) := (blk_cell BK203.out 6).trans rfl
                have hfz27_0 := blk_frozen BK203.out 0
                have hfz27_1 := blk_frozen BK203.out 1
                have hfz27_2 := blk_frozen BK203.out 2
                have hfz27_3 := blk_frozen BK203.out 3
                have hfz27_4 := blk_frozen BK203.out 4
                have hfz27_5 := blk_frozen BK203.out 5
                have hfz27_6 := blk_frozen BK203.out 6
                go_wp2_with (first | (go_at_call 104; (with_reducible refine (heraldref4_in.calls a1_5 2147483647 true _ A21.out).mono ?_); rintro e w' ⟨rfl, ⟨nd, rfl⟩⟩; (try first | exact ⟨rfl, _, World.drewN_drewN _ _ _⟩ | exact ⟨rfl, _, Eq.trans (World.drewN_drewN _ _ _) (congrArg (World.drewN _) (Nat.add_assoc _ _ _))⟩)) | (go_at_call 104; (with_reducible refine (heraldref4_in.calls a1_6 100000 true _ A23.out).mono ?_); rintro e w' ⟨rfl, ⟨nd, rfl⟩⟩; (try first | exact ⟨rfl, _, World.drewN_drewN _ _ _⟩ | exact ⟨rfl, _, Eq.trans (World.drewN_drewN _ _ _) (congrArg (World.drewN _) (Nat.add_assoc _ _ _))⟩)))
                repeat (go_quiet (first | (go_at_call 104; (with_reducible refine (heraldref4_in.calls a1_5 2147483647 true _ A21.out).mono ?_); rintro e w' ⟨rfl, ⟨nd, rfl⟩⟩; (try first | exact ⟨rfl, _, World.drewN_drewN _ _ _⟩ | exact ⟨rfl, _, Eq.trans (World.drewN_drewN _ _ _) (congrArg (World.drewN _) (Nat.add_assoc _ _ _))⟩)) | (go_at_call 104; (with_reducible refine (heraldref4_in.calls a1_6 100000 true _ A23.out).mono ?_); rintro e w' ⟨rfl, ⟨nd, rfl⟩⟩; (try first | exact ⟨rfl, _, World.drewN_drewN _ _ _⟩ | exact ⟨rfl, _, Eq.trans (World.drewN_drewN _ _ _) (congrArg (World.drewN _) (Nat.add_assoc _ _ _))⟩))); try go_wp2_with (first | (go_at_call 104; (with_reducible refine (heraldref4_in.calls a1_5 2147483647 true _ A21.out).mono ?_); rintro e w' ⟨rfl, ⟨nd, rfl⟩⟩; (try first | exact ⟨rfl, _, World.drewN_drewN _ _ _⟩ | exact ⟨rfl, _, Eq.trans (World.drewN_drewN _ _ _) (congrArg (World.drewN _) (Nat.add_assoc _ _ _))⟩)) | (go_at_call 104; (with_reducible refine (heraldref4_in.calls a1_6 100000 true _ A23.out).mono ?_); rintro e w' ⟨rfl, ⟨nd, rfl⟩⟩; (try first | exact ⟨rfl, _, World.drewN_drewN _ _ _⟩ | exact ⟨rfl, _, Eq.trans (World.drewN_drewN _ _ _) (congrArg (World.drewN _) (Nat.add_assoc _ _ _))⟩))))
                go_meet
                case rel => exact ⟨_, (false), (by first | rfl | (simp; done) | (simp [*]; done)), H', ⟨by have := HJ3.out; first | omega | exact Nat.le_refl _⟩, ⟨by (with_reducible repeat (first | refine blk_drewN ?_ _ | refine blk_drew ?_ | refine blk_alloc ?_ _)); exact BK203.out⟩, ⟨by repeat (first | (with_reducible first | exact HB.out | apply below_alloc | apply pw_below_drewN | apply below_drew1 | refine below_set ?_ GE203.out) | exact HB.out)⟩⟩
            · replace c24 := Bool.eq_false_iff.mpr c24
              subst c24
              have H1 : (heraldref4_fits.j1 kj3 l0 true a1_0 a1_1 a1_2 a1_3 a1_4 a1_5 a1_6) = some r := by rw [if_neg (show ¬ (false = true) by decide)] at H; exact H
              clear H
              have H := H1
              clear H1
              have H' := Aside0.mk H
              clear H
              have hcz28_0 : wc.cell? ⟨gb203, 0, none⟩ = some (.string a1_0) := (blk_cell BK203.out 0).trans rfl
              have hcz28_1 : wc.cell? ⟨gb203, 1, none⟩ = some (.string a1_1) := (blk_cell BK203.out 1).trans rfl
              have hcz28_2 : wc.cell? ⟨gb203, 2, none⟩ = some (.int .i64 a1_2) := (blk_cell BK203.out 2).trans rfl
              have hcz28_3 : wc.cell? ⟨gb203, 3, none⟩ = some (.int .i64 a1_3) := (blk_cell BK203.out 3).trans rfl
              have hcz28_4 : wc.cell? ⟨gb203, 4, none⟩ = some (.int .i64 a1_4) := (blk_cell BK203.out 4).trans rfl
              have hcz28_5 : wc.cell? ⟨gb203, 5, none⟩ = some (.int .i64 a1_5) := (blk_cell BK203.out 5).trans rfl
              have hcz28_6 : wc.cell? ⟨gb203, 6, none⟩ = some (.int .i64 a1_6) := (blk_cell BK203.out 6).trans rfl
              have hfz28_0 := blk_frozen BK203.out 0
              have hfz28_1 := blk_frozen BK203.out 1
              have hfz28_2 := blk_frozen BK203.out 2
              have hfz28_3 := blk_frozen BK203.out 3
              have hfz28_4 := blk_frozen BK203.out 4
              have hfz28_5 := blk_frozen BK203.out 5
              have hfz28_6 := blk_frozen BK203.out 6
              go_wp2_with (first | (go_at_call 104; (with_reducible refine (heraldref4_in.calls a1_5 2147483647 true _ A21.out).mono ?_); rintro e w' ⟨rfl, ⟨nd, rfl⟩⟩; (try first | exact ⟨rfl, _, World.drewN_drewN _ _ _⟩ | exact ⟨rfl, _, Eq.trans (World.drewN_drewN _ _ _) (congrArg (World.drewN _) (Nat.add_assoc _ _ _))⟩)) | (go_at_call 104; (with_reducible refine (heraldref4_in.calls a1_6 100000 false _ A23.out).mono ?_); rintro e w' ⟨rfl, ⟨nd, rfl⟩⟩; (try first | exact ⟨rfl, _, World.drewN_drewN _ _ _⟩ | exact ⟨rfl, _, Eq.trans (World.drewN_drewN _ _ _) (congrArg (World.drewN _) (Nat.add_assoc _ _ _))⟩)))
              repeat (go_quiet (first | (go_at_call 104; (with_reducible refine (heraldref4_in.calls a1_5 2147483647 true _ A21.out).mono ?_); rintro e w' ⟨rfl, ⟨nd, rfl⟩⟩; (try first | exact ⟨rfl, _, World.drewN_drewN _ _ _⟩ | exact ⟨rfl, _, Eq.trans (World.drewN_drewN _ _ _) (congrArg (World.drewN _) (Nat.add_assoc _ _ _))⟩)) | (go_at_call 104; (with_reducible refine (heraldref4_in.calls a1_6 100000 false _ A23.out).mono ?_); rintro e w' ⟨rfl, ⟨nd, rfl⟩⟩; (try first | exact ⟨rfl, _, World.drewN_drewN _ _ _⟩ | exact ⟨rfl, _, Eq.trans (World.drewN_drewN _ _ _) (congrArg (World.drewN _) (Nat.add_assoc _ _ _))⟩))); try go_wp2_with (first | (go_at_call 104; (with_reducible refine (heraldref4_in.calls a1_5 2147483647 true _ A21.out).mono ?_); rintro e w' ⟨rfl, ⟨nd, rfl⟩⟩; (try first | exact ⟨rfl, _, World.drewN_drewN _ _ _⟩ | exact ⟨rfl, _, Eq.trans (World.drewN_drewN _ _ _) (congrArg (World.drewN _) (Nat.add_assoc _ _ _))⟩)) | (go_at_call 104; (with_reducible refine (heraldref4_in.calls a1_6 100000 false _ A23.out).mono ?_); rintro e w' ⟨rfl, ⟨nd, rfl⟩⟩; (try first | exact ⟨rfl, _, World.drewN_drewN _ _ _⟩ | exact ⟨rfl, _, Eq.trans (World.drewN_drewN _ _ _) (congrArg (World.drewN _) (Nat.add_assoc _ _ _))⟩))))
              go_meet
              case rel => exact ⟨_, (true), (by first | rfl | (simp; done) | (simp [*]; done)), H', ⟨by have := HJ3.out; first | omega | exact Nat.le_refl _⟩, ⟨by (with_reducible repeat (first | refine blk_drewN ?_ _ | refine blk_drew ?_ | refine blk_alloc ?_ _)); exact BK203.out⟩, ⟨by repeat (first | (with_reducible first | exact HB.out | apply below_alloc | apply pw_below_drewN | apply below_drew1 | refine below_set ?_ GE203.out) | exact HB.out)⟩⟩
          · replace c22 := Bool.eq_false_iff.mpr c22
            subst c22
            have H1 : (heraldref4_fits.j1 kj3 l0 true a1_0 a1_1 a1_2 a1_3 a1_4 a1_5 a1_6) = some r := by rw [if_neg (show ¬ (false = true) by decide)] at H; exact H
            clear H
            have H := H1
            clear H1
            have H' := Aside0.mk H
            clear H
            have hcz29_0 : wc.cell? ⟨gb203, 0, none⟩ = some (.string a1_0) := (blk_cell BK203.out 0).trans rfl
            have hcz29_1 : wc.cell? ⟨gb203, 1, none⟩ = some (.string a1_1) := (blk_cell BK203.out 1).trans rfl
            have hcz29_2 : wc.cell? ⟨gb203, 2, none⟩ = some (.int .i64 a1_2) := (blk_cell BK203.out 2).trans rfl
            have hcz29_3 : wc.cell? ⟨gb203, 3, none⟩ = some (.int .i64 a1_3) := (blk_cell BK203.out 3).trans rfl
            have hcz29_4 : wc.cell? ⟨gb203, 4, none⟩ = some (.int .i64 a1_4) := (blk_cell BK203.out 4).trans rfl
            have hcz29_5 : wc.cell? ⟨gb203, 5, none⟩ = some (.int .i64 a1_5) := (blk_cell BK203.out 5).trans rfl
            have hcz29_6 : wc.cell? ⟨gb203, 6, none⟩ = some (.int .i64 a1_6) := (blk_cell BK203.out 6).trans rfl
            have hfz29_0 := blk_frozen BK203.out 0
            have hfz29_1 := blk_frozen BK203.out 1
            have hfz29_2 := blk_frozen BK203.out 2
            have hfz29_3 := blk_frozen BK203.out 3
            have hfz29_4 := blk_frozen BK203.out 4
            have hfz29_5 := blk_frozen BK203.out 5
            have hfz29_6 := blk_frozen BK203.out 6
            go_wp2_with (first | (go_at_call 104; (with_reducible refine (heraldref4_in.calls a1_5 2147483647 false _ A21.out).mono ?_); rintro e w' ⟨rfl, ⟨nd, rfl⟩⟩; (try first | exact ⟨rfl, _, World.drewN_drewN _ _ _⟩ | exact ⟨rfl, _, Eq.trans (World.drewN_drewN _ _ _) (congrArg (World.drewN _) (Nat.add_assoc _ _ _))⟩)))
            repeat (go_quiet (first | (go_at_call 104; (with_reducible refine (heraldref4_in.calls a1_5 2147483647 false _ A21.out).mono ?_); rintro e w' ⟨rfl, ⟨nd, rfl⟩⟩; (try first | exact ⟨rfl, _, World.drewN_drewN _ _ _⟩ | exact ⟨rfl, _, Eq.trans (World.drewN_drewN _ _ _) (congrArg (World.drewN _) (Nat.add_assoc _ _ _))⟩))); try go_wp2_with (first | (go_at_call 104; (with_reducible refine (heraldref4_in.calls a1_5 2147483647 false _ A21.out).mono ?_); rintro e w' ⟨rfl, ⟨nd, rfl⟩⟩; (try first | exact ⟨rfl, _, World.drewN_drewN _ _ _⟩ | exact ⟨rfl, _, Eq.trans (World.drewN_drewN _ _ _) (congrArg (World.drewN _) (Nat.add_assoc _ _ _))⟩))))
            go_meet
            case rel => exact ⟨_, (true), (by first | rfl | (simp; done) | (simp [*]; done)), H', ⟨by have := HJ3.out; first | omega | exact Nat.le_refl _⟩, ⟨by (with_reducible repeat (first | refine blk_drewN ?_ _ | refine blk_drew ?_ | refine blk_alloc ?_ _)); exact BK203.out⟩, ⟨by repeat (first | (with_reducible first | exact HB.out | apply below_alloc | apply pw_below_drewN | apply below_drew1 | refine below_set ?_ GE203.out) | exact HB.out)⟩⟩
        case rest =>
          clear HC20
          try clear c1
          try clear c2
          try clear p2
          try clear c6
          try clear c8
          try clear c9
          try clear c9b0
          try clear c9b1
          try clear c12
          try clear c14
          try clear c19
          try clear c22
          try clear c24
          try clear c25
          try clear c25b0
          try clear hcz10_0
          try clear hcz10_1
          try clear hcz10_2
          try clear hcz10_3
          try clear hcz10_4
          try clear hcz10_5
          try clear hcz10_6
          try clear hcz16_0
          try clear hcz16_1
          try clear hcz16_2
          try clear hcz16_3
          try clear hcz16_4
          try clear hcz16_5
          try clear hcz16_6
          try clear hcz17_0
          try clear hcz17_1
          try clear hcz17_2
          try clear hcz17_3
          try clear hcz17_4
          try clear hcz17_5
          try clear hcz17_6
          try clear hcz18_0
          try clear hcz18_1
          try clear hcz18_2
          try clear hcz18_3
          try clear hcz18_4
          try clear hcz18_5
          try clear hcz18_6
          try clear hcz26_0
          try clear hcz26_1
          try clear hcz26_2
          try clear hcz26_3
          try clear hcz26_4
          try clear hcz26_5
          try clear hcz26_6
          try clear hcz27_0
          try clear hcz27_1
          try clear hcz27_2
          try clear hcz27_3
          try clear hcz27_4
          try clear hcz27_5
          try clear hcz27_6
          try clear hcz28_0
          try clear hcz28_1
          try clear hcz28_2
          try clear hcz28_3
          try clear hcz28_4
          try clear hcz28_5
          try clear hcz28_6
          try clear hcz29_0
          try clear hcz29_1
          try clear hcz29_2
          try clear hcz29_3
          try clear hcz29_4
          try clear hcz29_5
          try clear hcz29_6
          try clear hcz6_0
          try clear hcz6_1
          try clear hcz6_2
          try clear hcz6_3
          try clear hcz6_4
          try clear hcz6_5
          try clear hcz6_6
          try clear hfz10_0
          try clear hfz10_1
          try clear hfz10_2
          try clear hfz10_3
          try clear hfz10_4
          try clear hfz10_5
          try clear hfz10_6
          try clear hfz16_0
          try clear hfz16_1
          try clear hfz16_2
          try clear hfz16_3
          try clear hfz16_4
          try clear hfz16_5
          try clear hfz16_6
          try clear hfz17_0
          try clear hfz17_1
          try clear hfz17_2
          try clear hfz17_3
          try clear hfz17_4
          try clear hfz17_5
          try clear hfz17_6
          try clear hfz18_0
          try clear hfz18_1
          try clear hfz18_2
          try clear hfz18_3
          try clear hfz18_4
          try clear hfz18_5
          try clear hfz18_6
          try clear hfz26_0
          try clear hfz26_1
          try clear hfz26_2
          try clear hfz26_3
          try clear hfz26_4
          try clear hfz26_5
          try clear hfz26_6
          try clear hfz27_0
          try clear hfz27_1
          try clear hfz27_2
          try clear hfz27_3
          try clear hfz27_4
          try clear hfz27_5
          try clear hfz27_6
          try clear hfz28_0
          try clear hfz28_1
          try clear hfz28_2
          try clear hfz28_3
          try clear hfz28_4
          try clear hfz28_5
          try clear hfz28_6
          try clear hfz29_0
          try clear hfz29_1
          try clear hfz29_2
          try clear hfz29_3
          try clear hfz29_4
          try clear hfz29_5
          try clear hfz29_6
          try clear hfz6_0
          try clear hfz6_1
          try clear hfz6_2
          try clear hfz6_3
          try clear hfz6_4
          try clear hfz6_5
          try clear hfz6_6
          try clear p2
          obtain ⟨kq, x58_19, rfl, HA, HJ19, BK203, HB⟩ := hcut
          cases kq with
          | zero => exact absurd HA.out (by simp [heraldref4_fits.j1])
          | succ kj19 =>
            have H := HA.out
            clear HA
            simp only [heraldref4_fits.j1] at H
            by_cases c30 : x58_19 = true
            · subst c30
              have H1 : (some false) = some r := by rw [if_pos rfl] at H; exact H
              clear H
              have H := H1
              clear H1
              obtain rfl := Option.some.inj H
              go_wp2
              repeat (go_quiet (fail); try go_wp2)
              go_ret
              exact ⟨by first | rfl | (simp [errW_none, errW_some] <;> rfl) | (simp [*, errW_none, errW_some] <;> rfl), by repeat (first | (with_reducible first | exact HB.out | apply below_alloc | apply pw_below_drewN | apply below_drew1 | refine below_set ?_ GE203.out) | exact HB.out)⟩
            · replace c30 := Bool.eq_false_iff.mpr c30
              subst c30
              have H1 : (if (l0.length : Int) = 0 then (if a1_0.toList = ([47] : List UInt8) then (some (a1_5 == 0)) else (some false)) else ((heraldref1_Parent.f kj19 a1_0).bind fun bt210 => (if 0 ≤ (wrap64 ((l0.length : Int) - 1)) then (if (wrap64 ((l0.length : Int) - 1)) < (l0.length : Int) then ((heraldref1_Order.f kj19 ((rd_T74 l0 (wrap64 ((l0.length : Int) - 1))).f0) a1_0).bind fun t213 => (if bt210.2 = 0 then (if t213 ≥ 0 then (some false) else ((heraldref4_find.f kj19 l0 bt210.1).bind fun t214 => (if t214 ≥ 0 then (if 0 ≤ t214 then (if t214 < (l0.length : Int) then (some (((rd_T74 l0 t214).f5) == 0)) else (none)) else (none)) else (some false)))) else (some false))) else (none)) else (none)))) = some r := by rw [if_neg (show ¬ (false = true) by decide)] at H; exact H
              clear H
              have H := H1
              clear H1
              by_cases c31 : (l0.length : Int) = 0
              · rw [if_pos c31] at H
                have c31b0 : ((l0.length : Int) == 0) = true := beq_iff_eq.mpr c31
                have c31b1 : ((l0.length : Int) != 0) = false := bne_eq_false_iff_eq.mpr c31
                clear c31
                by_cases c32 : a1_0.toList = ([47] : List UInt8)
                · rw [if_pos c32] at H
                  have c32b0 : (a1_0.toList == ([47] : List UInt8)) = true := beq_iff_eq.mpr c32
                  have c32b1 : (a1_0.toList != ([47] : List UInt8)) = false := bne_eq_false_iff_eq.mpr c32
                  clear c32
                  obtain rfl := Option.some.inj H
                  have hcz33_0 : wc.cell? ⟨gb203, 0, none⟩ = some (.string a1_0) := (blk_cell BK203.out 0).trans rfl
                  have hcz33_1 : wc.cell? ⟨gb203, 1, none⟩ = some (.string a1_1) := (blk_cell BK203.out 1).trans rfl
                  have hcz33_2 : wc.cell? ⟨gb203, 2, none⟩ = some (.int .i64 a1_2) := (blk_cell BK203.out 2).trans rfl
                  have hcz33_3 : wc.cell? ⟨gb203, 3, none⟩ = some (.int .i64 a1_3) := (blk_cell BK203.out 3).trans rfl
                  have hcz33_4 : wc.cell? ⟨gb203, 4, none⟩ = some (.int .i64 a1_4) := (blk_cell BK203.out 4).trans rfl
                  have hcz33_5 : wc.cell? ⟨gb203, 5, none⟩ = some (.int .i64 a1_5) := (blk_cell BK203.out 5).trans rfl
                  have hcz33_6 : wc.cell? ⟨gb203, 6, none⟩ = some (.int .i64 a1_6) := (blk_cell BK203.out 6).trans rfl
                  have hfz33_0 := blk_frozen BK203.out 0
                  have hfz33_1 := blk_frozen BK203.out 1
                  have hfz33_2 := blk_frozen BK203.out 2
                  have hfz33_3 := blk_frozen BK203.out 3
                  have hfz33_4 := blk_frozen BK203.out 4
                  have hfz33_5 := blk_frozen BK203.out 5
                  have hfz33_6 := blk_frozen BK203.out 6
                  go_wp2
                  repeat (go_quiet (fail); try go_wp2)
                  go_ret
                  exact ⟨by first | rfl | (simp [errW_none, errW_some] <;> rfl) | (simp [*, errW_none, errW_some] <;> rfl), by repeat (first | (with_reducible first | exact HB.out | apply below_alloc | apply pw_below_drewN | apply below_drew1 | refine below_set ?_ GE203.out) | exact HB.out)⟩
                · rw [if_neg c32] at H
                  have c32b0 : (a1_0.toList == ([47] : List UInt8)) = false := beq_eq_false_iff_ne.mpr c32
                  have c32b1 : (a1_0.toList != ([47] : List UInt8)) = true := bne_iff_ne.mpr c32
                  obtain rfl := Option.some.inj H
                  have hcz34_0 : wc.cell? ⟨gb203, 0, none⟩ = some (.string a1_0) := (blk_cell BK203.out 0).trans rfl
                  have hcz34_1 : wc.cell? ⟨gb203, 1, none⟩ = some (.string a1_1) := (blk_cell BK203.out 1).trans rfl
                  have hcz34_2 : wc.cell? ⟨gb203, 2, none⟩ = some (.int .i64 a1_2) := (blk_cell BK203.out 2).trans rfl
                  have hcz34_3 : wc.cell? ⟨gb203, 3, none⟩ = some (.int .i64 a1_3) := (blk_cell BK203.out 3).trans rfl
                  have hcz34_4 : wc.cell? ⟨gb203, 4, none⟩ = some (.int .i64 a1_4) := (blk_cell BK203.out 4).trans rfl
                  have hcz34_5 : wc.cell? ⟨gb203, 5, none⟩ = some (.int .i64 a1_5) := (blk_cell BK203.out 5).trans rfl
                  have hcz34_6 : wc.cell? ⟨gb203, 6, none⟩ = some (.int .i64 a1_6) := (blk_cell BK203.out 6).trans rfl
                  have hfz34_0 := blk_frozen BK203.out 0
                  have hfz34_1 := blk_frozen BK203.out 1
                  have hfz34_2 := blk_frozen BK203.out 2
                  have hfz34_3 := blk_frozen BK203.out 3
                  have hfz34_4 := blk_frozen BK203.out 4
                  have hfz34_5 := blk_frozen BK203.out 5
                  have hfz34_6 := blk_frozen BK203.out 6
                  go_wp2
                  repeat (go_quiet (fail); try go_wp2)
                  go_ret
                  exact ⟨by first | rfl | (simp [errW_none, errW_some] <;> rfl) | (simp [*, errW_none, errW_some] <;> rfl), by repeat (first | (with_reducible first | exact HB.out | apply below_alloc | apply pw_below_drewN | apply below_drew1 | refine below_set ?_ GE203.out) | exact HB.out)⟩
              · rw [if_neg c31] at H
                have c31b0 : ((l0.length : Int) == 0) = false := beq_eq_false_iff_ne.mpr c31
                have c31b1 : ((l0.length : Int) != 0) = true := bne_iff_ne.mpr c31
                have c31b2 : ¬ (l0 = []) := fun h_ => c31 (by rw [h_]; rfl)
                replace H := Option.bind_eq_some_iff.mp H
                obtain ⟨⟨t210, t211⟩, A350, H⟩ := H
                replace H : (if 0 ≤ (wrap64 ((l0.length : Int) - 1)) then (if (wrap64 ((l0.length : Int) - 1)) < (l0.length : Int) then ((heraldref1_Order.f kj19 ((rd_T74 l0 (wrap64 ((l0.length : Int) - 1))).f0) a1_0).bind fun t213 => (if t211 = 0 then (if t213 ≥ 0 then (some false) else ((heraldref4_find.f kj19 l0 t210).bind fun t214 => (if t214 ≥ 0 then (if 0 ≤ t214 then (if t214 < (l0.length : Int) then (some (((rd_T74 l0 t214).f5) == 0)) else (none)) else (none)) else (some false)))) else (some false))) else (none)) else (none)) = some r := H
                have A35 := Aside0.mk A350
                clear A350
                obtain ⟨ji36, hji36⟩ : ∃ j_ : Int, (wrap64 ((l0.length : Int) - 1)) = j_ := ⟨_, rfl⟩
                replace H : (if 0 ≤ (ji36) then (if (ji36) < (l0.length : Int) then ((heraldref1_Order.f kj19 ((rd_T74 l0 (ji36)).f0) a1_0).bind fun t213 => (if t211 = 0 then (if t213 ≥ 0 then (some false) else ((heraldref4_find.f kj19 l0 t210).bind fun t214 => (if t214 ≥ 0 then (if 0 ≤ t214 then (if t214 < (l0.length : Int) then (some (((rd_T74 l0 t214).f5) == 0)) else (none)) else (none)) else (some false)))) else (some false))) else (none)) else (none)) = some r := by first | (rw [hji36] at H; exact H) | (simp only [hji36] at H ⊢; exact H)
                (try rw [hji36] at A35)
                have hji36w : (IntKind.i64.wrap ((l0.length : Int) - 1)) = ji36 := (i64_w _).trans hji36
                by_cases c37 : 0 ≤ (ji36)
                · rw [if_pos c37] at H
                  have c37b0 : decide (0 ≤ (ji36)) = true := decide_eq_true c37
                  clear c37
                  by_cases c38 : (ji36) < (l0.length : Int)
                  · rw [if_pos c38] at H
                    have c38b0 : decide ((ji36) < (l0.length : Int)) = true := decide_eq_true c38
                    clear c38
                    replace H := Option.bind_eq_some_iff.mp H
                    obtain ⟨t213, A390, H⟩ := H
                    replace H : (if t211 = 0 then (if t213 ≥ 0 then (some false) else ((heraldref4_find.f kj19 l0 t210).bind fun t214 => (if t214 ≥ 0 then (if 0 ≤ t214 then (if t214 < (l0.length : Int) then (some (((rd_T74 l0 t214).f5) == 0)) else (none)) else (none)) else (some false)))) else (some false)) = some r := H
                    have A39 := Aside0.mk A390
                    clear A390
                    by_cases c40 : t211 = 0
                    · rw [if_pos c40] at H
                      have c40b0 : (t211 == 0) = true := beq_iff_eq.mpr c40
                      have c40b1 : (t211 != 0) = false := bne_eq_false_iff_eq.mpr c40
                      clear c40
                      by_cases c41 : t213 ≥ 0
                      · rw [if_pos c41] at H
                        have c41b0 : decide (0 ≤ t213) = true := decide_eq_true c41
                        clear c41
                        obtain rfl := Option.some.inj H
                        have hcz42_0 : wc.cell? ⟨gb203, 0, none⟩ = some (.string a1_0) := (blk_cell BK203.out 0).trans rfl
                        have hcz42_1 : wc.cell? ⟨gb203, 1, none⟩ = some (.string a1_1) := (blk_cell BK203.out 1).trans rfl
                        have hcz42_2 : wc.cell? ⟨gb203, 2, none⟩ = some (.int .i64 a1_2) := (blk_cell BK203.out 2).trans rfl
                        have hcz42_3 : wc.cell? ⟨gb203, 3, none⟩ = some (.int .i64 a1_3) := (blk_cell BK203.out 3).trans rfl
                        have hcz42_4 : wc.cell? ⟨gb203, 4, none⟩ = some (.int .i64 a1_4) := (blk_cell BK203.out 4).trans rfl
                        have hcz42_5 : wc.cell? ⟨gb203, 5, none⟩ = some (.int .i64 a1_5) := (blk_cell BK203.out 5).trans rfl
                        have hcz42_6 : wc.cell? ⟨gb203, 6, none⟩ = some (.int .i64 a1_6) := (blk_cell BK203.out 6).trans rfl
                        have hfz42_0 := blk_frozen BK203.out 0
                        have hfz42_1 := blk_frozen BK203.out 1
                        have hfz42_2 := blk_frozen BK203.out 2
                        have hfz42_3 := blk_frozen BK203.out 3
                        have hfz42_4 := blk_frozen BK203.out 4
                        have hfz42_5 := blk_frozen BK203.out 5
                        have hfz42_6 := blk_frozen BK203.out 6
                        go_wp2_with (first | (go_at_call 105; (with_reducible refine (heraldref1_Parent.calls kj19 a1_0 t210 t211 _ A35.out).mono ?_); rintro e w43 ⟨rfl, hb⟩; have n0_ := Aside0.mk (blk_below (g := gb203) (o := .cells #[.string a1_0, .string a1_1, .int .i64 a1_2, .int .i64 a1_3, .int .i64 a1_4, .int .i64 a1_5, .int .i64 a1_6] 74 (0, 0)) (by (with_reducible repeat (first | refine blk_drewN ?_ _ | refine blk_drew ?_ | refine blk_alloc ?_ _)); exact BK203.out) hb); have n1_ := Aside0.mk (below_step (by repeat (first | (with_reducible first | exact HB.out | apply below_alloc | apply pw_below_drewN | apply below_drew1 | refine below_set ?_ GE203.out) | exact HB.out)) hb); clear BK203; clear HB; have BK203 := n0_; have HB := n1_; clear n0_ n1_; (try clear hb); (try clear hb2); (try clear hk); (try clear hi); have p212 : 0 ≤ ((ji36) : Int) := of_decide_eq_true (by first | (with_reducible assumption) | assumption); have q212 : (ji36) < (l0.length : Int) := of_decide_eq_true (by first | (with_reducible assumption) | assumption); obtain ⟨ad212, e212, hx212_0, hx212_1, hx212_2, hx212_3, hx212_4, hx212_5, hx212_6⟩ := at_T74 HR0.out (ji36) p212 q212; cases e212; replace hx212_0 := (HB.out.cell (World.block_lt_of_cell? w _ hx212_0)).trans hx212_0; replace hx212_1 := (HB.out.cell (World.block_lt_of_cell? w _ hx212_1)).trans hx212_1; replace hx212_2 := (HB.out.cell (World.block_lt_of_cell? w _ hx212_2)).trans hx212_2; replace hx212_3 := (HB.out.cell (World.block_lt_of_cell? w _ hx212_3)).trans hx212_3; replace hx212_4 := (HB.out.cell (World.block_lt_of_cell? w _ hx212_4)).trans hx212_4; replace hx212_5 := (HB.out.cell (World.block_lt_of_cell? w _ hx212_5)).trans hx212_5; replace hx212_6 := (HB.out.cell (World.block_lt_of_cell? w _ hx212_6)).trans hx212_6; replace p212 := eq_true p212; replace q212 := eq_true q212; have hcz44_0 : w43.cell? ⟨gb203, 0, none⟩ = some (.string a1_0) := (blk_cell BK203.out 0).trans rfl; have hcz44_1 : w43.cell? ⟨gb203, 1, none⟩ = some (.string a1_1) := (blk_cell BK203.out 1).trans rfl; have hcz44_2 : w43.cell? ⟨gb203, 2, none⟩ = some (.int .i64 a1_2) := (blk_cell BK203.out 2).trans rfl; have hcz44_3 : w43.cell? ⟨gb203, 3, none⟩ = some (.int .i64 a1_3) := (blk_cell BK203.out 3).trans rfl; have hcz44_4 : w43.cell? ⟨gb203, 4, none⟩ = some (.int .i64 a1_4) := (blk_cell BK203.out 4).trans rfl; have hcz44_5 : w43.cell? ⟨gb203, 5, none⟩ = some (.int .i64 a1_5) := (blk_cell BK203.out 5).trans rfl; have hcz44_6 : w43.cell? ⟨gb203, 6, none⟩ = some (.int .i64 a1_6) := (blk_cell BK203.out 6).trans rfl; have hfz44_0 := blk_frozen BK203.out 0; have hfz44_1 := blk_frozen BK203.out 1; have hfz44_2 := blk_frozen BK203.out 2; have hfz44_3 := blk_frozen BK203.out 3; have hfz44_4 := blk_frozen BK203.out 4; have hfz44_5 := blk_frozen BK203.out 5; have hfz44_6 := blk_frozen BK203.out 6) | (go_at_call 63; (with_reducible refine (heraldref1_Order.calls kj19 ((rd_T74 l0 (ji36)).f0) a1_0 t213 _ A39.out).mono ?_); rintro e w' ⟨rfl, ⟨nd, rfl⟩⟩; (try first | exact ⟨rfl, _, World.drewN_drewN _ _ _⟩ | exact ⟨rfl, _, Eq.trans (World.drewN_drewN _ _ _) (congrArg (World.drewN _) (Nat.add_assoc _ _ _))⟩)))
                        repeat (go_quiet (first | (go_at_call 105; (with_reducible refine (heraldref1_Parent.calls kj19 a1_0 t210 t211 _ A35.out).mono ?_); rintro e w43 ⟨rfl, hb⟩; have n0_ := Aside0.mk (blk_below (g := gb203) (o := .cells #[.string a1_0, .string a1_1, .int .i64 a1_2, .int .i64 a1_3, .int .i64 a1_4, .int .i64 a1_5, .int .i64 a1_6] 74 (0, 0)) (by (with_reducible repeat (first | refine blk_drewN ?_ _ | refine blk_drew ?_ | refine blk_alloc ?_ _)); exact BK203.out) hb); have n1_ := Aside0.mk (below_step (by repeat (first | (with_reducible first | exact HB.out | apply below_alloc | apply pw_below_drewN | apply below_drew1 | refine below_set ?_ GE203.out) | exact HB.out)) hb); clear BK203; clear HB; have BK203 := n0_; have HB := n1_; clear n0_ n1_; (try clear hb); (try clear hb2); (try clear hk); (try clear hi); have p212 : 0 ≤ ((ji36) : Int) := of_decide_eq_true (by first | (with_reducible assumption) | assumption); have q212 : (ji36) < (l0.length : Int) := of_decide_eq_true (by first | (with_reducible assumption) | assumption); obtain ⟨ad212, e212, hx212_0, hx212_1, hx212_2, hx212_3, hx212_4, hx212_5, hx212_6⟩ := at_T74 HR0.out (ji36) p212 q212; cases e212; replace hx212_0 := (HB.out.cell (World.block_lt_of_cell? w _ hx212_0)).trans hx212_0; replace hx212_1 := (HB.out.cell (World.block_lt_of_cell? w _ hx212_1)).trans hx212_1; replace hx212_2 := (HB.out.cell (World.block_lt_of_cell? w _ hx212_2)).trans hx212_2; replace hx212_3 := (HB.out.cell (World.block_lt_of_cell? w _ hx212_3)).trans hx212_3; replace hx212_4 := (HB.out.cell (World.block_lt_of_cell? w _ hx212_4)).trans hx212_4; replace hx212_5 := (HB.out.cell (World.block_lt_of_cell? w _ hx212_5)).trans hx212_5; replace hx212_6 := (HB.out.cell (World.block_lt_of_cell? w _ hx212_6)).trans hx212_6; replace p212 := eq_true p212; replace q212 := eq_true q212; have hcz44_0 : w43.cell? ⟨gb203, 0, none⟩ = some (.string a1_0) := (blk_cell BK203.out 0).trans rfl; have hcz44_1 : w43.cell? ⟨gb203, 1, none⟩ = some (.string a1_1) := (blk_cell BK203.out 1).trans rfl; have hcz44_2 : w43.cell? ⟨gb203, 2, none⟩ = some (.int .i64 a1_2) := (blk_cell BK203.out 2).trans rfl; have hcz44_3 : w43.cell? ⟨gb203, 3, none⟩ = some (.int .i64 a1_3) := (blk_cell BK203.out 3).trans rfl; have hcz44_4 : w43.cell? ⟨gb203, 4, none⟩ = some (.int .i64 a1_4) := (blk_cell BK203.out 4).trans rfl; have hcz44_5 : w43.cell? ⟨gb203, 5, none⟩ = some (.int .i64 a1_5) := (blk_cell BK203.out 5).trans rfl; have hcz44_6 : w43.cell? ⟨gb203, 6, none⟩ = some (.int .i64 a1_6) := (blk_cell BK203.out 6).trans rfl; have hfz44_0 := blk_frozen BK203.out 0; have hfz44_1 := blk_frozen BK203.out 1; have hfz44_2 := blk_frozen BK203.out 2; have hfz44_3 := blk_frozen BK203.out 3; have hfz44_4 := blk_frozen BK203.out 4; have hfz44_5 := blk_frozen BK203.out 5; have hfz44_6 := blk_frozen BK203.out 6) | (go_at_call 63; (with_reducible refine (heraldref1_Order.calls kj19 ((rd_T74 l0 (ji36)).f0) a1_0 t213 _ A39.out).mono ?_); rintro e w' ⟨rfl, ⟨nd, rfl⟩⟩; (try first | exact ⟨rfl, _, World.drewN_drewN _ _ _⟩ | exact ⟨rfl, _, Eq.trans (World.drewN_drewN _ _ _) (congrArg (World.drewN _) (Nat.add_assoc _ _ _))⟩))); try go_wp2_with (first | (go_at_call 105; (with_reducible refine (heraldref1_Parent.calls kj19 a1_0 t210 t211 _ A35.out).mono ?_); rintro e w43 ⟨rfl, hb⟩; have n0_ := Aside0.mk (blk_below (g := gb203) (o := .cells #[.string a1_0, .string a1_1, .int .i64 a1_2, .int .i64 a1_3, .int .i64 a1_4, .int .i64 a1_5, .int .i64 a1_6] 74 (0, 0)) (by (with_reducible repeat (first | refine blk_drewN ?_ _ | refine blk_drew ?_ | refine blk_alloc ?_ _)); exact BK203.out) hb); have n1_ := Aside0.mk (below_step (by repeat (first | (with_reducible first | exact HB.out | apply below_alloc | apply pw_below_drewN | apply below_drew1 | refine below_set ?_ GE203.out) | exact HB.out)) hb); clear BK203; clear HB; have BK203 := n0_; have HB := n1_; clear n0_ n1_; (try clear hb); (try clear hb2); (try clear hk); (try clear hi); have p212 : 0 ≤ ((ji36) : Int) := of_decide_eq_true (by first | (with_reducible assumption) | assumption); have q212 : (ji36) < (l0.length : Int) := of_decide_eq_true (by first | (with_reducible assumption) | assumption); obtain ⟨ad212, e212, hx212_0, hx212_1, hx212_2, hx212_3, hx212_4, hx212_5, hx212_6⟩ := at_T74 HR0.out (ji36) p212 q212; cases e212; replace hx212_0 := (HB.out.cell (World.block_lt_of_cell? w _ hx212_0)).trans hx212_0; replace hx212_1 := (HB.out.cell (World.block_lt_of_cell? w _ hx212_1)).trans hx212_1; replace hx212_2 := (HB.out.cell (World.block_lt_of_cell? w _ hx212_2)).trans hx212_2; replace hx212_3 := (HB.out.cell (World.block_lt_of_cell? w _ hx212_3)).trans hx212_3; replace hx212_4 := (HB.out.cell (World.block_lt_of_cell? w _ hx212_4)).trans hx212_4; replace hx212_5 := (HB.out.cell (World.block_lt_of_cell? w _ hx212_5)).trans hx212_5; replace hx212_6 := (HB.out.cell (World.block_lt_of_cell? w _ hx212_6)).trans hx212_6; replace p212 := eq_true p212; replace q212 := eq_true q212; have hcz44_0 : w43.cell? ⟨gb203, 0, none⟩ = some (.string a1_0) := (blk_cell BK203.out 0).trans rfl; have hcz44_1 : w43.cell? ⟨gb203, 1, none⟩ = some (.string a1_1) := (blk_cell BK203.out 1).trans rfl; have hcz44_2 : w43.cell? ⟨gb203, 2, none⟩ = some (.int .i64 a1_2) := (blk_cell BK203.out 2).trans rfl; have hcz44_3 : w43.cell? ⟨gb203, 3, none⟩ = some (.int .i64 a1_3) := (blk_cell BK203.out 3).trans rfl; have hcz44_4 : w43.cell? ⟨gb203, 4, none⟩ = some (.int .i64 a1_4) := (blk_cell BK203.out 4).trans rfl; have hcz44_5 : w43.cell? ⟨gb203, 5, none⟩ = some (.int .i64 a1_5) := (blk_cell BK203.out 5).trans rfl; have hcz44_6 : w43.cell? ⟨gb203, 6, none⟩ = some (.int .i64 a1_6) := (blk_cell BK203.out 6).trans rfl; have hfz44_0 := blk_frozen BK203.out 0; have hfz44_1 := blk_frozen BK203.out 1; have hfz44_2 := blk_frozen BK203.out 2; have hfz44_3 := blk_frozen BK203.out 3; have hfz44_4 := blk_frozen BK203.out 4; have hfz44_5 := blk_frozen BK203.out 5; have hfz44_6 := blk_frozen BK203.out 6) | (go_at_call 63; (with_reducible refine (heraldref1_Order.calls kj19 ((rd_T74 l0 (ji36)).f0) a1_0 t213 _ A39.out).mono ?_); rintro e w' ⟨rfl, ⟨nd, rfl⟩⟩; (try first | exact ⟨rfl, _, World.drewN_drewN _ _ _⟩ | exact ⟨rfl, _, Eq.trans (World.drewN_drewN _ _ _) (congrArg (World.drewN _) (Nat.add_assoc _ _ _))⟩))))
                        go_ret
                        exact ⟨by first | rfl | (simp [errW_none, errW_some] <;> rfl) | (simp only [← hji36]; first | rfl | (simp [errW_none, errW_some] <;> rfl)) | (simp [*, errW_none, errW_some] <;> rfl), by repeat (first | (with_reducible first | exact HB.out | apply below_alloc | apply pw_below_drewN | apply below_drew1 | refine below_set ?_ GE203.out) | exact HB.out)⟩
                      · rw [if_neg c41] at H
                        have c41b0 : decide (0 ≤ t213) = false := decide_eq_false c41
                        clear c41
                        replace H := Option.bind_eq_some_iff.mp H
                        obtain ⟨t214, A450, H⟩ := H
                        replace H : (if t214 ≥ 0 then (if 0 ≤ t214 then (if t214 < (l0.length : Int) then (some (((rd_T74 l0 t214).f5) == 0)) else (none)) else (none)) else (some false)) = some r := H
                        have A45 := Aside0.mk A450
                        clear A450
                        by_cases c46 : t214 ≥ 0
                        · rw [if_pos c46] at H
                          have c46b0 : decide (0 ≤ t214) = true := decide_eq_true c46
                          clear c46
                          by_cases c47 : 0 ≤ t214
                          · rw [if_pos c47] at H
                            have c47b0 : decide (0 ≤ t214) = true := decide_eq_true c47
                            clear c47
                            by_cases c48 : t214 < (l0.length : Int)
                            · rw [if_pos c48] at H
                              have c48b0 : decide (t214 < (l0.length : Int)) = true := decide_eq_true c48
                              clear c48
                              obtain rfl := Option.some.inj H
                              have hcz49_0 : wc.cell? ⟨gb203, 0, none⟩ = some (.string a1_0) := (blk_cell BK203.out 0).trans rfl
                              have hcz49_1 : wc.cell? ⟨gb203, 1, none⟩ = some (.string a1_1) := (blk_cell BK203.out 1).trans rfl
                              have hcz49_2 : wc.cell? ⟨gb203, 2, none⟩ = some (.int .i64 a1_2) := (blk_cell BK203.out 2).trans rfl
                              have hcz49_3 : wc.cell? ⟨gb203, 3, none⟩ = some (.int .i64 a1_3) := (blk_cell BK203.out 3).trans rfl
                              have hcz49_4 : wc.cell? ⟨gb203, 4, none⟩ = some (.int .i64 a1_4) := (blk_cell BK203.out 4).trans rfl
                              have hcz49_5 : wc.cell? ⟨gb203, 5, none⟩ = some (.int .i64 a1_5) := (blk_cell BK203.out 5).trans rfl
                              have hcz49_6 : wc.cell? ⟨gb203, 6, none⟩ = some (.int .i64 a1_6) := (blk_cell BK203.out 6).trans rfl
                              have hfz49_0 := blk_frozen BK203.out 0
                              have hfz49_1 := blk_frozen BK203.out 1
                              have hfz49_2 := blk_frozen BK203.out 2
                              have hfz49_3 := blk_frozen BK203.out 3
                              have hfz49_4 := blk_frozen BK203.out 4
                              have hfz49_5 := blk_frozen BK203.out 5
                              have hfz49_6 := blk_frozen BK203.out 6
                              go_wp2_with (first | (go_at_call 105; (with_reducible refine (heraldref1_Parent.calls kj19 a1_0 t210 t211 _ A35.out).mono ?_); rintro e w50 ⟨rfl, hb⟩; have n0_ := Aside0.mk (blk_below (g := gb203) (o := .cells #[.string a1_0, .string a1_1, .int .i64 a1_2, .int .i64 a1_3, .int .i64 a1_4, .int .i64 a1_5, .int .i64 a1_6] 74 (0, 0)) (by (with_reducible repeat (first | refine blk_drewN ?_ _ | refine blk_drew ?_ | refine blk_alloc ?_ _)); exact BK203.out) hb); have n1_ := Aside0.mk (below_step (by repeat (first | (with_reducible first | exact HB.out | apply below_alloc | apply pw_below_drewN | apply below_drew1 | refine below_set ?_ GE203.out) | exact HB.out)) hb); clear BK203; clear HB; have BK203 := n0_; have HB := n1_; clear n0_ n1_; (try clear hb); (try clear hb2); (try clear hk); (try clear hi); have p212 : 0 ≤ ((ji36) : Int) := of_decide_eq_true (by first | (with_reducible assumption) | assumption); have q212 : (ji36) < (l0.length : Int) := of_decide_eq_true (by first | (with_reducible assumption) | assumption); obtain ⟨ad212, e212, hx212_0, hx212_1, hx212_2, hx212_3, hx212_4, hx212_5, hx212_6⟩ := at_T74 HR0.out (ji36) p212 q212; cases e212; replace hx212_0 := (HB.out.cell (World.block_lt_of_cell? w _ hx212_0)).trans hx212_0; replace hx212_1 := (HB.out.cell (World.block_lt_of_cell? w _ hx212_1)).trans hx212_1; replace hx212_2 := (HB.out.cell (World.block_lt_of_cell? w _ hx212_2)).trans hx212_2; replace hx212_3 := (HB.out.cell (World.block_lt_of_cell? w _ hx212_3)).trans hx212_3; replace hx212_4 := (HB.out.cell (World.block_lt_of_cell? w _ hx212_4)).trans hx212_4; replace hx212_5 := (HB.out.cell (World.block_lt_of_cell? w _ hx212_5)).trans hx212_5; replace hx212_6 := (HB.out.cell (World.block_lt_of_cell? w _ hx212_6)).trans hx212_6; replace p212 := eq_true p212; replace q212 := eq_true q212; have hcz51_0 : w50.cell? ⟨gb203, 0, none⟩ = some (.string a1_0) := (blk_cell BK203.out 0).trans rfl; have hcz51_1 : w50.cell? ⟨gb203, 1, none⟩ = some (.string a1_1) := (blk_cell BK203.out 1).trans rfl; have hcz51_2 : w50.cell? ⟨gb203, 2, none⟩ = some (.int .i64 a1_2) := (blk_cell BK203.out 2).trans rfl; have hcz51_3 : w50.cell? ⟨gb203, 3, none⟩ = some (.int .i64 a1_3) := (blk_cell BK203.out 3).trans rfl; have hcz51_4 : w50.cell? ⟨gb203, 4, none⟩ = some (.int .i64 a1_4) := (blk_cell BK203.out 4).trans rfl; have hcz51_5 : w50.cell? ⟨gb203, 5, none⟩ = some (.int .i64 a1_5) := (blk_cell BK203.out 5).trans rfl; have hcz51_6 : w50.cell? ⟨gb203, 6, none⟩ = some (.int .i64 a1_6) := (blk_cell BK203.out 6).trans rfl; have hfz51_0 := blk_frozen BK203.out 0; have hfz51_1 := blk_frozen BK203.out 1; have hfz51_2 := blk_frozen BK203.out 2; have hfz51_3 := blk_frozen BK203.out 3; have hfz51_4 := blk_frozen BK203.out 4; have hfz51_5 := blk_frozen BK203.out 5; have hfz51_6 := blk_frozen BK203.out 6) | (go_at_call 63; (with_reducible refine (heraldref1_Order.calls kj19 ((rd_T74 l0 (ji36)).f0) a1_0 t213 _ A39.out).mono ?_); rintro e w' ⟨rfl, ⟨nd, rfl⟩⟩; (try first | exact ⟨rfl, _, World.drewN_drewN _ _ _⟩ | exact ⟨rfl, _, Eq.trans (World.drewN_drewN _ _ _) (congrArg (World.drewN _) (Nat.add_assoc _ _ _))⟩)) | (go_at_call 106; (with_reducible refine (heraldref4_find.calls kj19 _ _ l0 t210 t214 _ ?side1 ?side2 A45.out).mono ?_); (case side1 => repeat (first | exact (Kd.C_below HR0.out (by repeat (first | (with_reducible first | exact HB.out | apply below_alloc | apply pw_below_drewN | apply below_drew1 | refine below_set ?_ GE203.out) | exact HB.out))) | (with_reducible refine Kd.C_alloc ?_ _) | (with_reducible refine Kd.C_drewN ?_ _) | (with_reducible refine Kd.C_drew ?_))); (case side2 => exact HC0.out); rintro e w' ⟨rfl, ⟨nd, rfl⟩⟩; (try first | exact ⟨rfl, _, World.drewN_drewN _ _ _⟩ | exact ⟨rfl, _, Eq.trans (World.drewN_drewN _ _ _) (congrArg (World.drewN _) (Nat.add_assoc _ _ _))⟩); have p215 : 0 ≤ (t214 : Int) := of_decide_eq_true (by first | (with_reducible assumption) | assumption); have q215 : t214 < (l0.length : Int) := of_decide_eq_true (by first | (with_reducible assumption) | assumption); obtain ⟨ad215, e215, hx215_0, hx215_1, hx215_2, hx215_3, hx215_4, hx215_5, hx215_6⟩ := at_T74 HR0.out t214 p215 q215; obtain rfl : ad212 = ad215 := (by injection e215); replace hx215_0 := (HB.out.cell (World.block_lt_of_cell? w _ hx215_0)).trans hx215_0; replace hx215_1 := (HB.out.cell (World.block_lt_of_cell? w _ hx215_1)).trans hx215_1; replace hx215_2 := (HB.out.cell (World.block_lt_of_cell? w _ hx215_2)).trans hx215_2; replace hx215_3 := (HB.out.cell (World.block_lt_of_cell? w _ hx215_3)).trans hx215_3; replace hx215_4 := (HB.out.cell (World.block_lt_of_cell? w _ hx215_4)).trans hx215_4; replace hx215_5 := (HB.out.cell (World.block_lt_of_cell? w _ hx215_5)).trans hx215_5; replace hx215_6 := (HB.out.cell (World.block_lt_of_cell? w _ hx215_6)).trans hx215_6; replace p215 := eq_true p215; replace q215 := eq_true q215))
                              repeat (go_quiet (first | (go_at_call 105; (with_reducible refine (heraldref1_Parent.calls kj19 a1_0 t210 t211 _ A35.out).mono ?_); rintro e w50 ⟨rfl, hb⟩; have n0_ := Aside0.mk (blk_below (g := gb203) (o := .cells #[.string a1_0, .string a1_1, .int .i64 a1_2, .int .i64 a1_3, .int .i64 a1_4, .int .i64 a1_5, .int .i64 a1_6] 74 (0, 0)) (by (with_reducible repeat (first | refine blk_drewN ?_ _ | refine blk_drew ?_ | refine blk_alloc ?_ _)); exact BK203.out) hb); have n1_ := Aside0.mk (below_step (by repeat (first | (with_reducible first | exact HB.out | apply below_alloc | apply pw_below_drewN | apply below_drew1 | refine below_set ?_ GE203.out) | exact HB.out)) hb); clear BK203; clear HB; have BK203 := n0_; have HB := n1_; clear n0_ n1_; (try clear hb); (try clear hb2); (try clear hk); (try clear hi); have p212 : 0 ≤ ((ji36) : Int) := of_decide_eq_true (by first | (with_reducible assumption) | assumption); have q212 : (ji36) < (l0.length : Int) := of_decide_eq_true (by first | (with_reducible assumption) | assumption); obtain ⟨ad212, e212, hx212_0, hx212_1, hx212_2, hx212_3, hx212_4, hx212_5, hx212_6⟩ := at_T74 HR0.out (ji36) p212 q212; cases e212; replace hx212_0 := (HB.out.cell (World.block_lt_of_cell? w _ hx212_0)).trans hx212_0; replace hx212_1 := (HB.out.cell (World.block_lt_of_cell? w _ hx212_1)).trans hx212_1; replace hx212_2 := (HB.out.cell (World.block_lt_of_cell? w _ hx212_2)).trans hx212_2; replace hx212_3 := (HB.out.cell (World.block_lt_of_cell? w _ hx212_3)).trans hx212_3; replace hx212_4 := (HB.out.cell (World.block_lt_of_cell? w _ hx212_4)).trans hx212_4; replace hx212_5 := (HB.out.cell (World.block_lt_of_cell? w _ hx212_5)).trans hx212_5; replace hx212_6 := (HB.out.cell (World.block_lt_of_cell? w _ hx212_6)).trans hx212_6; replace p212 := eq_true p212; replace q212 := eq_true q212; have hcz51_0 : w50.cell? ⟨gb203, 0, none⟩ = some (.string a1_0) := (blk_cell BK203.out 0).trans rfl; have hcz51_1 : w50.cell? ⟨gb203, 1, none⟩ = some (.string a1_1) := (blk_cell BK203.out 1).trans rfl; have hcz51_2 : w50.cell? ⟨gb203, 2, none⟩ = some (.int .i64 a1_2) := (blk_cell BK203.out 2).trans rfl; have hcz51_3 : w50.cell? ⟨gb203, 3, none⟩ = some (.int .i64 a1_3) := (blk_cell BK203.out 3).trans rfl; have hcz51_4 : w50.cell? ⟨gb203, 4, none⟩ = some (.int .i64 a1_4) := (blk_cell BK203.out 4).trans rfl; have hcz51_5 : w50.cell? ⟨gb203, 5, none⟩ = some (.int .i64 a1_5) := (blk_cell BK203.out 5).trans rfl; have hcz51_6 : w50.cell? ⟨gb203, 6, none⟩ = some (.int .i64 a1_6) := (blk_cell BK203.out 6).trans rfl; have hfz51_0 := blk_frozen BK203.out 0; have hfz51_1 := blk_frozen BK203.out 1; have hfz51_2 := blk_frozen BK203.out 2; have hfz51_3 := blk_frozen BK203.out 3; have hfz51_4 := blk_frozen BK203.out 4; have hfz51_5 := blk_frozen BK203.out 5; have hfz51_6 := blk_frozen BK203.out 6) | (go_at_call 63; (with_reducible refine (heraldref1_Order.calls kj19 ((rd_T74 l0 (ji36)).f0) a1_0 t213 _ A39.out).mono ?_); rintro e w' ⟨rfl, ⟨nd, rfl⟩⟩; (try first | exact ⟨rfl, _, World.drewN_drewN _ _ _⟩ | exact ⟨rfl, _, Eq.trans (World.drewN_drewN _ _ _) (congrArg (World.drewN _) (Nat.add_assoc _ _ _))⟩)) | (go_at_call 106; (with_reducible refine (heraldref4_find.calls kj19 _ _ l0 t210 t214 _ ?side1 ?side2 A45.out).mono ?_); (case side1 => repeat (first | exact (Kd.C_below HR0.out (by repeat (first | (with_reducible first | exact HB.out | apply below_alloc | apply pw_below_drewN | apply below_drew1 | refine below_set ?_ GE203.out) | exact HB.out))) | (with_reducible refine Kd.C_alloc ?_ _) | (with_reducible refine Kd.C_drewN ?_ _) | (with_reducible refine Kd.C_drew ?_))); (case side2 => exact HC0.out); rintro e w' ⟨rfl, ⟨nd, rfl⟩⟩; (try first | exact ⟨rfl, _, World.drewN_drewN _ _ _⟩ | exact ⟨rfl, _, Eq.trans (World.drewN_drewN _ _ _) (congrArg (World.drewN _) (Nat.add_assoc _ _ _))⟩); have p215 : 0 ≤ (t214 : Int) := of_decide_eq_true (by first | (with_reducible assumption) | assumption); have q215 : t214 < (l0.length : Int) := of_decide_eq_true (by first | (with_reducible assumption) | assumption); obtain ⟨ad215, e215, hx215_0, hx215_1, hx215_2, hx215_3, hx215_4, hx215_5, hx215_6⟩ := at_T74 HR0.out t214 p215 q215; obtain rfl : ad212 = ad215 := (by injection e215); replace hx215_0 := (HB.out.cell (World.block_lt_of_cell? w _ hx215_0)).trans hx215_0; replace hx215_1 := (HB.out.cell (World.block_lt_of_cell? w _ hx215_1)).trans hx215_1; replace hx215_2 := (HB.out.cell (World.block_lt_of_cell? w _ hx215_2)).trans hx215_2; replace hx215_3 := (HB.out.cell (World.block_lt_of_cell? w _ hx215_3)).trans hx215_3; replace hx215_4 := (HB.out.cell (World.block_lt_of_cell? w _ hx215_4)).trans hx215_4; replace hx215_5 := (HB.out.cell (World.block_lt_of_cell? w _ hx215_5)).trans hx215_5; replace hx215_6 := (HB.out.cell (World.block_lt_of_cell? w _ hx215_6)).trans hx215_6; replace p215 := eq_true p215; replace q215 := eq_true q215)); try go_wp2_with (first | (go_at_call 105; (with_reducible refine (heraldref1_Parent.calls kj19 a1_0 t210 t211 _ A35.out).mono ?_); rintro e w50 ⟨rfl, hb⟩; have n0_ := Aside0.mk (blk_below (g := gb203) (o := .cells #[.string a1_0, .string a1_1, .int .i64 a1_2, .int .i64 a1_3, .int .i64 a1_4, .int .i64 a1_5, .int .i64 a1_6] 74 (0, 0)) (by (with_reducible repeat (first | refine blk_drewN ?_ _ | refine blk_drew ?_ | refine blk_alloc ?_ _)); exact BK203.out) hb); have n1_ := Aside0.mk (below_step (by repeat (first | (with_reducible first | exact HB.out | apply below_alloc | apply pw_below_drewN | apply below_drew1 | refine below_set ?_ GE203.out) | exact HB.out)) hb); clear BK203; clear HB; have BK203 := n0_; have HB := n1_; clear n0_ n1_; (try clear hb); (try clear hb2); (try clear hk); (try clear hi); have p212 : 0 ≤ ((ji36) : Int) := of_decide_eq_true (by first | (with_reducible assumption) | assumption); have q212 : (ji36) < (l0.length : Int) := of_decide_eq_true (by first | (with_reducible assumption) | assumption); obtain ⟨ad212, e212, hx212_0, hx212_1, hx212_2, hx212_3, hx212_4, hx212_5, hx212_6⟩ := at_T74 HR0.out (ji36) p212 q212; cases e212; replace hx212_0 := (HB.out.cell (World.block_lt_of_cell? w _ hx212_0)).trans hx212_0; replace hx212_1 := (HB.out.cell (World.block_lt_of_cell? w _ hx212_1)).trans hx212_1; replace hx212_2 := (HB.out.cell (World.block_lt_of_cell? w _ hx212_2)).trans hx212_2; replace hx212_3 := (HB.out.cell (World.block_lt_of_cell? w _ hx212_3)).trans hx212_3; replace hx212_4 := (HB.out.cell (World.block_lt_of_cell? w _ hx212_4)).trans hx212_4; replace hx212_5 := (HB.out.cell (World.block_lt_of_cell? w _ hx212_5)).trans hx212_5; replace hx212_6 := (HB.out.cell (World.block_lt_of_cell? w _ hx212_6)).trans hx212_6; replace p212 := eq_true p212; replace q212 := eq_true q212; have hcz51_0 : w50.cell? ⟨gb203, 0, none⟩ = some (.string a1_0) := (blk_cell BK203.out 0).trans rfl; have hcz51_1 : w50.cell? ⟨gb203, 1, none⟩ = some (.string a1_1) := (blk_cell BK203.out 1).trans rfl; have hcz51_2 : w50.cell? ⟨gb203, 2, none⟩ = some (.int .i64 a1_2) := (blk_cell BK203.out 2).trans rfl; have hcz51_3 : w50.cell? ⟨gb203, 3, none⟩ = some (.int .i64 a1_3) := (blk_cell BK203.out 3).trans rfl; have hcz51_4 : w50.cell? ⟨gb203, 4, none⟩ = some (.int .i64 a1_4) := (blk_cell BK203.out 4).trans rfl; have hcz51_5 : w50.cell? ⟨gb203, 5, none⟩ = some (.int .i64 a1_5) := (blk_cell BK203.out 5).trans rfl; have hcz51_6 : w50.cell? ⟨gb203, 6, none⟩ = some (.int .i64 a1_6) := (blk_cell BK203.out 6).trans rfl; have hfz51_0 := blk_frozen BK203.out 0; have hfz51_1 := blk_frozen BK203.out 1; have hfz51_2 := blk_frozen BK203.out 2; have hfz51_3 := blk_frozen BK203.out 3; have hfz51_4 := blk_frozen BK203.out 4; have hfz51_5 := blk_frozen BK203.out 5; have hfz51_6 := blk_frozen BK203.out 6) | (go_at_call 63; (with_reducible refine (heraldref1_Order.calls kj19 ((rd_T74 l0 (ji36)).f0) a1_0 t213 _ A39.out).mono ?_); rintro e w' ⟨rfl, ⟨nd, rfl⟩⟩; (try first | exact ⟨rfl, _, World.drewN_drewN _ _ _⟩ | exact ⟨rfl, _, Eq.trans (World.drewN_drewN _ _ _) (congrArg (World.drewN _) (Nat.add_assoc _ _ _))⟩)) | (go_at_call 106; (with_reducible refine (heraldref4_find.calls kj19 _ _ l0 t210 t214 _ ?side1 ?side2 A45.out).mono ?_); (case side1 => repeat (first | exact (Kd.C_below HR0.out (by repeat (first | (with_reducible first | exact HB.out | apply below_alloc | apply pw_below_drewN | apply below_drew1 | refine below_set ?_ GE203.out) | exact HB.out))) | (with_reducible refine Kd.C_alloc ?_ _) | (with_reducible refine Kd.C_drewN ?_ _) | (with_reducible refine Kd.C_drew ?_))); (case side2 => exact HC0.out); rintro e w' ⟨rfl, ⟨nd, rfl⟩⟩; (try first | exact ⟨rfl, _, World.drewN_drewN _ _ _⟩ | exact ⟨rfl, _, Eq.trans (World.drewN_drewN _ _ _) (congrArg (World.drewN _) (Nat.add_assoc _ _ _))⟩); have p215 : 0 ≤ (t214 : Int) := of_decide_eq_true (by first | (with_reducible assumption) | assumption); have q215 : t214 < (l0.length : Int) := of_decide_eq_true (by first | (with_reducible assumption) | assumption); obtain ⟨ad215, e215, hx215_0, hx215_1, hx215_2, hx215_3, hx215_4, hx215_5, hx215_6⟩ := at_T74 HR0.out t214 p215 q215; obtain rfl : ad212 = ad215 := (by injection e215); replace hx215_0 := (HB.out.cell (World.block_lt_of_cell? w _ hx215_0)).trans hx215_0; replace hx215_1 := (HB.out.cell (World.block_lt_of_cell? w _ hx215_1)).trans hx215_1; replace hx215_2 := (HB.out.cell (World.block_lt_of_cell? w _ hx215_2)).trans hx215_2; replace hx215_3 := (HB.out.cell (World.block_lt_of_cell? w _ hx215_3)).trans hx215_3; replace hx215_4 := (HB.out.cell (World.block_lt_of_cell? w _ hx215_4)).trans hx215_4; replace hx215_5 := (HB.out.cell (World.block_lt_of_cell? w _ hx215_5)).trans hx215_5; replace hx215_6 := (HB.out.cell (World.block_lt_of_cell? w _ hx215_6)).trans hx215_6; replace p215 := eq_true p215; replace q215 := eq_true q215)))
                              go_ret
                              exact ⟨by first | rfl | (simp [errW_none, errW_some] <;> rfl) | (simp only [← hji36]; first | rfl | (simp [errW_none, errW_some] <;> rfl)) | (simp [*, errW_none, errW_some] <;> rfl), by repeat (first | (with_reducible first | exact HB.out | apply below_alloc | apply pw_below_drewN | apply below_drew1 | refine below_set ?_ GE203.out) | exact HB.out)⟩
                            · rw [if_neg c48] at H
                              exact absurd H (by simp)
                          · rw [if_neg c47] at H
                            exact absurd H (by simp)
                        · rw [if_neg c46] at H
                          have c46b0 : decide (0 ≤ t214) = false := decide_eq_false c46
                          clear c46
                          obtain rfl := Option.some.inj H
                          have hcz52_0 : wc.cell? ⟨gb203, 0, none⟩ = some (.string a1_0) := (blk_cell BK203.out 0).trans rfl
                          have hcz52_1 : wc.cell? ⟨gb203, 1, none⟩ = some (.string a1_1) := (blk_cell BK203.out 1).trans rfl
                          have hcz52_2 : wc.cell? ⟨gb203, 2, none⟩ = some (.int .i64 a1_2) := (blk_cell BK203.out 2).trans rfl
                          have hcz52_3 : wc.cell? ⟨gb203, 3, none⟩ = some (.int .i64 a1_3) := (blk_cell BK203.out 3).trans rfl
                          have hcz52_4 : wc.cell? ⟨gb203, 4, none⟩ = some (.int .i64 a1_4) := (blk_cell BK203.out 4).trans rfl
                          have hcz52_5 : wc.cell? ⟨gb203, 5, none⟩ = some (.int .i64 a1_5) := (blk_cell BK203.out 5).trans rfl
                          have hcz52_6 : wc.cell? ⟨gb203, 6, none⟩ = some (.int .i64 a1_6) := (blk_cell BK203.out 6).trans rfl
                          have hfz52_0 := blk_frozen BK203.out 0
                          have hfz52_1 := blk_frozen BK203.out 1
                          have hfz52_2 := blk_frozen BK203.out 2
                          have hfz52_3 := blk_frozen BK203.out 3
                          have hfz52_4 := blk_frozen BK203.out 4
                          have hfz52_5 := blk_frozen BK203.out 5
                          have hfz52_6 := blk_frozen BK203.out 6
                          go_wp2_with (first | (go_at_call 105; (with_reducible refine (heraldref1_Parent.calls kj19 a1_0 t210 t211 _ A35.out).mono ?_); rintro e w53 ⟨rfl, hb⟩; have n0_ := Aside0.mk (blk_below (g := gb203) (o := .cells #[.string a1_0, .string a1_1, .int .i64 a1_2, .int .i64 a1_3, .int .i64 a1_4, .int .i64 a1_5, .int .i64 a1_6] 74 (0, 0)) (by (with_reducible repeat (first | refine blk_drewN ?_ _ | refine blk_drew ?_ | refine blk_alloc ?_ _)); exact BK203.out) hb); have n1_ := Aside0.mk (below_step (by repeat (first | (with_reducible first | exact HB.out | apply below_alloc | apply pw_below_drewN | apply below_drew1 | refine below_set ?_ GE203.out) | exact HB.out)) hb); clear BK203; clear HB; have BK203 := n0_; have HB := n1_; clear n0_ n1_; (try clear hb); (try clear hb2); (try clear hk); (try clear hi); have p212 : 0 ≤ ((ji36) : Int) := of_decide_eq_true (by first | (with_reducible assumption) | assumption); have q212 : (ji36) < (l0.length : Int) := of_decide_eq_true (by first | (with_reducible assumption) | assumption); obtain ⟨ad212, e212, hx212_0, hx212_1, hx212_2, hx212_3, hx212_4, hx212_5, hx212_6⟩ := at_T74 HR0.out (ji36) p212 q212; cases e212; replace hx212_0 := (HB.out.cell (World.block_lt_of_cell? w _ hx212_0)).trans hx212_0; replace hx212_1 := (HB.out.cell (World.block_lt_of_cell? w _ hx212_1)).trans hx212_1; replace hx212_2 := (HB.out.cell (World.block_lt_of_cell? w _ hx212_2)).trans hx212_2; replace hx212_3 := (HB.out.cell (World.block_lt_of_cell? w _ hx212_3)).trans hx212_3; replace hx212_4 := (HB.out.cell (World.block_lt_of_cell? w _ hx212_4)).trans hx212_4; replace hx212_5 := (HB.out.cell (World.block_lt_of_cell? w _ hx212_5)).trans hx212_5; replace hx212_6 := (HB.out.cell (World.block_lt_of_cell? w _ hx212_6)).trans hx212_6; replace p212 := eq_true p212; replace q212 := eq_true q212; have hcz54_0 : w53.cell? ⟨gb203, 0, none⟩ = some (.string a1_0) := (blk_cell BK203.out 0).trans rfl; have hcz54_1 : w53.cell? ⟨gb203, 1, none⟩ = some (.string a1_1) := (blk_cell BK203.out 1).trans rfl; have hcz54_2 : w53.cell? ⟨gb203, 2, none⟩ = some (.int .i64 a1_2) := (blk_cell BK203.out 2).trans rfl; have hcz54_3 : w53.cell? ⟨gb203, 3, none⟩ = some (.int .i64 a1_3) := (blk_cell BK203.out 3).trans rfl; have hcz54_4 : w53.cell? ⟨gb203, 4, none⟩ = some (.int .i64 a1_4) := (blk_cell BK203.out 4).trans rfl; have hcz54_5 : w53.cell? ⟨gb203, 5, none⟩ = some (.int .i64 a1_5) := (blk_cell BK203.out 5).trans rfl; have hcz54_6 : w53.cell? ⟨gb203, 6, none⟩ = some (.int .i64 a1_6) := (blk_cell BK203.out 6).trans rfl; have hfz54_0 := blk_frozen BK203.out 0; have hfz54_1 := blk_frozen BK203.out 1; have hfz54_2 := blk_frozen BK203.out 2; have hfz54_3 := blk_frozen BK203.out 3; have hfz54_4 := blk_frozen BK203.out 4; have hfz54_5 := blk_frozen BK203.out 5; have hfz54_6 := blk_frozen BK203.out 6) | (go_at_call 63; (with_reducible refine (heraldref1_Order.calls kj19 ((rd_T74 l0 (ji36)).f0) a1_0 t213 _ A39.out).mono ?_); rintro e w' ⟨rfl, ⟨nd, rfl⟩⟩; (try first | exact ⟨rfl, _, World.drewN_drewN _ _ _⟩ | exact ⟨rfl, _, Eq.trans (World.drewN_drewN _ _ _) (congrArg (World.drewN _) (Nat.add_assoc _ _ _))⟩)) | (go_at_call 106; (with_reducible refine (heraldref4_find.calls kj19 _ _ l0 t210 t214 _ ?side1 ?side2 A45.out).mono ?_); (case side1 => repeat (first | exact (Kd.C_below HR0.out (by repeat (first | (with_reducible first | exact HB.out | apply below_alloc | apply pw_below_drewN | apply below_drew1 | refine below_set ?_ GE203.out) | exact HB.out))) | (with_reducible refine Kd.C_alloc ?_ _) | (with_reducible refine Kd.C_drewN ?_ _) | (with_reducible refine Kd.C_drew ?_))); (case side2 => exact HC0.out); rintro e w' ⟨rfl, ⟨nd, rfl⟩⟩; (try first | exact ⟨rfl, _, World.drewN_drewN _ _ _⟩ | exact ⟨rfl, _, Eq.trans (World.drewN_drewN _ _ _) (congrArg (World.drewN _) (Nat.add_assoc _ _ _))⟩)))
                          repeat (go_quiet (first | (go_at_call 105; (with_reducible refine (heraldref1_Parent.calls kj19 a1_0 t210 t211 _ A35.out).mono ?_); rintro e w53 ⟨rfl, hb⟩; have n0_ := Aside0.mk (blk_below (g := gb203) (o := .cells #[.string a1_0, .string a1_1, .int .i64 a1_2, .int .i64 a1_3, .int .i64 a1_4, .int .i64 a1_5, .int .i64 a1_6] 74 (0, 0)) (by (with_reducible repeat (first | refine blk_drewN ?_ _ | refine blk_drew ?_ | refine blk_alloc ?_ _)); exact BK203.out) hb); have n1_ := Aside0.mk (below_step (by repeat (first | (with_reducible first | exact HB.out | apply below_alloc | apply pw_below_drewN | apply below_drew1 | refine below_set ?_ GE203.out) | exact HB.out)) hb); clear BK203; clear HB; have BK203 := n0_; have HB := n1_; clear n0_ n1_; (try clear hb); (try clear hb2); (try clear hk); (try clear hi); have p212 : 0 ≤ ((ji36) : Int) := of_decide_eq_true (by first | (with_reducible assumption) | assumption); have q212 : (ji36) < (l0.length : Int) := of_decide_eq_true (by first | (with_reducible assumption) | assumption); obtain ⟨ad212, e212, hx212_0, hx212_1, hx212_2, hx212_3, hx212_4, hx212_5, hx212_6⟩ := at_T74 HR0.out (ji36) p212 q212; cases e212; replace hx212_0 := (HB.out.cell (World.block_lt_of_cell? w _ hx212_0)).trans hx212_0; replace hx212_1 := (HB.out.cell (World.block_lt_of_cell? w _ hx212_1)).trans hx212_1; replace hx212_2 := (HB.out.cell (World.block_lt_of_cell? w _ hx212_2)).trans hx212_2; replace hx212_3 := (HB.out.cell (World.block_lt_of_cell? w _ hx212_3)).trans hx212_3; replace hx212_4 := (HB.out.cell (World.block_lt_of_cell? w _ hx212_4)).trans hx212_4; replace hx212_5 := (HB.out.cell (World.block_lt_of_cell? w _ hx212_5)).trans hx212_5; replace hx212_6 := (HB.out.cell (World.block_lt_of_cell? w _ hx212_6)).trans hx212_6; replace p212 := eq_true p212; replace q212 := eq_true q212; have hcz54_0 : w53.cell? ⟨gb203, 0, none⟩ = some (.string a1_0) := (blk_cell BK203.out 0).trans rfl; have hcz54_1 : w53.cell? ⟨gb203, 1, none⟩ = some (.string a1_1) := (blk_cell BK203.out 1).trans rfl; have hcz54_2 : w53.cell? ⟨gb203, 2, none⟩ = some (.int .i64 a1_2) := (blk_cell BK203.out 2).trans rfl; have hcz54_3 : w53.cell? ⟨gb203, 3, none⟩ = some (.int .i64 a1_3) := (blk_cell BK203.out 3).trans rfl; have hcz54_4 : w53.cell? ⟨gb203, 4, none⟩ = some (.int .i64 a1_4) := (blk_cell BK203.out 4).trans rfl; have hcz54_5 : w53.cell? ⟨gb203, 5, none⟩ = some (.int .i64 a1_5) := (blk_cell BK203.out 5).trans rfl; have hcz54_6 : w53.cell? ⟨gb203, 6, none⟩ = some (.int .i64 a1_6) := (blk_cell BK203.out 6).trans rfl; have hfz54_0 := blk_frozen BK203.out 0; have hfz54_1 := blk_frozen BK203.out 1; have hfz54_2 := blk_frozen BK203.out 2; have hfz54_3 := blk_frozen BK203.out 3; have hfz54_4 := blk_frozen BK203.out 4; have hfz54_5 := blk_frozen BK203.out 5; have hfz54_6 := blk_frozen BK203.out 6) | (go_at_call 63; (with_reducible refine (heraldref1_Order.calls kj19 ((rd_T74 l0 (ji36)).f0) a1_0 t213 _ A39.out).mono ?_); rintro e w' ⟨rfl, ⟨nd, rfl⟩⟩; (try first | exact ⟨rfl, _, World.drewN_drewN _ _ _⟩ | exact ⟨rfl, _, Eq.trans (World.drewN_drewN _ _ _) (congrArg (World.drewN _) (Nat.add_assoc _ _ _))⟩)) | (go_at_call 106; (with_reducible refine (heraldref4_find.calls kj19 _ _ l0 t210 t214 _ ?side1 ?side2 A45.out).mono ?_); (case side1 => repeat (first | exact (Kd.C_below HR0.out (by repeat (first | (with_reducible first | exact HB.out | apply below_alloc | apply pw_below_drewN | apply below_drew1 | refine below_set ?_ GE203.out) | exact HB.out))) | (with_reducible refine Kd.C_alloc ?_ _) | (with_reducible refine Kd.C_drewN ?_ _) | (with_reducible refine Kd.C_drew ?_))); (case side2 => exact HC0.out); rintro e w' ⟨rfl, ⟨nd, rfl⟩⟩; (try first | exact ⟨rfl, _, World.drewN_drewN _ _ _⟩ | exact ⟨rfl, _, Eq.trans (World.drewN_drewN _ _ _) (congrArg (World.drewN _) (Nat.add_assoc _ _ _))⟩))); try go_wp2_with (first | (go_at_call 105; (with_reducible refine (heraldref1_Parent.calls kj19 a1_0 t210 t211 _ A35.out).mono ?_); rintro e w53 ⟨rfl, hb⟩; have n0_ := Aside0.mk (blk_below (g := gb203) (o := .cells #[.string a1_0, .string a1_1, .int .i64 a1_2, .int .i64 a1_3, .int .i64 a1_4, .int .i64 a1_5, .int .i64 a1_6] 74 (0, 0)) (by (with_reducible repeat (first | refine blk_drewN ?_ _ | refine blk_drew ?_ | refine blk_alloc ?_ _)); exact BK203.out) hb); have n1_ := Aside0.mk (below_step (by repeat (first | (with_reducible first | exact HB.out | apply below_alloc | apply pw_below_drewN | apply below_drew1 | refine below_set ?_ GE203.out) | exact HB.out)) hb); clear BK203; clear HB; have BK203 := n0_; have HB := n1_; clear n0_ n1_; (try clear hb); (try clear hb2); (try clear hk); (try clear hi); have p212 : 0 ≤ ((ji36) : Int) := of_decide_eq_true (by first | (with_reducible assumption) | assumption); have q212 : (ji36) < (l0.length : Int) := of_decide_eq_true (by first | (with_reducible assumption) | assumption); obtain ⟨ad212, e212, hx212_0, hx212_1, hx212_2, hx212_3, hx212_4, hx212_5, hx212_6⟩ := at_T74 HR0.out (ji36) p212 q212; cases e212; replace hx212_0 := (HB.out.cell (World.block_lt_of_cell? w _ hx212_0)).trans hx212_0; replace hx212_1 := (HB.out.cell (World.block_lt_of_cell? w _ hx212_1)).trans hx212_1; replace hx212_2 := (HB.out.cell (World.block_lt_of_cell? w _ hx212_2)).trans hx212_2; replace hx212_3 := (HB.out.cell (World.block_lt_of_cell? w _ hx212_3)).trans hx212_3; replace hx212_4 := (HB.out.cell (World.block_lt_of_cell? w _ hx212_4)).trans hx212_4; replace hx212_5 := (HB.out.cell (World.block_lt_of_cell? w _ hx212_5)).trans hx212_5; replace hx212_6 := (HB.out.cell (World.block_lt_of_cell? w _ hx212_6)).trans hx212_6; replace p212 := eq_true p212; replace q212 := eq_true q212; have hcz54_0 : w53.cell? ⟨gb203, 0, none⟩ = some (.string a1_0) := (blk_cell BK203.out 0).trans rfl; have hcz54_1 : w53.cell? ⟨gb203, 1, none⟩ = some (.string a1_1) := (blk_cell BK203.out 1).trans rfl; have hcz54_2 : w53.cell? ⟨gb203, 2, none⟩ = some (.int .i64 a1_2) := (blk_cell BK203.out 2).trans rfl; have hcz54_3 : w53.cell? ⟨gb203, 3, none⟩ = some (.int .i64 a1_3) := (blk_cell BK203.out 3).trans rfl; have hcz54_4 : w53.cell? ⟨gb203, 4, none⟩ = some (.int .i64 a1_4) := (blk_cell BK203.out 4).trans rfl; have hcz54_5 : w53.cell? ⟨gb203, 5, none⟩ = some (.int .i64 a1_5) := (blk_cell BK203.out 5).trans rfl; have hcz54_6 : w53.cell? ⟨gb203, 6, none⟩ = some (.int .i64 a1_6) := (blk_cell BK203.out 6).trans rfl; have hfz54_0 := blk_frozen BK203.out 0; have hfz54_1 := blk_frozen BK203.out 1; have hfz54_2 := blk_frozen BK203.out 2; have hfz54_3 := blk_frozen BK203.out 3; have hfz54_4 := blk_frozen BK203.out 4; have hfz54_5 := blk_frozen BK203.out 5; have hfz54_6 := blk_frozen BK203.out 6) | (go_at_call 63; (with_reducible refine (heraldref1_Order.calls kj19 ((rd_T74 l0 (ji36)).f0) a1_0 t213 _ A39.out).mono ?_); rintro e w' ⟨rfl, ⟨nd, rfl⟩⟩; (try first | exact ⟨rfl, _, World.drewN_drewN _ _ _⟩ | exact ⟨rfl, _, Eq.trans (World.drewN_drewN _ _ _) (congrArg (World.drewN _) (Nat.add_assoc _ _ _))⟩)) | (go_at_call 106; (with_reducible refine (heraldref4_find.calls kj19 _ _ l0 t210 t214 _ ?side1 ?side2 A45.out).mono ?_); (case side1 => repeat (first | exact (Kd.C_below HR0.out (by repeat (first | (with_reducible first | exact HB.out | apply below_alloc | apply pw_below_drewN | apply below_drew1 | refine below_set ?_ GE203.out) | exact HB.out))) | (with_reducible refine Kd.C_alloc ?_ _) | (with_reducible refine Kd.C_drewN ?_ _) | (with_reducible refine Kd.C_drew ?_))); (case side2 => exact HC0.out); rintro e w' ⟨rfl, ⟨nd, rfl⟩⟩; (try first | exact ⟨rfl, _, World.drewN_drewN _ _ _⟩ | exact ⟨rfl, _, Eq.trans (World.drewN_drewN _ _ _) (congrArg (World.drewN _) (Nat.add_assoc _ _ _))⟩))))
                          go_ret
                          exact ⟨by first | rfl | (simp [errW_none, errW_some] <;> rfl) | (simp only [← hji36]; first | rfl | (simp [errW_none, errW_some] <;> rfl)) | (simp [*, errW_none, errW_some] <;> rfl), by repeat (first | (with_reducible first | exact HB.out | apply below_alloc | apply pw_below_drewN | apply below_drew1 | refine below_set ?_ GE203.out) | exact HB.out)⟩
                    · rw [if_neg c40] at H
                      have c40b0 : (t211 == 0) = false := beq_eq_false_iff_ne.mpr c40
                      have c40b1 : (t211 != 0) = true := bne_iff_ne.mpr c40
                      obtain rfl := Option.some.inj H
                      have hcz55_0 : wc.cell? ⟨gb203, 0, none⟩ = some (.string a1_0) := (blk_cell BK203.out 0).trans rfl
                      have hcz55_1 : wc.cell? ⟨gb203, 1, none⟩ = some (.string a1_1) := (blk_cell BK203.out 1).trans rfl
                      have hcz55_2 : wc.cell? ⟨gb203, 2, none⟩ = some (.int .i64 a1_2) := (blk_cell BK203.out 2).trans rfl
                      have hcz55_3 : wc.cell? ⟨gb203, 3, none⟩ = some (.int .i64 a1_3) := (blk_cell BK203.out 3).trans rfl
                      have hcz55_4 : wc.cell? ⟨gb203, 4, none⟩ = some (.int .i64 a1_4) := (blk_cell BK203.out 4).trans rfl
                      have hcz55_5 : wc.cell? ⟨gb203, 5, none⟩ = some (.int .i64 a1_5) := (blk_cell BK203.out 5).trans rfl
                      have hcz55_6 : wc.cell? ⟨gb203, 6, none⟩ = some (.int .i64 a1_6) := (blk_cell BK203.out 6).trans rfl
                      have hfz55_0 := blk_frozen BK203.out 0
                      have hfz55_1 := blk_frozen BK203.out 1
                      have hfz55_2 := blk_frozen BK203.out 2
                      have hfz55_3 := blk_frozen BK203.out 3
                      have hfz55_4 := blk_frozen BK203.out 4
                      have hfz55_5 := blk_frozen BK203.out 5
                      have hfz55_6 := blk_frozen BK203.out 6
                      go_wp2_with (first | (go_at_call 105; (with_reducible refine (heraldref1_Parent.calls kj19 a1_0 t210 t211 _ A35.out).mono ?_); rintro e w56 ⟨rfl, hb⟩; have n0_ := Aside0.mk (blk_below (g := gb203) (o := .cells #[.string a1_0, .string a1_1, .int .i64 a1_2, .int .i64 a1_3, .int .i64 a1_4, .int .i64 a1_5, .int .i64 a1_6] 74 (0, 0)) (by (with_reducible repeat (first | refine blk_drewN ?_ _ | refine blk_drew ?_ | refine blk_alloc ?_ _)); exact BK203.out) hb); have n1_ := Aside0.mk (below_step (by repeat (first | (with_reducible first | exact HB.out | apply below_alloc | apply pw_below_drewN | apply below_drew1 | refine below_set ?_ GE203.out) | exact HB.out)) hb); clear BK203; clear HB; have BK203 := n0_; have HB := n1_; clear n0_ n1_; (try clear hb); (try clear hb2); (try clear hk); (try clear hi); have p212 : 0 ≤ ((ji36) : Int) := of_decide_eq_true (by first | (with_reducible assumption) | assumption); have q212 : (ji36) < (l0.length : Int) := of_decide_eq_true (by first | (with_reducible assumption) | assumption); obtain ⟨ad212, e212, hx212_0, hx212_1, hx212_2, hx212_3, hx212_4, hx212_5, hx212_6⟩ := at_T74 HR0.out (ji36) p212 q212; cases e212; replace hx212_0 := (HB.out.cell (World.block_lt_of_cell? w _ hx212_0)).trans hx212_0; replace hx212_1 := (HB.out.cell (World.block_lt_of_cell? w _ hx212_1)).trans hx212_1; replace hx212_2 := (HB.out.cell (World.block_lt_of_cell? w _ hx212_2)).trans hx212_2; replace hx212_3 := (HB.out.cell (World.block_lt_of_cell? w _ hx212_3)).trans hx212_3; replace hx212_4 := (HB.out.cell (World.block_lt_of_cell? w _ hx212_4)).trans hx212_4; replace hx212_5 := (HB.out.cell (World.block_lt_of_cell? w _ hx212_5)).trans hx212_5; replace hx212_6 := (HB.out.cell (World.block_lt_of_cell? w _ hx212_6)).trans hx212_6; replace p212 := eq_true p212; replace q212 := eq_true q212; have hcz57_0 : w56.cell? ⟨gb203, 0, none⟩ = some (.string a1_0) := (blk_cell BK203.out 0).trans rfl; have hcz57_1 : w56.cell? ⟨gb203, 1, none⟩ = some (.string a1_1) := (blk_cell BK203.out 1).trans rfl; have hcz57_2 : w56.cell? ⟨gb203, 2, none⟩ = some (.int .i64 a1_2) := (blk_cell BK203.out 2).trans rfl; have hcz57_3 : w56.cell? ⟨gb203, 3, none⟩ = some (.int .i64 a1_3) := (blk_cell BK203.out 3).trans rfl; have hcz57_4 : w56.cell? ⟨gb203, 4, none⟩ = some (.int .i64 a1_4) := (blk_cell BK203.out 4).trans rfl; have hcz57_5 : w56.cell? ⟨gb203, 5, none⟩ = some (.int .i64 a1_5) := (blk_cell BK203.out 5).trans rfl; have hcz57_6 : w56.cell? ⟨gb203, 6, none⟩ = some (.int .i64 a1_6) := (blk_cell BK203.out 6).trans rfl; have hfz57_0 := blk_frozen BK203.out 0; have hfz57_1 := blk_frozen BK203.out 1; have hfz57_2 := blk_frozen BK203.out 2; have hfz57_3 := blk_frozen BK203.out 3; have hfz57_4 := blk_frozen BK203.out 4; have hfz57_5 := blk_frozen BK203.out 5; have hfz57_6 := blk_frozen BK203.out 6) | (go_at_call 63; (with_reducible refine (heraldref1_Order.calls kj19 ((rd_T74 l0 (ji36)).f0) a1_0 t213 _ A39.out).mono ?_); rintro e w' ⟨rfl, ⟨nd, rfl⟩⟩; (try first | exact ⟨rfl, _, World.drewN_drewN _ _ _⟩ | exact ⟨rfl, _, Eq.trans (World.drewN_drewN _ _ _) (congrArg (World.drewN _) (Nat.add_assoc _ _ _))⟩)))
                      repeat (go_quiet (first | (go_at_call 105; (with_reducible refine (heraldref1_Parent.calls kj19 a1_0 t210 t211 _ A35.out).mono ?_); rintro e w56 ⟨rfl, hb⟩; have n0_ := Aside0.mk (blk_below (g := gb203) (o := .cells #[.string a1_0, .string a1_1, .int .i64 a1_2, .int .i64 a1_3, .int .i64 a1_4, .int .i64 a1_5, .int .i64 a1_6] 74 (0, 0)) (by (with_reducible repeat (first | refine blk_drewN ?_ _ | refine blk_drew ?_ | refine blk_alloc ?_ _)); exact BK203.out) hb); have n1_ := Aside0.mk (below_step (by repeat (first | (with_reducible first | exact HB.out | apply below_alloc | apply pw_below_drewN | apply below_drew1 | refine below_set ?_ GE203.out) | exact HB.out)) hb); clear BK203; clear HB; have BK203 := n0_; have HB := n1_; clear n0_ n1_; (try clear hb); (try clear hb2); (try clear hk); (try clear hi); have p212 : 0 ≤ ((ji36) : Int) := of_decide_eq_true (by first | (with_reducible assumption) | assumption); have q212 : (ji36) < (l0.length : Int) := of_decide_eq_true (by first | (with_reducible assumption) | assumption); obtain ⟨ad212, e212, hx212_0, hx212_1, hx212_2, hx212_3, hx212_4, hx212_5, hx212_6⟩ := at_T74 HR0.out (ji36) p212 q212; cases e212; replace hx212_0 := (HB.out.cell (World.block_lt_of_cell? w _ hx212_0)).trans hx212_0; replace hx212_1 := (HB.out.cell (World.block_lt_of_cell? w _ hx212_1)).trans hx212_1; replace hx212_2 := (HB.out.cell (World.block_lt_of_cell? w _ hx212_2)).trans hx212_2; replace hx212_3 := (HB.out.cell (World.block_lt_of_cell? w _ hx212_3)).trans hx212_3; replace hx212_4 := (HB.out.cell (World.block_lt_of_cell? w _ hx212_4)).trans hx212_4; replace hx212_5 := (HB.out.cell (World.block_lt_of_cell? w _ hx212_5)).trans hx212_5; replace hx212_6 := (HB.out.cell (World.block_lt_of_cell? w _ hx212_6)).trans hx212_6; replace p212 := eq_true p212; replace q212 := eq_true q212; have hcz57_0 : w56.cell? ⟨gb203, 0, none⟩ = some (.string a1_0) := (blk_cell BK203.out 0).trans rfl; have hcz57_1 : w56.cell? ⟨gb203, 1, none⟩ = some (.string a1_1) := (blk_cell BK203.out 1).trans rfl; have hcz57_2 : w56.cell? ⟨gb203, 2, none⟩ = some (.int .i64 a1_2) := (blk_cell BK203.out 2).trans rfl; have hcz57_3 : w56.cell? ⟨gb203, 3, none⟩ = some (.int .i64 a1_3) := (blk_cell BK203.out 3).trans rfl; have hcz57_4 : w56.cell? ⟨gb203, 4, none⟩ = some (.int .i64 a1_4) := (blk_cell BK203.out 4).trans rfl; have hcz57_5 : w56.cell? ⟨gb203, 5, none⟩ = some (.int .i64 a1_5) := (blk_cell BK203.out 5).trans rfl; have hcz57_6 : w56.cell? ⟨gb203, 6, none⟩ = some (.int .i64 a1_6) := (blk_cell BK203.out 6).trans rfl; have hfz57_0 := blk_frozen BK203.out 0; have hfz57_1 := blk_frozen BK203.out 1; have hfz57_2 := blk_frozen BK203.out 2; have hfz57_3 := blk_frozen BK203.out 3; have hfz57_4 := blk_frozen BK203.out 4; have hfz57_5 := blk_frozen BK203.out 5; have hfz57_6 := blk_frozen BK203.out 6) | (go_at_call 63; (with_reducible refine (heraldref1_Order.calls kj19 ((rd_T74 l0 (ji36)).f0) a1_0 t213 _ A39.out).mono ?_); rintro e w' ⟨rfl, ⟨nd, rfl⟩⟩; (try first | exact ⟨rfl, _, World.drewN_drewN _ _ _⟩ | exact ⟨rfl, _, Eq.trans (World.drewN_drewN _ _ _) (congrArg (World.drewN _) (Nat.add_assoc _ _ _))⟩))); try go_wp2_with (first | (go_at_call 105; (with_reducible refine (heraldref1_Parent.calls kj19 a1_0 t210 t211 _ A35.out).mono ?_); rintro e w56 ⟨rfl, hb⟩; have n0_ := Aside0.mk (blk_below (g := gb203) (o := .cells #[.string a1_0, .string a1_1, .int .i64 a1_2, .int .i64 a1_3, .int .i64 a1_4, .int .i64 a1_5, .int .i64 a1_6] 74 (0, 0)) (by (with_reducible repeat (first | refine blk_drewN ?_ _ | refine blk_drew ?_ | refine blk_alloc ?_ _)); exact BK203.out) hb); have n1_ := Aside0.mk (below_step (by repeat (first | (with_reducible first | exact HB.out | apply below_alloc | apply pw_below_drewN | apply below_drew1 | refine below_set ?_ GE203.out) | exact HB.out)) hb); clear BK203; clear HB; have BK203 := n0_; have HB := n1_; clear n0_ n1_; (try clear hb); (try clear hb2); (try clear hk); (try clear hi); have p212 : 0 ≤ ((ji36) : Int) := of_decide_eq_true (by first | (with_reducible assumption) | assumption); have q212 : (ji36) < (l0.length : Int) := of_decide_eq_true (by first | (with_reducible assumption) | assumption); obtain ⟨ad212, e212, hx212_0, hx212_1, hx212_2, hx212_3, hx212_4, hx212_5, hx212_6⟩ := at_T74 HR0.out (ji36) p212 q212; cases e212; replace hx212_0 := (HB.out.cell (World.block_lt_of_cell? w _ hx212_0)).trans hx212_0; replace hx212_1 := (HB.out.cell (World.block_lt_of_cell? w _ hx212_1)).trans hx212_1; replace hx212_2 := (HB.out.cell (World.block_lt_of_cell? w _ hx212_2)).trans hx212_2; replace hx212_3 := (HB.out.cell (World.block_lt_of_cell? w _ hx212_3)).trans hx212_3; replace hx212_4 := (HB.out.cell (World.block_lt_of_cell? w _ hx212_4)).trans hx212_4; replace hx212_5 := (HB.out.cell (World.block_lt_of_cell? w _ hx212_5)).trans hx212_5; replace hx212_6 := (HB.out.cell (World.block_lt_of_cell? w _ hx212_6)).trans hx212_6; replace p212 := eq_true p212; replace q212 := eq_true q212; have hcz57_0 : w56.cell? ⟨gb203, 0, none⟩ = some (.string a1_0) := (blk_cell BK203.out 0).trans rfl; have hcz57_1 : w56.cell? ⟨gb203, 1, none⟩ = some (.string a1_1) := (blk_cell BK203.out 1).trans rfl; have hcz57_2 : w56.cell? ⟨gb203, 2, none⟩ = some (.int .i64 a1_2) := (blk_cell BK203.out 2).trans rfl; have hcz57_3 : w56.cell? ⟨gb203, 3, none⟩ = some (.int .i64 a1_3) := (blk_cell BK203.out 3).trans rfl; have hcz57_4 : w56.cell? ⟨gb203, 4, none⟩ = some (.int .i64 a1_4) := (blk_cell BK203.out 4).trans rfl; have hcz57_5 : w56.cell? ⟨gb203, 5, none⟩ = some (.int .i64 a1_5) := (blk_cell BK203.out 5).trans rfl; have hcz57_6 : w56.cell? ⟨gb203, 6, none⟩ = some (.int .i64 a1_6) := (blk_cell BK203.out 6).trans rfl; have hfz57_0 := blk_frozen BK203.out 0; have hfz57_1 := blk_frozen BK203.out 1; have hfz57_2 := blk_frozen BK203.out 2; have hfz57_3 := blk_frozen BK203.out 3; have hfz57_4 := blk_frozen BK203.out 4; have hfz57_5 := blk_frozen BK203.out 5; have hfz57_6 := blk_frozen BK203.out 6) | (go_at_call 63; (with_reducible refine (heraldref1_Order.calls kj19 ((rd_T74 l0 (ji36)).f0) a1_0 t213 _ A39.out).mono ?_); rintro e w' ⟨rfl, ⟨nd, rfl⟩⟩; (try first | exact ⟨rfl, _, World.drewN_drewN _ _ _⟩ | exact ⟨rfl, _, Eq.trans (World.drewN_drewN _ _ _) (congrArg (World.drewN _) (Nat.add_assoc _ _ _))⟩))))
                      go_ret
                      exact ⟨by first | rfl | (simp [errW_none, errW_some] <;> rfl) | (simp only [← hji36]; first | rfl | (simp [errW_none, errW_some] <;> rfl)) | (simp [*, errW_none, errW_some] <;> rfl), by repeat (first | (with_reducible first | exact HB.out | apply below_alloc | apply pw_below_drewN | apply below_drew1 | refine below_set ?_ GE203.out) | exact HB.out)⟩
                  · rw [if_neg c38] at H
                    exact absurd H (by simp)
                · rw [if_neg c37] at H
                  exact absurd H (by simp)
end Go.Proofs.YteamhfmpogbilaaGreatDoor.X
end
section
namespace Go.Proofs.YteamhfmpogbilaaGreatDoor.X
open Go.RowKit Go.Proofs.YteamhfmpogbilaaGreatDoorW.PrintWords Go.Proofs.YteamhfmpogbilaaGreatDoorW.PrintLast Go.Proofs.YteamhfmpogbilaaGreatDoorW.PrintMore
attribute [local go_sem] max2_int min2_int max_two min_two max_three min_three max_four min_four   -- for this text's walks alone
set_option linter.unusedVariables false
set_option linter.unusedSimpArgs false
attribute [local go_sem high] eqA122
def heraldref4_Load.l0 : Nat → List (S74) → List (S74) → Int → Option ((List (S74)) × Int)
  | 0, _, _, _ => none
  | k + 1, x0, x4, x5 => if x5 < (x0.length : Int) then (if 0 ≤ x5 then ((heraldref4_fits.f k x4 ((rd_T74 x0 x5).f0) ((rd_T74 x0 x5).f1) ((rd_T74 x0 x5).f2) ((rd_T74 x0 x5).f3) ((rd_T74 x0 x5).f4) ((rd_T74 x0 x5).f5) ((rd_T74 x0 x5).f6)).bind fun t218 => (if t218 = true then (if x4.length < 1954687338268 then (heraldref4_Load.l0 k x0 (x4 ++ [(⟨(rd_T74 x0 x5).f0, (rd_T74 x0 x5).f1, (rd_T74 x0 x5).f2, (rd_T74 x0 x5).f3, (rd_T74 x0 x5).f4, (rd_T74 x0 x5).f5, (rd_T74 x0 x5).f6⟩ : S74)]) (wrap64 (x5 + 1))) else (none)) else (some (([] : List (S74)), 1)))) else (none)) else (if (x4.length : Int) = 0 then (some (([] : List (S74)), 1)) else (some (x4, 0)))
def heraldref4_Load.f (k : Nat) (l0 : List (S74)) : Option ((List (S74)) × Int) := if (l0.length : Int) > 64 then (some (([] : List (S74)), 2)) else (heraldref4_Load.l0 k l0 ([] : List (S74)) 0)
set_option maxHeartbeats 8000000 in
set_option maxRecDepth 100000 in
theorem heraldref4_Load.calls (k : Nat) (A0 : Option Addr) (c0 : Nat) (l0 : List (S74)) (r1 : List (S74)) (r2 : Int) (w : World) (hr0 : Kd.C k74 w A0 l0.length l0) (hc0 : l0.length ≤ c0) (h : heraldref4_Load.f k l0 = some (r1, r2)) :
    Calls Tryz.prog 29 #[.slice A0 l0.length c0] w fun e w' => ∃ v0_ : Value, e = .returned (.tuple #[.agg #[v0_], .int .i64 r2]) ∧ Kd.R k74 74 w' w.heap.size (fun _ => True) v0_ r1 ∧ Below w.heap.size w w' := by
  have hu28 := Tryz.underlying28
  have hu74 := Tryz.underlying74
  have HR0 := Aside0.mk hr0
  have HC0 := Aside0.mk hc0
  clear hr0 hc0
  have HB := Aside0.mk (Below.refl w.heap.size w)
  have H : (if (l0.length : Int) > 64 then (some (([] : List (S74)), 2)) else (heraldref4_Load.l0 k l0 ([] : List (S74)) 0)) = some (r1, r2) := h
  clear h
  by_cases c2 : (l0.length : Int) > 64
  · rw [if_pos c2] at H
    have c2b0 : decide (64 < (l0.length : Int)) = true := decide_eq_true c2
    have c2b1 : decide (64 < l0.length) = true := decide_eq_true (by omega)
    clear c2
    simp only [Option.some.injEq, Prod.mk.injEq] at H
    obtain ⟨rfl, rfl⟩ := H
    go_enter Tryz.func29, Tryz.ntmps29
    go_wp2_with (first | ((with_reducible refine gate_dst (N := 2) rfl ?_); refine box_event ?hg (N := 2) ?hd (cs := #[.slice none 0 0]) (t := 28) ?hr ?_; (case hd => rfl); (case hg => rfl); (case hr => first | (go_simp; done) | (go_simp; rfl)); intro gb216 hg w3 hbox hb; have n0_ := Aside0.mk (below_step (by repeat (first | (with_reducible first | exact HB.out | apply below_alloc | apply pw_below_drewN | apply below_drew1) | exact HB.out)) hb); have n1_ := Aside0.mk (hbox); have n2_ := Aside0.mk ((by rw [hg]; exact (below_size (by repeat (first | (with_reducible first | exact HB.out | apply below_alloc | apply pw_below_drewN | apply below_drew1) | exact HB.out))) : w.heap.size ≤ gb216)); have n3_ := Aside0.mk ((by rw [hg]; exact (below_size (by repeat (first | (with_reducible first | exact HB.out | apply below_alloc | apply pw_below_drewN | apply below_drew1) | exact HB.out))) : w.heap.size ≤ gb216)); clear HB; have HB := n0_; have BK216 := n1_; have GW216 := n2_; have GE216 := n3_; clear n0_ n1_ n2_ n3_; clear hb hbox hg; have hcz4_0 : w3.cell? ⟨gb216, 0, none⟩ = some (.slice none 0 0) := (blk_cell BK216.out 0).trans rfl; have hfz4_0 := blk_frozen BK216.out 0))
    refine bodyPost_ret (results_ct rfl _ _ gb216 28 #[.slice none 0 0] (0, 0) _ rfl (by (with_reducible repeat (first | refine blk_drewN ?_ _ | refine blk_drew ?_ | refine blk_alloc ?_ _)); refine blk_put (cs := #[.slice none 0 0]) ?_ 0 _ rfl; (with_reducible repeat (first | refine blk_drewN ?_ _ | refine blk_drew ?_ | refine blk_alloc ?_ _)); exact BK216.out) Tryz.underlying28 rfl (by kernel_rfl)) rfl ?_
    exact ⟨_, by first | rfl | (simp [errW_none, errW_some] <;> rfl) | (simp [*, errW_none, errW_some] <;> rfl), by first | exact Kd.R_nil _ _ _ _ _ | exact Kd.N_nil _ _ _ _ _ | exact Kd.V_nil _ _ _ _ _ | exact Kd.Q_nil _ _ _ _ _ | exact Kd.S_nil _ _ _ _ _, by repeat (first | (with_reducible first | exact HB.out | apply below_alloc | apply pw_below_drewN | apply below_drew1 | refine below_set ?_ GE216.out) | exact HB.out)⟩
  · rw [if_neg c2] at H
    have c2b0 : decide (64 < (l0.length : Int)) = false := decide_eq_false c2
    have c2b1 : decide (64 < l0.length) = false := decide_eq_false (by omega)
    clear c2
    have H' := Aside0.mk H
    clear H
    go_enter Tryz.func29, Tryz.ntmps29
    go_wp2_with (first | ((with_reducible refine gate_dst (N := 2) rfl ?_); refine box_event ?hg (N := 2) ?hd (cs := #[.slice none 0 0]) (t := 28) ?hr ?_; (case hd => rfl); (case hg => rfl); (case hr => first | (go_simp; done) | (go_simp; rfl)); intro gb216 hg w5 hbox hb; have n0_ := Aside0.mk (below_step (by repeat (first | (with_reducible first | exact HB.out | apply below_alloc | apply pw_below_drewN | apply below_drew1) | exact HB.out)) hb); have n1_ := Aside0.mk (hbox); have n2_ := Aside0.mk ((by rw [hg]; exact (below_size (by repeat (first | (with_reducible first | exact HB.out | apply below_alloc | apply pw_below_drewN | apply below_drew1) | exact HB.out))) : w.heap.size ≤ gb216)); have n3_ := Aside0.mk ((by rw [hg]; exact (below_size (by repeat (first | (with_reducible first | exact HB.out | apply below_alloc | apply pw_below_drewN | apply below_drew1) | exact HB.out))) : w.heap.size ≤ gb216)); clear HB; have HB := n0_; have BK216 := n1_; have GW216 := n2_; have GE216 := n3_; clear n0_ n1_ n2_ n3_; clear hb hbox hg))
    go_loopg [4, 5] k (fun kq v4 v5 w' => ∃ (x4_1 : List (S74)) (x5_1 : Int), v5 = .int .i64 x5_1 ∧ Aside0 (heraldref4_Load.l0 kq l0 x4_1 x5_1 = some (r1, r2)) ∧ Aside0 (kq ≤ k) ∧ Aside0 (Kd.R k74 74 w' w.heap.size (fun _ => True) v4 x4_1) ∧ Aside0 (w'.heap[gb216]? = some (.cells #[(.slice none 0 0)] 28 (0, 0))) ∧ Aside0 (Below w.heap.size w w'))
    case atStart => exact ⟨(([] : List (S74))), (0), (by first | rfl | (simp; done) | (simp [*]; done)), H', ⟨Nat.le_refl _⟩, ⟨by first | exact Kd.R_nil _ _ _ _ _ | exact Kd.N_nil _ _ _ _ _ | exact Kd.V_nil _ _ _ _ _ | exact Kd.Q_nil _ _ _ _ _ | exact Kd.S_nil _ _ _ _ _⟩, ⟨by (with_reducible repeat (first | refine blk_drewN ?_ _ | refine blk_drew ?_ | refine blk_alloc ?_ _)); exact BK216.out⟩, ⟨by repeat (first | (with_reducible first | exact HB.out | apply below_alloc | apply pw_below_drewN | apply below_drew1 | refine below_set ?_ GE216.out) | exact HB.out)⟩⟩
    case round =>
      clear H'
      try clear c2
      try clear c2b0
      try clear c2b1
      try clear p2
      try clear hcz4_0
      try clear hfz4_0
      obtain ⟨x4_1, x5_1, rfl, HA, HK1, HO_4, BK216, HB⟩ := hrel
      cases gk with
      | zero => exact absurd HA.out (by simp [heraldref4_Load.l0])
      | succ k1 =>
        have H := HA.out
        clear HA
        simp only [heraldref4_Load.l0] at H
        by_cases c6 : x5_1 < (l0.length : Int)
        · rw [if_pos c6] at H
          have c6b0 : decide (x5_1 < (l0.length : Int)) = true := decide_eq_true c6
          clear c6
          by_cases c7 : 0 ≤ x5_1
          · rw [if_pos c7] at H
            have c7b0 : decide (0 ≤ x5_1) = true := decide_eq_true c7
            clear c7
            replace H := Option.bind_eq_some_iff.mp H
            obtain ⟨t218, A80, H⟩ := H
            replace H : (if t218 = true then (if x4_1.length < 1954687338268 then (heraldref4_Load.l0 k1 l0 (x4_1 ++ [(⟨(rd_T74 l0 x5_1).f0, (rd_T74 l0 x5_1).f1, (rd_T74 l0 x5_1).f2, (rd_T74 l0 x5_1).f3, (rd_T74 l0 x5_1).f4, (rd_T74 l0 x5_1).f5, (rd_T74 l0 x5_1).f6⟩ : S74)]) (wrap64 (x5_1 + 1))) else (none)) else (some (([] : List (S74)), 1))) = some (r1, r2) := H
            have A8 := Aside0.mk A80
            clear A80
            by_cases c9 : t218 = true
            · subst c9
              have H1 : (if x4_1.length < 1954687338268 then (heraldref4_Load.l0 k1 l0 (x4_1 ++ [(⟨(rd_T74 l0 x5_1).f0, (rd_T74 l0 x5_1).f1, (rd_T74 l0 x5_1).f2, (rd_T74 l0 x5_1).f3, (rd_T74 l0 x5_1).f4, (rd_T74 l0 x5_1).f5, (rd_T74 l0 x5_1).f6⟩ : S74)]) (wrap64 (x5_1 + 1))) else (none)) = some (r1, r2) := by rw [if_pos rfl] at H; exact H
              clear H
              have H := H1
              clear H1
              by_cases c10 : x4_1.length < 1954687338268
              · rw [if_pos c10] at H
                have LMc10 := Aside0.mk c10
                clear c10
                obtain ⟨y220, hy220⟩ : ∃ y_ : List (S74), y_ = (x4_1 ++ [(⟨(rd_T74 l0 x5_1).f0, (rd_T74 l0 x5_1).f1, (rd_T74 l0 x5_1).f2, (rd_T74 l0 x5_1).f3, (rd_T74 l0 x5_1).f4, (rd_T74 l0 x5_1).f5, (rd_T74 l0 x5_1).f6⟩ : S74)]) := ⟨_, rfl⟩
                replace H : (heraldref4_Load.l0 k1 l0 y220 (wrap64 (x5_1 + 1))) = some (r1, r2) := by first | (rw [hy220]; with_reducible exact H) | (have H2_ := (Option.bind_some _ _).symm.trans H; rw [hy220]; with_reducible exact H2_) | (have H2_ := (Option.bind_some _ _).symm.trans H; with_reducible exact H2_) | with_reducible exact H | (rw [hy220]; exact H) | exact H
                have Ny220 := Aside0.mk hy220
                clear hy220
                have H' := Aside0.mk H
                clear H
                have p217 : 0 ≤ (x5_1 : Int) := of_decide_eq_true (by first | (with_reducible assumption) | assumption)
                have q217 : x5_1 < (l0.length : Int) := of_decide_eq_true (by first | (with_reducible assumption) | assumption)
                obtain ⟨ad217, e217, hx217_0, hx217_1, hx217_2, hx217_3, hx217_4, hx217_5, hx217_6⟩ := at_T74 HR0.out x5_1 p217 q217
                cases e217
                replace hx217_0 := (HB.out.cell (World.block_lt_of_cell? w _ hx217_0)).trans hx217_0
                replace hx217_1 := (HB.out.cell (World.block_lt_of_cell? w _ hx217_1)).trans hx217_1
                replace hx217_2 := (HB.out.cell (World.block_lt_of_cell? w _ hx217_2)).trans hx217_2
                replace hx217_3 := (HB.out.cell (World.block_lt_of_cell? w _ hx217_3)).trans hx217_3
                replace hx217_4 := (HB.out.cell (World.block_lt_of_cell? w _ hx217_4)).trans hx217_4
                replace hx217_5 := (HB.out.cell (World.block_lt_of_cell? w _ hx217_5)).trans hx217_5
                replace hx217_6 := (HB.out.cell (World.block_lt_of_cell? w _ hx217_6)).trans hx217_6
                replace p217 := eq_true p217
                replace q217 := eq_true q217
                obtain ⟨Ao11, co11, eo11⟩ := Kd.R_slice HO_4.out
                subst eo11
                go_wp2_with (first | ((with_reducible refine gate_callee (f := 62) rfl ?_); refine goesL_ (some 22) rfl rfl Tryz.func62 (by kernel_rfl) rfl #[.slice Ao11 x4_1.length co11, .agg #[.string ((rd_T74 l0 x5_1).f0), .string ((rd_T74 l0 x5_1).f1), .int .i64 ((rd_T74 l0 x5_1).f2), .int .i64 ((rd_T74 l0 x5_1).f3), .int .i64 ((rd_T74 l0 x5_1).f4), .int .i64 ((rd_T74 l0 x5_1).f5), .int .i64 ((rd_T74 l0 x5_1).f6)]] rfl (by (try simp only [List.map_toArray, List.map_cons, List.map_nil]); first | done | rfl | (simp only [List.length_drop, List.length_take]; rfl)) ?_; (with_reducible refine (heraldref4_fits.calls k1 _ _ x4_1 ((rd_T74 l0 x5_1).f0) ((rd_T74 l0 x5_1).f1) ((rd_T74 l0 x5_1).f2) ((rd_T74 l0 x5_1).f3) ((rd_T74 l0 x5_1).f4) ((rd_T74 l0 x5_1).f5) ((rd_T74 l0 x5_1).f6) true _ ?side1 ?side2 A8.out).mono ?_); (case side1 => repeat (first | exact (Kd.R_reads' HO_4.out).2.2 | (with_reducible refine Kd.C_alloc ?_ _) | (with_reducible refine Kd.C_drewN ?_ _) | (with_reducible refine Kd.C_drew ?_))); (case side2 => exact (Kd.R_reads' HO_4.out).2.1); rintro e w12 ⟨rfl, hb⟩; refine ⟨_, rfl, ?_⟩; have n0_ := Aside0.mk (Kd.R_below (by (with_reducible repeat (first | apply Kd.R_alloc | apply Kd.R_drewN | apply Kd.R_drew)); exact HO_4.out) hb); have n1_ := Aside0.mk (blk_below (g := gb216) (o := .cells #[.slice none 0 0] 28 (0, 0)) (by (with_reducible repeat (first | refine blk_drewN ?_ _ | refine blk_drew ?_ | refine blk_alloc ?_ _)); exact BK216.out) hb); have n2_ := Aside0.mk (below_step (by repeat (first | (with_reducible first | exact HB.out | apply below_alloc | apply pw_below_drewN | apply below_drew1 | refine below_set ?_ GE216.out) | exact HB.out)) hb); clear HO_4; clear BK216; clear HB; have HO_4 := n0_; have BK216 := n1_; have HB := n2_; clear n0_ n1_ n2_; (try clear hb); (try clear hb2); (try clear hk); (try clear hi); have p219 : 0 ≤ (x5_1 : Int) := of_decide_eq_true (by first | (with_reducible assumption) | assumption); have q219 : x5_1 < (l0.length : Int) := of_decide_eq_true (by first | (with_reducible assumption) | assumption); obtain ⟨ad219, e219, hx219_0, hx219_1, hx219_2, hx219_3, hx219_4, hx219_5, hx219_6⟩ := at_T74 HR0.out x5_1 p219 q219; obtain rfl : ad217 = ad219 := (by injection e219); replace hx219_0 := (HB.out.cell (World.block_lt_of_cell? w _ hx219_0)).trans hx219_0; replace hx219_1 := (HB.out.cell (World.block_lt_of_cell? w _ hx219_1)).trans hx219_1; replace hx219_2 := (HB.out.cell (World.block_lt_of_cell? w _ hx219_2)).trans hx219_2; replace hx219_3 := (HB.out.cell (World.block_lt_of_cell? w _ hx219_3)).trans hx219_3; replace hx219_4 := (HB.out.cell (World.block_lt_of_cell? w _ hx219_4)).trans hx219_4; replace hx219_5 := (HB.out.cell (World.block_lt_of_cell? w _ hx219_5)).trans hx219_5; replace hx219_6 := (HB.out.cell (World.block_lt_of_cell? w _ hx219_6)).trans hx219_6; replace p219 := eq_true p219; replace q219 := eq_true q219) | ((with_reducible refine gate_builtin (b := .append) (xs := #[.tmp 26, .tmp 31]) rfl ?_); at_builtin; refine Kd.R_append k74 (w0 := w) w.heap.size rfl (.tmp 26) (.tmp 31) 26 74 (.agg #[(.string ⟨#[]⟩), (.string ⟨#[]⟩), (.int .i64 0), (.int .i64 0), (.int .i64 0), (.int .i64 0), (.int .i64 0)]) 72 rfl Tryz.underlying26 info74 rfl (by decide) (by omega) (.slice Ao11 x4_1.length co11) x4_1 (⟨(rd_T74 l0 x5_1).f0, (rd_T74 l0 x5_1).f1, (rd_T74 l0 x5_1).f2, (rd_T74 l0 x5_1).f3, (rd_T74 l0 x5_1).f4, (rd_T74 l0 x5_1).f5, (rd_T74 l0 x5_1).f6⟩ : S74) [.string ((rd_T74 l0 x5_1).f0), .string ((rd_T74 l0 x5_1).f1), .int .i64 ((rd_T74 l0 x5_1).f2), .int .i64 ((rd_T74 l0 x5_1).f3), .int .i64 ((rd_T74 l0 x5_1).f4), .int .i64 ((rd_T74 l0 x5_1).f5), .int .i64 ((rd_T74 l0 x5_1).f6)] (fun _ => True) (fun _ => False) rfl rfl ?aP (fun _ hk => hk.elim) ?aF ?aO ?aB ?aS ?aL ?_; (case aP => exact k74_mkM _ _ _ (⟨(rd_T74 l0 x5_1).f0, (rd_T74 l0 x5_1).f1, (rd_T74 l0 x5_1).f2, (rd_T74 l0 x5_1).f3, (rd_T74 l0 x5_1).f4, (rd_T74 l0 x5_1).f5, (rd_T74 l0 x5_1).f6⟩ : S74)); (case aB => exact (by repeat (first | (with_reducible first | exact HB.out | apply below_alloc | apply pw_below_drewN | apply below_drew1 | refine below_set ?_ GE216.out) | exact HB.out))); (case aF => exact (fun _ _ => trivial)); (case aO => exact (by (with_reducible repeat (first | apply Kd.R_alloc | apply Kd.R_drewN | apply Kd.R_drew)); exact HO_4.out)); (case aS => exact (below_size (by repeat (first | (with_reducible first | exact HB.out | apply below_alloc | apply pw_below_drewN | apply below_drew1 | refine below_set ?_ GE216.out) | exact HB.out)))); (case aL => have := LMc10.out; omega); intro v221 w13 ho hb hg hat; rw [← Ny220.out] at ho; have n0_ := Aside0.mk (blk_grown (g := gb216) (o := .cells #[.slice none 0 0] 28 (0, 0)) (by (with_reducible repeat (first | refine blk_drewN ?_ _ | refine blk_drew ?_ | refine blk_alloc ?_ _)); exact BK216.out) hg (Kd.R_ne HO_4.out BK216.out (by decide))); have n1_ := Aside0.mk (hb); have n2_ := Aside0.mk (ho); clear BK216; clear HB; clear HO_4; have BK216 := n0_; have HB := n1_; have HO222 := n2_; clear n0_ n1_ n2_; clear ho hb hg hat))
                go_roundg k1
                case measure => have := HK1.out; omega
                case rel => exact ⟨(y220), (wrap64 (x5_1 + 1)), (by first | rfl | (simp; done) | (simp [*]; done)), H', ⟨by have := HK1.out; omega⟩, ⟨by (with_reducible repeat (first | apply Kd.R_alloc | apply Kd.R_drewN | apply Kd.R_drew)); exact HO222.out⟩, ⟨by (with_reducible repeat (first | refine blk_drewN ?_ _ | refine blk_drew ?_ | refine blk_alloc ?_ _)); exact BK216.out⟩, ⟨by repeat (first | (with_reducible first | exact HB.out | apply below_alloc | apply pw_below_drewN | apply below_drew1 | refine below_set ?_ GE216.out) | exact HB.out)⟩⟩
              · rw [if_neg c10] at H
                exact absurd H (by simp)
            · replace c9 := Bool.eq_false_iff.mpr c9
              subst c9
              have H1 : (some (([] : List (S74)), 1)) = some (r1, r2) := by rw [if_neg (show ¬ (false = true) by decide)] at H; exact H
              clear H
              have H := H1
              clear H1
              simp only [Option.some.injEq, Prod.mk.injEq] at H
              obtain ⟨rfl, rfl⟩ := H
              have p217 : 0 ≤ (x5_1 : Int) := of_decide_eq_true (by first | (with_reducible assumption) | assumption)
              have q217 : x5_1 < (l0.length : Int) := of_decide_eq_true (by first | (with_reducible assumption) | assumption)
              obtain ⟨ad217, e217, hx217_0, hx217_1, hx217_2, hx217_3, hx217_4, hx217_5, hx217_6⟩ := at_T74 HR0.out x5_1 p217 q217
              cases e217
              replace hx217_0 := (HB.out.cell (World.block_lt_of_cell? w _ hx217_0)).trans hx217_0
              replace hx217_1 := (HB.out.cell (World.block_lt_of_cell? w _ hx217_1)).trans hx217_1
              replace hx217_2 := (HB.out.cell (World.block_lt_of_cell? w _ hx217_2)).trans hx217_2
              replace hx217_3 := (HB.out.cell (World.block_lt_of_cell? w _ hx217_3)).trans hx217_3
              replace hx217_4 := (HB.out.cell (World.block_lt_of_cell? w _ hx217_4)).trans hx217_4
              replace hx217_5 := (HB.out.cell (World.block_lt_of_cell? w _ hx217_5)).trans hx217_5
              replace hx217_6 := (HB.out.cell (World.block_lt_of_cell? w _ hx217_6)).trans hx217_6
              replace p217 := eq_true p217
              replace q217 := eq_true q217
              obtain ⟨Ao14, co14, eo14⟩ := Kd.R_slice HO_4.out
              subst eo14
              go_wp2_with (first | ((with_reducible refine gate_callee (f := 62) rfl ?_); refine goesL_ (some 22) rfl rfl Tryz.func62 (by kernel_rfl) rfl #[.slice Ao14 x4_1.length co14, .agg #[.string ((rd_T74 l0 x5_1).f0), .string ((rd_T74 l0 x5_1).f1), .int .i64 ((rd_T74 l0 x5_1).f2), .int .i64 ((rd_T74 l0 x5_1).f3), .int .i64 ((rd_T74 l0 x5_1).f4), .int .i64 ((rd_T74 l0 x5_1).f5), .int .i64 ((rd_T74 l0 x5_1).f6)]] rfl (by (try simp only [List.map_toArray, List.map_cons, List.map_nil]); first | done | rfl | (simp only [List.length_drop, List.length_take]; rfl)) ?_; (with_reducible refine (heraldref4_fits.calls k1 _ _ x4_1 ((rd_T74 l0 x5_1).f0) ((rd_T74 l0 x5_1).f1) ((rd_T74 l0 x5_1).f2) ((rd_T74 l0 x5_1).f3) ((rd_T74 l0 x5_1).f4) ((rd_T74 l0 x5_1).f5) ((rd_T74 l0 x5_1).f6) false _ ?side1 ?side2 A8.out).mono ?_); (case side1 => repeat (first | exact (Kd.R_reads' HO_4.out).2.2 | (with_reducible refine Kd.C_alloc ?_ _) | (with_reducible refine Kd.C_drewN ?_ _) | (with_reducible refine Kd.C_drew ?_))); (case side2 => exact (Kd.R_reads' HO_4.out).2.1); rintro e w15 ⟨rfl, hb⟩; refine ⟨_, rfl, ?_⟩; have n0_ := Aside0.mk (Kd.R_below (by (with_reducible repeat (first | apply Kd.R_alloc | apply Kd.R_drewN | apply Kd.R_drew)); exact HO_4.out) hb); have n1_ := Aside0.mk (blk_below (g := gb216) (o := .cells #[.slice none 0 0] 28 (0, 0)) (by (with_reducible repeat (first | refine blk_drewN ?_ _ | refine blk_drew ?_ | refine blk_alloc ?_ _)); exact BK216.out) hb); have n2_ := Aside0.mk (below_step (by repeat (first | (with_reducible first | exact HB.out | apply below_alloc | apply pw_below_drewN | apply below_drew1 | refine below_set ?_ GE216.out) | exact HB.out)) hb); clear HO_4; clear BK216; clear HB; have HO_4 := n0_; have BK216 := n1_; have HB := n2_; clear n0_ n1_ n2_; (try clear hb); (try clear hb2); (try clear hk); (try clear hi); have hcz16_0 : w15.cell? ⟨gb216, 0, none⟩ = some (.slice none 0 0) := (blk_cell BK216.out 0).trans rfl; have hfz16_0 := blk_frozen BK216.out 0))
              refine bodyPost_ret (results_ct rfl _ _ gb216 28 #[.slice none 0 0] (0, 0) _ rfl (by (with_reducible repeat (first | refine blk_drewN ?_ _ | refine blk_drew ?_ | refine blk_alloc ?_ _)); refine blk_put (cs := #[.slice none 0 0]) ?_ 0 _ rfl; (with_reducible repeat (first | refine blk_drewN ?_ _ | refine blk_drew ?_ | refine blk_alloc ?_ _)); exact BK216.out) Tryz.underlying28 rfl (by kernel_rfl)) rfl ?_
              exact ⟨_, by first | rfl | (simp [errW_none, errW_some] <;> rfl) | (simp [*, errW_none, errW_some] <;> rfl), by first | exact Kd.R_nil _ _ _ _ _ | exact Kd.N_nil _ _ _ _ _ | exact Kd.V_nil _ _ _ _ _ | exact Kd.Q_nil _ _ _ _ _ | exact Kd.S_nil _ _ _ _ _, by repeat (first | (with_reducible first | exact HB.out | apply below_alloc | apply pw_below_drewN | apply below_drew1 | refine below_set ?_ GE216.out) | exact HB.out)⟩
          · rw [if_neg c7] at H
            exact absurd H (by simp)
        · rw [if_neg c6] at H
          have c6b0 : decide (x5_1 < (l0.length : Int)) = false := decide_eq_false c6
          clear c6
          by_cases c17 : (x4_1.length : Int) = 0
          · rw [if_pos c17] at H
            have c17b0 : ((x4_1.length : Int) == 0) = true := beq_iff_eq.mpr c17
            have c17b1 : ((x4_1.length : Int) != 0) = false := bne_eq_false_iff_eq.mpr c17
            clear c17
            simp only [Option.some.injEq, Prod.mk.injEq] at H
            obtain ⟨rfl, rfl⟩ := H
            obtain ⟨Ao18, co18, eo18⟩ := Kd.R_slice HO_4.out
            subst eo18
            have hcz19_0 : wr.cell? ⟨gb216, 0, none⟩ = some (.slice none 0 0) := (blk_cell BK216.out 0).trans rfl
            have hfz19_0 := blk_frozen BK216.out 0
            go_wp2
            refine bodyPost_ret (results_ct rfl _ _ gb216 28 #[.slice none 0 0] (0, 0) _ rfl (by (with_reducible repeat (first | refine blk_drewN ?_ _ | refine blk_drew ?_ | refine blk_alloc ?_ _)); refine blk_put (cs := #[.slice none 0 0]) ?_ 0 _ rfl; (with_reducible repeat (first | refine blk_drewN ?_ _ | refine blk_drew ?_ | refine blk_alloc ?_ _)); exact BK216.out) Tryz.underlying28 rfl (by kernel_rfl)) rfl ?_
            exact ⟨_, by first | rfl | (simp [errW_none, errW_some] <;> rfl) | (simp [*, errW_none, errW_some] <;> rfl), by first | exact Kd.R_nil _ _ _ _ _ | exact Kd.N_nil _ _ _ _ _ | exact Kd.V_nil _ _ _ _ _ | exact Kd.Q_nil _ _ _ _ _ | exact Kd.S_nil _ _ _ _ _, by repeat (first | (with_reducible first | exact HB.out | apply below_alloc | apply pw_below_drewN | apply below_drew1 | refine below_set ?_ GE216.out) | exact HB.out)⟩
          · rw [if_neg c17] at H
            have c17b0 : ((x4_1.length : Int) == 0) = false := beq_eq_false_iff_ne.mpr c17
            have c17b1 : ((x4_1.length : Int) != 0) = true := bne_iff_ne.mpr c17
            have c17b2 : ¬ (x4_1 = []) := fun h_ => c17 (by rw [h_]; rfl)
            simp only [Option.some.injEq, Prod.mk.injEq] at H
            obtain ⟨rfl, rfl⟩ := H
            obtain ⟨Ao20, co20, eo20⟩ := Kd.R_slice HO_4.out
            subst eo20
            have hcz21_0 : wr.cell? ⟨gb216, 0, none⟩ = some (.slice none 0 0) := (blk_cell BK216.out 0).trans rfl
            have hfz21_0 := blk_frozen BK216.out 0
            go_wp2
            refine bodyPost_ret (results_ct rfl _ _ gb216 28 #[.slice Ao20 x4_1.length co20] (0, 0) _ rfl (by (with_reducible repeat (first | refine blk_drewN ?_ _ | refine blk_drew ?_ | refine blk_alloc ?_ _)); refine blk_put (cs := #[.slice none 0 0]) ?_ 0 _ rfl; (with_reducible repeat (first | refine blk_drewN ?_ _ | refine blk_drew ?_ | refine blk_alloc ?_ _)); exact BK216.out) Tryz.underlying28 rfl (by kernel_rfl)) rfl ?_
            exact ⟨_, by first | rfl | (simp [errW_none, errW_some] <;> rfl) | (simp [*, errW_none, errW_some] <;> rfl), by (with_reducible repeat (first | apply Kd.R_alloc | apply Kd.R_drewN | apply Kd.R_drew)); exact Kd.R_mono (Kd.R_far (p := ⟨gb216, 0, none⟩) (Kd.R_types HO_4.out BK216.out (by decide)) (fun _ hk => hk.2) (.slice Ao20 x4_1.length co20)) (fun _ hk => trivial), by repeat (first | (with_reducible first | exact HB.out | apply below_alloc | apply pw_below_drewN | apply below_drew1 | refine below_set ?_ GE216.out) | exact HB.out)⟩
def place_weight.f (a0 : Int) : Option (Int) := if a0 = 47 then (some (-1)) else (some (wrap64 (a0)))
set_option maxHeartbeats 8000000 in
set_option maxRecDepth 100000 in
theorem place_weight.calls (a0 : Int) (r : Int) (w : World) (h : place_weight.f a0 = some r) :
    Calls Tryz.prog 86 #[.int .u8 a0] w fun e w' => e = .returned (.int .i64 r) ∧ Drawn0 w w' := by
  have H : (if a0 = 47 then (some (-1)) else (some (wrap64 (a0)))) = some r := h
  clear h
  by_cases c2 : a0 = 47
  · rw [if_pos c2] at H
    have c2b0 : (a0 == 47) = true := beq_iff_eq.mpr c2
    have c2b1 : (a0 != 47) = false := bne_eq_false_iff_eq.mpr c2
    clear c2
    obtain rfl := Option.some.inj H
    go_enter Tryz.func86, Tryz.ntmps86
    go_wp2
    go_ret
    exact ⟨by first | rfl | (simp; done) | (simp [*]; done), by repeat (first | exact Drawn0.refl _ | apply Drawn0.step)⟩
  · rw [if_neg c2] at H
    have c2b0 : (a0 == 47) = false := beq_eq_false_iff_ne.mpr c2
    have c2b1 : (a0 != 47) = true := bne_iff_ne.mpr c2
    obtain rfl := Option.some.inj H
    go_enter Tryz.func86, Tryz.ntmps86
    go_wp2
    go_ret
    exact ⟨by first | rfl | (simp; done) | (simp [*]; done), by repeat (first | exact Drawn0.refl _ | apply Drawn0.step)⟩
def tree_may.l0 : Nat → List Int → Int → Int → ByteArray → ByteArray → Int → Int → Int → Int → Int → Option (Bool)
  | 0, _, _, _, _, _, _, _, _, _, _ => none
  | k + 1, x13, x14, x15, x226000, x226001, x226002, x226003, x226004, x226005, x226006 => if x15 < x14 then (if 0 ≤ x15 then (if x15 < (x13.length : Int) then (if (rd x13 x15) < 0 then (some false) else (if (rd x13 x15) > 2147483647 then (some false) else (tree_may.l0 k x13 x14 (wrap64 (x15 + 1)) x226000 x226001 x226002 x226003 x226004 x226005 x226006))) else (none)) else (none)) else (if (x226001.size : Int) ≤ 64 then (if x226006 ≥ 0 then (if x226006 ≤ 100000 then (if x226005 = 0 then (some true) else (some (x226006 == 0))) else (some false)) else (some false)) else (some false))
def tree_may.f (k : Nat) (a0_0 : ByteArray) (a0_1 : ByteArray) (a0_2 : Int) (a0_3 : Int) (a0_4 : Int) (a0_5 : Int) (a0_6 : Int) : Option (Bool) := (some (([a0_2, a0_3, a0_4, a0_5] : List Int) : List Int)).bind fun y226 => (tree_may.l0 k y226 (y226.length : Int) 0 a0_0 a0_1 a0_2 a0_3 a0_4 a0_5 a0_6)
set_option maxHeartbeats 8000000 in
set_option maxRecDepth 100000 in
theorem tree_may.calls (k : Nat) (a0_0 : ByteArray) (a0_1 : ByteArray) (a0_2 : Int) (a0_3 : Int) (a0_4 : Int) (a0_5 : Int) (a0_6 : Int) (r : Bool) (w : World) (h : tree_may.f k a0_0 a0_1 a0_2 a0_3 a0_4 a0_5 a0_6 = some r) :
    Calls Tryz.prog 45 #[.agg #[.string a0_0, .string a0_1, .int .i64 a0_2, .int .i64 a0_3, .int .i64 a0_4, .int .i64 a0_5, .int .i64 a0_6]] w fun e w' => e = .returned (.bool r) ∧ Below w.heap.size w w' := by
  have hu40 := Tryz.underlying40
  have HB := Aside0.mk (Below.refl w.heap.size w)
  have H : ((some (([a0_2, a0_3, a0_4, a0_5] : List Int) : List Int)).bind fun y226 => (tree_may.l0 k y226 (y226.length : Int) 0 a0_0 a0_1 a0_2 a0_3 a0_4 a0_5 a0_6)) = some r := h
  clear h
  obtain ⟨y226, hy226⟩ : ∃ y_ : List Int, y_ = (([a0_2, a0_3, a0_4, a0_5] : List Int)) := ⟨_, rfl⟩
  replace H : (tree_may.l0 k y226 (y226.length : Int) 0 a0_0 a0_1 a0_2 a0_3 a0_4 a0_5 a0_6) = some r := by first | (rw [hy226]; with_reducible exact H) | (have H2_ := (Option.bind_some _ _).symm.trans H; rw [hy226]; with_reducible exact H2_) | (have H2_ := (Option.bind_some _ _).symm.trans H; with_reducible exact H2_) | with_reducible exact H | (rw [hy226]; exact H) | exact H
  have Ny226 := Aside0.mk hy226
  clear hy226
  have H' := Aside0.mk H
  clear H
  go_enter Tryz.func45, Tryz.ntmps45
  go_wp2_with (first | ((with_reducible refine gate_dst (N := 1) rfl ?_); refine box_event ?hg (N := 1) ?hd (cs := #[.string a0_0, .string a0_1, .int .i64 a0_2, .int .i64 a0_3, .int .i64 a0_4, .int .i64 a0_5, .int .i64 a0_6]) (t := 40) ?hr ?_; (case hd => rfl); (case hg => rfl); (case hr => first | (go_simp; done) | (go_simp; rfl)); intro gb225 hg w2 hbox hb; have n0_ := Aside0.mk (below_step (by repeat (first | (with_reducible first | exact HB.out | apply below_alloc | apply pw_below_drewN | apply below_drew1) | exact HB.out)) hb); have n1_ := Aside0.mk (hbox); have n2_ := Aside0.mk ((by rw [hg]; exact (below_size (by repeat (first | (with_reducible first | exact HB.out | apply below_alloc | apply pw_below_drewN | apply below_drew1) | exact HB.out))) : w.heap.size ≤ gb225)); have n3_ := Aside0.mk ((by rw [hg]; exact (below_size (by repeat (first | (with_reducible first | exact HB.out | apply below_alloc | apply pw_below_drewN | apply below_drew1) | exact HB.out))) : w.heap.size ≤ gb225)); clear HB; have HB := n0_; have BK225 := n1_; have GW225 := n2_; have GE225 := n3_; clear n0_ n1_ n2_ n3_; clear hb hbox hg; have hcz3_0 : w2.cell? ⟨gb225, 0, none⟩ = some (.string a0_0) := (blk_cell BK225.out 0).trans rfl; have hcz3_1 : w2.cell? ⟨gb225, 1, none⟩ = some (.string a0_1) := (blk_cell BK225.out 1).trans rfl; have hcz3_2 : w2.cell? ⟨gb225, 2, none⟩ = some (.int .i64 a0_2) := (blk_cell BK225.out 2).trans rfl; have hcz3_3 : w2.cell? ⟨gb225, 3, none⟩ = some (.int .i64 a0_3) := (blk_cell BK225.out 3).trans rfl; have hcz3_4 : w2.cell? ⟨gb225, 4, none⟩ = some (.int .i64 a0_4) := (blk_cell BK225.out 4).trans rfl; have hcz3_5 : w2.cell? ⟨gb225, 5, none⟩ = some (.int .i64 a0_5) := (blk_cell BK225.out 5).trans rfl; have hcz3_6 : w2.cell? ⟨gb225, 6, none⟩ = some (.int .i64 a0_6) := (blk_cell BK225.out 6).trans rfl; have hfz3_0 := blk_frozen BK225.out 0; have hfz3_1 := blk_frozen BK225.out 1; have hfz3_2 := blk_frozen BK225.out 2; have hfz3_3 := blk_frozen BK225.out 3; have hfz3_4 := blk_frozen BK225.out 4; have hfz3_5 := blk_frozen BK225.out 5; have hfz3_6 := blk_frozen BK225.out 6) | ((with_reducible refine gate_dst (N := 13) rfl ?_); refine Kd.R_lit (Kd.int .i64) _ 3 ?hg (N := 13) ?hd (xs := ([a0_2, a0_3, a0_4, a0_5] : List Int)) (inner := [.int .i64 a0_2, .int .i64 a0_3, .int .i64 a0_4, .int .i64 a0_5]) (ok := fun _ => True) (okp := fun _ => True) ?hr ?hp (fun _ hk => hk) trivial (Below.refl _ _) (Nat.le_refl _) (by simp) ?_; (case hd => rfl); (case hg => rfl); (case hr => first | (go_simp; done) | (go_simp; rfl)); (case hp => exact (Reps.one (show Kd.M (Kd.int .i64) _ _ _ a0_2 [.int .i64 a0_2] from rfl) (Reps.one (show Kd.M (Kd.int .i64) _ _ _ a0_3 [.int .i64 a0_3] from rfl) (Reps.one (show Kd.M (Kd.int .i64) _ _ _ a0_4 [.int .i64 a0_4] from rfl) (Reps.one (show Kd.M (Kd.int .i64) _ _ _ a0_5 [.int .i64 a0_5] from rfl) (Reps.none _ _)))))); intro v227 w4 ho5 hb hg_ hnew_; clear hg_ hnew_; (first | rw [← Ny226.out] at ho5 | (simp only [Int.reduceToNat] at ho5; rw [← Ny226.out] at ho5)); have n0_ := Aside0.mk (Kd.R_lower ho5 (below_size (by repeat (first | (with_reducible first | exact HB.out | apply below_alloc | apply pw_below_drewN | apply below_drew1 | refine below_set ?_ GE225.out) | exact HB.out)))); have n1_ := Aside0.mk (blk_below (g := gb225) (o := .cells #[.string a0_0, .string a0_1, .int .i64 a0_2, .int .i64 a0_3, .int .i64 a0_4, .int .i64 a0_5, .int .i64 a0_6] 40 (0, 0)) (by (with_reducible repeat (first | refine blk_drewN ?_ _ | refine blk_drew ?_ | refine blk_alloc ?_ _)); exact BK225.out) hb); have n2_ := Aside0.mk (below_step (by repeat (first | (with_reducible first | exact HB.out | apply below_alloc | apply pw_below_drewN | apply below_drew1 | refine below_set ?_ GE225.out) | exact HB.out)) hb); clear BK225; clear HB; have HO228 := n0_; have BK225 := n1_; have HB := n2_; clear n0_ n1_ n2_; clear hb ho5; obtain ⟨Ao6, co6, eo6⟩ := Kd.R_slice HO228.out; subst eo6))
  go_loopg [15] k (fun kq v15 w' => ∃ (x15_1 : Int), v15 = .int .i64 x15_1 ∧ Aside0 (tree_may.l0 kq y226 (y226.length : Int) x15_1 a0_0 a0_1 a0_2 a0_3 a0_4 a0_5 a0_6 = some r) ∧ Aside0 (kq ≤ k) ∧ Aside0 (Kd.R (Kd.int .i64) 3 w' w.heap.size (fun _ => True) (.slice Ao6 y226.length co6) y226) ∧ Aside0 (w'.heap[gb225]? = some (.cells #[.string a0_0, .string a0_1, .int .i64 a0_2, .int .i64 a0_3, .int .i64 a0_4, .int .i64 a0_5, .int .i64 a0_6] 40 (0, 0))) ∧ Aside0 (Below w.heap.size w w'))
  case atStart => exact ⟨(0), (by first | rfl | (simp; done) | (simp [*]; done)), H', ⟨Nat.le_refl _⟩, ⟨by (with_reducible repeat (first | apply Kd.R_alloc | apply Kd.R_drewN | apply Kd.R_drew)); exact HO228.out⟩, ⟨by (with_reducible repeat (first | refine blk_drewN ?_ _ | refine blk_drew ?_ | refine blk_alloc ?_ _)); exact BK225.out⟩, ⟨by repeat (first | (with_reducible first | exact HB.out | apply below_alloc | apply pw_below_drewN | apply below_drew1 | refine below_set ?_ GE225.out) | exact HB.out)⟩⟩
  case round =>
    clear H'
    try clear p2
    try clear c4
    try clear hcz3_0
    try clear hcz3_1
    try clear hcz3_2
    try clear hcz3_3
    try clear hcz3_4
    try clear hcz3_5
    try clear hcz3_6
    try clear hfz3_0
    try clear hfz3_1
    try clear hfz3_2
    try clear hfz3_3
    try clear hfz3_4
    try clear hfz3_5
    try clear hfz3_6
    obtain ⟨x15_1, rfl, HA, HK1, HO_13, BK225, HB⟩ := hrel
    cases gk with
    | zero => exact absurd HA.out (by simp [tree_may.l0])
    | succ k1 =>
      have H := HA.out
      clear HA
      simp only [tree_may.l0] at H
      by_cases c7 : x15_1 < (y226.length : Int)
      · rw [if_pos c7] at H
        have c7b0 : decide (x15_1 < (y226.length : Int)) = true := decide_eq_true c7
        clear c7
        by_cases c8 : 0 ≤ x15_1
        · rw [if_pos c8] at H
          have c8b0 : decide (0 ≤ x15_1) = true := decide_eq_true c8
          clear c8
          by_cases c9 : x15_1 < (y226.length : Int)
          · rw [if_pos c9] at H
            have c9b0 : decide (x15_1 < (y226.length : Int)) = true := decide_eq_true c9
            clear c9
            by_cases c10 : (rd y226 x15_1) < 0
            · rw [if_pos c10] at H
              have c10b0 : decide ((rd y226 x15_1) < 0) = true := decide_eq_true c10
              clear c10
              obtain rfl := Option.some.inj H
              have p229 : 0 ≤ (x15_1 : Int) := of_decide_eq_true (by first | (with_reducible assumption) | assumption)
              have q229 : x15_1 < (y226.length : Int) := of_decide_eq_true (by first | (with_reducible assumption) | assumption)
              obtain ⟨ad229, e229, hx229_0⟩ := Kd.at_int (Kd.R_reads' HO_13.out).2.2 x15_1 p229 q229
              cases e229
              replace p229 := eq_true p229
              replace q229 := eq_true q229
              go_wp2
              go_ret
              exact ⟨by first | rfl | (simp [errW_none, errW_some] <;> rfl) | (simp [*, errW_none, errW_some] <;> rfl), by repeat (first | (with_reducible first | exact HB.out | apply below_alloc | apply pw_below_drewN | apply below_drew1 | refine below_set ?_ GE225.out) | exact HB.out)⟩
            · rw [if_neg c10] at H
              have c10b0 : decide ((rd y226 x15_1) < 0) = false := decide_eq_false c10
              clear c10
              by_cases c11 : (rd y226 x15_1) > 2147483647
              · rw [if_pos c11] at H
                have c11b0 : decide (2147483647 < (rd y226 x15_1)) = true := decide_eq_true c11
                clear c11
                obtain rfl := Option.some.inj H
                have p229 : 0 ≤ (x15_1 : Int) := of_decide_eq_true (by first | (with_reducible assumption) | assumption)
                have q229 : x15_1 < (y226.length : Int) := of_decide_eq_true (by first | (with_reducible assumption) | assumption)
                obtain ⟨ad229, e229, hx229_0⟩ := Kd.at_int (Kd.R_reads' HO_13.out).2.2 x15_1 p229 q229
                cases e229
                replace p229 := eq_true p229
                replace q229 := eq_true q229
                go_wp2
                go_ret
                exact ⟨by first | rfl | (simp [errW_none, errW_some] <;> rfl) | (simp [*, errW_none, errW_some] <;> rfl), by repeat (first | (with_reducible first | exact HB.out | apply below_alloc | apply pw_below_drewN | apply below_drew1 | refine below_set ?_ GE225.out) | exact HB.out)⟩
              · rw [if_neg c11] at H
                have c11b0 : decide (2147483647 < (rd y226 x15_1)) = false := decide_eq_false c11
                clear c11
                have H' := Aside0.mk H
                clear H
                have p229 : 0 ≤ (x15_1 : Int) := of_decide_eq_true (by first | (with_reducible assumption) | assumption)
                have q229 : x15_1 < (y226.length : Int) := of_decide_eq_true (by first | (with_reducible assumption) | assumption)
                obtain ⟨ad229, e229, hx229_0⟩ := Kd.at_int (Kd.R_reads' HO_13.out).2.2 x15_1 p229 q229
                cases e229
                replace p229 := eq_true p229
                replace q229 := eq_true q229
                go_wp2
                go_roundg k1
                case measure => have := HK1.out; omega
                case rel => exact ⟨(wrap64 (x15_1 + 1)), (by first | rfl | (simp; done) | (simp [*]; done)), H', ⟨by have := HK1.out; omega⟩, ⟨by (with_reducible repeat (first | apply Kd.R_alloc | apply Kd.R_drewN | apply Kd.R_drew)); exact HO_13.out⟩, ⟨by (with_reducible repeat (first | refine blk_drewN ?_ _ | refine blk_drew ?_ | refine blk_alloc ?_ _)); exact BK225.out⟩, ⟨by repeat (first | (with_reducible first | exact HB.out | apply below_alloc | apply pw_below_drewN | apply below_drew1 | refine below_set ?_ GE225.out) | exact HB.out)⟩⟩
          · rw [if_neg c9] at H
            exact absurd H (by simp)
        · rw [if_neg c8] at H
          exact absurd H (by simp)
      · rw [if_neg c7] at H
        have c7b0 : decide (x15_1 < (y226.length : Int)) = false := decide_eq_false c7
        clear c7
        by_cases c12 : (a0_1.size : Int) ≤ 64
        · rw [if_pos c12] at H
          have c12b0 : decide ((a0_1.size : Int) ≤ 64) = true := decide_eq_true c12
          have c12b1 : decide (a0_1.size ≤ 64) = true := decide_eq_true (by omega)
          clear c12
          by_cases c13 : a0_6 ≥ 0
          · rw [if_pos c13] at H
            have c13b0 : decide (0 ≤ a0_6) = true := decide_eq_true c13
            clear c13
            by_cases c14 : a0_6 ≤ 100000
            · rw [if_pos c14] at H
              have c14b0 : decide (a0_6 ≤ 100000) = true := decide_eq_true c14
              clear c14
              by_cases c15 : a0_5 = 0
              · rw [if_pos c15] at H
                have c15b0 : (a0_5 == 0) = true := beq_iff_eq.mpr c15
                have c15b1 : (a0_5 != 0) = false := bne_eq_false_iff_eq.mpr c15
                clear c15
                obtain rfl := Option.some.inj H
                have hcz16_0 : wr.cell? ⟨gb225, 0, none⟩ = some (.string a0_0) := (blk_cell BK225.out 0).trans rfl
                have hcz16_1 : wr.cell? ⟨gb225, 1, none⟩ = some (.string a0_1) := (blk_cell BK225.out 1).trans rfl
                have hcz16_2 : wr.cell? ⟨gb225, 2, none⟩ = some (.int .i64 a0_2) := (blk_cell BK225.out 2).trans rfl
                have hcz16_3 : wr.cell? ⟨gb225, 3, none⟩ = some (.int .i64 a0_3) := (blk_cell BK225.out 3).trans rfl
                have hcz16_4 : wr.cell? ⟨gb225, 4, none⟩ = some (.int .i64 a0_4) := (blk_cell BK225.out 4).trans rfl
                have hcz16_5 : wr.cell? ⟨gb225, 5, none⟩ = some (.int .i64 a0_5) := (blk_cell BK225.out 5).trans rfl
                have hcz16_6 : wr.cell? ⟨gb225, 6, none⟩ = some (.int .i64 a0_6) := (blk_cell BK225.out 6).trans rfl
                have hfz16_0 := blk_frozen BK225.out 0
                have hfz16_1 := blk_frozen BK225.out 1
                have hfz16_2 := blk_frozen BK225.out 2
                have hfz16_3 := blk_frozen BK225.out 3
                have hfz16_4 := blk_frozen BK225.out 4
                have hfz16_5 := blk_frozen BK225.out 5
                have hfz16_6 := blk_frozen BK225.out 6
                go_wp2
                go_ret
                exact ⟨by first | rfl | (simp [errW_none, errW_some] <;> rfl) | (simp [*, errW_none, errW_some] <;> rfl), by repeat (first | (with_reducible first | exact HB.out | apply below_alloc | apply pw_below_drewN | apply below_drew1 | refine below_set ?_ GE225.out) | exact HB.out)⟩
              · rw [if_neg c15] at H
                have c15b0 : (a0_5 == 0) = false := beq_eq_false_iff_ne.mpr c15
                have c15b1 : (a0_5 != 0) = true := bne_iff_ne.mpr c15
                obtain rfl := Option.some.inj H
                have hcz17_0 : wr.cell? ⟨gb225, 0, none⟩ = some (.string a0_0) := (blk_cell BK225.out 0).trans rfl
                have hcz17_1 : wr.cell? ⟨gb225, 1, none⟩ = some (.string a0_1) := (blk_cell BK225.out 1).trans rfl
                have hcz17_2 : wr.cell? ⟨gb225, 2, none⟩ = some (.int .i64 a0_2) := (blk_cell BK225.out 2).trans rfl
                have hcz17_3 : wr.cell? ⟨gb225, 3, none⟩ = some (.int .i64 a0_3) := (blk_cell BK225.out 3).trans rfl
                have hcz17_4 : wr.cell? ⟨gb225, 4, none⟩ = some (.int .i64 a0_4) := (blk_cell BK225.out 4).trans rfl
                have hcz17_5 : wr.cell? ⟨gb225, 5, none⟩ = some (.int .i64 a0_5) := (blk_cell BK225.out 5).trans rfl
                have hcz17_6 : wr.cell? ⟨gb225, 6, none⟩ = some (.int .i64 a0_6) := (blk_cell BK225.out 6).trans rfl
                have hfz17_0 := blk_frozen BK225.out 0
                have hfz17_1 := blk_frozen BK225.out 1
                have hfz17_2 := blk_frozen BK225.out 2
                have hfz17_3 := blk_frozen BK225.out 3
                have hfz17_4 := blk_frozen BK225.out 4
                have hfz17_5 := blk_frozen BK225.out 5
                have hfz17_6 := blk_frozen BK225.out 6
                go_wp2
                go_ret
                exact ⟨by first | rfl | (simp [errW_none, errW_some] <;> rfl) | (simp [*, errW_none, errW_some] <;> rfl), by repeat (first | (with_reducible first | exact HB.out | apply below_alloc | apply pw_below_drewN | apply below_drew1 | refine below_set ?_ GE225.out) | exact HB.out)⟩
            · rw [if_neg c14] at H
              have c14b0 : decide (a0_6 ≤ 100000) = false := decide_eq_false c14
              clear c14
              obtain rfl := Option.some.inj H
              have hcz18_0 : wr.cell? ⟨gb225, 0, none⟩ = some (.string a0_0) := (blk_cell BK225.out 0).trans rfl
              have hcz18_1 : wr.cell? ⟨gb225, 1, none⟩ = some (.string a0_1) := (blk_cell BK225.out 1).trans rfl
              have hcz18_2 : wr.cell? ⟨gb225, 2, none⟩ = some (.int .i64 a0_2) := (blk_cell BK225.out 2).trans rfl
              have hcz18_3 : wr.cell? ⟨gb225, 3, none⟩ = some (.int .i64 a0_3) := (blk_cell BK225.out 3).trans rfl
              have hcz18_4 : wr.cell? ⟨gb225, 4, none⟩ = some (.int .i64 a0_4) := (blk_cell BK225.out 4).trans rfl
              have hcz18_5 : wr.cell? ⟨gb225, 5, none⟩ = some (.int .i64 a0_5) := (blk_cell BK225.out 5).trans rfl
              have hcz18_6 : wr.cell? ⟨gb225, 6, none⟩ = some (.int .i64 a0_6) := (blk_cell BK225.out 6).trans rfl
              have hfz18_0 := blk_frozen BK225.out 0
              have hfz18_1 := blk_frozen BK225.out 1
              have hfz18_2 := blk_frozen BK225.out 2
              have hfz18_3 := blk_frozen BK225.out 3
              have hfz18_4 := blk_frozen BK225.out 4
              have hfz18_5 := blk_frozen BK225.out 5
              have hfz18_6 := blk_frozen BK225.out 6
              go_wp2
              go_ret
              exact ⟨by first | rfl | (simp [errW_none, errW_some] <;> rfl) | (simp [*, errW_none, errW_some] <;> rfl), by repeat (first | (with_reducible first | exact HB.out | apply below_alloc | apply pw_below_drewN | apply below_drew1 | refine below_set ?_ GE225.out) | exact HB.out)⟩
          · rw [if_neg c13] at H
            have c13b0 : decide (0 ≤ a0_6) = false := decide_eq_false c13
            clear c13
            obtain rfl := Option.some.inj H
            have hcz19_0 : wr.cell? ⟨gb225, 0, none⟩ = some (.string a0_0) := (blk_cell BK225.out 0).trans rfl
            have hcz19_1 : wr.cell? ⟨gb225, 1, none⟩ = some (.string a0_1) := (blk_cell BK225.out 1).trans rfl
            have hcz19_2 : wr.cell? ⟨gb225, 2, none⟩ = some (.int .i64 a0_2) := (blk_cell BK225.out 2).trans rfl
            have hcz19_3 : wr.cell? ⟨gb225, 3, none⟩ = some (.int .i64 a0_3) := (blk_cell BK225.out 3).trans rfl
            have hcz19_4 : wr.cell? ⟨gb225, 4, none⟩ = some (.int .i64 a0_4) := (blk_cell BK225.out 4).trans rfl
            have hcz19_5 : wr.cell? ⟨gb225, 5, none⟩ = some (.int .i64 a0_5) := (blk_cell BK225.out 5).trans rfl
            have hcz19_6 : wr.cell? ⟨gb225, 6, none⟩ = some (.int .i64 a0_6) := (blk_cell BK225.out 6).trans rfl
            have hfz19_0 := blk_frozen BK225.out 0
            have hfz19_1 := blk_frozen BK225.out 1
            have hfz19_2 := blk_frozen BK225.out 2
            have hfz19_3 := blk_frozen BK225.out 3
            have hfz19_4 := blk_frozen BK225.out 4
            have hfz19_5 := blk_frozen BK225.out 5
            have hfz19_6 := blk_frozen BK225.out 6
            go_wp2
            go_ret
            exact ⟨by first | rfl | (simp [errW_none, errW_some] <;> rfl) | (simp [*, errW_none, errW_some] <;> rfl), by repeat (first | (with_reducible first | exact HB.out | apply below_alloc | apply pw_below_drewN | apply below_drew1 | refine below_set ?_ GE225.out) | exact HB.out)⟩
        · rw [if_neg c12] at H
          have c12b0 : decide ((a0_1.size : Int) ≤ 64) = false := decide_eq_false c12
          have c12b1 : decide (a0_1.size ≤ 64) = false := decide_eq_false (by omega)
          clear c12
          obtain rfl := Option.some.inj H
          have hcz20_0 : wr.cell? ⟨gb225, 0, none⟩ = some (.string a0_0) := (blk_cell BK225.out 0).trans rfl
          have hcz20_1 : wr.cell? ⟨gb225, 1, none⟩ = some (.string a0_1) := (blk_cell BK225.out 1).trans rfl
          have hcz20_2 : wr.cell? ⟨gb225, 2, none⟩ = some (.int .i64 a0_2) := (blk_cell BK225.out 2).trans rfl
          have hcz20_3 : wr.cell? ⟨gb225, 3, none⟩ = some (.int .i64 a0_3) := (blk_cell BK225.out 3).trans rfl
          have hcz20_4 : wr.cell? ⟨gb225, 4, none⟩ = some (.int .i64 a0_4) := (blk_cell BK225.out 4).trans rfl
          have hcz20_5 : wr.cell? ⟨gb225, 5, none⟩ = some (.int .i64 a0_5) := (blk_cell BK225.out 5).trans rfl
          have hcz20_6 : wr.cell? ⟨gb225, 6, none⟩ = some (.int .i64 a0_6) := (blk_cell BK225.out 6).trans rfl
          have hfz20_0 := blk_frozen BK225.out 0
          have hfz20_1 := blk_frozen BK225.out 1
          have hfz20_2 := blk_frozen BK225.out 2
          have hfz20_3 := blk_frozen BK225.out 3
          have hfz20_4 := blk_frozen BK225.out 4
          have hfz20_5 := blk_frozen BK225.out 5
          have hfz20_6 := blk_frozen BK225.out 6
          go_wp2
          go_ret
          exact ⟨by first | rfl | (simp [errW_none, errW_some] <;> rfl) | (simp [*, errW_none, errW_some] <;> rfl), by repeat (first | (with_reducible first | exact HB.out | apply below_alloc | apply pw_below_drewN | apply below_drew1 | refine below_set ?_ GE225.out) | exact HB.out)⟩
def tool_word.l0 : Nat → List (S122) → List (S122) → Int → Int → Option (Bool)
  | 0, _, _, _, _ => none
  | k + 1, x0, x1, x12, x13 => if x13 < x12 then (if 0 ≤ x13 then (if x13 < (x0.length : Int) then (if x13 < (x1.length : Int) then (if (!((((rd_T122 x0 x13).f0).toList) == (((rd_T122 x1 x13).f0).toList)) || (!(((rd_T122 x0 x13).f1) == ((rd_T122 x1 x13).f1)))) = true then (some false) else (tool_word.l0 k x0 x1 x12 (wrap64 (x13 + 1)))) else (none)) else (none)) else (none)) else (some true)
def tool_word.f (k : Nat) (l0 : List (S122)) (l1 : List (S122)) : Option (Bool) := if (l0.length : Int) = (l1.length : Int) then (tool_word.l0 k l0 l1 (l0.length : Int) 0) else (some false)
set_option maxHeartbeats 8000000 in
set_option maxRecDepth 100000 in
theorem tool_word.calls (k : Nat) (A0 : Option Addr) (c0 : Nat) (l0 : List (S122)) (A1 : Option Addr) (c1 : Nat) (l1 : List (S122)) (r : Bool) (w : World) (hr0 : Kd.C k122 w A0 l0.length l0) (hc0 : l0.length ≤ c0) (hr1 : Kd.C k122 w A1 l1.length l1) (hc1 : l1.length ≤ c1) (h : tool_word.f k l0 l1 = some r) :
    Calls Tryz.prog 52 #[.slice A0 l0.length c0, .slice A1 l1.length c1] w fun e w' => e = .returned (.bool r) ∧ Drawn0 w w' := by
  have hu122 := Tryz.underlying122
  have HR0 := Aside0.mk hr0
  have HC0 := Aside0.mk hc0
  clear hr0 hc0
  have HR1 := Aside0.mk hr1
  have HC1 := Aside0.mk hc1
  clear hr1 hc1
  have H : (if (l0.length : Int) = (l1.length : Int) then (tool_word.l0 k l0 l1 (l0.length : Int) 0) else (some false)) = some r := h
  clear h
  by_cases c3 : (l0.length : Int) = (l1.length : Int)
  · rw [if_pos c3] at H
    have c3b0 : ((l0.length : Int) == (l1.length : Int)) = true := beq_iff_eq.mpr c3
    have c3b1 : ((l0.length : Int) != (l1.length : Int)) = false := bne_eq_false_iff_eq.mpr c3
    have c3b2 : (l0.length == l1.length) = true := by first | simpa using c3 | (simp at c3 ⊢; omega)
    clear c3
    have H' := Aside0.mk H
    clear H
    go_enter Tryz.func52, Tryz.ntmps52
    go_wp2
    repeat (go_quiet (fail); try go_wp2)
    go_loopg [13] k (fun kq v13 w' => ∃ (x13_1 : Int), v13 = .int .i64 x13_1 ∧ Aside0 (tool_word.l0 kq l0 l1 (l0.length : Int) x13_1 = some r) ∧ Aside0 (kq ≤ k) ∧ Drawn0 w w')
    case atStart => exact ⟨(0), (by first | rfl | (simp; done) | (simp [*]; done)), H', ⟨Nat.le_refl _⟩, by repeat (first | exact Drawn0.refl _ | apply Drawn0.step)⟩
    case round =>
      clear H'
      try clear c1
      try clear p2
      try clear c3
      try clear c3b0
      try clear c3b1
      try clear c3b2
      obtain ⟨x13_1, rfl, HA, HK1, ⟨m1, rfl⟩⟩ := hrel
      cases gk with
      | zero => exact absurd HA.out (by simp [tool_word.l0])
      | succ k1 =>
        have H := HA.out
        clear HA
        simp only [tool_word.l0] at H
        by_cases c4 : x13_1 < (l0.length : Int)
        · rw [if_pos c4] at H
          have c4b0 : decide (x13_1 < (l0.length : Int)) = true := decide_eq_true c4
          clear c4
          by_cases c5 : 0 ≤ x13_1
          · rw [if_pos c5] at H
            have c5b0 : decide (0 ≤ x13_1) = true := decide_eq_true c5
            clear c5
            by_cases c6 : x13_1 < (l0.length : Int)
            · rw [if_pos c6] at H
              have c6b0 : decide (x13_1 < (l0.length : Int)) = true := decide_eq_true c6
              clear c6
              by_cases c7 : x13_1 < (l1.length : Int)
              · rw [if_pos c7] at H
                have c7b0 : decide (x13_1 < (l1.length : Int)) = true := decide_eq_true c7
                clear c7
                by_cases c8 : (!((((rd_T122 l0 x13_1).f0).toList) == (((rd_T122 l1 x13_1).f0).toList)) || (!(((rd_T122 l0 x13_1).f1) == ((rd_T122 l1 x13_1).f1)))) = true
                · rw [if_pos c8] at H
                  have c8b0 : (!((((rd_T122 l0 x13_1).f0).toList) == (((rd_T122 l1 x13_1).f0).toList)) || (!(((rd_T122 l0 x13_1).f1) == ((rd_T122 l1 x13_1).f1)))) = true := c8
                  clear c8
                  obtain rfl := Option.some.inj H
                  have p230 : 0 ≤ (x13_1 : Int) := of_decide_eq_true (by first | (with_reducible assumption) | assumption)
                  have q230 : x13_1 < (l0.length : Int) := of_decide_eq_true (by first | (with_reducible assumption) | assumption)
                  obtain ⟨ad230, e230, hx230_0, hx230_1⟩ := at_T122 HR0.out x13_1 p230 q230
                  cases e230
                  replace p230 := eq_true p230
                  replace q230 := eq_true q230
                  have p231 : 0 ≤ (x13_1 : Int) := of_decide_eq_true (by first | (with_reducible assumption) | assumption)
                  have q231 : x13_1 < (l1.length : Int) := of_decide_eq_true (by first | (with_reducible assumption) | assumption)
                  obtain ⟨ad231, e231, hx231_0, hx231_1⟩ := at_T122 HR1.out x13_1 p231 q231
                  cases e231
                  replace p231 := eq_true p231
                  replace q231 := eq_true q231
                  go_wp2
                  repeat (go_quiet (fail); try go_wp2)
                  go_ret
                  exact ⟨by first | rfl | (simp; done) | (simp [*]; done), by repeat (first | exact Drawn0.refl _ | apply Drawn0.step)⟩
                · rw [if_neg c8] at H
                  have c8b0 : (!((((rd_T122 l0 x13_1).f0).toList) == (((rd_T122 l1 x13_1).f0).toList)) || (!(((rd_T122 l0 x13_1).f1) == ((rd_T122 l1 x13_1).f1)))) = false := by simpa using c8
                  clear c8
                  have H' := Aside0.mk H
                  clear H
                  have p230 : 0 ≤ (x13_1 : Int) := of_decide_eq_true (by first | (with_reducible assumption) | assumption)
                  have q230 : x13_1 < (l0.length : Int) := of_decide_eq_true (by first | (with_reducible assumption) | assumption)
                  obtain ⟨ad230, e230, hx230_0, hx230_1⟩ := at_T122 HR0.out x13_1 p230 q230
                  cases e230
                  replace p230 := eq_true p230
                  replace q230 := eq_true q230
                  have p231 : 0 ≤ (x13_1 : Int) := of_decide_eq_true (by first | (with_reducible assumption) | assumption)
                  have q231 : x13_1 < (l1.length : Int) := of_decide_eq_true (by first | (with_reducible assumption) | assumption)
                  obtain ⟨ad231, e231, hx231_0, hx231_1⟩ := at_T122 HR1.out x13_1 p231 q231
                  cases e231
                  replace p231 := eq_true p231
                  replace q231 := eq_true q231
                  go_wp2
                  repeat (go_quiet (fail); try go_wp2)
                  go_roundg k1
                  case measure => have := HK1.out; omega
                  case rel => exact ⟨(wrap64 (x13_1 + 1)), (by first | rfl | (simp; done) | (simp [*]; done)), H', ⟨by have := HK1.out; omega⟩, by repeat (first | exact Drawn0.refl _ | apply Drawn0.step)⟩
              · rw [if_neg c7] at H
                exact absurd H (by simp)
            · rw [if_neg c6] at H
              exact absurd H (by simp)
          · rw [if_neg c5] at H
            exact absurd H (by simp)
        · rw [if_neg c4] at H
          have c4b0 : decide (x13_1 < (l0.length : Int)) = false := decide_eq_false c4
          clear c4
          obtain rfl := Option.some.inj H
          go_wp2
          repeat (go_quiet (fail); try go_wp2)
          go_ret
          exact ⟨by first | rfl | (simp; done) | (simp [*]; done), by repeat (first | exact Drawn0.refl _ | apply Drawn0.step)⟩
  · rw [if_neg c3] at H
    have c3b0 : ((l0.length : Int) == (l1.length : Int)) = false := beq_eq_false_iff_ne.mpr c3
    have c3b1 : ((l0.length : Int) != (l1.length : Int)) = true := bne_iff_ne.mpr c3
    have c3b2 : (l0.length == l1.length) = false := by first | simpa using c3 | (simp at c3 ⊢; omega)
    obtain rfl := Option.some.inj H
    go_enter Tryz.func52, Tryz.ntmps52
    go_wp2
    repeat (go_quiet (fail); try go_wp2)
    go_ret
    exact ⟨by first | rfl | (simp; done) | (simp [*]; done), by repeat (first | exact Drawn0.refl _ | apply Drawn0.step)⟩
end Go.Proofs.YteamhfmpogbilaaGreatDoor.X
end
section
namespace Go.Proofs.YteamhfmpogbilaaGreatDoor.X
open Go.RowKit Go.Proofs.YteamhfmpogbilaaGreatDoorW.PrintWords Go.Proofs.YteamhfmpogbilaaGreatDoorW.PrintLast Go.Proofs.YteamhfmpogbilaaGreatDoorW.PrintMore
attribute [local go_sem] max2_int min2_int max_two min_two max_three min_three max_four min_four   -- for this text's walks alone
set_option linter.unusedVariables false
set_option linter.unusedSimpArgs false
end Go.Proofs.YteamhfmpogbilaaGreatDoor.X
end
section
namespace Go.Proofs.YteamhfmpogbilaaGreatDoor.X
open Go.RowKit Go.Proofs.YteamhfmpogbilaaGreatDoorW.PrintWords Go.Proofs.YteamhfmpogbilaaGreatDoorW.PrintLast Go.Proofs.YteamhfmpogbilaaGreatDoorW.PrintMore
attribute [local go_sem] max2_int min2_int max_two min_two max_three min_three max_four min_four   -- for this text's walks alone
set_option linter.unusedVariables false
set_option linter.unusedSimpArgs false
end Go.Proofs.YteamhfmpogbilaaGreatDoor.X
end
section
namespace Go.Proofs.YteamhfmpogbilaaGreatDoor.X
open Go.RowKit Go.Proofs.YteamhfmpogbilaaGreatDoorW.PrintWords Go.Proofs.YteamhfmpogbilaaGreatDoorW.PrintLast Go.Proofs.YteamhfmpogbilaaGreatDoorW.PrintMore
attribute [local go_sem] max2_int min2_int max_two min_two max_three min_three max_four min_four   -- for this text's walks alone
set_option linter.unusedVariables false
set_option linter.unusedSimpArgs false
end Go.Proofs.YteamhfmpogbilaaGreatDoor.X
end
section
namespace Go.Proofs.YteamhfmpogbilaaGreatDoor.X
open Go.RowKit Go.Proofs.YteamhfmpogbilaaGreatDoorW.PrintWords Go.Proofs.YteamhfmpogbilaaGreatDoorW.PrintLast Go.Proofs.YteamhfmpogbilaaGreatDoorW.PrintMore
attribute [local go_sem] max2_int min2_int max_two min_two max_three min_three max_four min_four   -- for this text's walks alone
set_option linter.unusedVariables false
set_option linter.unusedSimpArgs false
end Go.Proofs.YteamhfmpogbilaaGreatDoor.X
end
section
namespace Go.Proofs.YteamhfmpogbilaaGreatDoor.X
open Go.RowKit Go.Proofs.YteamhfmpogbilaaGreatDoorW.PrintWords Go.Proofs.YteamhfmpogbilaaGreatDoorW.PrintLast Go.Proofs.YteamhfmpogbilaaGreatDoorW.PrintMore
attribute [local go_sem] max2_int min2_int max_two min_two max_three min_three max_four min_four   -- for this text's walks alone
set_option linter.unusedVariables false
set_option linter.unusedSimpArgs false
end Go.Proofs.YteamhfmpogbilaaGreatDoor.X
end
section
namespace Go.Proofs.YteamhfmpogbilaaGreatDoor.X
open Go.RowKit Go.Proofs.YteamhfmpogbilaaGreatDoorW.PrintWords Go.Proofs.YteamhfmpogbilaaGreatDoorW.PrintLast Go.Proofs.YteamhfmpogbilaaGreatDoorW.PrintMore
attribute [local go_sem] max2_int min2_int max_two min_two max_three min_three max_four min_four   -- for this text's walks alone
set_option linter.unusedVariables false
set_option linter.unusedSimpArgs false
end Go.Proofs.YteamhfmpogbilaaGreatDoor.X
end
section
set_option linter.unusedVariables false
set_option linter.unusedSimpArgs false
namespace Go.Proofs.YteamhfmpogbilaaGreatDoor.X
open Go.RowKit Go.Proofs.YteamhfmpogbilaaGreatDoorW.PrintWords Go.Proofs.YteamhfmpogbilaaGreatDoorW.PrintLast Go.Proofs.YteamhfmpogbilaaGreatDoorW.PrintMore
structure S40 where
  f0 : ByteArray
  f1 : ByteArray
  f2 : Int
  f3 : Int
  f4 : Int
  f5 : Int
  f6 : Int
def z40 : S40 := ⟨(⟨#[]⟩ : ByteArray), (⟨#[]⟩ : ByteArray), (0 : Int), (0 : Int), (0 : Int), (0 : Int), (0 : Int)⟩
def k40 : Kd S40 := Kd.iso (Kd.pair Kd.string (Kd.pair Kd.string (Kd.pair (Kd.int .i64) (Kd.pair (Kd.int .i64) (Kd.pair (Kd.int .i64) (Kd.pair (Kd.int .i64) (Kd.int .i64))))))) (fun x : S40 => (x.f0, x.f1, x.f2, x.f3, x.f4, x.f5, x.f6))
theorem k40_open {w : World} {x : S40} {cs : List Value} (h : k40.K w x cs) : cs = [.string x.f0, .string x.f1, .int .i64 x.f2, .int .i64 x.f3, .int .i64 x.f4, .int .i64 x.f5, .int .i64 x.f6] := by
  obtain ⟨_, _, rfl, rfl, ⟨_, _, rfl, rfl, ⟨_, _, rfl, rfl, ⟨_, _, rfl, rfl, ⟨_, _, rfl, rfl, ⟨_, _, rfl, rfl, rfl⟩⟩⟩⟩⟩⟩ := h
  exact rfl
theorem k40_openM {w : World} {base : Nat} {ok : Nat → Prop} {x : S40} {cs : List Value} (h : k40.M w base ok x cs) : cs = [.string x.f0, .string x.f1, .int .i64 x.f2, .int .i64 x.f3, .int .i64 x.f4, .int .i64 x.f5, .int .i64 x.f6] := by
  obtain ⟨_, _, rfl, rfl, ⟨_, _, rfl, rfl, ⟨_, _, rfl, rfl, ⟨_, _, rfl, rfl, ⟨_, _, rfl, rfl, ⟨_, _, rfl, rfl, rfl⟩⟩⟩⟩⟩⟩ := h
  exact rfl
theorem k40_mk (w : World) (x : S40)  : k40.K w x [.string x.f0, .string x.f1, .int .i64 x.f2, .int .i64 x.f3, .int .i64 x.f4, .int .i64 x.f5, .int .i64 x.f6] := ⟨[.string x.f0], [.string x.f1, .int .i64 x.f2, .int .i64 x.f3, .int .i64 x.f4, .int .i64 x.f5, .int .i64 x.f6], rfl, rfl, ⟨[.string x.f1], [.int .i64 x.f2, .int .i64 x.f3, .int .i64 x.f4, .int .i64 x.f5, .int .i64 x.f6], rfl, rfl, ⟨[.int .i64 x.f2], [.int .i64 x.f3, .int .i64 x.f4, .int .i64 x.f5, .int .i64 x.f6], rfl, rfl, ⟨[.int .i64 x.f3], [.int .i64 x.f4, .int .i64 x.f5, .int .i64 x.f6], rfl, rfl, ⟨[.int .i64 x.f4], [.int .i64 x.f5, .int .i64 x.f6], rfl, rfl, ⟨[.int .i64 x.f5], [.int .i64 x.f6], rfl, rfl, rfl⟩⟩⟩⟩⟩⟩
theorem k40_mkM (w : World) (base : Nat) (ok : Nat → Prop) (x : S40)  : k40.M w base ok x [.string x.f0, .string x.f1, .int .i64 x.f2, .int .i64 x.f3, .int .i64 x.f4, .int .i64 x.f5, .int .i64 x.f6] := ⟨[.string x.f0], [.string x.f1, .int .i64 x.f2, .int .i64 x.f3, .int .i64 x.f4, .int .i64 x.f5, .int .i64 x.f6], rfl, rfl, ⟨[.string x.f1], [.int .i64 x.f2, .int .i64 x.f3, .int .i64 x.f4, .int .i64 x.f5, .int .i64 x.f6], rfl, rfl, ⟨[.int .i64 x.f2], [.int .i64 x.f3, .int .i64 x.f4, .int .i64 x.f5, .int .i64 x.f6], rfl, rfl, ⟨[.int .i64 x.f3], [.int .i64 x.f4, .int .i64 x.f5, .int .i64 x.f6], rfl, rfl, ⟨[.int .i64 x.f4], [.int .i64 x.f5, .int .i64 x.f6], rfl, rfl, ⟨[.int .i64 x.f5], [.int .i64 x.f6], rfl, rfl, rfl⟩⟩⟩⟩⟩⟩
def rd_T40 (xs : List S40) (i : Int) : S40 := xs.getD i.toNat z40
theorem at_T40 {w : World} {A : Option Addr} {n : Nat} {xs : List S40} (h : Kd.C k40 w A n xs) (i : Int) (h0 : 0 ≤ i) (h1 : i < n) : ∃ ad , A = some ad ∧ w.cell? (ad.add (i.toNat * 7)) = some (.string (rd_T40 xs i).f0) ∧ w.cell? ⟨(ad.add (i.toNat * 7)).block, (ad.add (i.toNat * 7)).off + 1, none⟩ = some (.string (rd_T40 xs i).f1) ∧ w.cell? ⟨(ad.add (i.toNat * 7)).block, (ad.add (i.toNat * 7)).off + 2, none⟩ = some (.int .i64 (rd_T40 xs i).f2) ∧ w.cell? ⟨(ad.add (i.toNat * 7)).block, (ad.add (i.toNat * 7)).off + 3, none⟩ = some (.int .i64 (rd_T40 xs i).f3) ∧ w.cell? ⟨(ad.add (i.toNat * 7)).block, (ad.add (i.toNat * 7)).off + 4, none⟩ = some (.int .i64 (rd_T40 xs i).f4) ∧ w.cell? ⟨(ad.add (i.toNat * 7)).block, (ad.add (i.toNat * 7)).off + 5, none⟩ = some (.int .i64 (rd_T40 xs i).f5) ∧ w.cell? ⟨(ad.add (i.toNat * 7)).block, (ad.add (i.toNat * 7)).off + 6, none⟩ = some (.int .i64 (rd_T40 xs i).f6) := by
  obtain ⟨ad, c, e, _, hK, hc0⟩ := Kd.C_get h z40 i h0 h1
  have hc : ∀ j u, c[j]? = some u → w.cell? (ad.add (i.toNat * 7 + j)) = some u := hc0
  obtain rfl := k40_open hK
  exact ⟨ad, e, hc 0 _ rfl, by rw [← add_field _ _ 1 (by omega)]; exact hc 1 _ rfl, by rw [← add_field _ _ 2 (by omega)]; exact hc 2 _ rfl, by rw [← add_field _ _ 3 (by omega)]; exact hc 3 _ rfl, by rw [← add_field _ _ 4 (by omega)]; exact hc 4 _ rfl, by rw [← add_field _ _ 5 (by omega)]; exact hc 5 _ rfl, by rw [← add_field _ _ 6 (by omega)]; exact hc 6 _ rfl⟩
end Go.Proofs.YteamhfmpogbilaaGreatDoor.X
end
