/- heraldlaw22.ToolLoose returns true for every text. -/
import Derived.Test.YteamhfmpogbilaaGreatDoorBack2
import Derived.Test.YteamhfmpogbilaaGreatDoorKnown
import Derived.WalkSmall
set_option linter.unusedVariables false
set_option linter.unusedSimpArgs false
namespace Go.Proofs.YteamhfmpogbilaaGreatDoor.X
open Go.RowKit Go.Shelf Go.Proofs.YteamhfmpogbilaaGreatDoor Go.Proofs.YteamhfmpogbilaaGreatDoorW.PrintWords Go.Proofs.YteamhfmpogbilaaGreatDoorW.PrintLast

theorem num_two (w : World) : Calls Tryz.prog 11 #[.int .i64 2] w fun e w' => e = .returned (.int .i64 2) ∧ w' = w := by
  go_enter Tryz.func11, Tryz.ntmps11
  go_wp2
  go_ret
  exact ⟨rfl, rfl⟩
theorem num_text (w : World) : Calls Tryz.prog 11 #[.int .i64 220] w fun e w' => e = .returned (.int .i64 220) ∧ w' = w := by
  go_enter Tryz.func11, Tryz.ntmps11
  go_wp2
  go_ret
  exact ⟨rfl, rfl⟩
/-- What a tree that was read or loaded gives. -/
theorem ok_small {d : List Full} (h : okL d) : ∀ n ∈ d, n.f0.size ≤ 102 := fun n hn => parse_size (ok_fine h n hn).1
theorem export_tree (b m : Nat) (d : List Full) (w : World) (hG : Glob w) (hT : TreeAt w b m d) (h64 : d.length ≤ 64) (hok : okL d) :
    Calls Tryz.prog 14 #[.pointer (some ⟨b, 0, none⟩)] w fun e w' => e = .returned (.tuple #[.string (mk (writtenL d)), .int .i64 0]) ∧ Aside0 (Below w.heap.size w w') := by
  have hnice := okL_nice hok (ok_small hok)
  have hwb := written_bound d hnice
  exact export_calls b m d w hG hT (fits_rising hok.2.2) hok.1 (by omega) (fun n hn => (hnice n hn).1) (fun n hn => by have := hnice n hn; omega) (by omega)
theorem nodes_tree (b m : Nat) (d : List Full) (w : World) (hT : TreeAt w b m d) (h64 : d.length ≤ 64) (hok : okL d) :
    Calls Tryz.prog 15 #[.pointer (some ⟨b, 0, none⟩)] w fun e w' => ∃ A cap, e = .returned (.slice A d.length cap) ∧ d.length ≤ cap ∧ Kd.C k40 w' A d.length d ∧ Aside0 (Below w.heap.size w w') :=
  (nodes_calls b m d w hT (fits_rising hok.2.2) hok.1 (by omega) (fun n hn => by have := ok_small hok n hn; omega)).mono fun _ _ ⟨_, cap, h⟩ => ⟨_, cap, h⟩

theorem eqFull (d : Nat) (w : World) (x0 y0 x1 y1 : ByteArray) (x2 x3 x4 x5 x6 y2 y3 y4 y5 y6 : Int) :
    (Op.equalIn (d + 2) 40 (.agg #[.string x0, .string x1, .int .i64 x2, .int .i64 x3, .int .i64 x4, .int .i64 x5, .int .i64 x6]) (.agg #[.string y0, .string y1, .int .i64 y2, .int .i64 y3, .int .i64 y4, .int .i64 y5, .int .i64 y6])).run Tryz.prog w =
      .ok (x0.toList == y0.toList && (x1.toList == y1.toList && (x2 == y2 && (x3 == y3 && (x4 == y4 && (x5 == y5 && (x6 == y6))))))) w := by
  refine eqA_of Tryz.underlying40 (by kernel_rfl) ?_
  refine eqf_cons (by rfl) (by go_simp; rfl) (by go_simp; rfl) (by go_simp) ?_
  refine eqf_cons (by rfl) (by go_simp; rfl) (by go_simp; rfl) (by go_simp) ?_
  refine eqf_cons (by rfl) (by go_simp; rfl) (by go_simp; rfl) (by go_simp) ?_
  refine eqf_cons (by rfl) (by go_simp; rfl) (by go_simp; rfl) (by go_simp) ?_
  refine eqf_cons (by rfl) (by go_simp; rfl) (by go_simp; rfl) (by go_simp) ?_
  refine eqf_cons (by rfl) (by go_simp; rfl) (by go_simp; rfl) (by go_simp) ?_
  exact eqf_last (by rfl) (by go_simp; rfl) (by go_simp; rfl) (by go_simp)
theorem eqFull_self (d : Nat) (w : World) (x0 x1 : ByteArray) (x2 x3 x4 x5 x6 : Int) :
    (Op.equalIn (d + 2) 40 (.agg #[.string x0, .string x1, .int .i64 x2, .int .i64 x3, .int .i64 x4, .int .i64 x5, .int .i64 x6]) (.agg #[.string x0, .string x1, .int .i64 x2, .int .i64 x3, .int .i64 x4, .int .i64 x5, .int .i64 x6])).run Tryz.prog w =
      .ok true w := by rw [eqFull]; simp
attribute [local go_sem] eqFull_self

set_option maxHeartbeats 8000000 in
set_option maxRecDepth 100000 in
theorem loose_calls (s : ByteArray) (w : World) (hG : Glob w) :
    Calls Tryz.prog 4 #[.string s] w fun e w' => e = .returned (.bool true) ∧ Aside0 (Below w.heap.size w w') := by
  have HG := Aside0.mk hG
  have HI := Aside0.mk (import_calls s w hG)
  clear hG
  go_enter Tryz.func4, Tryz.ntmps4
  go_wp2_with fail
  refine HI.out.mono ?_
  rintro e w1 ⟨he, hb1⟩
  have HG1 := Aside0.mk (HG.out.below hb1.out)
  clear HI
  rcases he with ⟨_, rfl⟩ | ⟨_, p, x, bg, l, _, _, _, rfl⟩ | ⟨_, bg, l, d, _, _, _, _, ⟨h64, hne, hrt, hft, b, m, rfl, hT⟩ | ⟨_, rfl⟩⟩
  · go_wp2_with fail
    refine (num_two _).mono ?_
    rintro e w2 ⟨rfl, rfl⟩
    go_wp2_with fail
    refine (num_two _).mono ?_
    rintro e w3 ⟨rfl, rfl⟩
    go_wp2_with fail
    refine (known_calls _ HG1.out).mono ?_
    rintro e w4 ⟨rfl, hb4⟩
    go_wp2_with fail
    go_ret
    exact ⟨rfl, ⟨hb1.out.trans (hb4.out.mono hb1.out.size)⟩⟩
  · have d1 : decide (0 ≤ ((p.length : Int) + 1)) = true := decide_eq_true (by omega)
    go_wp2_with fail
    refine (num_text _).mono ?_
    rintro e w2 ⟨rfl, rfl⟩
    go_wp2_with fail
    refine (num_text _).mono ?_
    rintro e w3 ⟨rfl, rfl⟩
    go_wp2_with fail
    refine (num_text _).mono ?_
    rintro e w3 ⟨rfl, rfl⟩
    go_wp2_with fail
    refine (known_calls _ HG1.out).mono ?_
    rintro e w4 ⟨rfl, hb4⟩
    go_wp2_with fail
    go_ret
    exact ⟨rfl, ⟨hb1.out.trans (hb4.out.mono hb1.out.size)⟩⟩
  · have hok : okL d := ⟨hne, hrt, hft⟩
    have HT := Aside0.mk hT
    have HOK := Aside0.mk hok
    have HX := Aside0.mk (export_tree b m d w1 HG1.out hT h64 hok)
    clear hT hok hne hrt hft
    go_wp2_with fail
    refine (num_zero _).mono ?_
    rintro e w2 ⟨rfl, rfl⟩
    go_wp2_with fail
    refine HX.out.mono ?_
    rintro e w2 ⟨rfl, hb2⟩
    have HB2 := Aside0.mk (hb1.out.trans (hb2.out.mono hb1.out.size))
    have HG2 := Aside0.mk (HG.out.below HB2.out)
    have HT2 := Aside0.mk (HT.out.below hb2.out)
    have HI2 := Aside0.mk (import_written d h64 HOK.out (ok_small HOK.out) w2 HG2.out)
    clear HX HT hb1 hb2 HG1
    go_wp2_with fail
    refine HI2.out.mono ?_
    rintro e w3 ⟨b3, m3, rfl, hT3, hb3⟩
    have HT3 := Aside0.mk hT3
    have HB3 := Aside0.mk (HB2.out.trans (hb3.out.mono HB2.out.size))
    have HT23 := Aside0.mk (HT2.out.below hb3.out)
    have HN1 := Aside0.mk (nodes_tree b m d w3 HT23.out h64 HOK.out)
    clear HI2 HT2 HB2 HG2 hT3 hb3
    go_wp2_with fail
    refine (num_zero _).mono ?_
    rintro e w4 ⟨rfl, rfl⟩
    go_wp2_with fail
    refine (num_zero _).mono ?_
    rintro e w4 ⟨rfl, rfl⟩
    go_wp2_with fail
    refine HN1.out.mono ?_
    rintro e w4 ⟨g1, cap1, rfl, hc1, hC1, hb4⟩
    have HC1 := Aside0.mk hC1
    have HB4 := Aside0.mk (HB3.out.trans (hb4.out.mono HB3.out.size))
    have HT34 := Aside0.mk (HT3.out.below hb4.out)
    have HN2 := Aside0.mk (nodes_tree b3 m3 d w4 HT34.out h64 HOK.out)
    clear HN1 HT3 HT23 HB3 hC1 hb4
    go_wp2_with fail
    refine HN2.out.mono ?_
    rintro e w5 ⟨g2, cap2, rfl, hc2, hC2, hb5⟩
    have HC2 := Aside0.mk hC2
    have HB5 := Aside0.mk (HB4.out.trans (hb5.out.mono HB4.out.size))
    have HC1 := Aside0.mk (Kd.C_below HC1.out hb5.out)
    have HX2 := Aside0.mk (fun (mm : Nat) => export_tree b3 m3 d (w5.drewN mm) (HG.out.below (below_drewN HB5.out mm)) (HT34.out.below (below_drewN hb5.out mm)) h64 HOK.out)
    have q0 : ((d.length : Int) == (d.length : Int)) = true := beq_iff_eq.mpr rfl
    have q1 : ((d.length : Int) != (d.length : Int)) = false := bne_eq_false_iff_eq.mpr rfl
    clear HN2 HT34 HB4 hC2 hb5
    go_wp2_with fail
    go_loopw [13] (fun i wr => ∃ k : Nat, k ≤ d.length ∧ i = .int .i64 k ∧ Aside0 (Drawn0 w5 wr)) (fun i _ => d.length - (intOf i).toNat)
    case atStart => exact ⟨0, Nat.zero_le _, rfl, ⟨Drawn0.refl _⟩⟩
    case round =>
      obtain ⟨k, hk, rfl, ⟨⟨mm, rfl⟩⟩⟩ := hrel
      by_cases hlt : k < d.length
      · obtain ⟨ad1, e1, h0, h1, h2, h3, h4, h5, h6⟩ := at_T40 HC1.out k (by omega) (by omega)
        obtain ⟨ad2, e2, i0, i1, i2, i3, i4, i5, i6⟩ := at_T40 HC2.out k (by omega) (by omega)
        cases e1
        cases e2
        rw [rd_get d k hlt] at h0 h1 h2 h3 h4 h5 h6 i0 i1 i2 i3 i4 i5 i6
        rw [Int.toNat_natCast] at h0 h1 h2 h3 h4 h5 h6 i0 i1 i2 i3 i4 i5 i6
        generalize d[k] = n at *
        have p1 := eq_true (show (0 : Int) ≤ (k : Int) by omega)
        have p2 := eq_true (show (k : Int) < (d.length : Int) by omega)
        have p3 : decide ((k : Int) < (d.length : Int)) = true := decide_eq_true (by omega)
        have p4 : decide (k < d.length) = true := decide_eq_true hlt
        have p5 := eq_true hlt
        go_wp2
        go_quiet (fail)
        go_wp2
        go_roundw
        case rel => exact ⟨k + 1, by omega, by go_num, ⟨by repeat (first | exact Drawn0.refl _ | exact ⟨_, rfl⟩ | apply Drawn0.step)⟩⟩
        case measure => simp [intOf]; omega
      · go_wp2_with fail
        refine (HX2.out mm).mono ?_
        rintro e w6 ⟨rfl, hb6⟩
        have HB6 := Aside0.mk (HB5.out.trans ((below_drewN (Below.refl _ _) mm).trans (hb6.out.mono HB5.out.size)))
        have q2 : ((mk (writtenL d)).toList == (mk (writtenL d)).toList) = true := beq_iff_eq.mpr rfl
        go_wp2_with fail
        refine (num_zero _).mono ?_
        rintro e w7 ⟨rfl, rfl⟩
        go_wp2_with fail
        refine (known_calls _ (HG.out.below HB6.out)).mono ?_
        rintro e w7 ⟨rfl, hb7⟩
        go_wp2_with fail
        go_ret
        exact ⟨rfl, ⟨HB6.out.trans (hb7.out.mono HB6.out.size)⟩⟩
  · go_wp2_with fail
    refine (num_text _).mono ?_
    rintro e w2 ⟨rfl, rfl⟩
    go_wp2_with fail
    refine (num_text _).mono ?_
    rintro e w3 ⟨rfl, rfl⟩
    go_wp2_with fail
    refine (num_text _).mono ?_
    rintro e w3 ⟨rfl, rfl⟩
    go_wp2_with fail
    refine (known_calls _ HG1.out).mono ?_
    rintro e w4 ⟨rfl, hb4⟩
    go_wp2_with fail
    go_ret
    exact ⟨rfl, ⟨hb1.out.trans (hb4.out.mono hb1.out.size)⟩⟩
end Go.Proofs.YteamhfmpogbilaaGreatDoor.X
