/- The law ToolExports, but for 'known'. -/
import Derived.Test.YtaadaeiikhokjaaGreatDoorExport
import Derived.Test.YtaadaeiikhokjaaGreatDoorRef7
import Derived.Test.YtaadaeiikhokjaaGreatDoorZQ2
set_option linter.unusedVariables false
set_option linter.unusedSimpArgs false
namespace Go.Proofs.YtaadaeiikhokjaaGreatDoor.X
open Go.RowKit Go.Proofs.YtaadaeiikhokjaaGreatDoor Go.Proofs.YtaadaeiikhokjaaGreatDoorW.PrintWords Go.Proofs.YtaadaeiikhokjaaGreatDoorW.PrintLast

theorem num_calls (a : Int) (w : World) : Calls Tryz.prog 9 #[.int .i64 a] w fun e w' => e = .returned (.int .i64 a) ∧ Aside0 (Drawn0 w w') :=
  (heraldlaw22_num.calls a a w rfl).mono fun _ _ ⟨he, h⟩ => ⟨he, ⟨h⟩⟩
theorem drawn_below {w w' : World} (h : Aside0 (Drawn0 w w')) (B : Nat) : Below B w w' := by
  obtain ⟨n, rfl⟩ := h.out
  exact ⟨rfl, rfl, rfl, Nat.le_refl _, fun _ _ => rfl⟩

theorem pt_of {p q : Option Addr} {c d : Int} (h : Ending.returned (.tuple #[.pointer p, .int .i64 c]) = Ending.returned (.tuple #[.pointer q, .int .i64 d])) : p = q := by
  injection h with h; injection h with h; injection h with h; injection h with h _; injection h
set_option maxHeartbeats 4000000 in
set_option maxRecDepth 100000 in
theorem law_calls (A0 : Option Addr) (c0 : Nat) (l : List Full) (w : World) (hr0 : Kd.C k44 w A0 l.length l) (hc0 : l.length ≤ c0) (hG : Glob w) (hs : ∀ n ∈ l, n.f0.size ≤ 140737488355328)
    (hKn : ∀ w1, Glob w1 → Calls Tryz.prog 10 #[] w1 fun e w' => e = .returned (.bool true) ∧ Aside0 (Below w1.heap.size w1 w')) :
    Calls Tryz.prog 3 #[.slice A0 l.length c0] w fun e w' => e = .returned (.bool true) ∧ Aside0 (Below w.heap.size w w') := by
  have hll : l.length ≤ 9223372036854775807 := hr0.2.1
  have HL := Aside0.mk (load_calls total A0 c0 l w hr0 hc0 hG hs)
  have HR0 := Aside0.mk hr0
  have HC0 := Aside0.mk hc0
  have HG := Aside0.mk hG
  have HK := Aside0.mk hKn
  have HBr := Aside0.mk (Below.refl w.heap.size w)
  clear hr0 hc0 hG hs hKn
  by_cases h90 : l.length ≤ 90
  case neg =>
    have d0 : decide (90 < (l.length : Int)) = true := decide_eq_true (by omega)
    go_enter Tryz.func3, Tryz.ntmps3
    go_wp2
    go_ret
    exact ⟨rfl, HBr⟩
  have d0 : decide (90 < (l.length : Int)) = false := decide_eq_false (by omega)
  obtain ⟨⟨rl, rc⟩, hrf, hro⟩ := refLoad_told l 5000 (by omega)
  have HRF := Aside0.mk hrf
  have HRO := Aside0.mk hro
  clear hrf hro
  go_enter Tryz.func3, Tryz.ntmps3
  go_wp2_with fail
  refine HL.out.mono ?_
  rintro e w1 ⟨hb1, hcase⟩
  have HCase := Aside0.mk hcase
  clear hcase
  obtain ⟨pt, code, rfl⟩ : ∃ pt code, e = .returned (.tuple #[.pointer pt, .int .i64 code]) := by
    rcases HCase.out with ⟨_, _, _, _, h, _⟩ | ⟨_, h⟩ | ⟨_, _, h⟩ <;> exact ⟨_, _, h⟩
  obtain ⟨txt, xc, HE, HRE⟩ : ∃ (txt : ByteArray) (xc : Int), Aside0 (∀ w', Below w1.heap.size w1 w' → Glob w' → Calls Tryz.prog 7 #[.pointer pt] w' fun e w2 => e = .returned (.tuple #[.string txt, .int .i64 xc]) ∧ Aside0 (Below w'.heap.size w' w2)) ∧
      Aside0 (heraldref22_Export.f 5000 rl = some (txt, xc)) := by
    rcases HCase.out with ⟨h64, h1, h2, h3, h4, hT⟩ | ⟨h64, h4⟩ | ⟨h64, hno, h4⟩
    · have hp : pt = some ⟨w.heap.size + 1, 0, none⟩ := pt_of h4
      subst hp
      rcases HRO.out with ⟨g, _⟩ | ⟨_, hok, hsz, hr⟩ | ⟨_, g, _⟩
      · exact absurd h64 g
      · injection hr with hr1 hr2
        subst hr1
        have hnice := okL_nice hok hsz
        have hwb := written_bound l hnice
        refine ⟨mk (writtenL l), 0, ⟨fun w' hb hg => ?_⟩, ⟨refExport_told 5000 l h1 h64 hnice (by omega)⟩⟩
        exact export_calls _ _ l w' hg (hT.below hb) (fits_rising h3) h1 (by omega) (fun n hn => (hnice n hn).1) (fun n hn => by have := hnice n hn; omega) (by omega)
      · exact absurd ⟨h1, h2, h3⟩ g
    · have hp : pt = none := pt_of h4
      subst hp
      rcases HRO.out with ⟨_, hr⟩ | ⟨g, _⟩ | ⟨g, _⟩
      · injection hr with hr1 hr2
        subst hr1
        exact ⟨⟨#[]⟩, 1, ⟨fun w' hb hg => (export_nil w').mono fun _ _ ⟨he, hw⟩ => ⟨he, ⟨by rw [hw]; exact Below.refl _ _⟩⟩⟩, ⟨refExport_nil 5000 (by omega)⟩⟩
      · exact absurd g h64
      · exact absurd g h64
    · have hp : pt = none := pt_of h4
      subst hp
      rcases HRO.out with ⟨g, _⟩ | ⟨_, hok, _, _⟩ | ⟨_, _, hr⟩
      · exact absurd h64 g
      · exact absurd hok hno
      · injection hr with hr1 hr2
        subst hr1
        exact ⟨⟨#[]⟩, 1, ⟨fun w' hb hg => (export_nil w').mono fun _ _ ⟨he, hw⟩ => ⟨he, ⟨by rw [hw]; exact Below.refl _ _⟩⟩⟩, ⟨refExport_nil 5000 (by omega)⟩⟩
  clear HCase HRO HL
  go_wp2_with fail
  refine (heraldlaw22_nodes.calls 5000 A0 c0 l (l.map toRef) w1 (Kd.C_below HR0.out hb1.out) HC0.out (nodes_told 5000 l (by omega) (by omega))).mono ?_
  rintro e w2 ⟨v2, rfl, hR2, hb2⟩
  obtain ⟨A2, c2, rfl, hc2, hC2⟩ := Kd.R_reads hR2
  have HC2 := Aside0.mk hC2
  have Hc2 := Aside0.mk hc2
  have HB2 := Aside0.mk (hb1.out.trans (hb2.mono hb1.out.size))
  clear hR2 hC2 hc2
  have hlm : (l.map toRef).length = l.length := List.length_map ..
  have H5 := heraldref4_Load.calls 5000 A2 c2 (l.map toRef) rl rc w2 HC2.out Hc2.out HRF.out
  rw [hlm] at H5
  have H5 := Aside0.mk H5
  have HB12 := Aside0.mk hb2
  clear hlm hb2
  go_wp2_with fail
  refine H5.out.mono ?_
  rintro e w3 ⟨v5, rfl, hR5, hb3⟩
  obtain ⟨A5, c5, rfl, hc5, hC5⟩ := Kd.R_reads hR5
  have HC5 := Aside0.mk hC5
  have Hc5 := Aside0.mk hc5
  have HB3 := Aside0.mk (HB2.out.trans (hb3.mono HB2.out.size))
  have HB13 := Aside0.mk (HB12.out.trans (hb3.mono HB12.out.size))
  clear hR5 hC5 hc5 hb3 H5
  have HN4 := Aside0.mk (Holds.new w3 #[.slice A5 rl.length c5] 29)
  have HB4 := Aside0.mk (HB3.out.alloc HB3.out.size (.cells #[.slice A5 rl.length c5] 29))
  have HB14 := Aside0.mk (HB13.out.alloc HB13.out.size (.cells #[.slice A5 rl.length c5] 29))
  have HC54 := Aside0.mk (Kd.C_below HC5.out ((Below.refl _ _).alloc (Nat.le_refl _) (.cells #[.slice A5 rl.length c5] 29)))
  clear HB3 HB13 HB12 HB2 HC5 HC2 Hc2
  go_wp2_with fail
  refine (HE.out _ HB14.out (HG.out.below HB4.out)).mono ?_
  rintro e w5 ⟨rfl, hb5⟩
  have HN5 : Aside0 (Holds w3.heap.size #[.slice A5 rl.length c5] 29 w5) := ⟨HN4.out.below _ HN4.out.lt hb5.out⟩
  have HB5 : Aside0 (Below w.heap.size w w5) := ⟨HB4.out.trans (hb5.out.mono HB4.out.size)⟩
  have HC55 := Aside0.mk (Kd.C_below HC54.out hb5.out)
  have c5c : w5.cell? ⟨w3.heap.size, 0, none⟩ = some (.slice A5 rl.length c5) := HN5.out.cell 0 _ rfl
  clear HC54 HN4 HB4 HB14 hb5 HE
  go_wp2_with fail
  refine (heraldref22_Export.calls 5000 A5 c5 rl txt xc w5 HC55.out Hc5.out (HG.out.below HB5.out) HRE.out).mono ?_
  rintro e w6 ⟨rfl, hb6⟩
  have HB6 : Aside0 (Below w.heap.size w w6) := ⟨HB5.out.trans (hb6.mono HB5.out.size)⟩
  clear c5c hb6
  go_wp2_with fail
  refine (export_nil w6).mono ?_
  rintro e w7 ⟨rfl, rfl⟩
  have c7 : (w7.alloc (.cells #[.map none] 39)).cell? ⟨w7.heap.size, 0, none⟩ = some (.map none) := (Holds.new w7 _ _).cell 0 _ rfl
  have HB7 : Aside0 (Below w.heap.size w (w7.alloc (.cells #[.map none] 39))) := ⟨HB6.out.alloc HB6.out.size _⟩
  go_wp2_with fail
  refine (export_empty w7.heap.size _ c7).mono ?_
  rintro e w8 ⟨rfl, hw8⟩
  have HB8 : Aside0 (Below w.heap.size w w8) := ⟨by rw [hw8]; exact HB7.out⟩
  clear hw8 c7 HB7
  have q1 : (xc == xc) = true := beq_iff_eq.mpr rfl
  have q2 : (txt.toList == txt.toList) = true := beq_iff_eq.mpr rfl
  go_wp2_with fail
  refine (num_calls xc _).mono ?_
  rintro e w9 ⟨rfl, hd9⟩
  have HB9 : Aside0 (Below w.heap.size w w9) := ⟨HB8.out.trans (drawn_below hd9 _)⟩
  clear hd9
  go_wp2_with fail
  refine (num_calls 1 _).mono ?_
  rintro e w10 ⟨rfl, hd10⟩
  have HB10 : Aside0 (Below w.heap.size w w10) := ⟨HB9.out.trans (drawn_below hd10 _)⟩
  clear hd10
  go_wp2_with fail
  refine (num_calls 1 _).mono ?_
  rintro e w11 ⟨rfl, hd11⟩
  have HB11 : Aside0 (Below w.heap.size w w11) := ⟨HB10.out.trans (drawn_below hd11 _)⟩
  clear hd11
  go_wp2_with fail
  refine (HK.out _ (HG.out.below HB11.out)).mono ?_
  rintro e w12 ⟨rfl, hb12⟩
  go_wp2
  go_ret
  exact ⟨rfl, ⟨HB11.out.trans (hb12.out.mono HB11.out.size)⟩⟩
end Go.Proofs.YtaadaeiikhokjaaGreatDoor.X
