/- heraldlaw22.ToolImports returns true for every text. -/
import Derived.Test.YteamhfmpogbilaaGreatDoorRdJ
import Derived.Test.YteamhfmpogbilaaGreatDoorLoose
set_option linter.unusedVariables false
set_option linter.unusedSimpArgs false
namespace Go.Proofs.YteamhfmpogbilaaGreatDoor.X
open Go.RowKit Go.Shelf Go.Proofs.YteamhfmpogbilaaGreatDoor Go.Proofs.YteamhfmpogbilaaGreatDoorW.PrintWords Go.Proofs.YteamhfmpogbilaaGreatDoorW.PrintLast
attribute [local go_sem] eqFull_self
theorem prefix_same {xs p q : List ByteArray} {x y : ByteArray} {b b' : Bool} {l l' : List Full} (hp : p ++ [x] <+: xs) (hq : q ++ [y] <+: xs) (h1 : zbh p = some (b, l)) (h2 : zbh (p ++ [x]) = none) (h3 : zbh q = some (b', l')) (h4 : zbh (q ++ [y]) = none) : p.length = q.length := by
 have key : ∀ {p q : List ByteArray} {x y : ByteArray} {b' : Bool} {l' : List Full}, p ++ [x] <+: xs → q ++ [y] <+: xs → zbh (p ++ [x]) = none → zbh q = some (b', l') → q.length ≤ p.length := by
  intro p q x y b' l' hp hq h2 h3
  rcases Nat.lt_or_ge p.length q.length with hlt | hge
  ·exfalso
   have hq' : q <+: xs := (List.prefix_append q [y]).trans hq
   have : p ++ [x] <+: q := List.prefix_of_prefix_length_le hp hq' (by simp; omega)
   rw [foldSt_prefix this h2] at h3; cases h3
  ·exact hge
 exact Nat.le_antisymm (key hq hp h4 h1) (key hp hq h2 h3)
theorem import_same {s : ByteArray} {e : Ending} {w' : World} {r : List Ref × Int × Int} (hE : ImportE s e w') (hR : (¬ s.size ≤ 65536 ∧ r = ([], 2, 0)) ∨ (s.size ≤ 65536 ∧ ImpR (zcg s) r)) :
  (e = .returned (.tuple #[.pointer none, .int .i64 2, .int .i64 0]) ∧ r = ([], 2, 0)) ∨ (∃ n : Nat, e = .returned (.tuple #[.pointer none, .int .i64 220, .int .i64 (n : Int)]) ∧ r = ([], 220, (n : Int))) ∨
  (∃ d b m, d.length ≤ 64 ∧ okL d ∧ e = .returned (.tuple #[.pointer (some ⟨b, 0, none⟩), .int .i64 0, .int .i64 0]) ∧ TreeAt w' b m d ∧ r = (d.map zbf, 0, 0)) := by
 rcases hE with ⟨h1, h2⟩ | ⟨h1, p, x, bg, l, g1, g2, g3, g4⟩ | ⟨h1, bg, l, d, g1, g2, g3, g4, g5⟩
 ·rcases hR with ⟨_, hr⟩ | ⟨hs, _⟩
  ·exact .inl ⟨h2, hr⟩
  ·exact absurd hs h1
 ·rcases hR with ⟨hs, _⟩ | ⟨_, ⟨q, y, b', l', k1, k2, k3, k4⟩ | ⟨b', l', k1, _⟩⟩
  ·exact absurd h1 hs
  ·have hl := prefix_same g1 k1 g2 g3 k2 k3
   refine .inr (.inl ⟨p.length + 1, g4, ?_⟩)
   rw [k4, hl]; rfl
  ·rw [foldSt_prefix g1 g3] at k1; cases k1
 ·have hd := sortedR_eq g2 g3 g4
  rcases hR with ⟨hs, _⟩ | ⟨_, ⟨q, y, b', l', k1, k2, k3, k4⟩ | ⟨b', l', k1, k2⟩⟩
  ·exact absurd h1 hs
  ·rw [foldSt_prefix k1 k3] at g1; cases g1
  ·rw [g1] at k1
   injection k1 with k1
   injection k1 with k0 k1
   subst k0; subst k1
   unfold finR at k2
   rw [← hd] at k2
   rcases g5 with ⟨m1, m2, m3, m4, b, m, m5, m6⟩ | ⟨m1, m2⟩
   ·rcases k2 with ⟨_, _, _, k3⟩ | ⟨k3, _⟩
    ·exact .inr (.inr ⟨d, b, m, m1, ⟨m2, m3, m4⟩, m5, m6, k3⟩)
    ·exfalso
     apply k3
     refine ⟨?_, m1, m2, m3, m4⟩
     cases bg with
     | true => rfl
     | false =>
      have := (foldSt_small _ _ rfl _ _ g1).2.2 rfl
      subst this
      exact absurd g3.eq_nil m2
   ·rcases k2 with ⟨_, k4, k5, _⟩ | ⟨_, k3⟩
    ·exact absurd ⟨k4, k5.1, k5.2.1, k5.2.2⟩ m1
    ·exact .inr (.inl ⟨0, m2, k3⟩)
set_option maxHeartbeats 8000000 in
set_option maxRecDepth 100000 in
theorem fulls_calls (b m : Nat) (d : List Full) (A : Option Addr) (c : Nat) (w : World) (hT : TreeAt w b m d) (h64 : d.length ≤ 64) (hok : okL d) (hC : Kd.C k74 w A d.length (d.map zbf)) (hc : d.length ≤ c) :
  Calls Tryz.prog 13 #[.pointer (some ⟨b, 0, none⟩), .agg #[.slice A d.length c]] w fun e w' => e = .returned (.bool true) ∧ Aside0 (Below w.heap.size w w') := by
 have HOK := Aside0.mk hok
 have HB1 := Aside0.mk ((Below.refl w.heap.size w).alloc (Nat.le_refl _) (.cells #[.slice A d.length c] 28))
 have HN1 := Aside0.mk (Holds.new w #[.slice A d.length c] 28)
 have HT1 := Aside0.mk (hT.below ((Below.refl w.heap.size w).alloc (Nat.le_refl _) (.cells #[.slice A d.length c] 28)))
 have HC1 := Aside0.mk (Kd.C_below hC HB1.out)
 have Hc := Aside0.mk hc
 have HX := Aside0.mk (nodes_tree b m d _ HT1.out h64 HOK.out)
 clear hT hok hC hc
 go_enter Tryz.func13, Tryz.ntmps13
 go_wp2_with fail
 refine HX.out.mono ?_
 rintro e w2 ⟨A2, cap2, rfl, hc2, hC2, hb2⟩
 have HB2 : Aside0 (Below w.heap.size w w2) := ⟨HB1.out.trans (hb2.out.mono HB1.out.size)⟩
 have HN2 : Aside0 (Holds w.heap.size #[.slice A d.length c] 28 w2) := ⟨HN1.out.below _ HN1.out.lt hb2.out⟩
 have HC2 := Aside0.mk hC2
 have HC12 := Aside0.mk (Kd.C_below HC1.out hb2.out)
 have cN : w2.cell? ⟨w.heap.size, 0, none⟩ = some (.slice A d.length c) := HN2.out.cell 0 _ rfl
 have HR0 := ydz.calls 5000 A c (d.map zbf) (d.map zbf) w2 (by rw [List.length_map]; exact HC12.out) (by rw [List.length_map]; exact Hc.out) (refNodes_told 5000 _ (by rw [List.length_map]; omega) (by rw [List.length_map]; omega))
 have hlm : (d.map zbf).length = d.length := List.length_map ..
 rw [hlm] at HR0
 have HR := Aside0.mk HR0
 clear HX HT1 HN1 HC1 HB1 hC2 hb2 HR0
 go_wp2_with fail
 refine HR.out.mono ?_
 rintro e w3 ⟨v3, rfl, hR3, hb3⟩
 obtain ⟨A3, c3, rfl, hc3, hC3⟩ := Kd.R_reads hR3
 have HB3 := Aside0.mk (HB2.out.trans (hb3.mono HB2.out.size))
 have HC3 := Aside0.mk hC3
 have HC23 := Aside0.mk (Kd.C_below HC2.out hb3)
 rw [hlm] at hc3
 have q1 : ((d.length : Int) != (d.length : Int)) = false := bne_eq_false_iff_eq.mpr rfl
 have q0 : ((d.length : Int) == (d.length : Int)) = true := beq_iff_eq.mpr rfl
 rw [hlm]
 have HC3 := Aside0.mk (show Kd.C k74 w3 A3 d.length (d.map zbf) from by have := HC3.out; rwa [hlm] at this)
 clear HR HN2 HC12 cN hR3 hC3 HB2 hb3 HC2 hlm
 go_wp2_with fail
 go_loopw [7] (fun i wr => ∃ k : Nat, k ≤ d.length ∧ i = .int .i64 k ∧ Aside0 (Drawn0 w3 wr)) (fun i _ => d.length - (intOf i).toNat)
 case atStart => exact ⟨0, Nat.zero_le _, rfl, ⟨Drawn0.refl _⟩⟩
 case round =>
  obtain ⟨k, hk, rfl, ⟨⟨mm, rfl⟩⟩⟩ := hrel
  by_cases hlt : k < d.length
  ·obtain ⟨ad1, e1, h0, h1, h2, h3, h4, h5, h6⟩ := at_T40 HC23.out k (by omega) (by omega)
   obtain ⟨ad2, e2, i0, i1, i2, i3, i4, i5, i6⟩ := zda HC3.out k (by omega) (by omega)
   cases e1
   cases e2
   rw [rd_get d k hlt] at h0 h1 h2 h3 h4 h5 h6
   rw [rdRef d k hlt] at i0 i1 i2 i3 i4 i5 i6
   rw [Int.toNat_natCast] at h0 h1 h2 h3 h4 h5 h6 i0 i1 i2 i3 i4 i5 i6
   generalize d[k] = n at *
   change _ = some (Value.string n.f0) at i0
   change _ = some (Value.string n.f1) at i1
   change _ = some (Value.int .i64 n.f2) at i2
   change _ = some (Value.int .i64 n.f3) at i3
   change _ = some (Value.int .i64 n.f4) at i4
   change _ = some (Value.int .i64 n.f5) at i5
   change _ = some (Value.int .i64 n.f6) at i6
   have p1 := eq_true (show (0 : Int) ≤ (k : Int) by omega)
   have p2 := eq_true (show (k : Int) < (d.length : Int) by omega)
   have p3 : decide ((k : Int) < (d.length : Int)) = true := decide_eq_true (by omega)
   have p4 : decide (k < d.length) = true := decide_eq_true hlt
   have p5 := eq_true hlt
   go_wp2
   go_quiet (fail)
   go_wp2
   go_roundw
   case rel => exact ⟨k + 1, by omega, by go_num, ⟨by repeat (first | exact Drawn0.refl _ | exact ⟨_, rfl⟩ | apply Drawn0.step)⟩⟩
   case measure => simp [intOf]; omega
  ·go_wp2
   go_ret
   exact ⟨rfl, ⟨below_drewN HB3.out mm⟩⟩
set_option maxHeartbeats 8000000 in
set_option maxRecDepth 100000 in
theorem imps_calls (s : ByteArray) (w : World) (hG : Glob w) :
  Calls Tryz.prog 3 #[.string s] w fun e w' => e = .returned (.bool true) ∧ Aside0 (Below w.heap.size w w') := by
 obtain ⟨K, hK⟩ : ∃ K : Nat, 20000000000 ≤ K := ⟨_, Nat.le_refl _⟩
 obtain ⟨⟨rl, rc, rn⟩, hr, hR⟩ := refImport_told K s hK
 have HG := Aside0.mk hG
 have HI := Aside0.mk (import_calls s w hG)
 have HF := Aside0.mk hr
 have HRR := Aside0.mk hR
 clear hG hK hr hR
 go_enter Tryz.func3, Tryz.ntmps3
 go_wp2_with fail
 refine HI.out.mono ?_
 rintro e w1 ⟨he, hb1⟩
 have HS := Aside0.mk (import_same he HRR.out)
 clear HI he HRR
 have HR2 := Aside0.mk (ydq.calls K s rl rc rn w1 HF.out)
 clear HF
 rcases HS.out with ⟨rfl, hr⟩ | ⟨n, rfl, hr⟩ | ⟨d, b, m, h64, hok, rfl, hT, hr⟩
 ·injection hr with r1 r2; injection r2 with r2 r3; subst r1; subst r2; subst r3
  clear HS
  go_wp2_with fail
  refine HR2.out.mono ?_
  rintro e w2 ⟨v2, rfl, hR2, hb2⟩
  obtain ⟨A2, c2, rfl, hc2, hC2⟩ := Kd.R_reads hR2
  have HB2 : Aside0 (Below w.heap.size w (w2.alloc (.cells #[.slice A2 0 c2] 28))) := ⟨(hb1.out.trans (hb2.mono hb1.out.size)).alloc (hb1.out.trans (hb2.mono hb1.out.size)).size _⟩
  clear HR2 hR2 hC2 hb2
  go_wp2_with fail
  refine (num_two _).mono ?_
  rintro e w3 ⟨rfl, rfl⟩
  go_wp2_with fail
  refine (known_calls _ (HG.out.below HB2.out)).mono ?_
  rintro e w4 ⟨rfl, hb4⟩
  go_wp2_with fail
  go_ret
  exact ⟨rfl, ⟨HB2.out.trans (hb4.out.mono HB2.out.size)⟩⟩
 ·injection hr with r1 r2; injection r2 with r2 r3; subst r1; subst r2; subst r3
  clear HS
  have q1 : ((n : Int) != (n : Int)) = false := bne_eq_false_iff_eq.mpr rfl
  go_wp2_with fail
  refine HR2.out.mono ?_
  rintro e w2 ⟨v2, rfl, hR2, hb2⟩
  obtain ⟨A2, c2, rfl, hc2, hC2⟩ := Kd.R_reads hR2
  have HB2 : Aside0 (Below w.heap.size w (w2.alloc (.cells #[.slice A2 0 c2] 28))) := ⟨(hb1.out.trans (hb2.mono hb1.out.size)).alloc (hb1.out.trans (hb2.mono hb1.out.size)).size _⟩
  clear HR2 hR2 hC2 hb2
  go_wp2_with fail
  refine (num_text _).mono ?_
  rintro e w3 ⟨rfl, rfl⟩
  go_wp2_with fail
  refine (known_calls _ (HG.out.below HB2.out)).mono ?_
  rintro e w4 ⟨rfl, hb4⟩
  go_wp2_with fail
  go_ret
  exact ⟨rfl, ⟨HB2.out.trans (hb4.out.mono HB2.out.size)⟩⟩
 ·injection hr with r1 r2; injection r2 with r2 r3; subst r1; subst r2; subst r3
  have HOK := Aside0.mk hok
  have HT := Aside0.mk hT
  clear HS hT hok
  go_wp2_with fail
  refine HR2.out.mono ?_
  rintro e w2 ⟨v2, rfl, hR2, hb2⟩
  obtain ⟨A2, c2, rfl, hc2, hC2⟩ := Kd.R_reads hR2
  have hlm : (d.map zbf).length = d.length := List.length_map ..
  rw [hlm] at hc2 hC2 ⊢
  have HB2 := Aside0.mk (hb1.out.trans (hb2.mono hb1.out.size))
  have HB3 : Aside0 (Below w.heap.size w (w2.alloc (.cells #[.slice A2 d.length c2] 28))) := ⟨HB2.out.alloc HB2.out.size _⟩
  have HT3 := Aside0.mk ((HT.out.below hb2).below ((Below.refl w2.heap.size w2).alloc (Nat.le_refl _) (.cells #[.slice A2 d.length c2] 28)))
  have HC3 := Aside0.mk (Kd.C_below hC2 ((Below.refl w2.heap.size w2).alloc (Nat.le_refl _) (.cells #[.slice A2 d.length c2] 28)))
  have cN := (Holds.new w2 #[.slice A2 d.length c2] 28).cell 0 _ rfl
  have HFu := Aside0.mk (fulls_calls b m d A2 c2 _ HT3.out h64 HOK.out HC3.out hc2)
  clear HR2 hR2 hC2 hb2 HT HB2 HT3 HC3
  go_wp2_with fail
  refine (num_zero _).mono ?_
  rintro e w3 ⟨rfl, rfl⟩
  go_wp2_with fail
  refine HFu.out.mono ?_
  rintro e w4 ⟨rfl, hb4⟩
  have HB4 := Aside0.mk (HB3.out.trans (hb4.out.mono HB3.out.size))
  clear hb4 HFu cN
  go_wp2_with fail
  refine (known_calls _ (HG.out.below HB4.out)).mono ?_
  rintro e w5 ⟨rfl, hb5⟩
  go_wp2_with fail
  go_ret
  exact ⟨rfl, ⟨HB4.out.trans (hb5.out.mono HB4.out.size)⟩⟩
end Go.Proofs.YteamhfmpogbilaaGreatDoor.X
