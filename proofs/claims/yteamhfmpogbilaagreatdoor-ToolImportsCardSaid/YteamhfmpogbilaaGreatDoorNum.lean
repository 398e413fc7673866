/- tool.numeral: a word's number, or the panic. -/
import Derived.Test.YteamhfmpogbilaaGreatDoorWords
set_option linter.unusedVariables false
set_option linter.unusedSimpArgs false
namespace Go.Proofs.YteamhfmpogbilaaGreatDoor.X
open Go.RowKit Go.Proofs.YteamhfmpogbilaaGreatDoor Go.Proofs.YteamhfmpogbilaaGreatDoorW.PrintWords Go.Proofs.YteamhfmpogbilaaGreatDoorW.PrintLast
def numL (u : Wd) : Option Int := match Lib.atoiAll u.f0.data.toList with
 | .ok v => if u.f1 = false ∧ 0 ≤ v ∧ v ≤ 2147483647 ∧ (itoaB v).toList = u.f0.toList then some v else none
 | _ => none
def wdV (u : Wd) : Value := .agg #[.string u.f0, .bool u.f1]
def NumE (r : Option Int) (e : Ending) : Prop := match r with
 | some v => e = .returned (.int .i64 v)
 | none => e = .panicked flawC
theorem bytesWorld_below (w : World) (e : TypeId) (t : ByteArray) : Below w.heap.size w (Lib.bytesWorld w e t) := bytes_below (Below.refl _ _) (Nat.le_refl _) e t
theorem atoi_ok (s : ByteArray) (hs : s.size ≤ 281474976710656) (v : Int) (h : Lib.atoiAll s.data.toList = .ok v) (w : World) :
  Calls Tryz.prog 140 #[.string s] w fun e w' => e = .returned (.tuple #[.int .i64 v, .nilIface]) ∧ Aside0 (Below w.heap.size w w') := by
 refine (Tryz.strconv_Atoi_ok s (by omega) v h w).mono ?_
 rintro e w' ⟨rfl, rfl | ⟨t, rfl⟩⟩
 ·exact ⟨rfl, ⟨Below.refl _ _⟩⟩
 ·exact ⟨rfl, ⟨bytesWorld_below _ _ _⟩⟩
theorem atoi_err (s : ByteArray) (hs : s.size ≤ 281474976710656) (h : ∀ v, Lib.atoiAll s.data.toList ≠ .ok v) (w : World) (hG : Glob w) :
  Calls Tryz.prog 140 #[.string s] w fun e w' => ∃ v p, e = .returned (.tuple #[.int .i64 v, .iface 290 p]) ∧ Aside0 (Below w.heap.size w w') := by
 obtain ⟨t1, p1, h1⟩ := hG.errS
 obtain ⟨t2, p2, h2⟩ := hG.errR
 rcases hh : Lib.atoiAll s.data.toList with v | _ | _
 ·exact absurd hh (h v)
 ·
  refine (Any.strconv_Atoi_syntax Tryz.laysC172 s hs hh _ w h1 (.inr ⟨_, _, rfl⟩)).mono ?_
  rintro e w' ⟨N, rfl, _, _, hb⟩
  exact ⟨_, _, rfl, ⟨hb⟩⟩
 ·
  refine (Tryz.strconv_Atoi_range s hs hh _ w h2 (.inr ⟨_, _, rfl⟩)).mono ?_
  rintro e w' ⟨N, rfl, _, _, hb⟩
  exact ⟨_, _, rfl, ⟨hb⟩⟩
set_option maxHeartbeats 1000000 in
set_option maxRecDepth 100000 in
theorem numeral_err (u : Wd) (hs : u.f0.size ≤ 281474976710656) (h : ∀ v, Lib.atoiAll u.f0.data.toList ≠ .ok v) (w : World) (hG : Glob w) :
  Calls Tryz.prog 99 #[wdV u] w fun e w' => e = .panicked flawC ∧ Aside0 (Below w.heap.size w w') := by
 have HB := Aside0.mk ((Below.refl w.heap.size w).alloc (Nat.le_refl _) (.cells #[.string u.f0, .bool u.f1] 122))
 have H := Aside0.mk (atoi_err u.f0 hs h (w.alloc (.cells #[.string u.f0, .bool u.f1] 122)) (hG.below HB.out))
 clear h hG
 unfold wdV
 go_enter Tryz.func99, Tryz.ntmps99
 go_wp2_with fail
 refine H.out.mono ?_
 rintro e w1 ⟨v, p, rfl, hb⟩
 have HB1 := Aside0.mk (HB.out.trans (hb.out.mono HB.out.size))
 clear hb H HB
 go_wp2_with fail
 go_quiet (fail)
 go_wp2_with fail
 refine ⟨rfl, rfl, ⟨zcq HB1.out⟩⟩
def LN (b : Nat) (s : ByteArray) (q : Bool) (W w' : World) : Prop := w'.cell? ⟨b, 0, none⟩ = some (.string s) ∧ w'.cell? ⟨b, 1, none⟩ = some (.bool q) ∧ Aside0 (Below W.heap.size W w')
theorem LN.drew {b : Nat} {s : ByteArray} {q : Bool} {W w' : World} (h : LN b s q W w') : LN b s q W w'.drew := ⟨h.1, h.2.1, ⟨h.2.2.out.drew⟩⟩
theorem LN.call {b : Nat} {s : ByteArray} {q : Bool} {W w' w2 : World} (h : LN b s q W w') (hb : Aside0 (Below w'.heap.size w' w2)) : LN b s q W w2 :=
 ⟨zas hb.out h.1, zas hb.out h.2.1, ⟨h.2.2.out.trans (hb.out.mono h.2.2.out.size)⟩⟩
theorem itoa_calls (n : Int) (w : World) (hG : Glob w) (h0 : -9223372036854775808 ≤ n) (h1 : n ≤ 9223372036854775807) :
  Calls Tryz.prog 123 #[.int .i64 n] w fun e w' => e = .returned (.string (itoaB n)) ∧ Aside0 (Below w.heap.size w w') := by
 refine (yei.calls n _ w hG (by unfold yei.f; rw [if_pos h0, if_pos h1]; first | done | rfl)).mono ?_
 rintro e w' ⟨rfl, hb⟩; exact ⟨rfl, ⟨hb⟩⟩
set_option maxHeartbeats 2000000 in
set_option maxRecDepth 100000 in
theorem numeral_bad (s : ByteArray) (q : Bool) (hs : s.size ≤ 281474976710656) (v : Int) (h : Lib.atoiAll s.data.toList = .ok v) (hq : q = true ∨ v < 0 ∨ 2147483647 < v) (w : World) :
  Calls Tryz.prog 99 #[wdV ⟨s, q⟩] w fun e w' => e = .panicked flawC ∧ Aside0 (Below w.heap.size w w') := by
 have HB := Aside0.mk ((Below.refl w.heap.size w).alloc (Nat.le_refl _) (.cells #[.string s, .bool q] 122))
 have H := Aside0.mk (atoi_ok s hs v h (w.alloc (.cells #[.string s, .bool q] 122)))
 have HN := Aside0.mk (Holds.new w #[.string s, .bool q] 122)
 have HQ := Aside0.mk hq
 clear h hq
 unfold wdV
 go_enter Tryz.func99, Tryz.ntmps99
 go_wp2_with fail
 refine H.out.mono ?_
 rintro e w1 ⟨rfl, hb⟩
 have HB1 := Aside0.mk (HB.out.trans (hb.out.mono HB.out.size))
 have HN1 : Aside0 (Holds w.heap.size #[.string s, .bool q] 122 w1) := ⟨HN.out.below _ HN.out.lt hb.out⟩
 have c1 : w1.cell? ⟨w.heap.size, 1, none⟩ = some (.bool q) := HN1.out.cell 1 _ rfl
 clear hb H HB HN HN1
 cases q with
 | true =>
  go_wp2_with fail
  go_quiet (fail)
  go_wp2_with fail
  refine ⟨rfl, rfl, ⟨zcq HB1.out⟩⟩
 | false =>
  by_cases h0 : v < 0
  ·have d0 : decide (v < 0) = true := decide_eq_true h0
   clear h0
   go_wp2_with fail
   go_quiet (fail)
   go_wp2_with fail
   refine ⟨rfl, rfl, ⟨zcq HB1.out⟩⟩
  ·have d0 : decide (v < 0) = false := decide_eq_false h0
   have d1 : decide (2147483647 < v) = true := decide_eq_true (by rcases HQ.out with h | h | h <;> simp_all)
   clear h0
   go_wp2_with fail
   go_quiet (fail)
   go_wp2_with fail
   refine ⟨rfl, rfl, ⟨zcq HB1.out⟩⟩
set_option maxHeartbeats 2000000 in
set_option maxRecDepth 100000 in
theorem numeral_in (s : ByteArray) (hs : s.size ≤ 281474976710656) (v : Int) (h : Lib.atoiAll s.data.toList = .ok v) (h0 : 0 ≤ v) (h1 : v ≤ 2147483647) (w : World) (hG : Glob w) :
  Calls Tryz.prog 99 #[wdV ⟨s, false⟩] w fun e w' => NumE (if (itoaB v).toList = s.toList then some v else none) e ∧ Aside0 (Below w.heap.size w w') := by
 by_cases hv : (itoaB v).toList = s.toList
 case' pos =>
  rw [if_pos hv]
  have d2 : ((itoaB v).toList == s.toList) = true := beq_iff_eq.mpr hv
  have d3 : ((itoaB v).toList != s.toList) = false := by rw [bne, d2]; rfl
 case' neg =>
  rw [if_neg hv]
  have d2 : ((itoaB v).toList == s.toList) = false := beq_eq_false_iff_ne.mpr hv
  have d3 : ((itoaB v).toList != s.toList) = true := by rw [bne, d2]; rfl
 all_goals
  clear hv
  have HB := Aside0.mk ((Below.refl w.heap.size w).alloc (Nat.le_refl _) (.cells #[.string s, .bool false] 122))
  have H := Aside0.mk (atoi_ok s hs v h (w.alloc (.cells #[.string s, .bool false] 122)))
  have HN := Aside0.mk (Holds.new w #[.string s, .bool false] 122)
  have HG := Aside0.mk hG
  have d0 : decide (v < 0) = false := decide_eq_false (by omega)
  have d1 : decide (2147483647 < v) = false := decide_eq_false (by omega)
  clear h hG
  unfold wdV
  go_enter Tryz.func99, Tryz.ntmps99
  go_wp2_with fail
  refine H.out.mono ?_
  rintro e w1 ⟨rfl, hb⟩
  have HN1 : Aside0 (Holds w.heap.size #[.string s, .bool false] 122 w1) := ⟨HN.out.below _ HN.out.lt hb.out⟩
  have HB1 := Aside0.mk (HB.out.trans (hb.out.mono HB.out.size))
  have HL : LN w.heap.size s false w1 w1 := ⟨HN1.out.cell 0 _ rfl, HN1.out.cell 1 _ rfl, ⟨Below.refl _ _⟩⟩
  have HG1 := Aside0.mk (HG.out.below HB1.out)
  clear hb H HB HN HN1 HG
  have K0 : ∀ w', LN w.heap.size s false w1 w' → w'.cell? ⟨w.heap.size, 0, none⟩ = some (.string s) := fun w' h => h.1
  have K1 : ∀ w', LN w.heap.size s false w1 w' → w'.cell? ⟨w.heap.size, 1, none⟩ = some (.bool false) := fun w' h => h.2.1
  have HG2 : Aside0 (∀ w', LN w.heap.size s false w1 w' → Glob w') := ⟨fun w' h => HG1.out.below h.2.2.out⟩
  go_wp2_with fail
  go_region_held3 (fun w' => LN w.heap.size s false w1 w')
   (first
    | exact LN.drew (by assumption)
    | exact LN.call (by assumption) (by assumption))
   (first
    | (go_at_call 123; refine (itoa_calls v _ (HG2.out _ (by assumption)) (by omega) (by omega)).mono ?_; rintro e w3 ⟨rfl, hb3⟩))
  have HL3 : LN w.heap.size s false w1 w3 := by assumption
  go_wp2_with fail
  first
   | exact ⟨rfl, rfl, ⟨HB1.out.trans (HL3.2.2.out.mono HB1.out.size)⟩⟩
   | (go_ret; exact ⟨rfl, ⟨HB1.out.trans (HL3.2.2.out.mono HB1.out.size)⟩⟩)
theorem numeral_calls (u : Wd) (hs : u.f0.size ≤ 281474976710656) (w : World) (hG : Glob w) :
  Calls Tryz.prog 99 #[wdV u] w fun e w' => NumE (numL u) e ∧ Aside0 (Below w.heap.size w w') := by
 obtain ⟨s, q⟩ := u
 by_cases h : ∃ v, Lib.atoiAll s.data.toList = .ok v
 ·obtain ⟨v, h⟩ := h
  by_cases hq : q = true ∨ v < 0 ∨ 2147483647 < v
  ·have e : numL ⟨s, q⟩ = none := by
    unfold numL; simp only [h]
    rw [if_neg]
    rintro ⟨h1, h2, h3, _⟩
    rcases hq with h' | h' | h'
    ·rw [h1] at h'; cases h'
    ·omega
    ·omega
   rw [e]
   exact numeral_bad s q hs v h hq w
  ·have hq1 : q = false := by cases q <;> simp_all
   subst hq1
   have h0 : 0 ≤ v := by omega
   have h1 : v ≤ 2147483647 := by omega
   have e : numL ⟨s, false⟩ = if (itoaB v).toList = s.toList then some v else none := by
    unfold numL; simp only [h]
    by_cases hv : (itoaB v).toList = s.toList
    ·rw [if_pos ⟨trivial, h0, h1, hv⟩, if_pos hv]
    ·rw [if_neg (fun h => hv h.2.2.2), if_neg hv]
   rw [e]
   exact numeral_in s hs v h h0 h1 w hG
 ·have e : numL ⟨s, q⟩ = none := by
   unfold numL
   split
   ·rename_i v h'; exact absurd ⟨v, h'⟩ h
   ·rfl
  rw [e]
  exact numeral_err ⟨s, q⟩ hs (fun v hv => h ⟨v, hv⟩) w hG
end Go.Proofs.YteamhfmpogbilaaGreatDoor.X
