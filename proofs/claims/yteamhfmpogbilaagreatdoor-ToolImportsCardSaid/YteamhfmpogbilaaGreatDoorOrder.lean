/- place.Order as a plain function; what it leaves of the world. -/
import Derived.Test.YteamhfmpogbilaaGreatDoorTree
import Derived.Sort.Grow
import Derived.Sort.Row
set_option linter.unusedVariables false
set_option linter.unusedSimpArgs false
namespace Go.Proofs.YteamhfmpogbilaaGreatDoorW.PrintWords
open Go.RowKit
theorem Drawn0.trans {a b c : World} (h : Drawn0 a b) (k : Drawn0 b c) : Drawn0 a c := by
 obtain ⟨n, rfl⟩ := h
 obtain ⟨m, rfl⟩ := k
 exact ⟨n + m, World.drewN_drewN ..⟩
theorem Drawn0.drew {a b : World} (h : Drawn0 a b) : Drawn0 a b.drew := h.trans ⟨1, rfl⟩
end Go.Proofs.YteamhfmpogbilaaGreatDoorW.PrintWords
namespace Go.Proofs.YteamhfmpogbilaaGreatDoor.X
open Go.RowKit Go.Proofs.YteamhfmpogbilaaGreatDoor Go.Proofs.YteamhfmpogbilaaGreatDoorW.PrintWords Go.Proofs.YteamhfmpogbilaaGreatDoorW.PrintLast
def wt (c : UInt8) : Int := if c.toNat = 47 then -1 else (c.toNat : Int)
def ordL : List UInt8 → List UInt8 → Int
 | [], [] => 0
 | [], _ :: _ => -1
 | _ :: _, [] => 1
 | a :: x, b :: y => if wt a < wt b then -1 else if wt b < wt a then 1 else ordL x y
theorem weight_calls (c : UInt8) (w : World) :
  Calls Tryz.prog 86 #[.int .u8 (c.toNat : Int)] w fun e w' => e = .returned (.int .i64 (wt c)) ∧ Aside0 (Drawn0 w w') := by
 have hlt := c.toNat_lt
 refine (place_weight.calls (c.toNat : Int) (wt c) w ?_).mono ?_
 ·unfold place_weight.f wt
  have e : wrap64 (c.toNat : Int) = (c.toNat : Int) := by unfold wrap64; omega
  rw [e]
  by_cases h : c.toNat = 47
  ·rw [if_pos (by omega), if_pos h]
  ·rw [if_neg (by omega), if_neg h]
 ·rintro e w' ⟨rfl, h⟩; exact ⟨rfl, ⟨h⟩⟩
theorem ordL_end (a b : ByteArray) (k : Nat) (h : k = a.size ∨ k = b.size) (ha : k ≤ a.size) (hb : k ≤ b.size) :
  ordL (a.data.toList.drop k) (b.data.toList.drop k) = if a.size < b.size then -1 else if b.size < a.size then 1 else 0 := by
 have e1 : a.data.toList.length = a.size := bl a
 have e2 : b.data.toList.length = b.size := bl b
 rcases h with rfl | rfl
 ·rw [List.drop_eq_nil_of_le (by omega)]
  by_cases h : a.size < b.size
  ·rw [if_pos h, List.drop_eq_getElem_cons (by omega)]; rfl
  ·rw [if_neg h, if_neg (by omega), List.drop_eq_nil_of_le (by omega)]; rfl
 ·rw [show b.data.toList.drop b.size = [] from List.drop_eq_nil_of_le (by omega), if_neg (by omega)]
  by_cases h : b.size < a.size
  ·rw [if_pos h, List.drop_eq_getElem_cons (by omega)]; rfl
  ·rw [if_neg h, List.drop_eq_nil_of_le (by omega)]; rfl
theorem ordL_step (a b : ByteArray) (k : Nat) (ha : k < a.size) (hb : k < b.size) :
  ordL (a.data.toList.drop k) (b.data.toList.drop k) = if wt a[k] < wt b[k] then -1 else if wt b[k] < wt a[k] then 1 else ordL (a.data.toList.drop (k + 1)) (b.data.toList.drop (k + 1)) := by
 have e1 : a.data.toList.length = a.size := bl a
 have e2 : b.data.toList.length = b.size := bl b
 rw [List.drop_eq_getElem_cons (l := a.data.toList) (i := k) (by omega), List.drop_eq_getElem_cons (l := b.data.toList) (i := k) (by omega)]
 rfl
set_option maxHeartbeats 2000000 in
set_option maxRecDepth 100000 in
theorem order_calls (a b : ByteArray) (w : World) (ha : a.size ≤ 9223372036854775807) (hb : b.size ≤ 9223372036854775807) :
  Calls Tryz.prog 44 #[.string a, .string b] w fun e w' => e = .returned (.int .i64 (ordL a.data.toList b.data.toList)) ∧ Drawn0 w w' := by
 obtain ⟨m, hm, hma, hmb, hmm⟩ : ∃ m : Nat, (if (b.size : Int) < (a.size : Int) then (b.size : Int) else (a.size : Int)) = (m : Int) ∧ m ≤ a.size ∧ m ≤ b.size ∧ (m = a.size ∨ m = b.size) := by
  by_cases h : b.size < a.size
  ·exact ⟨b.size, by rw [if_pos (by omega)], by omega, by omega, .inr rfl⟩
  ·exact ⟨a.size, by rw [if_neg (by omega)], by omega, by omega, .inl rfl⟩
 have hm2 : (if b.size < a.size then (b.size : Int) else (a.size : Int)) = (m : Int) := by rw [← hm]; simp only [Int.ofNat_lt]
 have H0 := Aside0.mk (Drawn0.refl w)
 have HE := Aside0.mk (ordL_end a b m hmm hma hmb)
 have HST := Aside0.mk (ordL_step a b)
 have HS0 : Aside0 (ordL a.data.toList b.data.toList = ordL (a.data.toList.drop 0) (b.data.toList.drop 0)) := ⟨rfl⟩
 generalize ordL a.data.toList b.data.toList = R at HS0 ⊢
 clear hmm
 go_enter Tryz.func44, Tryz.ntmps44
 go_wp2
 go_loopw [13] (fun i wr => ∃ k : Nat, k ≤ m ∧ i = .int .i64 k ∧ Aside0 (R = ordL (a.data.toList.drop k) (b.data.toList.drop k)) ∧ Aside0 (Drawn0 w wr)) (fun i _ => m - (intOf i).toNat)
 case atStart => exact ⟨0, by omega, rfl, HS0, H0⟩
 case round =>
  clear HS0 H0
  obtain ⟨k, hk, rfl, HR, HD⟩ := hrel
  by_cases hlt : k < m
  ·have hka : k < a.size := by omega
   have hkb : k < b.size := by omega
   have HV := HST.out k hka hkb
   rw [← HR.out] at HV
   have HV := Aside0.mk HV
   obtain ⟨x, hx⟩ : ∃ x, x = a[k] := ⟨_, rfl⟩
   obtain ⟨y, hy⟩ : ∃ y, y = b[k] := ⟨_, rfl⟩
   rw [← hx, ← hy] at HV
   have hx' : (a[k].toNat : Int) = (x.toNat : Int) := by rw [hx]
   have hy' : (b[k].toNat : Int) = (y.toNat : Int) := by rw [hy]
   clear hx hy
   go_wp2
   go_region_held3 (fun w' => Aside0 (Drawn0 w w'))
    (first
     | exact ⟨Drawn0.drew (Aside0.out (by assumption))⟩
     | exact ⟨Drawn0.trans (Aside0.out (by assumption)) (Aside0.out (by assumption))⟩
     | assumption)
    (first
     | (go_at_call_of 86 (Value.int .u8 (x.toNat : Int)); refine (weight_calls x _).mono ?_; rintro e w2 ⟨rfl, hd2⟩)
     | (go_at_call_of 86 (Value.int .u8 (y.toNat : Int)); refine (weight_calls y _).mono ?_; rintro e w2 ⟨rfl, hd2⟩))
   all_goals
    have HD2 : Aside0 (Drawn0 w w2) := by assumption
    by_cases c1 : wt x < wt y
    case' pos =>
     have d1 : decide (wt x < wt y) = true := decide_eq_true c1
     have HW : Aside0 (R = -1) := ⟨by rw [HV.out, if_pos c1]⟩
     clear c1
     go_wp2
     go_ret
     exact ⟨by rw [HW.out]; rfl, HD2.out⟩
    case' neg =>
     have d1 : decide (wt x < wt y) = false := decide_eq_false c1
     by_cases c2 : wt y < wt x
     case' pos =>
      have d2 : decide (wt y < wt x) = true := decide_eq_true c2
      have HW : Aside0 (R = 1) := ⟨by rw [HV.out, if_neg c1, if_pos c2]⟩
      clear c1 c2
      go_wp2
      go_ret
      exact ⟨by rw [HW.out]; rfl, HD2.out⟩
     case' neg =>
      have d2 : decide (wt y < wt x) = false := decide_eq_false c2
      have HW : Aside0 (R = ordL (a.data.toList.drop (k + 1)) (b.data.toList.drop (k + 1))) := ⟨by rw [HV.out, if_neg c1, if_neg c2]⟩
      clear c1 c2
      go_wp2
      go_roundw
      case rel => exact ⟨k + 1, by omega, by go_num, HW, HD2⟩
      case measure => simp [intOf]; omega
  ·have hk' : k = m := by omega
   subst hk'
   have HW := HE.out
   rw [← HR.out] at HW
   have HW := Aside0.mk HW
   by_cases c1 : a.size < b.size
   ·have HX : Aside0 (R = -1) := ⟨by rw [HW.out, if_pos c1]⟩
    go_wp2
    go_ret
    exact ⟨by rw [HX.out]; rfl, HD.out⟩
   ·by_cases c2 : b.size < a.size
    ·have HX : Aside0 (R = 1) := ⟨by rw [HW.out, if_neg c1, if_pos c2]⟩
     go_wp2
     go_ret
     exact ⟨by rw [HX.out]; rfl, HD.out⟩
    ·have HX : Aside0 (R = 0) := ⟨by rw [HW.out, if_neg c1, if_neg c2]⟩
     go_wp2
     go_ret
     exact ⟨by rw [HX.out]; rfl, HD.out⟩
set_option maxHeartbeats 2000000 in
set_option maxRecDepth 100000 in
theorem cmp_calls (a b : Full) (w : World) (ha : a.f0.size ≤ 9223372036854775807) (hb : b.f0.size ≤ 9223372036854775807) :
  Calls Tryz.prog 77 #[fullV a, fullV b] w fun e w' => e = .returned (.int .i64 (ordL a.f0.data.toList b.f0.data.toList)) ∧ ∃ q os', w' = Sort.grow (w.drewN q) os' := by
 have H := order_calls a.f0 b.f0 ((w.alloc (.cells (zao a) 40)).alloc (.cells (zao b) 40)) ha hb
 unfold fullV zao
 unfold zao at H
 have c0 : ∀ o, ((w.alloc (.cells #[.string a.f0, .string a.f1, .int .i64 a.f2, .int .i64 a.f3, .int .i64 a.f4, .int .i64 a.f5, .int .i64 a.f6] 40)).alloc o).cell? ⟨w.heap.size, 0, none⟩ = some (.string a.f0) := fun o => ((Holds.new w _ _).alloc o).cell 0 _ rfl
 go_enter Tryz.func77, Tryz.ntmps77
 go_wp2_with fail
 refine H.mono ?_
 rintro e w1 ⟨rfl, n, rfl⟩
 go_wp2
 go_ret
 refine ⟨rfl, n, #[Obj.cells #[.string a.f0, .string a.f1, .int .i64 a.f2, .int .i64 a.f3, .int .i64 a.f4, .int .i64 a.f5, .int .i64 a.f6] 40, Obj.cells #[.string b.f0, .string b.f1, .int .i64 b.f2, .int .i64 b.f3, .int .i64 b.f4, .int .i64 b.f5, .int .i64 b.f6] 40], ?_⟩
 rw [Sort.alloc_eq_grow, Sort.alloc_eq_grow, Sort.grow_grow]; rfl
end Go.Proofs.YteamhfmpogbilaaGreatDoor.X
