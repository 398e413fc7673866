/- tool.isBlank, tool.sign: each as its plain function, or its panic. -/
import Derived.Test.YteamhfmpogbilaaGreatDoorWordL
import Derived.WalkLawsBesides
set_option linter.unusedVariables false
set_option linter.unusedSimpArgs false
namespace Go.Proofs.YteamhfmpogbilaaGreatDoor.X
open Go.RowKit Go.Proofs.YteamhfmpogbilaaGreatDoor Go.Proofs.YteamhfmpogbilaaGreatDoorW.PrintWords Go.Proofs.YteamhfmpogbilaaGreatDoorW.PrintLast
def flawC : List PanicEntry := [{ v := .iface 113 (.agg #[]), recovered := false }]
def hexB : ByteArray := ⟨#[48, 49, 50, 51, 52, 53, 54, 55, 56, 57, 97, 98, 99, 100, 101, 102]⟩
theorem prefix_one (s : ByteArray) (c : UInt8) (w : World) :
  Calls Tryz.prog 130 #[.string s, .string ⟨#[c]⟩] w fun e w' => e = .returned (.bool (Lib.hasPrefix s.data.toList [c])) ∧ w = w' := (Tryz.strings_HasPrefix s ⟨#[c]⟩ w).mono fun _ _ ⟨h, h'⟩ => ⟨h, h'.symm⟩
theorem hexAt (c : UInt8) (w : World) :
  Calls Tryz.prog 174 #[.string hexB, .int .u8 (c.toNat : Int)] w fun e w' => e = .returned (.int .i64 (hexV c)) ∧ w' = w := by
 refine (Tryz.strings_IndexByte hexB _ w).mono ?_
 rintro e w' ⟨rfl, rfl⟩
 refine ⟨?_, rfl⟩
 show Ending.returned (.int .i64 (Lib.indexByte hexD _)) = _
 unfold hexV
 simp
theorem pre_cons (c d : UInt8) (t : List UInt8) : Lib.hasPrefix (c :: t) [d] = (c == d) := by
 show ([d] : List UInt8).isPrefixOf (c :: t) = _
 simp only [List.isPrefixOf, Bool.and_true]
 rw [Bool.eq_iff_iff, beq_iff_eq, beq_iff_eq]
 exact eq_comm
theorem at_list (s : ByteArray) (l : List UInt8) (h : s.data.toList = l) (k : Nat) (hk : k < s.size) (x : UInt8) (hx : l[k]? = some x) : s[k] = x := by
 subst h
 have : s[k] = s.data.toList[k]'(by simpa using hk) := rfl
 rw [this]
 rw [List.getElem?_eq_getElem (by simpa using hk)] at hx
 exact Option.some.inj hx
theorem or_hex (a b : Int) (h0 : 0 ≤ a) (h1 : a ≤ 15) (h2 : 0 ≤ b) (h3 : b ≤ 15) : bits BinOp.or IntKind.i64 (a * 16) b % 256 = a * 16 + b := by
 have h : ∀ x y : Fin 16, bits BinOp.or IntKind.i64 (((x.1 : Nat) : Int) * 16) ((y.1 : Nat) : Int) % 256 = ((x.1 : Nat) : Int) * 16 + ((y.1 : Nat) : Int) := by decide +kernel
 obtain ⟨x, rfl⟩ := Int.eq_ofNat_of_zero_le h0
 obtain ⟨y, rfl⟩ := Int.eq_ofNat_of_zero_le h2
 exact h ⟨x, by omega⟩ ⟨y, by omega⟩
set_option maxRecDepth 100000 in
theorem sign_no (s : ByteArray) (w : World) (h34 : Lib.hasPrefix s.data.toList [34] = false) (h92 : Lib.hasPrefix s.data.toList [92] = false) (h : Lib.hasPrefix s.data.toList [120] = false ∨ s.size < 3) :
  Calls Tryz.prog 139 #[.string s] w fun e w' => e = .panicked flawC ∧ Aside0 (Drawn0 w w') := by
 have H0 := Aside0.mk (Drawn0.refl w)
 rcases h with h | h
 ·go_enter Tryz.func139, Tryz.ntmps139
  go_wp2_with (go_at_call 130; refine (prefix_one _ _ _).mono ?_; rintro e w' ⟨rfl, rfl⟩)
  exact ⟨rfl, rfl, H0⟩
 ·have h3 : decide (3 ≤ (s.size : Int)) = false := decide_eq_false (by omega)
  by_cases hx : Lib.hasPrefix s.data.toList [120] = true
  ·go_enter Tryz.func139, Tryz.ntmps139
   go_wp2_with (go_at_call 130; refine (prefix_one _ _ _).mono ?_; rintro e w' ⟨rfl, rfl⟩)
   exact ⟨rfl, rfl, H0⟩
  ·have hx' : Lib.hasPrefix s.data.toList [120] = false := by simpa using hx
   clear hx
   go_enter Tryz.func139, Tryz.ntmps139
   go_wp2_with (go_at_call 130; refine (prefix_one _ _ _).mono ?_; rintro e w' ⟨rfl, rfl⟩)
   exact ⟨rfl, rfl, H0⟩
set_option maxRecDepth 100000 in
theorem sign_self (s : ByteArray) (w : World) (hs : 0 < s.size) (h : Lib.hasPrefix s.data.toList [34] = true ∨ (Lib.hasPrefix s.data.toList [34] = false ∧ Lib.hasPrefix s.data.toList [92] = true)) :
  Calls Tryz.prog 139 #[.string s] w fun e w' => e = .returned (.tuple #[.int .u8 (s[0].toNat : Int), .int .i64 1]) ∧ Aside0 (Drawn0 w w') := by
 have H0 := Aside0.mk (Drawn0.refl w)
 rcases h with h | ⟨h, h'⟩
 all_goals
  go_enter Tryz.func139, Tryz.ntmps139
  go_wp2_with (go_at_call 130; refine (prefix_one _ _ _).mono ?_; rintro e w' ⟨rfl, rfl⟩)
  go_ret2
  exact ⟨rfl, H0⟩
set_option maxRecDepth 100000 in
theorem sign_hex (s : ByteArray) (w : World) (h34 : Lib.hasPrefix s.data.toList [34] = false) (h92 : Lib.hasPrefix s.data.toList [92] = false) (h120 : Lib.hasPrefix s.data.toList [120] = true) (hs : 3 ≤ s.size) (x y : UInt8) (hx : s[1] = x) (hy : s[2] = y)
  (h0 : 0 ≤ hexV x) (h1 : 0 ≤ hexV y) :
  Calls Tryz.prog 139 #[.string s] w fun e w' => e = .returned (.tuple #[.int .u8 (hexV x * 16 + hexV y), .int .i64 3]) ∧ Aside0 (Drawn0 w w') := by
 have H0 := Aside0.mk (Drawn0.refl w)
 obtain ⟨a0, a1⟩ := hexV_bd x
 obtain ⟨b0, b1⟩ := hexV_bd y
 have h3 : decide (3 ≤ (s.size : Int)) = true := decide_eq_true (by omega)
 have HA := Aside0.mk (hexAt x)
 have HB := Aside0.mk (hexAt y)
 generalize hexV x = a at *
 generalize hexV y = b at *
 have d0 : decide (0 ≤ a) = true := decide_eq_true h0
 have d1 : decide (0 ≤ b) = true := decide_eq_true h1
 go_enter Tryz.func139, Tryz.ntmps139
 go_wp2_with (go_at_call 130; refine (prefix_one _ _ _).mono ?_; rintro e w' ⟨rfl, rfl⟩)
 go_quiet ((first | (go_at_call_of 174 (Value.int .u8 (x.toNat : Int)); exact Calls.quiet_of_same (HA.out _)) | (go_at_call_of 174 (Value.int .u8 (y.toNat : Int)); exact Calls.quiet_of_same (HB.out _))))
 go_wp2
 go_ret2
 refine ⟨?_, ⟨⟨_, rfl⟩⟩⟩
 show Ending.returned (.tuple #[.int .u8 (bits BinOp.or IntKind.i64 (a * 16) b % 256), .int .i64 3]) = _
 rw [or_hex a b h0 a1 h1 b1]
set_option maxRecDepth 100000 in
theorem sign_bad (s : ByteArray) (w : World) (h34 : Lib.hasPrefix s.data.toList [34] = false) (h92 : Lib.hasPrefix s.data.toList [92] = false) (h120 : Lib.hasPrefix s.data.toList [120] = true) (hs : 3 ≤ s.size) (x y : UInt8) (hx : s[1] = x) (hy : s[2] = y)
  (h : ¬ (0 ≤ hexV x ∧ 0 ≤ hexV y)) :
  Calls Tryz.prog 139 #[.string s] w fun e w' => e = .panicked flawC ∧ Aside0 (Drawn0 w w') := by
 have h3 : decide (3 ≤ (s.size : Int)) = true := decide_eq_true (by omega)
 have HA := Aside0.mk (hexAt x)
 have HB := Aside0.mk (hexAt y)
 generalize hexV x = a at *
 generalize hexV y = b at *
 by_cases ha : 0 ≤ a
 case' pos =>
  have d0 : decide (0 ≤ a) = true := decide_eq_true ha
  have d1 : decide (0 ≤ b) = false := decide_eq_false fun hb => h ⟨ha, hb⟩
 case' neg =>
  have d0 : decide (0 ≤ a) = false := decide_eq_false ha
 all_goals
  clear h ha
  go_enter Tryz.func139, Tryz.ntmps139
  go_wp2_with (go_at_call 130; refine (prefix_one _ _ _).mono ?_; rintro e w' ⟨rfl, rfl⟩)
  go_quiet ((first | (go_at_call_of 174 (Value.int .u8 (x.toNat : Int)); exact Calls.quiet_of_same (HA.out _)) | (go_at_call_of 174 (Value.int .u8 (y.toNat : Int)); exact Calls.quiet_of_same (HB.out _))))
  go_wp2
  exact ⟨rfl, rfl, ⟨⟨⟨_, rfl⟩⟩⟩⟩
end Go.Proofs.YteamhfmpogbilaaGreatDoor.X
