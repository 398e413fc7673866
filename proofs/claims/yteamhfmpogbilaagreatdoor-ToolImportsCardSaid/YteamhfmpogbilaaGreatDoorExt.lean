/- What the package-level variables that the code reads hold ('Glob'), and the library's functions strconv.Itoa, strings.Join, strings.Split and the program's place.isName, each as a function of plain data with its contract. -/
import Derived.Test.YteamhfmpogbilaaGreatDoorProg
import Derived.Test.YteamhfmpogbilaaGreatDoorShelf
import Derived.Test.YteamhfmpogbilaaGreatDoorZW
import Derived.WalkKit
import Derived.BigQuiet
import Derived.Deep.QuietTactic
import Derived.Lib.LaidTab
import Derived.Lib.AppendIntMem
set_option linter.unusedVariables false
set_option linter.unusedSimpArgs false
namespace Go.Proofs.YteamhfmpogbilaaGreatDoor.X
open Go.RowKit Go.Proofs.YteamhfmpogbilaaGreatDoorW.PrintWords Go.Proofs.YteamhfmpogbilaaGreatDoorW.PrintLast
def zbo (c : Nat) : Bool := (decide (65 ≤ c) && decide (c ≤ 90)) || (decide (97 ≤ c) && decide (c ≤ 122)) || (decide (48 ≤ c) && decide (c ≤ 57)) || c == 95 || c == 45 || c == 46
structure Glob (w : World) : Prop where
 pow : Lib.TabIs Tryz.prog w "internal/strconv.uint64pow10" .u64 Lib.pow10Tab
 maxLen : ∃ m : Int, w.cell? ⟨3, 0, none⟩ = some (.int .i64 m)
 named : ∀ i : Nat, i < 128 → w.cell? ⟨0, i, none⟩ = some (.int .u8 (if zbo i then 1 else 0))
 errS : ∃ t p, w.cell? ⟨4, 0, none⟩ = some (.iface t p)
 errR : ∃ t p, w.cell? ⟨5, 0, none⟩ = some (.iface t p)
theorem Glob.below {w w' : World} (h : Glob w) (hb : Below w.heap.size w w') : Glob w' := by
 refine ⟨(Lib.tabBelow_of_tabIs h.pow) w' hb, ?_, ?_, ?_, ?_⟩
 ·obtain ⟨m, hm⟩ := h.maxLen; exact ⟨m, zas hb hm⟩
 ·exact fun i hi => zas hb (h.named i hi)
 ·obtain ⟨m, p, hm⟩ := h.errS; exact ⟨m, p, zas hb hm⟩
 ·obtain ⟨m, p, hm⟩ := h.errR; exact ⟨m, p, zas hb hm⟩
def yei.f (a0 : Int) : Option ByteArray := if -9223372036854775808 ≤ a0 then (if a0 ≤ 9223372036854775807 then some ⟨(Lib.itoa a0).toArray⟩ else none) else none
theorem yei.calls (a0 : Int) (r : ByteArray) (w : World) (hG : Glob w) (h : yei.f a0 = some r) :
  Calls Tryz.prog 123 #[.int .i64 a0] w fun e w' => e = .returned (.string r) ∧ Below w.heap.size w w' := by
 unfold yei.f at h
 split at h
 ·split at h
  ·rename_i h0 h1
   obtain rfl := Option.some.inj h
   refine (Tryz.strconv_Itoa a0 h0 h1 w hG.pow).mono ?_
   rintro e w' ⟨rfl, k, os, rfl⟩
   exact ⟨rfl, Lib.below_grow _ w (Nat.le_refl _) k os⟩
  ·cases h
 ·cases h
def yec.f (l0 : List ByteArray) (a1 : ByteArray) : Option ByteArray :=
 if l0.length ≤ 140737488355328 ∧ (Lib.join (l0.map (·.data.toList)) a1.data.toList).length ≤ 140737488355328 then some ⟨(Lib.join (l0.map (·.data.toList)) a1.data.toList).toArray⟩ else none
theorem yec.calls (A0 : Option Addr) (c0 : Nat) (l0 : List ByteArray) (a1 : ByteArray) (r : ByteArray) (w : World) (hr0 : Kd.C Kd.string w A0 l0.length l0) (hc0 : l0.length ≤ c0) (h : yec.f l0 a1 = some r) :
  Calls Tryz.prog 122 #[.slice A0 l0.length c0, .string a1] w fun e w' => e = .returned (.string r) ∧ Below w.heap.size w w' := by
 unfold yec.f at h
 split at h
 ·rename_i hl
  obtain rfl := Option.some.inj h
  by_cases h0 : l0 = []
  ·subst h0
   refine (Tryz.strings_Join_none A0 c0 a1 w).mono ?_
   rintro e w' ⟨rfl, rfl⟩
   exact ⟨rfl, Below.refl _ _⟩
  ·obtain ⟨hlen, hn63, hcells⟩ := hr0
   have hpos : 0 < l0.length := List.length_pos_iff.2 h0
   obtain ⟨ad, rfl, hc⟩ := hcells hpos
   have hcell : ∀ j x, l0[j]? = some x → w.cell? (ad.add j) = some (.string x) := by
    intro j x hx
    obtain ⟨c, hl1, hK, hci⟩ := hc j x hx
    obtain rfl : c = [.string x] := hK
    have := hci 0 (.string x) rfl
    rwa [show j * Kd.string.sz + 0 = j from Nat.mul_one j] at this
   obtain ⟨bk, o, sp⟩ := ad
   have h00 := hcell 0 l0[0] (List.getElem?_eq_getElem hpos)
   have hsp : sp = none := by
    cases sp with
    | none => rfl
    | some q => simp [World.cell?, Addr.add] at h00; split at h00 <;> simp_all
   subst hsp
   have hadd : ∀ j, (⟨bk, o, none⟩ : Addr).add j = ⟨bk, o + j, none⟩ := by intro j; unfold Addr.add; split <;> simp_all
   have hbk : bk < w.heap.size := World.block_lt_of_cell? w _ h00
   refine (Tryz.strings_Join bk o c0 l0 a1 w (fun j x hx => by rw [← hadd]; exact hcell j x hx) hbk hl.1 hc0 hl.2).mono ?_
   rintro e w' ⟨rfl, hb⟩
   exact ⟨rfl, hb⟩
 ·cases h
def yee.f (a0 : ByteArray) (a1 : ByteArray) : Option (List ByteArray) :=
 if a0.size < 4294967281 ∧ 1 ≤ a1.size then some (Lib.splitB a1 0 (Lib.countB a0 a1) a0) else none
theorem yee.calls (a0 : ByteArray) (a1 : ByteArray) (r : List ByteArray) (w : World) (hG : Glob w) (h : yee.f a0 a1 = some r) :
  Calls Tryz.prog 131 #[.string a0, .string a1] w fun e w' => ∃ v0_ : Value, e = .returned (v0_) ∧ Kd.R Kd.string 9 w' w.heap.size (fun _ => True) v0_ r ∧ Below w.heap.size w w' := by
 unfold yee.f at h
 split at h
 ·rename_i hl
  obtain rfl := Option.some.inj h
  obtain ⟨m, hm⟩ := hG.maxLen
  refine (Tryz.strings_Split a0 a1 m w hl.1 hm hl.2).mono ?_
  rintro e w' ⟨rfl, rfl⟩
  refine ⟨_, rfl, ?_, (Below.refl _ _).alloc (Nat.le_refl _) _⟩
  have hlen := Lib.splitB_all a1 hl.2 0 _ a0 rfl
  have hN : Lib.countB a0 a1 + 1 ≤ maxLen := by have := Lib.countB_le a1 hl.2 _ a0 (Nat.le_refl _); unfold maxLen; omega
  refine Kd.R_of_own ⟨by simp [encs], .inr ⟨w.heap.size, Lib.countB a0 a1 + 1, _, by rw [hlen], Nat.le_refl _, (MapKept.heap_alloc w _).1, by omega, hN, by simp [hlen], ?_⟩⟩ (fun _ _ => trivial)
  simp only [encs, List.toList_toArray, Nat.mul_one, hlen]
  exact List.take_of_length_le (by simp [hlen])
 ·cases h
def zcm (s : ByteArray) : Bool := !s.toList.isEmpty && decide (s.size ≤ 16) && !(s.toList == [46]) && !(s.toList == [46, 46]) && s.data.toList.all fun c => zbo c.toNat
def yel.f (a0 : ByteArray) : Option Bool := if a0.size ≤ 9223372036854775807 then some (zcm a0) else none
theorem nameOk_nil {s : ByteArray} (h : s.toList = []) : zcm s = false := by simp [zcm, h]
theorem nameOk_long {s : ByteArray} (h : ¬ s.size ≤ 16) : zcm s = false := by simp [zcm, h]
theorem nameOk_dot {s : ByteArray} (h : s.toList = [46]) : zcm s = false := by simp [zcm, h]
theorem nameOk_dots {s : ByteArray} (h : s.toList = [46, 46]) : zcm s = false := by simp [zcm, h]
theorem nameOk_bad {s : ByteArray} {k : Nat} (hk : k < s.size) (h : zbo s[k].toNat = false) : zcm s = false := by
 have : (s.data.toList.all fun c => zbo c.toNat) = false := by
  rw [List.all_eq_false]
  refine ⟨s[k], ?_, by simp [h]⟩
  have : s[k] = s.data.toList[k]'(by simpa using hk) := rfl
  rw [this]; exact List.getElem_mem _
 simp [zcm, this]
theorem nameOk_all {s : ByteArray} (h1 : ¬ s.toList = []) (h2 : s.size ≤ 16) (h3 : ¬ s.toList = [46]) (h4 : ¬ s.toList = [46, 46]) (h : ∀ j (hj : j < s.size), zbo s[j].toNat = true) : zcm s = true := by
 have ha : (s.data.toList.all fun c => zbo c.toNat) = true := by
  rw [List.all_eq_true]
  intro c hc
  obtain ⟨j, hj, rfl⟩ := List.getElem_of_mem hc
  exact h j (by simpa using hj)
 have e1 : s.toList.isEmpty = false := by cases hh : s.toList <;> simp_all
 simp [zcm, ha, h2, h3, h4, e1]
theorem nameByte_lt {c : Nat} (h : ¬ c < 128) : zbo c = false := by
 unfold zbo; simp; omega
set_option maxHeartbeats 1000000 in
set_option maxRecDepth 100000 in
theorem yel.calls (a0 : ByteArray) (r : Bool) (w : World) (hG : Glob w) (h : yel.f a0 = some r) :
  Calls Tryz.prog 132 #[.string a0] w fun e w' => e = .returned (.bool r) ∧ Below w.heap.size w w' := by
 unfold yel.f at h
 split at h
 ·rename_i hs
  obtain rfl := Option.some.inj h
  by_cases h1 : a0.toList = []
  ·rw [nameOk_nil h1]
   have e1 : (a0.toList == []) = true := beq_iff_eq.mpr h1
   clear h1
   go_enter Tryz.func132, Tryz.ntmps132
   go_wp2
   go_ret
   exact ⟨rfl, Below.refl _ _⟩
  have e1 : (a0.toList == []) = false := beq_eq_false_iff_ne.mpr h1
  by_cases h2 : a0.size ≤ 16
  ·have e2 : decide (16 < (a0.size : Int)) = false := decide_eq_false (by omega)
   by_cases h3 : a0.toList = [46]
   ·rw [nameOk_dot h3]
    have e3 : (a0.toList == [46]) = true := beq_iff_eq.mpr h3
    clear h1 h3
    go_enter Tryz.func132, Tryz.ntmps132
    go_wp2
    go_ret
    exact ⟨rfl, Below.refl _ _⟩
   have e3 : (a0.toList == [46]) = false := beq_eq_false_iff_ne.mpr h3
   by_cases h4 : a0.toList = [46, 46]
   ·rw [nameOk_dots h4]
    have e4 : (a0.toList == [46, 46]) = true := beq_iff_eq.mpr h4
    clear h1 h3 h4
    go_enter Tryz.func132, Tryz.ntmps132
    go_wp2
    go_ret
    exact ⟨rfl, Below.refl _ _⟩
   have e4 : (a0.toList == [46, 46]) = false := beq_eq_false_iff_ne.mpr h4
   go_enter Tryz.func132, Tryz.ntmps132
   go_wp2
   go_loop [3, 21] (fun _ i => ∃ k : Nat, k ≤ a0.size ∧ i = .int .i64 k ∧ ∀ j (hj : j < a0.size), j < k → zbo a0[j].toNat = true) (fun _ i => a0.size - (intOf i).toNat)
   case atStart => exact ⟨0, Nat.zero_le _, rfl, fun j _ hj => absurd hj (by omega)⟩
   case round =>
    obtain ⟨k, hk, rfl, hall⟩ := hrel
    by_cases hlt : k < a0.size
    ·by_cases hb : a0[k].toNat < 128
     ·have hc := hG.named _ hb
      have d1 : decide (128 ≤ (a0[k].toNat : Int)) = false := decide_eq_false (by omega)
      cases hn : zbo a0[k].toNat with
      | true =>
       rw [hn] at hc
       have HN := Aside0.mk hn
       clear hn
       go_wp2
       go_round
       case rel =>
        refine ⟨k + 1, by omega, by go_num, fun j hj hjk => ?_⟩
        by_cases hjk' : j = k
        ·subst hjk'; exact HN.out
        ·exact hall j hj (by omega)
       case measure => simp [intOf]; omega
      | false =>
       rw [hn] at hc
       have HN := Aside0.mk (nameOk_bad hlt hn)
       clear hn
       go_wp2
       go_ret
       exact ⟨by rw [HN.out]; rfl, Below.refl _ _⟩
     ·have d1 : decide (128 ≤ (a0[k].toNat : Int)) = true := decide_eq_true (by omega)
      have HN := Aside0.mk (nameOk_bad hlt (nameByte_lt hb))
      go_wp2
      go_ret
      exact ⟨by rw [HN.out]; rfl, Below.refl _ _⟩
    ·have HN := Aside0.mk (nameOk_all h1 h2 h3 h4 (fun j hj => hall j hj (by omega)))
     go_wp2
     go_ret
     exact ⟨by rw [HN.out]; rfl, Below.refl _ _⟩
  ·rw [nameOk_long h2]
   have e2 : decide (16 < (a0.size : Int)) = true := decide_eq_true (by omega)
   clear h1
   go_enter Tryz.func132, Tryz.ntmps132
   go_wp2
   go_ret
   exact ⟨rfl, Below.refl _ _⟩
 ·cases h
end Go.Proofs.YteamhfmpogbilaaGreatDoor.X
