/- tool.quote writes a text in quotes: each byte as the plain function quote1 tells. -/
import Derived.Test.YteamhfmpogbilaaGreatDoorBld
import Derived.WalkKit
import Derived.WalkLawsBesides
import Derived.WalkSpells
import Derived.Outline
set_option linter.unusedVariables false
set_option linter.unusedSimpArgs false
namespace Go.Proofs.YteamhfmpogbilaaGreatDoor
open Go.RowKit Go.Proofs.YteamhfmpogbilaaGreatDoorW.PrintWords
def hexD (n : Nat) : UInt8 := if n < 10 then UInt8.ofNat (48 + n) else UInt8.ofNat (87 + n)
theorem hex_at (i : Nat) (h : i < (⟨#[48, 49, 50, 51, 52, 53, 54, 55, 56, 57, 97, 98, 99, 100, 101, 102]⟩ : ByteArray).size) : (⟨#[48, 49, 50, 51, 52, 53, 54, 55, 56, 57, 97, 98, 99, 100, 101, 102]⟩ : ByteArray)[i] = hexD i := by
 have : i < 16 := h
 have key : ∀ j : Fin 16, (⟨#[48, 49, 50, 51, 52, 53, 54, 55, 56, 57, 97, 98, 99, 100, 101, 102]⟩ : ByteArray)[j.val]'(j.isLt) = hexD j.val := by decide
 exact key ⟨i, this⟩
def quote1 (c : UInt8) : List UInt8 :=
 if c.toNat = 34 ∨ c.toNat = 92 then [92, c] else if 32 ≤ c.toNat ∧ c.toNat ≤ 126 then [c] else [92, 120, hexD (c.toNat / 16), hexD (c.toNat % 16)]
def quoteL (l : List UInt8) : List UInt8 := 34 :: (l.flatMap quote1 ++ [34])
theorem quote1_len (c : UInt8) : (quote1 c).length ≤ 4 := by unfold quote1; split <;> (try split) <;> simp
theorem quotes_len (l : List UInt8) : (l.flatMap quote1).length ≤ 4 * l.length := by
 induction l with
 | nil => simp
 | cons c l ih => simp only [List.flatMap_cons, List.length_append, List.length_cons]; have := quote1_len c; omega
theorem take_snoc (s : ByteArray) (k : Nat) (h : k < s.size) : s.data.toList.take (k + 1) = s.data.toList.take k ++ [s[k]] := by
 rw [List.take_succ_eq_append_getElem (by simpa using h)]; rfl
theorem quotes_snoc (s : ByteArray) (k : Nat) (h : k < s.size) : (s.data.toList.take (k + 1)).flatMap quote1 = (s.data.toList.take k).flatMap quote1 ++ quote1 s[k] := by
 rw [take_snoc s k h, List.flatMap_append]; simp
set_option maxHeartbeats 2000000 in
set_option maxRecDepth 100000 in
theorem quote_calls (s : ByteArray) (w : World) (hs : 4 * s.size + 2 ≤ 140737488355328) :
  Calls Tryz.prog 78 #[.string s] w fun e w' => e = .returned (.string ⟨(quoteL s.data.toList).toArray⟩) ∧ Aside0 (Below w.heap.size w w') := by
 have HB0 := Aside0.mk ((Below.refl w.heap.size w).alloc (Nat.le_refl _) (.cells #[.pointer none, .slice none 0 0] 134))
 have HN := Aside0.mk (bld_new w)
 go_enter Tryz.func78, Tryz.ntmps78
 go_wp2_with (go_at_call 70; refine (bld_byte w.heap.size w.heap.size [] 34 _ HN.out (by omega) (by omega) (by simp) (by simp)).mono ?_; rintro e w1 ⟨rfl, hB, hb⟩)
 have HB1 : Aside0 (Below w.heap.size w w1) := ⟨HB0.out.trans hb.out⟩
 clear HB0 HN hb
 go_loopw [9] (fun i wr => ∃ k : Nat, k ≤ s.size ∧ i = .int .i64 k ∧ Aside0 (Bld w.heap.size w.heap.size (34 :: (s.data.toList.take k).flatMap quote1) wr) ∧ Aside0 (Below w.heap.size w wr)) (fun i _ => s.size - (intOf i).toNat)
 case atStart => exact ⟨0, Nat.zero_le _, rfl, hB, HB1⟩
 case round =>
  clear hB HB1
  obtain ⟨k, hk, rfl, hB, hb⟩ := hrel
  have hl := quotes_len (s.data.toList.take k)
  have hl2 : (s.data.toList.take k).length ≤ k := List.length_take_le _ _
  have hsz := hb.out.size
  by_cases hlt : k < s.size
  ·have HS := Aside0.mk (quotes_snoc s k hlt)
   have hr : s[k].toNat ≤ 255 := by have := s[k].toNat_lt; omega
   by_cases c1 : s[k].toNat = 34
   ·have d1 : ((s[k].toNat : Int) == 34) = true := beq_iff_eq.mpr (by omega)
    have HQ : Aside0 (quote1 s[k] = [92, UInt8.ofNat ((s[k].toNat : Int)).toNat]) := ⟨by unfold quote1; rw [if_pos (by omega)]; simp⟩
    clear c1
    go_wp2_with fail
    refine (bld_byte w.heap.size w.heap.size _ 92 _ hB.out (by omega) (by omega) (by simp only [List.length_cons, List.length_append, List.length_nil]; omega) (by omega)).mono ?_
    rintro e w2 ⟨rfl, hB, hb2⟩
    replace hb : Aside0 (Below w.heap.size w w2) := ⟨hb.out.trans hb2.out⟩
    replace hsz := hb.out.size
    clear hb2
    go_wp2_with fail
    refine (bld_byte w.heap.size w.heap.size _ (s[k].toNat : Int) _ hB.out (by omega) (by omega) (by simp only [List.length_cons, List.length_append, List.length_nil]; omega) (by omega)).mono ?_
    rintro e w3 ⟨rfl, hB, hb3⟩
    replace hb : Aside0 (Below w.heap.size w w3) := ⟨hb.out.trans hb3.out⟩
    replace hsz := hb.out.size
    clear hb3
    go_wp2_with fail
    go_roundw
    case rel =>
     refine ⟨k + 1, by omega, by go_num, ?_, hb⟩
     rw [HS.out, HQ.out]
     simpa using hB
    case measure => simp [intOf]; omega
   have d1 : ((s[k].toNat : Int) == 34) = false := beq_eq_false_iff_ne.mpr (by omega)
   by_cases c2 : s[k].toNat = 92
   ·have d2 : ((s[k].toNat : Int) == 92) = true := beq_iff_eq.mpr (by omega)
    have HQ : Aside0 (quote1 s[k] = [92, UInt8.ofNat ((s[k].toNat : Int)).toNat]) := ⟨by unfold quote1; rw [if_pos (by omega)]; simp⟩
    clear c1 c2
    go_wp2_with fail
    refine (bld_byte w.heap.size w.heap.size _ 92 _ hB.out (by omega) (by omega) (by simp only [List.length_cons, List.length_append, List.length_nil]; omega) (by omega)).mono ?_
    rintro e w2 ⟨rfl, hB, hb2⟩
    replace hb : Aside0 (Below w.heap.size w w2) := ⟨hb.out.trans hb2.out⟩
    replace hsz := hb.out.size
    clear hb2
    go_wp2_with fail
    refine (bld_byte w.heap.size w.heap.size _ (s[k].toNat : Int) _ hB.out (by omega) (by omega) (by simp only [List.length_cons, List.length_append, List.length_nil]; omega) (by omega)).mono ?_
    rintro e w3 ⟨rfl, hB, hb3⟩
    replace hb : Aside0 (Below w.heap.size w w3) := ⟨hb.out.trans hb3.out⟩
    replace hsz := hb.out.size
    clear hb3
    go_wp2_with fail
    go_roundw
    case rel =>
     refine ⟨k + 1, by omega, by go_num, ?_, hb⟩
     rw [HS.out, HQ.out]
     simpa using hB
    case measure => simp [intOf]; omega
   have d2 : ((s[k].toNat : Int) == 92) = false := beq_eq_false_iff_ne.mpr (by omega)
   by_cases c3 : 32 ≤ s[k].toNat ∧ s[k].toNat ≤ 126
   ·have d3 : decide (32 ≤ (s[k].toNat : Int)) = true := decide_eq_true (by omega)
    have d4 : decide ((s[k].toNat : Int) ≤ 126) = true := decide_eq_true (by omega)
    have HQ : Aside0 (quote1 s[k] = [UInt8.ofNat ((s[k].toNat : Int)).toNat]) := ⟨by unfold quote1; rw [if_neg (by omega), if_pos c3]; simp⟩
    clear c1 c2 c3
    go_wp2_with fail
    refine (bld_byte w.heap.size w.heap.size _ (s[k].toNat : Int) _ hB.out (by omega) (by omega) (by simp only [List.length_cons, List.length_append, List.length_nil]; omega) (by omega)).mono ?_
    rintro e w2 ⟨rfl, hB, hb2⟩
    replace hb : Aside0 (Below w.heap.size w w2) := ⟨hb.out.trans hb2.out⟩
    replace hsz := hb.out.size
    clear hb2
    go_wp2_with fail
    go_roundw
    case rel =>
     refine ⟨k + 1, by omega, by go_num, ?_, hb⟩
     rw [HS.out, HQ.out]
     simpa using hB
    case measure => simp [intOf]; omega
   ·have HQ : Aside0 (quote1 s[k] = [92, 120, hexD (s[k].toNat / 16), hexD (s[k].toNat % 16)]) := ⟨by unfold quote1; rw [if_neg (by omega), if_neg c3]⟩
    have d34 : decide (32 ≤ (s[k].toNat : Int)) = false ∨ decide ((s[k].toNat : Int) ≤ 126) = false ∧ decide (32 ≤ (s[k].toNat : Int)) = true := by
     by_cases h : 32 ≤ s[k].toNat
     ·exact .inr ⟨decide_eq_false (by omega), decide_eq_true (by omega)⟩
     ·exact .inl (decide_eq_false (by omega))
    clear c1 c2 c3
    rcases d34 with d3 | ⟨d4, d3⟩
    all_goals
     go_wp2_with fail
     refine (bld_string w.heap.size w.heap.size _ ⟨#[92, 120]⟩ _ hB.out (by simp only [List.length_cons, List.length_append, List.length_nil]; simp only [ByteArray.size, List.size_toArray, List.length_cons, List.length_nil]; omega) (by omega)).mono ?_
     rintro e w2 ⟨rfl, hB, hb2⟩
     replace hb : Aside0 (Below w.heap.size w w2) := ⟨hb.out.trans hb2.out⟩
     replace hsz := hb.out.size
     clear hb2
     go_wp2_with fail
     refine (bld_u8 w.heap.size w.heap.size _ _ _ hB.out (by simp only [List.length_cons, List.length_append, List.length_nil, List.length_map]; omega) (by omega)).mono ?_
     rintro e w3 ⟨rfl, hB, hb3⟩
     replace hb : Aside0 (Below w.heap.size w w3) := ⟨hb.out.trans hb3.out⟩
     replace hsz := hb.out.size
     clear hb3
     go_wp2_with fail
     refine (bld_u8 w.heap.size w.heap.size _ _ _ hB.out (by simp only [List.length_cons, List.length_append, List.length_nil, List.length_map]; omega) (by omega)).mono ?_
     rintro e w4 ⟨rfl, hB, hb4⟩
     replace hb : Aside0 (Below w.heap.size w w4) := ⟨hb.out.trans hb4.out⟩
     replace hsz := hb.out.size
     clear hb4
     go_wp2_with fail
     go_roundw
     case rel =>
      refine ⟨k + 1, by omega, by go_num, ?_, hb⟩
      rw [HS.out, HQ.out]
      simpa [hex_at] using hB
     case measure => simp [intOf]; omega
  ·have hk' : k = s.size := by omega
   have HQ : Aside0 (34 :: (s.data.toList.take k).flatMap quote1 ++ [34] = quoteL s.data.toList) := ⟨by rw [hk', List.take_of_length_le (by simp)]; simp [quoteL]⟩
   clear hk'
   go_wp2_with fail
   refine (bld_byte w.heap.size w.heap.size _ 34 _ hB.out (by omega) (by omega) (by simp only [List.length_cons, List.length_append, List.length_nil]; omega) (by omega)).mono ?_
   rintro e w2 ⟨rfl, hB, hb2⟩
   replace hb : Aside0 (Below w.heap.size w w2) := ⟨hb.out.trans hb2.out⟩
   replace hsz := hb.out.size
   go_wp2_with fail
   refine (bld_end w.heap.size w.heap.size _ _ hB.out (by omega)).mono ?_
   rintro e w3 ⟨rfl, hb3⟩
   go_wp2
   go_ret
   exact ⟨by rw [← HQ.out]; rfl, ⟨hb.out.trans hb3.out⟩⟩
end Go.Proofs.YteamhfmpogbilaaGreatDoor
