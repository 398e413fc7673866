/- place.Parse and place.Parent are told. -/
import Derived.Test.YteamhfmpogbilaaGreatDoorPure
set_option linter.unusedVariables false
set_option linter.unusedSimpArgs false
namespace Go.Proofs.YteamhfmpogbilaaGreatDoor.X
open Go.RowKit Go.Proofs.YteamhfmpogbilaaGreatDoor Go.Proofs.YteamhfmpogbilaaGreatDoorW.PrintWords Go.Proofs.YteamhfmpogbilaaGreatDoorW.PrintLast
def slashB : ByteArray := ⟨#[47]⟩
def partsOf (s : ByteArray) : List ByteArray := Lib.splitB slashB 0 (Lib.countB (s.extract 1 s.size) slashB) (s.extract 1 s.size)
def zaw (s : ByteArray) : List ByteArray × Int :=
 if (s.size : Int) > 102 then ([], 2) else if s.toList = [47] then ([], 0) else
  if (decide (1 ≤ s.size) && (s.extract 0 1).toList == [47]) = true then
   if ((partsOf s).length : Int) > 6 then ([], 10) else if (partsOf s).all zcm = true then (partsOf s, 0) else ([], 10)
  else ([], 10)
theorem rdOf_get (xs : List ByteArray) (i : Nat) (h : i < xs.length) : rdOf ByteArray.empty xs (i : Int) = xs[i] := by
 unfold rdOf; simp [List.getD, h]
theorem isName_told (s : ByteArray) (h : s.size ≤ 9223372036854775807) : yel.f s = some (zcm s) := by unfold yel.f; rw [if_pos h]
theorem parse_loop (xs : List ByteArray) (hs : ∀ x ∈ xs, x.size ≤ 9223372036854775807) (hl : xs.length ≤ 1000) : ∀ (k i : Nat), i ≤ xs.length → xs.length - i < k →
  ydr.l0 k xs xs (xs.length : Int) (i : Int) = some (if (xs.drop i).all zcm = true then (xs, 0) else ([], 10))
 | 0, i, _, h => by omega
 | k + 1, i, hi, h => by
  simp only [ydr.l0]
  by_cases c : i < xs.length
  ·rw [if_pos (by omega), if_pos (by omega), if_pos (by omega), rdOf_get xs i c, isName_told _ (hs _ (List.getElem_mem c))]
   rw [List.drop_eq_getElem_cons c, List.all_cons]
   simp only [Option.bind_some]
   by_cases hn : zcm xs[i] = true
   ·have e : wrap64 ((i : Int) + 1) = ((i + 1 : Nat) : Int) := by unfold wrap64; omega
    rw [if_pos hn, e, parse_loop xs hs hl k (i + 1) (by omega) (by omega), hn]
    simp
   ·rw [if_neg hn]
    simp only [Bool.not_eq_true] at hn
    rw [hn]; simp
  ·have : i = xs.length := by omega
   subst this
   rw [if_neg (by omega), List.drop_length]; rfl
theorem slash_toList : slashB.toList = [47] := by kernel_rfl
theorem prefix_told (s : ByteArray) : yej.f s slashB = some (decide (1 ≤ s.size) && (s.extract 0 1).toList == [47]) := by
 unfold yej.f yeo.f
 have e1 : slashB.size = 1 := rfl
 rw [e1]
 by_cases h : 1 ≤ s.size
 ·rw [if_pos (by omega), if_pos (by omega), if_pos (by omega)]
  rw [slash_toList]; simp [h]
 ·rw [if_neg (by omega)]
  simp [h]
theorem splitB_sizes (sep : ByteArray) : ∀ (k : Nat) (s : ByteArray), ∀ x ∈ Lib.splitB sep 0 k s, x.size ≤ s.size
 | 0, s, x, h => by rw [Lib.splitB_zero] at h; simp at h; rw [h]; exact Nat.le_refl _
 | k + 1, s, x, h => by
  unfold Lib.splitB at h
  split at h
  ·simp at h; rw [h]; exact Nat.le_refl _
  ·rcases List.mem_cons.mp h with h | h
   ·rw [h, ByteArray.size_extract]; omega
   ·have := splitB_sizes sep k _ x h
    rw [ByteArray.size_extract] at this; omega
theorem parse_told (s : ByteArray) : ydr.f 200 s = some (zaw s) := by
 unfold ydr.f zaw
 by_cases c1 : (s.size : Int) > 102
 ·rw [if_pos c1, if_pos c1]
 rw [if_neg c1, if_neg c1]
 by_cases c2 : s.toList = [47]
 ·rw [if_pos c2, if_pos c2]
 rw [if_neg c2, if_neg c2, show (⟨#[47]⟩ : ByteArray) = slashB from rfl, prefix_told]
 simp only [Option.bind_some]
 by_cases c3 : (decide (1 ≤ s.size) && (s.extract 0 1).toList == [47]) = true
 ·rw [if_pos c3, if_pos c3]
  have h1 : 1 ≤ s.size := by simp at c3; exact c3.1
  have hsz : (s.extract 1 s.size).size ≤ 102 := by rw [ByteArray.size_extract]; omega
  have e : yee.f (s.extract 1 s.size) slashB = some (partsOf s) := by
   unfold yee.f; rw [if_pos ⟨by omega, by decide⟩]; rfl
  rw [if_pos (by omega), e]
  simp only [Option.bind_some]
  by_cases c4 : ((partsOf s).length : Int) > 6
  ·rw [if_pos c4, if_pos c4]
  ·rw [if_neg c4, if_neg c4]
   have := parse_loop (partsOf s) (fun x hx => by have := splitB_sizes _ _ _ x hx; omega) (by omega) 200 0 (Nat.zero_le _) (by omega)
   simpa using this
 ·rw [if_neg c3, if_neg c3]
theorem joinTail_len (sep : List UInt8) : ∀ (r : List (List UInt8)) (b : Nat), (∀ x ∈ r, x.length ≤ b) → (Lib.joinTail sep r).length ≤ r.length * (sep.length + b)
 | [], b, _ => by simp [Lib.joinTail]
 | x :: r, b, h => by
  have h1 := joinTail_len sep r b fun y hy => h y (List.mem_cons_of_mem _ hy)
  have h2 := h x List.mem_cons_self
  unfold Lib.joinTail at *
  simp only [List.map_cons, List.flatten_cons, List.length_append, List.length_cons, Nat.add_mul, Nat.one_mul]
  omega
theorem join_len (xs : List (List UInt8)) (sep : List UInt8) (b : Nat) (h : ∀ x ∈ xs, x.length ≤ b) : (Lib.join xs sep).length ≤ xs.length * (sep.length + b) := by
 cases xs with
 | nil => simp [Lib.join_nil]
 | cons x r =>
  rw [Lib.join_cons, List.length_append]
  have h1 := joinTail_len sep r b fun y hy => h y (List.mem_cons_of_mem _ hy)
  have h2 := h x List.mem_cons_self
  rw [List.length_cons, Nat.add_mul, Nat.one_mul]
  omega
theorem nameOk_size {s : ByteArray} (h : zcm s = true) : s.size ≤ 16 := by
 unfold zcm at h
 simp only [Bool.and_eq_true, decide_eq_true_eq] at h
 exact h.1.1.1.2
theorem parse_names (s : ByteArray) : (zaw s).1.length ≤ 6 ∧ ∀ x ∈ (zaw s).1, zcm x = true := by
 unfold zaw
 split
 ·exact ⟨by simp, by simp⟩
 split
 ·exact ⟨by simp, by simp⟩
 split
 ·split
  ·exact ⟨by simp, by simp⟩
  ·rename_i h
   split
   ·rename_i h2
    exact ⟨by simp at h ⊢; omega, by simpa using h2⟩
   ·exact ⟨by simp, by simp⟩
 ·exact ⟨by simp, by simp⟩
def joined (xs : List ByteArray) : ByteArray := ⟨(Lib.join (xs.map (·.data.toList)) [47]).toArray⟩
def zbl (s : ByteArray) : ByteArray × Int :=
 if (zaw s).2 = 0 then if (zaw s).1 = [] then (⟨#[]⟩, 47) else (slashB ++ joined ((zaw s).1.take ((zaw s).1.length - 1)), 0) else (⟨#[]⟩, (zaw s).2)
theorem joined_size (xs : List ByteArray) (h6 : xs.length ≤ 6) (hn : ∀ x ∈ xs, zcm x = true) : (joined xs).size ≤ 102 := by
 unfold joined
 rw [mkB_size]
 have := join_len (xs.map (·.data.toList)) [47] 16 (fun x hx => by
  obtain ⟨y, hy, rfl⟩ := List.mem_map.mp hx
  have := nameOk_size (hn y hy)
  rw [bl]; exact this)
 rw [List.length_map] at this
 simp at this; omega
theorem placed_told (xs : List ByteArray) (h6 : xs.length ≤ 6) (hn : ∀ x ∈ xs, zcm x = true) : yef.f xs = some (slashB ++ joined xs) := by
 have hj := joined_size xs h6 hn
 have hj' : (Lib.join (xs.map (·.data.toList)) [47]).length ≤ 102 := by unfold joined at hj; rw [mkB_size] at hj; exact hj
 have e : yec.f xs slashB = some (joined xs) := by
  unfold yec.f
  rw [if_pos ⟨by omega, by show (Lib.join (xs.map (·.data.toList)) [47]).length ≤ _; omega⟩]; rfl
 unfold yef.f
 rw [show (⟨#[47]⟩ : ByteArray) = slashB from rfl, e]
 simp only [Option.bind_some]
 rw [if_pos (by omega)]
theorem parent_told (s : ByteArray) : yen.f 200 s = some (zbl s) := by
 unfold yen.f zbl
 rw [parse_told]
 simp only [Option.bind_some]
 obtain ⟨h6, hn⟩ := parse_names s
 by_cases c1 : (zaw s).2 = 0
 ·rw [if_pos c1, if_pos c1]
  by_cases c2 : (zaw s).1 = []
  ·rw [if_pos (by rw [c2]; rfl), if_pos c2]
  ·have hpos : 0 < (zaw s).1.length := List.length_pos_iff.2 c2
   have e : wrap64 (((zaw s).1.length : Int) - 1) = (((zaw s).1.length - 1 : Nat) : Int) := by unfold wrap64; omega
   rw [if_neg (by omega), if_neg c2, e, if_pos (by omega), if_pos (by omega), Int.toNat_natCast, placed_told _ (by rw [List.length_take]; omega) (fun x hx => hn x (List.mem_of_mem_take hx))]
   rfl
 ·rw [if_neg c1, if_neg c1]
theorem parentF_eq (s : ByteArray) : zdb s = zbl s := by unfold zdb; rw [parent_told]; rfl
theorem parentSpec_size (s : ByteArray) : (zbl s).1.size ≤ 103 := by
 obtain ⟨h6, hn⟩ := parse_names s
 unfold zbl
 split
 ·split
  ·show (0 : Nat) ≤ _; omega
  ·have := joined_size ((zaw s).1.take ((zaw s).1.length - 1)) (by rw [List.length_take]; omega) (fun x hx => hn x (List.mem_of_mem_take hx))
   rw [ByteArray.size_append]; have e : slashB.size = 1 := rfl; omega
 ·show (0 : Nat) ≤ _; omega
theorem total : Total where
 parent s _ := by rw [parentF_eq]; exact parent_told s
 parentLen s := by rw [parentF_eq]; have := parentSpec_size s; omega
 may n := by rw [mayF_eq]; exact may_told n
end Go.Proofs.YteamhfmpogbilaaGreatDoor.X
