/- The reference's Parse and Parent are the program's. -/
import Derived.Test.YteamhfmpogbilaaGreatDoorCut
set_option linter.unusedVariables false
set_option linter.unusedSimpArgs false
namespace Go.Proofs.YteamhfmpogbilaaGreatDoor.X
open Go.RowKit Go.Proofs.YteamhfmpogbilaaGreatDoor Go.Proofs.YteamhfmpogbilaaGreatDoorW.PrintWords Go.Proofs.YteamhfmpogbilaaGreatDoorW.PrintLast

theorem refParse_l0 (xs : List ByteArray) (hl : xs.length ≤ 1000) : ∀ (d k i : Nat), xs.length - i ≤ d → i ≤ xs.length → d + 22 ≤ k →
    heraldref1_Parse.l0 k xs (i : Int) = some (if (xs.drop i).all nameOk = true then (xs, 0) else ([], 10))
  | d, k, i, hd, hi, hk => by
    obtain ⟨k, rfl⟩ : ∃ k', k = k' + 1 := ⟨k - 1, by omega⟩
    rw [heraldref1_Parse.l0]
    by_cases c : i < xs.length
    · rw [if_pos (by omega), if_pos (by omega), rdOf_get xs i c, refName_told k _ (by omega), List.drop_eq_getElem_cons c, List.all_cons]
      simp only [Option.bind_some]
      by_cases hn : nameOk xs[i] = true
      · have e : wrap64 ((i : Int) + 1) = ((i + 1 : Nat) : Int) := by unfold wrap64; omega
        cases d with
        | zero => omega
        | succ d =>
          rw [if_pos hn, e, refParse_l0 xs hl d k (i + 1) (by omega) (by omega) (by omega), hn]
          simp
      · rw [if_neg hn]
        simp only [Bool.not_eq_true] at hn
        rw [hn]; simp
    · have : i = xs.length := by omega
      subst this
      rw [if_neg (by omega), List.drop_length]; rfl
theorem first_slash (s : ByteArray) (h : 0 < s.size) : ((s.extract 0 1).toList == [47]) = (bt s 0 == 47) := by
  rw [ByteArray.toList_eq, ext_data, List.drop_zero]
  have h1 := take_snoc s 0 h
  rw [List.take_zero, List.nil_append] at h1
  have h2 : s.data.toList.take 1 = [s[0]] := h1
  have e : bt s 0 = (s[0].toNat : Int) := bt_get s 0 h
  rw [h2, e]
  by_cases c : s[0] = 47
  · rw [c]; rfl
  · have c' : ¬ (s[0].toNat : Int) = 47 := fun h => c (UInt8.toNat_inj.mp (by have : (47 : UInt8).toNat = 47 := rfl; omega))
    rw [beq_eq_false_iff_ne.mpr c', beq_eq_false_iff_ne.mpr (by intro e; injection e with e _; exact c e)]
theorem refParse_told (k : Nat) (s : ByteArray) (hk : 200 ≤ k) : heraldref1_Parse.f k s = some (parseSpec s) := by
  obtain ⟨k, rfl⟩ : ∃ k', k = k' + 1 := ⟨k - 1, by omega⟩
  have ej : ∀ b, heraldref1_Parse.j0 (k + 1) s b = if b = true then some ([], 10) else ((heraldref1_pieces.f k s).bind fun t181 => (if (t181.length : Int) > 6 then (some (([] : List ByteArray), 10)) else (heraldref1_Parse.l0 k t181 0))) := fun b => by rw [heraldref1_Parse.j0]
  unfold heraldref1_Parse.f parseSpec
  rw [ej, ej]
  have hlen : s.toList.length = s.size := by rw [ByteArray.toList_eq, bl]
  by_cases c1 : (s.size : Int) > 102
  · rw [if_pos c1, if_pos c1]
  rw [if_neg c1, if_neg c1]
  by_cases c2 : s.toList = [47]
  · rw [if_pos c2, if_pos c2]
  rw [if_neg c2, if_neg c2]
  by_cases c3 : s.toList = []
  · have hs0 : s.size = 0 := by rw [← hlen, c3]; rfl
    rw [if_pos c3, if_pos rfl, if_neg (by simp [hs0])]
  · have hs1 : 0 < s.size := by
      rcases Nat.eq_zero_or_pos s.size with h | h
      · exact absurd (List.length_eq_zero_iff.mp (by omega)) c3
      · exact h
    rw [if_neg c3, if_pos (by omega), first_slash s hs1, decide_eq_true (by omega : 1 ≤ s.size), Bool.true_and]
    by_cases c4 : bt s 0 = 47
    · rw [if_neg (by simp [c4]), if_pos (by simp [c4]), refPieces_told k s (by omega) (by omega) (by omega), ← partsOf_cut]
      simp only [Option.bind_some]
      by_cases c5 : ((partsOf s).length : Int) > 6
      · rw [if_pos c5, if_pos c5]
      · rw [if_neg c5, if_neg c5]
        have := refParse_l0 (partsOf s) (by omega) (partsOf s).length k 0 (by omega) (by omega) (by omega)
        simpa using this
    · rw [if_pos (by simp [c4]), if_neg (by simp [c4])]

/-! ### the parent -/
theorem data_app (a b : ByteArray) : (a ++ b).data.toList = a.data.toList ++ b.data.toList := by rw [ByteArray.data_append, Array.toList_append]
theorem refOf_l0 (xs : List ByteArray) (h6 : xs.length ≤ 6) (hn : ∀ x ∈ xs, x.size ≤ 16) : ∀ (d k i : Nat) (acc : ByteArray), xs.length - i ≤ d → i ≤ xs.length → d + 1 ≤ k → acc.size ≤ 17 * i →
    heraldref1_Of.l0 k xs acc (i : Int) = some (if (acc.data.toList ++ Lib.joinTail [47] ((xs.drop i).map (·.data.toList))) = [] then slashB else mk (acc.data.toList ++ Lib.joinTail [47] ((xs.drop i).map (·.data.toList))))
  | d, k, i, acc, hd, hi, hk, ha => by
    obtain ⟨k, rfl⟩ : ∃ k', k = k' + 1 := ⟨k - 1, by omega⟩
    rw [heraldref1_Of.l0]
    by_cases c : i < xs.length
    · have hx := hn _ (List.getElem_mem c)
      have e : wrap64 ((i : Int) + 1) = ((i + 1 : Nat) : Int) := by unfold wrap64; omega
      have e1 : (acc ++ (⟨#[47]⟩ : ByteArray)).size = acc.size + 1 := by rw [ByteArray.size_append]; rfl
      rw [if_pos (by omega), if_pos (by omega), if_pos (by omega), rdOf_get xs i c, e1, if_pos (by omega), e]
      cases d with
      | zero => omega
      | succ d =>
        rw [refOf_l0 xs h6 hn d k (i + 1) _ (by omega) (by omega) (by omega) (by rw [ByteArray.size_append, e1]; omega)]
        have e2 : (acc ++ (⟨#[47]⟩ : ByteArray) ++ xs[i]).data.toList ++ Lib.joinTail [47] ((xs.drop (i + 1)).map (·.data.toList)) = acc.data.toList ++ Lib.joinTail [47] ((xs.drop i).map (·.data.toList)) := by
          rw [List.drop_eq_getElem_cons c, List.map_cons]
          unfold Lib.joinTail
          rw [List.map_cons, List.flatten_cons, data_app, data_app]
          simp only [List.append_assoc]
        rw [e2]
    · have : i = xs.length := by omega
      subst this
      rw [if_neg (by omega), List.drop_length]
      have e3 : acc.data.toList ++ Lib.joinTail [47] (([] : List ByteArray).map (·.data.toList)) = acc.data.toList := by simp [Lib.joinTail]
      rw [e3, ByteArray.toList_eq]
      by_cases c0 : acc.data.toList = []
      · rw [if_pos c0, if_pos c0]; rfl
      · rw [if_neg c0, if_neg c0, mk_data]
theorem refOf_told (k : Nat) (xs : List ByteArray) (h6 : xs.length ≤ 6) (hn : ∀ x ∈ xs, x.size ≤ 16) (hk : 10 ≤ k) : heraldref1_Of.f k xs = some (slashB ++ joined xs) := by
  unfold heraldref1_Of.f
  have := refOf_l0 xs h6 hn 6 k 0 ⟨#[]⟩ (by omega) (by omega) (by omega) (by show (0 : Nat) ≤ _; omega)
  have e0 : ((0 : Nat) : Int) = 0 := rfl
  rw [e0] at this
  rw [this, List.drop_zero]
  congr 1
  have e1 : (⟨#[]⟩ : ByteArray).data.toList = [] := rfl
  rw [e1, List.nil_append]
  cases xs with
  | nil =>
    rw [if_pos (by simp [Lib.joinTail])]
    apply WideShapes.bytes_inj
    rw [data_app]; rfl
  | cons x r =>
    rw [if_neg (by simp [Lib.joinTail])]
    apply WideShapes.bytes_inj
    rw [data_app]
    unfold joined mk
    simp only [List.map_cons]
    rw [Lib.join_cons]
    simp [Lib.joinTail, slashB]
theorem refParent_told (k : Nat) (s : ByteArray) (hk : 200 ≤ k) : heraldref1_Parent.f k s = some (parentSpec s) := by
  unfold heraldref1_Parent.f parentSpec
  rw [refParse_told k s hk]
  simp only [Option.bind_some]
  obtain ⟨h6, hn⟩ := parse_names s
  by_cases c1 : (parseSpec s).2 = 0
  · rw [if_pos c1, if_pos c1]
    by_cases c2 : (parseSpec s).1 = []
    · rw [if_pos (by rw [c2]; rfl), if_pos c2]
    · have hpos : 0 < (parseSpec s).1.length := List.length_pos_iff.2 c2
      have e : wrap64 (((parseSpec s).1.length : Int) - 1) = (((parseSpec s).1.length - 1 : Nat) : Int) := by unfold wrap64; omega
      rw [if_neg (by omega), if_neg c2, e, if_pos (by omega), if_pos (by omega), Int.toNat_natCast, refOf_told k _ (by rw [List.length_take]; omega) (fun x hx => nameOk_size (hn x (List.mem_of_mem_take hx))) (by omega)]
      rfl
  · rw [if_neg c1, if_neg c1]
end Go.Proofs.YteamhfmpogbilaaGreatDoor.X
