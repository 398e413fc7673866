/- A place cut at its slashes: as the reference does it, and as strings.Split does. -/
import Derived.Test.YteamhfmpogbilaaGreatDoorRef
set_option linter.unusedVariables false
set_option linter.unusedSimpArgs false
namespace Go.Proofs.YteamhfmpogbilaaGreatDoor.X
open Go.RowKit Go.Proofs.YteamhfmpogbilaaGreatDoor Go.Proofs.YteamhfmpogbilaaGreatDoorW.PrintWords Go.Proofs.YteamhfmpogbilaaGreatDoorW.PrintLast

def mk (l : List UInt8) : ByteArray := ⟨l.toArray⟩
theorem mk_data (s : ByteArray) : mk s.data.toList = s := by unfold mk; simp
def cutFrom : List UInt8 → List UInt8 → List (List UInt8)
  | p, [] => [p]
  | p, c :: l => if c = 47 then p :: cutFrom [] l else cutFrom (p ++ [c]) l
theorem cutFrom_cons (c : UInt8) (l p : List UInt8) : cutFrom p (c :: l) = if c = 47 then p :: cutFrom [] l else cutFrom (p ++ [c]) l := by rw [cutFrom]
theorem cutFrom_len : ∀ (l p : List UInt8), (cutFrom p l).length ≤ l.length + 1
  | [], p => by simp [cutFrom]
  | c :: l, p => by
    unfold cutFrom
    split
    · have := cutFrom_len l []; simp; omega
    · have := cutFrom_len l (p ++ [c]); simp; omega
theorem ext_data (s : ByteArray) (a b : Nat) : (s.extract a b).data.toList = (s.data.toList.take b).drop a := by
  rw [ByteArray.data_extract]; simp [List.drop_take, List.extract_eq_take_drop]
theorem ext_succ (s : ByteArray) (a i : Nat) (ha : a ≤ i) (h : i < s.size) : (s.extract a (i + 1)).data.toList = (s.extract a i).data.toList ++ [s[i]] := by
  rw [ext_data, ext_data, take_snoc s i h, List.drop_append_of_le_length]
  rw [List.length_take, bl]; omega
theorem ext_nil (s : ByteArray) (a : Nat) : (s.extract a a).data.toList = [] := by
  rw [ext_data]; apply List.drop_eq_nil_of_le; rw [List.length_take]; omega
theorem pieces_l0 (s : ByteArray) (hs : s.size ≤ 1000) : ∀ (d k a i : Nat) (acc : List ByteArray), s.size - i ≤ d → a ≤ i → i ≤ s.size → d + 2 ≤ k → acc.length + d ≤ 10000 →
    heraldref1_pieces.l0 k s acc (a : Int) (i : Int) = some (acc ++ (cutFrom (s.extract a i).data.toList (s.data.toList.drop i)).map mk)
  | d, k, a, i, acc, hd, hai, hi, hk, hacc => by
    obtain ⟨k, rfl⟩ : ∃ k', k = k' + 1 + 1 := ⟨k - 2, by omega⟩
    have e : wrap64 ((i : Int) + 1) = ((i + 1 : Nat) : Int) := by unfold wrap64; omega
    by_cases c : i = s.size
    · subst c
      rw [heraldref1_pieces.l0]
      rw [if_pos (by omega), if_pos rfl, if_pos (by omega), if_pos (by omega), if_pos (by omega), e]
      rw [heraldref1_pieces.l0]
      rw [if_neg (by omega), Int.toNat_natCast, Int.toNat_natCast, show s.data.toList.drop s.size = [] from List.drop_eq_nil_of_le (by rw [bl]; exact Nat.le_refl _)]
      simp only [cutFrom, List.map_cons, List.map_nil, mk_data]
    · have hlt : i < s.size := by omega
      rw [heraldref1_pieces.l0]
      rw [if_pos (by omega), if_neg (by omega), if_pos (by omega), if_pos (by omega), bt_get s i hlt, e, Int.toNat_natCast, Int.toNat_natCast]
      rw [List.drop_eq_getElem_cons (l := s.data.toList) (i := i) (by rw [bl]; exact hlt)]
      have e2 : s.data.toList[i]'(by rw [bl]; exact hlt) = s[i] := rfl
      rw [e2, cutFrom_cons]
      cases d with
      | zero => omega
      | succ d =>
        by_cases c47 : s[i] = 47
        · rw [if_pos (by rw [c47]; rfl), if_pos (by omega), if_pos (by omega), if_pos (by omega), if_pos c47, pieces_l0 s hs d (k + 1) (i + 1) (i + 1) _ (by omega) (by omega) (by omega) (by omega) (by simp; omega), ext_nil, List.map_cons, mk_data, List.append_assoc, List.singleton_append]
        · have : ¬ (s[i].toNat : Int) = 47 := fun h => c47 (UInt8.toNat_inj.mp (by have : (47 : UInt8).toNat = 47 := rfl; omega))
          rw [if_neg this, if_neg c47, pieces_l0 s hs d (k + 1) a (i + 1) acc (by omega) (by omega) (by omega) (by omega) (by omega), ext_succ s a i hai hlt]
theorem refPieces_told (k : Nat) (s : ByteArray) (hs : s.size ≤ 1000) (h1 : 1 ≤ s.size) (hk : s.size + 2 ≤ k) : heraldref1_pieces.f k s = some ((cutFrom [] (s.data.toList.drop 1)).map mk) := by
  unfold heraldref1_pieces.f
  have := pieces_l0 s hs (s.size - 1) k 1 1 [] (by omega) (by omega) (by omega) (by omega) (by simp; omega)
  rw [ext_nil] at this
  simpa using this

/-! ### strings.Split at a slash -/
theorem cutFrom_no : ∀ (l p : List UInt8), (∀ k : Nat, l[k]? ≠ some 47) → cutFrom p l = [p ++ l]
  | [], p, _ => by simp [cutFrom]
  | c :: l, p, h => by
    rw [cutFrom_cons]
    have hc : c ≠ 47 := fun e => h 0 (by simp [e])
    rw [if_neg hc, cutFrom_no l (p ++ [c]) (fun k => by have := h (k + 1); simpa using this)]
    simp
theorem cutFrom_at : ∀ (i : Nat) (l p : List UInt8), l[i]? = some 47 → (∀ k : Nat, k < i → l[k]? ≠ some 47) → cutFrom p l = (p ++ l.take i) :: cutFrom [] (l.drop (i + 1))
  | _, [], p, h, _ => by simp at h
  | 0, c :: l, p, h, _ => by
    rw [cutFrom_cons]
    have : c = 47 := by simpa using h
    rw [if_pos this]; simp
  | i + 1, c :: l, p, h, hn => by
    rw [cutFrom_cons]
    have hc : c ≠ 47 := fun e => hn 0 (by omega) (by simp [e])
    rw [if_neg hc, cutFrom_at i l (p ++ [c]) (by simpa using h) (fun k hk => by have := hn (k + 1) (by omega); simpa using this)]
    simp
theorem index_slash (t : ByteArray) : Lib.indexB t slashB = Lib.indexByte t.data.toList 47 := by
  rw [Lib.one t slashB rfl]; rfl
theorem split_cut : ∀ (d : Nat) (t : ByteArray), t.size ≤ d → Lib.splitB slashB 0 (Lib.countB t slashB) t = (cutFrom [] t.data.toList).map mk
  | d, t, hd => by
    rcases Lib.indexB_cases t slashB with h | ⟨i, h, hi⟩
    · have h' := h
      rw [index_slash] at h'
      rw [Lib.splitB_miss _ _ _ _ h, cutFrom_no _ _ (Lib.indexByte_none h')]
      simp [mk_data]
    · have h' := h
      rw [index_slash] at h'
      obtain ⟨h1, h2⟩ := Lib.indexByte_some h'
      have e1 : slashB.size = 1 := rfl
      rw [e1] at hi
      rw [Lib.countB_hit t slashB i (by decide) h, Nat.add_comm 1, Lib.splitB_hit _ _ _ _ i h, cutFrom_at i _ _ h1 h2, e1]
      cases d with
      | zero => omega
      | succ d =>
        rw [split_cut d (t.extract (i + 1) t.size) (by rw [ByteArray.size_extract]; omega), List.map_cons]
        have x1 : t.extract 0 (i + 0) = mk ([] ++ t.data.toList.take i) := by
          rw [← mk_data (t.extract 0 (i + 0)), ext_data]; simp
        have x2 : (t.extract (i + 1) t.size).data.toList = t.data.toList.drop (i + 1) := by
          rw [ext_data, List.take_of_length_le (by rw [bl]; exact Nat.le_refl _)]
        rw [x1, x2]
theorem partsOf_cut (s : ByteArray) : partsOf s = (cutFrom [] (s.data.toList.drop 1)).map mk := by
  unfold partsOf
  rw [split_cut _ _ (Nat.le_refl _), ext_data, List.take_of_length_le (by rw [bl]; exact Nat.le_refl _)]
end Go.Proofs.YteamhfmpogbilaaGreatDoor.X
