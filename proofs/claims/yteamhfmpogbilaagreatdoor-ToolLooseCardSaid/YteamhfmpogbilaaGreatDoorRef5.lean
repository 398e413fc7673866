/- The reference's Quoted writes what the program's quote writes. -/
import Derived.Test.YteamhfmpogbilaaGreatDoorRef4
import Derived.Test.YteamhfmpogbilaaGreatDoorZQ1
set_option linter.unusedVariables false
set_option linter.unusedSimpArgs false
namespace Go.Proofs.YteamhfmpogbilaaGreatDoor.X
open Go.RowKit Go.Proofs.YteamhfmpogbilaaGreatDoor Go.Proofs.YteamhfmpogbilaaGreatDoorW.PrintWords Go.Proofs.YteamhfmpogbilaaGreatDoorW.PrintLast

def nums (l : List UInt8) : List Int := l.map fun c => (c.toNat : Int)
theorem nums_app (a b : List UInt8) : nums (a ++ b) = nums a ++ nums b := List.map_append
theorem nums_len (a : List UInt8) : (nums a).length = a.length := List.length_map ..
theorem hexbt (j : Nat) (h : j < 16) : bt (⟨#[48, 49, 50, 51, 52, 53, 54, 55, 56, 57, 97, 98, 99, 100, 101, 102]⟩ : ByteArray) (j : Int) = ((hexD j).toNat : Int) := by
  rw [bt_get (⟨#[48, 49, 50, 51, 52, 53, 54, 55, 56, 57, 97, 98, 99, 100, 101, 102]⟩ : ByteArray) j h, hex_at j h]
theorem tdivN (v : Nat) : Int.tdiv (v : Int) 16 = ((v / 16 : Nat) : Int) := rfl
theorem tmodN (v : Nat) : Int.tmod (v : Int) 16 = ((v % 16 : Nat) : Int) := rfl
theorem refQuoted_step (k : Nat) (s : ByteArray) (acc : List Int) (i : Nat) (hs : s.size ≤ 1000000) (h : i < s.size) (ha : acc.length ≤ 100000000) :
    heraldref22_Quoted.l0 (k + 1 + 1) s acc (i : Int) = heraldref22_Quoted.l0 k s (acc ++ nums (quote1 s[i])) ((i + 1 : Nat) : Int) := by
  have e : wrap64 ((i : Int) + 1) = ((i + 1 : Nat) : Int) := by unfold wrap64; omega
  have hv := s[i].toNat_lt
  rw [heraldref22_Quoted.l0, if_pos (by omega), if_pos (by omega), bt_get s i h]
  have ej : ∀ b, heraldref22_Quoted.j1 (k + 1) s acc (i : Int) (s[i].toNat : Int) b = if b = true then heraldref22_Quoted.l0 k s (acc ++ nums [92, s[i]]) ((i + 1 : Nat) : Int) else
      if 32 ≤ s[i].toNat ∧ s[i].toNat ≤ 126 then heraldref22_Quoted.l0 k s (acc ++ nums [s[i]]) ((i + 1 : Nat) : Int) else heraldref22_Quoted.l0 k s (acc ++ nums [92, 120, hexD (s[i].toNat / 16), hexD (s[i].toNat % 16)]) ((i + 1 : Nat) : Int) := by
    intro b
    have t1 : ((s[i].toNat / 16 : Nat) : Int) % 256 = ((s[i].toNat / 16 : Nat) : Int) := by omega
    have h1 : s[i].toNat / 16 < 16 := by omega
    have h2 : s[i].toNat % 16 < 16 := by omega
    rw [heraldref22_Quoted.j1]
    simp only [Option.bind_some, tdivN, tmodN, t1, e, hexbt _ h1, hexbt _ h2]
    cases b with
    | true => rw [if_pos rfl, if_pos rfl, if_pos (by simp; omega)]; rfl
    | false =>
      simp only [Bool.false_eq_true, if_false]
      by_cases c1 : 32 ≤ s[i].toNat
      · rw [if_pos (by omega)]
        by_cases c2 : s[i].toNat ≤ 126
        · rw [if_pos (by omega), if_pos (by omega), if_pos ⟨c1, c2⟩]; rfl
        · rw [if_neg (by omega), if_pos (by omega), if_pos (by omega), if_pos (by omega), if_pos (by omega), if_pos (by simp; omega), if_neg (fun h => c2 h.2)]; rfl
      · rw [if_neg (by omega), if_pos (by omega), if_pos (by omega), if_pos (by omega), if_pos (by omega), if_pos (by simp; omega), if_neg (fun h => c1 h.1)]; rfl
  rw [ej, ej]
  unfold quote1
  by_cases c1 : s[i].toNat = 34
  · rw [if_pos (by omega), if_pos rfl, if_pos (.inl c1)]
  · rw [if_neg (by omega)]
    by_cases c2 : s[i].toNat = 92
    · rw [if_pos (by rw [c2]; rfl), if_pos (.inr c2)]
    · have c2' : ¬ (s[i].toNat : Int) = 92 := by omega
      rw [beq_eq_false_iff_ne.mpr c2']
      simp only [Bool.false_eq_true, if_false]
      rw [if_neg (show ¬ (s[i].toNat = 34 ∨ s[i].toNat = 92) by omega)]
      by_cases c3 : 32 ≤ s[i].toNat ∧ s[i].toNat ≤ 126
      · rw [if_pos c3, if_pos c3]
      · rw [if_neg c3, if_neg c3]
theorem refQuoted_l0 (s : ByteArray) (hs : s.size ≤ 1000000) : ∀ (d k i : Nat) (acc : List Int), s.size - i ≤ d → i ≤ s.size → 2 * d + 1 ≤ k → acc.length + 4 * d ≤ 100000000 →
    heraldref22_Quoted.l0 k s acc (i : Int) = some (strOfNums (acc ++ nums ((s.data.toList.drop i).flatMap quote1) ++ [34]))
  | d, k, i, acc, hd, hi, hk, ha => by
    by_cases c : i < s.size
    · cases d with
      | zero => omega
      | succ d =>
        obtain ⟨k, rfl⟩ : ∃ k', k = k' + 1 + 1 := ⟨k - 2, by omega⟩
        have hq := quote1_len s[i]
        rw [refQuoted_step k s acc i hs c (by omega), refQuoted_l0 s hs d k (i + 1) _ (by omega) (by omega) (by omega) (by rw [List.length_append, nums_len]; omega)]
        rw [List.drop_eq_getElem_cons (l := s.data.toList) (i := i) (by rw [bl]; exact c), List.flatMap_cons, nums_app, List.append_assoc acc]
        rfl
    · obtain ⟨k, rfl⟩ : ∃ k', k = k' + 1 := ⟨k - 1, by omega⟩
      have : i = s.size := by omega
      subst this
      rw [heraldref22_Quoted.l0, if_neg (by omega), if_pos (by omega), show s.data.toList.drop s.size = [] from List.drop_eq_nil_of_le (by rw [bl]; exact Nat.le_refl _)]
      simp [nums]
theorem str_nums (l : List UInt8) : strOfNums (nums l) = mk l := by
  unfold strOfNums nums mk
  congr 1
  rw [List.map_map]
  congr 1
  apply List.ext_getElem
  · simp
  · intro i h1 h2; simp
theorem refQuoted_told (k : Nat) (s : ByteArray) (hs : s.size ≤ 1000000) (hk : 2 * s.size + 1 ≤ k) : heraldref22_Quoted.f k s = some (quoteB s) := by
  unfold heraldref22_Quoted.f
  have := refQuoted_l0 s hs s.size k 0 [34] (by omega) (by omega) hk (by simp; omega)
  have e0 : ((0 : Nat) : Int) = 0 := rfl
  rw [e0] at this
  rw [this, List.drop_zero]
  have e1 : [34] ++ nums (s.data.toList.flatMap quote1) ++ [34] = nums (quoteL s.data.toList) := by
    unfold quoteL
    rw [show (34 : UInt8) :: (s.data.toList.flatMap quote1 ++ [34]) = [34] ++ s.data.toList.flatMap quote1 ++ [34] by simp, nums_app, nums_app]; rfl
  rw [e1, str_nums]; rfl
end Go.Proofs.YteamhfmpogbilaaGreatDoor.X
