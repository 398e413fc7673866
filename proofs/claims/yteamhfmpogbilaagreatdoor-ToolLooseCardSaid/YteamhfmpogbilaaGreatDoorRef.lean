/- The reference's Order, names and ranges as plain functions. -/
import Derived.Test.YteamhfmpogbilaaGreatDoorPure2
import Derived.Test.YteamhfmpogbilaaGreatDoorZQ1
set_option linter.unusedVariables false
set_option linter.unusedSimpArgs false
namespace Go.Proofs.YteamhfmpogbilaaGreatDoor.X
open Go.RowKit Go.Proofs.YteamhfmpogbilaaGreatDoor Go.Proofs.YteamhfmpogbilaaGreatDoorW.PrintWords Go.Proofs.YteamhfmpogbilaaGreatDoorW.PrintLast

theorem refWeight_told (c : UInt8) : heraldref1_weight.f (c.toNat : Int) = some (wt c) := by
  have hlt := c.toNat_lt
  unfold heraldref1_weight.f wt
  have e : wrap64 (c.toNat : Int) = (c.toNat : Int) := by unfold wrap64; omega
  rw [e]
  by_cases h : c.toNat = 47
  · rw [if_pos (by omega), if_pos h]
  · rw [if_neg (by omega), if_neg h]
theorem bt_get (s : ByteArray) (i : Nat) (h : i < s.size) : bt s (i : Int) = (s[i].toNat : Int) := by
  unfold bt; simp [h]
theorem refOrder_l0 (a b : ByteArray) (ha : a.size ≤ 1000000000) (hb : b.size ≤ 1000000000) : ∀ (d k i : Nat), a.size - i ≤ d → i ≤ a.size → i ≤ b.size → 2 * d + 2 ≤ k →
    heraldref1_Order.l0 k a b (i : Int) = some (ordL (a.data.toList.drop i) (b.data.toList.drop i))
  | d, k, i, hd, hia, hib, hk => by
    obtain ⟨k, rfl⟩ : ∃ k', k = k' + 1 + 1 := ⟨k - 2, by omega⟩
    simp only [heraldref1_Order.l0, heraldref1_Order.j1]
    by_cases c1 : i < a.size
    · by_cases c2 : i < b.size
      · rw [if_pos (by omega), decide_eq_true (by omega : (i : Int) < b.size), if_pos rfl, if_pos (by omega), if_pos (by omega), bt_get a i c1, refWeight_told]
        simp only [Option.bind_some]
        rw [if_pos (by omega), bt_get b i c2, refWeight_told]
        simp only [Option.bind_some]
        rw [ordL_step a b i c1 c2]
        by_cases w1 : wt a[i] < wt b[i]
        · rw [if_pos w1, if_pos w1]
        · rw [if_neg w1, if_neg w1]
          by_cases w2 : wt b[i] < wt a[i]
          · rw [if_pos (by omega), if_pos w2]
          · have e : wrap64 ((i : Int) + 1) = ((i + 1 : Nat) : Int) := by unfold wrap64; omega
            rw [if_neg (by omega), if_neg w2, e]
            cases d with
            | zero => omega
            | succ d => exact refOrder_l0 a b ha hb d k (i + 1) (by omega) (by omega) (by omega) (by omega)
      · rw [if_pos (by omega), decide_eq_false (by omega : ¬ (i : Int) < b.size), if_neg (by simp), ordL_end a b i (.inr (by omega)) (by omega) (by omega)]
        by_cases z1 : a.size < b.size
        · rw [if_pos (by omega), if_pos z1]
        · rw [if_neg (by omega), if_neg z1]
          by_cases z2 : b.size < a.size
          · rw [if_pos (by omega), if_pos z2]
          · rw [if_neg (by omega), if_neg z2]
    · rw [if_neg (by omega), if_neg (by simp), ordL_end a b i (.inl (by omega)) (by omega) (by omega)]
      by_cases z1 : a.size < b.size
      · rw [if_pos (by omega), if_pos z1]
      · rw [if_neg (by omega), if_neg z1]
        by_cases z2 : b.size < a.size
        · rw [if_pos (by omega), if_pos z2]
        · rw [if_neg (by omega), if_neg z2]
theorem refOrder_told (k : Nat) (a b : ByteArray) (ha : a.size ≤ 1000000000) (hb : b.size ≤ 1000000000) (hk : 2 * a.size + 2 ≤ k) : heraldref1_Order.f k a b = some (ordL a.data.toList b.data.toList) := by
  unfold heraldref1_Order.f
  exact refOrder_l0 a b ha hb a.size k 0 (by omega) (by omega) (by omega) hk
theorem refIn_told (x y : Int) : heraldref4_in.f x y = some (decide (0 ≤ x ∧ x ≤ y)) := by
  unfold heraldref4_in.f
  by_cases h : x ≥ 0
  · rw [if_pos h]; congr 1
    by_cases h2 : x ≤ y
    · rw [decide_eq_true h2, decide_eq_true ⟨h, h2⟩]
    · rw [decide_eq_false h2, decide_eq_false (fun ⟨_, e⟩ => h2 e)]
  · rw [if_neg h, decide_eq_false (fun ⟨e, _⟩ => h e)]

/-! ### names -/
theorem nameByte_iff (v : Nat) : nameByte v = true ↔ (65 ≤ v ∧ v ≤ 90) ∨ (97 ≤ v ∧ v ≤ 122) ∨ (48 ≤ v ∧ v ≤ 57) ∨ v = 95 ∨ v = 45 ∨ v = 46 := by
  unfold nameByte
  simp only [Bool.or_eq_true, Bool.and_eq_true, decide_eq_true_eq, beq_iff_eq]
  omega
set_option maxHeartbeats 1000000 in
theorem refName_step (k : Nat) (s : ByteArray) (i : Nat) (h : i < s.size) (hs : s.size ≤ 1000000) :
    heraldref1_NameOf.l0 (k + 1) s (i : Int) = if nameByte s[i].toNat = true then heraldref1_NameOf.l0 k s ((i + 1 : Nat) : Int) else some false := by
  have e : wrap64 ((i : Int) + 1) = ((i + 1 : Nat) : Int) := by unfold wrap64; omega
  simp only [heraldref1_NameOf.l0]
  rw [if_pos (by omega), if_pos (by omega), bt_get s i h, e]
  generalize heraldref1_NameOf.l0 k s ((i + 1 : Nat) : Int) = R
  have hb := nameByte_iff s[i].toNat
  generalize s[i].toNat = v at hb ⊢
  by_cases c : nameByte v = true
  · rw [if_pos c]
    have c := hb.1 c
    clear hb
    repeat' split
    all_goals first | rfl | (exfalso; omega)
  · rw [if_neg c]
    have c : ¬ ((65 ≤ v ∧ v ≤ 90) ∨ (97 ≤ v ∧ v ≤ 122) ∨ (48 ≤ v ∧ v ≤ 57) ∨ v = 95 ∨ v = 45 ∨ v = 46) := fun e => c (hb.2 e)
    clear hb
    repeat' split
    all_goals first | rfl | (exfalso; omega)
theorem refName_l0 (s : ByteArray) (hs : s.size ≤ 1000000) : ∀ (k i : Nat), i ≤ s.size → s.size - i < k → heraldref1_NameOf.l0 k s (i : Int) = some ((s.data.toList.drop i).all fun c => nameByte c.toNat)
  | 0, i, _, h => by omega
  | k + 1, i, hi, h => by
    by_cases c : i < s.size
    · rw [refName_step k s i c hs, List.drop_eq_getElem_cons (by rw [bl]; exact c), List.all_cons]
      have e : s.data.toList[i]'(by rw [bl]; exact c) = s[i] := rfl
      rw [e]
      by_cases n : nameByte s[i].toNat = true
      · rw [if_pos n, refName_l0 s hs k (i + 1) (by omega) (by omega), n]; simp
      · rw [if_neg n]
        simp only [Bool.not_eq_true] at n
        rw [n]; simp
    · have : i = s.size := by omega
      subst this
      simp only [heraldref1_NameOf.l0]
      rw [if_neg (by omega), show s.data.toList.drop s.size = [] from List.drop_eq_nil_of_le (by rw [bl]; exact Nat.le_refl _)]; rfl
theorem refName_told (k : Nat) (s : ByteArray) (hk : 20 ≤ k) : heraldref1_NameOf.f k s = some (nameOk s) := by
  obtain ⟨k, rfl⟩ : ∃ k', k = k' + 1 := ⟨k - 1, by omega⟩
  have ej : ∀ b, heraldref1_NameOf.j0 (k + 1) s b = if b = true then some false else heraldref1_NameOf.l0 k s 0 := fun b => by simp only [heraldref1_NameOf.j0]
  unfold heraldref1_NameOf.f
  rw [ej, ej]
  have hlen : s.toList.length = s.size := by rw [ByteArray.toList_eq, bl]
  by_cases c1 : s.size < 1
  · rw [if_pos (by omega)]
    have : s.toList = [] := List.length_eq_zero_iff.mp (by omega)
    rw [nameOk_nil this]; rfl
  · rw [if_neg (by omega)]
    by_cases c2 : s.size > 16
    · rw [if_pos (by omega), nameOk_long (by omega)]; rfl
    · rw [if_neg (by omega)]
      by_cases c3 : s.toList = [46]
      · rw [if_pos c3, nameOk_dot c3]; rfl
      · rw [if_neg c3]
        by_cases c4 : s.toList = [46, 46]
        · rw [if_pos (beq_iff_eq.mpr c4), nameOk_dots c4]
        · rw [if_neg (by simpa using c4)]
          have := refName_l0 s (by omega) k 0 (by omega) (by omega)
          have e0 : ((0 : Nat) : Int) = 0 := rfl
          rw [e0] at this
          rw [this]
          have e1 : s.toList.isEmpty = false := by cases hh : s.toList <;> simp_all
          simp [nameOk, e1, c3, c4]; omega
end Go.Proofs.YteamhfmpogbilaaGreatDoor.X
