/- The reference's Load answers as the program's. -/
import Derived.Test.YteamhfmpogbilaaGreatDoorRef2
set_option linter.unusedVariables false
set_option linter.unusedSimpArgs false
namespace Go.Proofs.YteamhfmpogbilaaGreatDoor.X
open Go.RowKit Go.Proofs.YteamhfmpogbilaaGreatDoor Go.Proofs.YteamhfmpogbilaaGreatDoorW.PrintWords Go.Proofs.YteamhfmpogbilaaGreatDoorW.PrintLast

abbrev Ref := S74
def toRef (n : Full) : Ref := ⟨n.f0, n.f1, n.f2, n.f3, n.f4, n.f5, n.f6⟩
theorem rdRef (p : List Full) (j : Nat) (h : j < p.length) : rd_T74 (p.map toRef) (j : Int) = toRef p[j] := by
  unfold rd_T74; simp [List.getD, h]
theorem find_told (p : List Full) (hp : p.length ≤ 1000) (up : ByteArray) : ∀ (d k i : Nat), p.length - i ≤ d → i ≤ p.length → d + 1 ≤ k →
    ∃ r : Int, heraldref4_find.l0 k (p.map toRef) up (i : Int) = some r ∧ ((r = -1 ∧ ∀ j (h : j < p.length), i ≤ j → p[j].f0 ≠ up) ∨ ∃ j, ∃ h : j < p.length, r = (j : Int) ∧ p[j].f0 = up)
  | d, k, i, hd, hi, hk => by
    obtain ⟨k, rfl⟩ : ∃ k', k = k' + 1 := ⟨k - 1, by omega⟩
    rw [heraldref4_find.l0, List.length_map]
    by_cases c : i < p.length
    · have e : wrap64 ((i : Int) + 1) = ((i + 1 : Nat) : Int) := by unfold wrap64; omega
      rw [if_pos (by omega), if_pos (by omega), rdRef p i c, e]
      by_cases cf : p[i].f0 = up
      · refine ⟨i, by rw [if_pos (by show p[i].f0.toList = up.toList; rw [cf])], .inr ⟨i, c, rfl, cf⟩⟩
      · have cf' : ¬ (toRef p[i]).f0.toList = up.toList := fun h => cf (WideShapes.bytes_inj (by have : p[i].f0.toList = up.toList := h; rw [ByteArray.toList_eq, ByteArray.toList_eq] at this; exact this))
        rw [if_neg cf']
        cases d with
        | zero => omega
        | succ d =>
          obtain ⟨r, h1, h2⟩ := find_told p hp up d k (i + 1) (by omega) (by omega) (by omega)
          refine ⟨r, h1, ?_⟩
          rcases h2 with ⟨h2, h3⟩ | h2
          · exact .inl ⟨h2, fun j h hij => by
              by_cases e : j = i
              · subst e; exact cf
              · exact h3 j h (by omega)⟩
          · exact .inr h2
    · exact ⟨-1, by rw [if_neg (by omega)], .inl ⟨rfl, fun j h hij => by omega⟩⟩

/-- What the reference asks of a node behind its bounds. -/
def tailR (p : List Full) (n : Full) : Bool :=
  if p = [] then n.f0.toList == [47] && n.f5 == 0
  else (parentSpec n.f0).2 == 0 && decide (ordL (p.getD (p.length - 1) z40).f0.data.toList n.f0.data.toList < 0) && match nodeAt p (parentSpec n.f0).1 with | some u => u.f5 == 0 | none => false
theorem j1_told (k : Nat) (p : List Full) (hp : p.length ≤ 64) (hpa : Apart p) (hps : ∀ m ∈ p, m.f0.size ≤ 102) (n : Full) (hn : n.f0.size ≤ 102) (b : Bool) (hk : 400 ≤ k) :
    heraldref4_fits.j1 k (p.map toRef) b n.f0 n.f1 n.f2 n.f3 n.f4 n.f5 n.f6 = some (!b && tailR p n) := by
  obtain ⟨k, rfl⟩ : ∃ k', k = k' + 1 := ⟨k - 1, by omega⟩
  rw [heraldref4_fits.j1, List.length_map]
  cases b with
  | true => rfl
  | false =>
    rw [if_neg (by simp), Bool.not_false, Bool.true_and]
    unfold tailR
    by_cases c0 : p = []
    · subst c0
      rw [if_pos (by rfl), if_pos rfl]
      by_cases c1 : n.f0.toList = [47]
      · rw [if_pos c1, c1]; rfl
      · rw [if_neg c1, beq_eq_false_iff_ne.mpr c1]; rfl
    · have hpos : 0 < p.length := List.length_pos_iff.2 c0
      have e : wrap64 ((p.length : Int) - 1) = ((p.length - 1 : Nat) : Int) := by unfold wrap64; omega
      have hlast : p.getD (p.length - 1) z40 = p[p.length - 1] := by rw [List.getD_eq_getElem?_getD, List.getElem?_eq_getElem (show p.length - 1 < p.length by omega)]; rfl
      rw [if_neg (by omega), if_neg c0, refParent_told k _ (by omega), e]
      simp only [Option.bind_some]
      have hls := hps _ (List.getElem_mem (show p.length - 1 < p.length by omega))
      rw [if_pos (by omega), if_pos (by omega), rdRef p (p.length - 1) (by omega), hlast]
      rw [show (toRef p[p.length - 1]).f0 = p[p.length - 1].f0 from rfl, refOrder_told k _ _ (by omega) (by omega) (by omega)]
      simp only [Option.bind_some]
      by_cases c1 : (parentSpec n.f0).2 = 0
      case neg => rw [if_neg c1, beq_eq_false_iff_ne.mpr c1]; rfl
      rw [if_pos c1, c1]
      by_cases c2 : ordL p[p.length - 1].f0.data.toList n.f0.data.toList < 0
      case neg => rw [if_pos (by omega), decide_eq_false c2]; simp
      rw [if_neg (by omega), decide_eq_true c2]
      obtain ⟨r, h1, h2⟩ := find_told p (by omega) (parentSpec n.f0).1 p.length k 0 (by omega) (by omega) (by omega)
      unfold heraldref4_find.f
      have e0 : ((0 : Nat) : Int) = 0 := rfl
      rw [e0] at h1
      rw [h1]
      simp only [Option.bind_some]
      rcases h2 with ⟨h2, h3⟩ | ⟨j, hj, h2, h3⟩
      · have hnone : nodeAt p (parentSpec n.f0).1 = none := by
          cases hh : nodeAt p (parentSpec n.f0).1 with
          | none => rfl
          | some u =>
            obtain ⟨m1, m2⟩ := nodeAt_mem hh
            obtain ⟨j, hj, rfl⟩ := List.getElem_of_mem m1
            exact absurd m2 (h3 j hj (by omega))
        rw [if_neg (by omega), hnone]; rfl
      · have hs : nodeAt p (parentSpec n.f0).1 = some p[j] := by rw [← h3]; exact nodeAt_of_mem hpa (List.getElem_mem hj)
        rw [if_pos (by omega), if_pos (by omega), if_pos (by omega), h2, rdRef p j hj, hs]
        simp [toRef]

theorem j0_true (k : Nat) (p : List Ref) (a0 a1 : ByteArray) (a2 a3 a4 a5 a6 : Int) : heraldref4_fits.j0 (k + 1) p true a0 a1 a2 a3 a4 a5 a6 = some false := by rw [heraldref4_fits.j0]; rfl
/-- The reference's bounds, in its own order. -/
def boundsR (n : Full) : Bool :=
  decide (n.f1.size ≤ 64) && (decide (0 ≤ n.f2 ∧ n.f2 ≤ 2147483647) && (decide (0 ≤ n.f3 ∧ n.f3 ≤ 2147483647) && (decide (0 ≤ n.f4 ∧ n.f4 ≤ 2147483647) && (decide (0 ≤ n.f5 ∧ n.f5 ≤ 2147483647) && (decide (0 ≤ n.f6 ∧ n.f6 ≤ 100000) && !(decide (n.f5 > 0) && decide (n.f6 > 0)))))))
theorem parse_size {s : ByteArray} (h : (parseSpec s).2 = 0) : s.size ≤ 102 := by
  unfold parseSpec at h
  by_cases c1 : (s.size : Int) > 102
  · rw [if_pos c1] at h; simp at h
  · omega
theorem refFits_told (k : Nat) (p : List Full) (hp : p.length ≤ 64) (hpa : Apart p) (hps : ∀ m ∈ p, m.f0.size ≤ 102) (n : Full) (hk : 402 ≤ k) :
    heraldref4_fits.f k (p.map toRef) n.f0 n.f1 n.f2 n.f3 n.f4 n.f5 n.f6 = some ((parseSpec n.f0).2 == 0 && (boundsR n && tailR p n)) := by
  obtain ⟨k, rfl⟩ : ∃ k', k = k' + 1 := ⟨k - 1, by omega⟩
  unfold heraldref4_fits.f heraldref1_Is.f boundsR
  rw [refParse_told _ _ (by omega)]
  simp only [Option.bind_some, refIn_told]
  by_cases c0 : (parseSpec n.f0).2 = 0
  case neg => rw [beq_eq_false_iff_ne.mpr c0, if_neg (by simp), j0_true]; simp
  have hn := parse_size c0
  rw [c0, show ((0 : Int) == 0) = true from rfl, if_pos rfl]
  by_cases c1 : n.f1.size ≤ 64
  case neg => rw [if_pos (by omega), j0_true, decide_eq_false c1]; simp
  rw [if_neg (by omega), decide_eq_true c1]
  by_cases c2 : 0 ≤ n.f2 ∧ n.f2 ≤ 2147483647
  case neg => rw [decide_eq_false c2, if_neg (by simp), j0_true]; simp
  rw [decide_eq_true c2, if_pos rfl]
  by_cases c3 : 0 ≤ n.f3 ∧ n.f3 ≤ 2147483647
  case neg => rw [decide_eq_false c3, if_neg (by simp), j0_true]; simp
  rw [decide_eq_true c3, if_pos rfl, heraldref4_fits.j0, refIn_told]
  by_cases c4 : 0 ≤ n.f4 ∧ n.f4 ≤ 2147483647
  case neg => rw [decide_eq_false c4]; simp
  rw [decide_eq_true c4, if_neg (by simp), refIn_told]
  simp only [Option.bind_some]
  by_cases c5 : 0 ≤ n.f5 ∧ n.f5 ≤ 2147483647
  case neg => rw [decide_eq_false c5, if_neg (by simp), j1_told k p hp hpa hps n hn true (by omega)]; simp
  rw [decide_eq_true c5, if_pos rfl]
  by_cases c6 : 0 ≤ n.f6 ∧ n.f6 ≤ 100000
  case neg => rw [decide_eq_false c6, if_neg (by simp), j1_told k p hp hpa hps n hn true (by omega)]; simp
  rw [decide_eq_true c6, if_pos rfl]
  by_cases c7 : n.f5 > 0
  · rw [if_pos c7, j1_told k p hp hpa hps n hn _ (by omega), decide_eq_true c7]; simp
  · rw [if_neg c7, j1_told k p hp hpa hps n hn _ (by omega), decide_eq_false c7]; simp
end Go.Proofs.YteamhfmpogbilaaGreatDoor.X
