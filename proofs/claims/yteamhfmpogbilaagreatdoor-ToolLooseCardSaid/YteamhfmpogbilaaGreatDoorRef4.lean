/- The reference's Load answers as the program's: whole. -/
import Derived.Test.YteamhfmpogbilaaGreatDoorRef3
import Derived.Test.YteamhfmpogbilaaGreatDoorZQ1
set_option linter.unusedVariables false
set_option linter.unusedSimpArgs false
namespace Go.Proofs.YteamhfmpogbilaaGreatDoor.X
open Go.RowKit Go.Proofs.YteamhfmpogbilaaGreatDoor Go.Proofs.YteamhfmpogbilaaGreatDoorW.PrintWords Go.Proofs.YteamhfmpogbilaaGreatDoorW.PrintLast

theorem bounds_may (n : Full) : boundsR n = mayF n := by
  rw [mayF_eq]
  cases h : boundsR n with
  | true =>
    unfold boundsR at h
    simp only [Bool.and_eq_true, decide_eq_true_eq, Bool.not_eq_true', Bool.and_eq_false_iff, decide_eq_false_iff_not] at h
    obtain ⟨h1, h2, h3, h4, h5, h6, h7⟩ := h
    unfold maySpec
    rw [if_neg (by omega), if_neg (by omega), if_neg (by omega), if_neg (by omega), if_neg (by omega), if_neg (by omega), if_neg (by omega), if_neg (by omega), if_pos (by omega), if_pos (by omega), if_pos (by omega)]
    by_cases c : n.f5 = 0
    · rw [if_pos c]
    · rw [if_neg c, show n.f6 = 0 by omega]; rfl
  | false =>
    cases hm : maySpec n with
    | false => rfl
    | true =>
      have hb := may_be (n := n) (by rw [mayF_eq]; exact hm)
      obtain ⟨b2, b3, b4, b5, b1, b6⟩ := hb
      have h7 : ¬ (n.f5 > 0 ∧ n.f6 > 0) := by
        intro ⟨g1, g2⟩
        unfold maySpec at hm
        rw [if_neg (by omega), if_neg (by omega), if_neg (by omega), if_neg (by omega), if_neg (by omega), if_neg (by omega), if_neg (by omega), if_neg (by omega), if_pos (by omega), if_pos (by omega), if_pos (by omega), if_neg (by omega)] at hm
        have := beq_iff_eq.mp hm
        omega
      unfold boundsR at h
      rw [decide_eq_true b1, decide_eq_true b2, decide_eq_true b3, decide_eq_true b4, decide_eq_true b5, decide_eq_true b6] at h
      simp at h
      omega
def fitsR (p : List Full) (n : Full) : Bool := (parseSpec n.f0).2 == 0 && (boundsR n && tailR p n)
theorem parent_parse {s : ByteArray} (h : (parentSpec s).2 = 0) : (parseSpec s).2 = 0 := by
  unfold parentSpec at h
  by_cases c : (parseSpec s).2 = 0
  · exact c
  · rw [if_neg c] at h; exact absurd h c
theorem root_parse {s : ByteArray} (h : s.toList = [47]) : (parseSpec s).2 = 0 := by
  have hs : s.size = 1 := by rw [← bl, ← ByteArray.toList_eq, h]; rfl
  unfold parseSpec
  rw [if_neg (by omega), if_pos h]
theorem fits_first (q n : Full) : fitsR [] n = (fitsAt [] q n && (n.f0.toList == [47] && n.f5 == 0)) := by
  unfold fitsR tailR fitsAt
  rw [if_pos rfl, bounds_may]
  by_cases c : n.f0.toList = [47]
  · rw [root_parse c]; simp
  · rw [beq_eq_false_iff_ne.mpr c]; simp
theorem fits_later (p : List Full) (hp : p ≠ []) (n : Full) : fitsR p n = fitsAt p (p.getD (p.length - 1) z40) n := by
  obtain ⟨up, why, hup⟩ : ∃ up why, parentF n.f0 = (up, why) := ⟨_, _, rfl⟩
  have hup' := hup
  rw [parentF_eq] at hup'
  rw [fitsAt_up hp hup]
  unfold fitsR tailR
  rw [if_neg hp, bounds_may, hup']
  by_cases c : why = 0
  · have : (parseSpec n.f0).2 = 0 := parent_parse (by rw [hup']; exact c)
    rw [this, c]
    cases nodeAt p up with
    | none => simp
    | some u => simp [Bool.and_comm, Bool.and_assoc, Bool.and_left_comm]
  · rw [beq_eq_false_iff_ne.mpr c]; simp
def okL (l : List Full) : Prop := l ≠ [] ∧ rooted l ∧ fitsTo l l.length
theorem fitsTo_rising {l : List Full} {k : Nat} (hk : k ≤ l.length) (h : fitsTo l k) : Rising (l.take k) := by
  apply fits_rising
  rw [List.length_take, Nat.min_eq_left hk]
  intro j hj
  have := h j hj
  rw [List.take_take, Nat.min_eq_left (by omega)]
  have e : ∀ i, i < k → (l.take k).getD i z40 = l.getD i z40 := by
    intro i hi
    rw [List.getD_eq_getElem?_getD, List.getD_eq_getElem?_getD, List.getElem?_take_of_lt hi]
  rw [e j hj, e (j - 1) (by omega)]
  exact this
set_option maxRecDepth 100000 in
/-- The reference has got to node k: its list is the program's. -/
theorem refLoad_l0 (l : List Full) (hl : l.length ≤ 64) : ∀ (d k i : Nat), l.length - i ≤ d → i ≤ l.length → d + 403 ≤ k → fitsTo l i → (0 < i → rooted l) → (∀ m ∈ l.take i, m.f0.size ≤ 102) →
    ∃ r, heraldref4_Load.l0 k (l.map toRef) ((l.take i).map toRef) (i : Int) = some r ∧ ((okL l ∧ (∀ m ∈ l, m.f0.size ≤ 102) ∧ r = (l.map toRef, 0)) ∨ (¬ okL l ∧ r = ([], 1)))
  | d, k, i, hd, hi, hk, hf, hroot, hs => by
    obtain ⟨k, rfl⟩ : ∃ k', k = k' + 1 := ⟨k - 1, by omega⟩
    rw [heraldref4_Load.l0, List.length_map]
    by_cases c : i < l.length
    · have e : wrap64 ((i : Int) + 1) = ((i + 1 : Nat) : Int) := by unfold wrap64; omega
      have hgi : l.getD i z40 = l[i] := by rw [List.getD_eq_getElem?_getD, List.getElem?_eq_getElem c]; rfl
      rw [if_pos (by omega), if_pos (by omega), rdRef l i c]
      rw [show (toRef l[i]).f0 = l[i].f0 from rfl, show (toRef l[i]).f1 = l[i].f1 from rfl, show (toRef l[i]).f2 = l[i].f2 from rfl, show (toRef l[i]).f3 = l[i].f3 from rfl, show (toRef l[i]).f4 = l[i].f4 from rfl, show (toRef l[i]).f5 = l[i].f5 from rfl, show (toRef l[i]).f6 = l[i].f6 from rfl]
      rw [refFits_told k (l.take i) (by rw [List.length_take]; omega) (fitsTo_rising hi hf).apart hs l[i] (by omega)]
      simp only [Option.bind_some]
      have key : ((parseSpec l[i].f0).2 == 0 && (boundsR l[i] && tailR (l.take i) l[i])) = true ↔ (fitsAt (l.take i) (l.getD (i - 1) z40) l[i] = true ∧ (i = 0 → rooted l)) := by
        show fitsR (l.take i) l[i] = true ↔ _
        by_cases c0 : i = 0
        · subst c0
          rw [List.take_zero, fits_first (l.getD (0 - 1) z40), Bool.and_eq_true, Bool.and_eq_true]
          unfold rooted
          rw [hgi]
          simp
        · have hne : l.take i ≠ [] := by
            intro h; have := congrArg List.length h; rw [List.length_take, List.length_nil] at this; omega
          rw [fits_later _ hne]
          have e2 : (l.take i).getD ((l.take i).length - 1) z40 = l.getD (i - 1) z40 := by
            rw [List.length_take, Nat.min_eq_left hi, List.getD_eq_getElem?_getD, List.getD_eq_getElem?_getD, List.getElem?_take_of_lt (by omega)]
          rw [e2]
          exact ⟨fun h => ⟨h, fun h0 => absurd h0 c0⟩, fun h => h.1⟩
      by_cases cf : ((parseSpec l[i].f0).2 == 0 && (boundsR l[i] && tailR (l.take i) l[i])) = true
      · obtain ⟨k1, k2⟩ := key.1 cf
        rw [if_pos cf, if_pos (by simp; omega), e]
        have e3 : (l.take i).map toRef ++ [(⟨l[i].f0, l[i].f1, l[i].f2, l[i].f3, l[i].f4, l[i].f5, l[i].f6⟩ : Ref)] = (l.take (i + 1)).map toRef := by
          rw [List.take_succ_eq_append_getElem c, List.map_append]; rfl
        rw [e3]
        have hsz : l[i].f0.size ≤ 102 := by
          rw [Bool.and_eq_true] at cf
          exact parse_size (beq_iff_eq.mp cf.1)
        cases d with
        | zero => omega
        | succ d =>
          refine refLoad_l0 l hl d k (i + 1) (by omega) (by omega) (by omega) (fitsTo_succ hf hgi k1) (fun _ => ?_) (fun m hm => ?_)
          · by_cases c0 : i = 0
            · exact k2 c0
            · exact hroot (by omega)
          · rw [List.take_succ_eq_append_getElem c, List.mem_append] at hm
            rcases hm with hm | hm
            · exact hs m hm
            · simp at hm; rw [hm]; exact hsz
      · refine ⟨_, by rw [if_neg cf], .inr ⟨fun h => cf (key.2 ⟨by have := h.2.2 i c; rwa [hgi] at this, fun _ => h.2.1⟩), rfl⟩⟩
    · have : i = l.length := by omega
      subst this
      rw [List.take_of_length_le (Nat.le_refl _)] at hs ⊢
      rw [if_neg (by omega), List.length_map]
      by_cases c0 : l = []
      · refine ⟨_, by rw [if_pos (by rw [c0]; rfl)], .inr ⟨fun h => h.1 c0, rfl⟩⟩
      · have hpos := List.length_pos_iff.2 c0
        exact ⟨_, by rw [if_neg (by omega)], .inl ⟨⟨c0, hroot hpos, hf⟩, hs, rfl⟩⟩
theorem refLoad_told (l : List Full) (k : Nat) (hk : 500 ≤ k) : ∃ r, heraldref4_Load.f k (l.map toRef) = some r ∧
    ((¬ l.length ≤ 64 ∧ r = ([], 2)) ∨ (l.length ≤ 64 ∧ okL l ∧ (∀ m ∈ l, m.f0.size ≤ 102) ∧ r = (l.map toRef, 0)) ∨ (l.length ≤ 64 ∧ ¬ okL l ∧ r = ([], 1))) := by
  unfold heraldref4_Load.f
  rw [List.length_map]
  by_cases c : l.length ≤ 64
  · rw [if_neg (by omega)]
    obtain ⟨r, h1, h2⟩ := refLoad_l0 l c l.length k 0 (by omega) (by omega) (by omega) (fun j hj => absurd hj (by omega)) (fun h => absurd h (by omega)) (fun m hm => by simp at hm)
    refine ⟨r, by simpa using h1, ?_⟩
    rcases h2 with ⟨h2, h3, h4⟩ | ⟨h2, h3⟩
    · exact .inr (.inl ⟨c, h2, h3, h4⟩)
    · exact .inr (.inr ⟨c, h2, h3⟩)
  · exact ⟨_, by rw [if_pos (by omega)], .inl ⟨c, rfl⟩⟩
end Go.Proofs.YteamhfmpogbilaaGreatDoor.X
