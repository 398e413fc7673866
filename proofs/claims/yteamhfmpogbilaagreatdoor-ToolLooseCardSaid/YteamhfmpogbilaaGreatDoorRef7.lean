/- The reference's Export writes what the program's writes. -/
import Derived.Test.YteamhfmpogbilaaGreatDoorRef6
set_option linter.unusedVariables false
set_option linter.unusedSimpArgs false
namespace Go.Proofs.YteamhfmpogbilaaGreatDoor.X
open Go.RowKit Go.Proofs.YteamhfmpogbilaaGreatDoor Go.Proofs.YteamhfmpogbilaaGreatDoorW.PrintWords Go.Proofs.YteamhfmpogbilaaGreatDoorW.PrintLast

theorem rdRefs (xs : List Ref) (j : Nat) (h : j < xs.length) : rd_T74 xs (j : Int) = xs[j] := by
  unfold rd_T74; simp [List.getD, h]
theorem refNodes_l0 (xs : List Ref) (hl : xs.length ≤ 1000000) : ∀ (d k i : Nat), xs.length - i ≤ d → i ≤ xs.length → d + 1 ≤ k →
    heraldref4_Nodes.l0 k (xs.take i) (i : Int) xs = some xs
  | d, k, i, hd, hi, hk => by
    obtain ⟨k, rfl⟩ : ∃ k', k = k' + 1 := ⟨k - 1, by omega⟩
    rw [heraldref4_Nodes.l0]
    by_cases c : i < xs.length
    · have e : wrap64 ((i : Int) + 1) = ((i + 1 : Nat) : Int) := by unfold wrap64; omega
      have hlt : (xs.take i).length ≤ i := List.length_take_le _ _
      rw [if_pos (by omega), if_pos (by omega), if_pos (by omega), rdRefs xs i c, e]
      cases d with
      | zero => omega
      | succ d =>
        have := refNodes_l0 xs hl d k (i + 1) (by omega) (by omega) (by omega)
        rw [List.take_succ_eq_append_getElem c] at this
        exact this
    · have : i = xs.length := by omega
      subst this
      rw [if_neg (by omega), List.take_of_length_le (Nat.le_refl _)]
theorem refNodes_told (k : Nat) (xs : List Ref) (hl : xs.length ≤ 1000000) (hk : xs.length + 1 ≤ k) : heraldref4_Nodes.f k xs = some xs := by
  unfold heraldref4_Nodes.f
  have := refNodes_l0 xs hl xs.length k 0 (by omega) (by omega) hk
  simpa using this
theorem written_bound : ∀ (l : List Full), (∀ n ∈ l, ranged n ∧ n.f0.size ≤ 102 ∧ n.f1.size ≤ 64) → (writtenL l).length ≤ 12 + 600 * l.length
  | [], _ => by show (12 : Nat) ≤ _; omega
  | n :: l, h => by
    have ih := written_bound l fun m hm => h m (List.mem_cons_of_mem _ hm)
    obtain ⟨h1, h2, h3⟩ := h n List.mem_cons_self
    have := lineB_size n h1 5 (Nat.le_refl _)
    unfold writtenL at ih ⊢
    simp only [List.flatMap_cons, List.length_append, bl, List.length_cons, List.length_nil] at ih ⊢
    omega
set_option maxRecDepth 100000 in
theorem refText_l0 (l : List Full) (hl : l.length ≤ 64) (hn : ∀ n ∈ l, ranged n ∧ n.f0.size ≤ 102 ∧ n.f1.size ≤ 64) : ∀ (d k i : Nat), l.length - i ≤ d → i ≤ l.length → d + 3001 ≤ k →
    heraldref22_text.l0 k (l.map toRef) (mk (writtenL (l.take i))) (i : Int) = some (mk (writtenL l))
  | d, k, i, hd, hi, hk => by
    obtain ⟨k, rfl⟩ : ∃ k', k = k' + 1 := ⟨k - 1, by omega⟩
    have hb := written_bound l hn
    have hlen := written_len l i
    have hmk : (mk (writtenL (l.take i))).size = (writtenL (l.take i)).length := mkB_size _
    rw [heraldref22_text.l0, List.length_map]
    by_cases c : i < l.length
    · have e : wrap64 ((i : Int) + 1) = ((i + 1 : Nat) : Int) := by unfold wrap64; omega
      obtain ⟨h1, h2, h3⟩ := hn _ (List.getElem_mem c)
      have hls := lineB_size l[i] h1 5 (Nat.le_refl _)
      rw [if_pos (by omega), if_pos (by omega), rdRef l i c]
      rw [show (toRef l[i]).f0 = l[i].f0 from rfl, show (toRef l[i]).f1 = l[i].f1 from rfl, show (toRef l[i]).f2 = l[i].f2 from rfl, show (toRef l[i]).f3 = l[i].f3 from rfl, show (toRef l[i]).f4 = l[i].f4 from rfl, show (toRef l[i]).f5 = l[i].f5 from rfl, show (toRef l[i]).f6 = l[i].f6 from rfl]
      rw [refLine_told k l[i] h1 (by omega) (by omega) (by omega)]
      simp only [Option.bind_some, ByteArray.size_append]
      rw [if_pos (by omega), if_pos (by omega), e]
      have e2 : mk (writtenL (l.take i)) ++ lineB l[i] 5 ++ (⟨#[10]⟩ : ByteArray) = mk (writtenL (l.take (i + 1))) := by
        apply WideShapes.bytes_inj
        rw [data_app, data_app, written_snoc l i c]
        simp [mk]
      rw [e2]
      cases d with
      | zero => omega
      | succ d => exact refText_l0 l hl hn d k (i + 1) (by omega) (by omega) (by omega)
    · have : i = l.length := by omega
      subst this
      rw [if_neg (by omega), List.take_of_length_le (Nat.le_refl _)]
theorem refExport_told (k : Nat) (l : List Full) (hne : l ≠ []) (hl : l.length ≤ 64) (hn : ∀ n ∈ l, ranged n ∧ n.f0.size ≤ 102 ∧ n.f1.size ≤ 64) (hk : 4000 ≤ k) : heraldref22_Export.f k (l.map toRef) = some (mk (writtenL l), 0) := by
  unfold heraldref22_Export.f
  have hpos := List.length_pos_iff.2 hne
  rw [refNodes_told k _ (by rw [List.length_map]; omega) (by rw [List.length_map]; omega)]
  simp only [Option.bind_some, List.length_map]
  rw [if_neg (by omega)]
  unfold heraldref22_text.f
  have := refText_l0 l hl hn 64 k 0 (by omega) (by omega) (by omega)
  have e0 : ((0 : Nat) : Int) = 0 := rfl
  rw [e0, List.take_zero] at this
  have e1 : (⟨#[104, 101, 114, 97, 108, 100, 32, 116, 114, 101, 101, 10]⟩ : ByteArray) = mk (writtenL []) := rfl
  rw [e1, this]; rfl
theorem okL_nice {l : List Full} (h : okL l) (hs : ∀ m ∈ l, m.f0.size ≤ 102) : ∀ n ∈ l, ranged n ∧ n.f0.size ≤ 102 ∧ n.f1.size ≤ 64 := by
  intro n hn
  obtain ⟨j, hj, rfl⟩ := List.getElem_of_mem hn
  have hm := may_be (fits_may h.2.2 hj)
  exact ⟨hm.ranged, hs _ hn, hm.a1⟩
theorem refExport_nil (k : Nat) (hk : 1 ≤ k) : heraldref22_Export.f k [] = some (⟨#[]⟩, 1) := by
  unfold heraldref22_Export.f
  rw [refNodes_told k [] (by simp) (by simpa using hk)]
  rfl
end Go.Proofs.YteamhfmpogbilaaGreatDoor.X
