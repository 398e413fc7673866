/- A tree's text, read, is that tree's nodes: all lines. -/
import Derived.Test.YteamhfmpogbilaaGreatDoorBack
import Derived.Test.YteamhfmpogbilaaGreatDoorImport
set_option linter.unusedVariables false
set_option linter.unusedSimpArgs false
namespace Go.Proofs.YteamhfmpogbilaaGreatDoor.X
open Go.RowKit Go.Proofs.YteamhfmpogbilaaGreatDoor Go.Proofs.YteamhfmpogbilaaGreatDoorW.PrintWords Go.Proofs.YteamhfmpogbilaaGreatDoorW.PrintLast

theorem linesL_line : ∀ (x r : List UInt8), (∀ c ∈ x, c ≠ 10) → linesL (x ++ 10 :: r) = x :: linesL r
  | [], r, _ => by
    show (if (10 : UInt8) = 10 then _ else _) = _
    rw [if_pos rfl]
  | c :: x, r, h => by
    have ih := linesL_line x r fun d hd => h d (List.mem_cons_of_mem _ hd)
    show (if c = 10 then _ else (match linesL (x ++ 10 :: r) with | [] => [[c]] | h :: r => (c :: h) :: r)) = _
    rw [if_neg (h c List.mem_cons_self), ih]
theorem cutFrom_bytes (Q : UInt8 → Prop) : ∀ (l p : List UInt8), (∀ x ∈ cutFrom p l, ∀ c ∈ x, Q c) → ∀ c ∈ p ++ l, c = 47 ∨ Q c
  | [], p, h, c, hc => by
    rw [List.append_nil] at hc
    exact .inr (h p (by simp [cutFrom]) c hc)
  | a :: l, p, h, c, hc => by
    rw [cutFrom_cons] at h
    by_cases ha : a = 47
    · rw [if_pos ha] at h
      rcases List.mem_append.mp hc with hc | hc
      · exact .inr (h p List.mem_cons_self c hc)
      · rcases List.mem_cons.mp hc with rfl | hc
        · exact .inl ha
        · exact cutFrom_bytes Q l [] (fun x hx => h x (List.mem_cons_of_mem _ hx)) c (by simpa using hc)
    · rw [if_neg ha] at h
      exact cutFrom_bytes Q l (p ++ [a]) h c (by simpa using hc)
theorem place_bytes {s : ByteArray} (h : (parseSpec s).2 = 0) : ∃ t, s.data.toList = 47 :: t ∧ ∀ c ∈ t, c = 47 ∨ nameByte c.toNat = true := by
  unfold parseSpec at h
  by_cases c1 : (s.size : Int) > 102
  · rw [if_pos c1] at h; cases h
  rw [if_neg c1] at h
  by_cases c2 : s.toList = [47]
  · exact ⟨[], by rw [← ByteArray.toList_eq, c2], by simp⟩
  rw [if_neg c2] at h
  by_cases c3 : (decide (1 ≤ s.size) && (s.extract 0 1).toList == [47]) = true
  case neg => rw [if_neg c3] at h; cases h
  rw [if_pos c3] at h
  by_cases c4 : ((partsOf s).length : Int) > 6
  · rw [if_pos c4] at h; cases h
  rw [if_neg c4] at h
  by_cases c5 : (partsOf s).all nameOk = true
  case neg => rw [if_neg c5] at h; cases h
  rw [Bool.and_eq_true, decide_eq_true_eq, beq_iff_eq, ByteArray.toList_eq, ext_data, List.drop_zero] at c3
  refine ⟨s.data.toList.drop 1, ?_, ?_⟩
  · have := List.take_append_drop 1 s.data.toList
    rw [c3.2] at this
    exact this.symm
  · intro c hc
    refine cutFrom_bytes (fun c => nameByte c.toNat = true) (s.data.toList.drop 1) [] (fun x hx c hc => ?_) c (by simpa using hc)
    rw [partsOf_cut] at c5
    have := List.all_eq_true.mp c5 (mk x) (List.mem_map.mpr ⟨x, hx, rfl⟩)
    unfold nameOk at this
    rw [Bool.and_eq_true] at this
    have h2 := List.all_eq_true.mp this.2 c (by rw [mk_list]; exact hc)
    exact h2
def FineW (u : Wd) : Prop := GoodW u ∧ ∀ c ∈ txtL u, c ≠ 10
theorem fine_plain {s : ByteArray} (hne : s.data.toList ≠ []) (h : s.data.toList.all (fun c => decide (36 ≤ c.toNat)) = true) : FineW ⟨s, false⟩ := by
  have hb : ∀ c ∈ s.data.toList, 36 ≤ c.toNat := fun c hc => by simpa using List.all_eq_true.mp h c hc
  obtain ⟨c, t, e⟩ := List.exists_cons_of_ne_nil hne
  have hnb : ∀ c ∈ s.data.toList, blankB c = false ∧ c ≠ 35 ∧ c ≠ 34 ∧ c ≠ 10 := by
    intro c hc
    have := hb c hc
    refine ⟨?_, ?_, ?_, ?_⟩
    · unfold blankB
      rw [Bool.or_eq_false_iff, beq_eq_false_iff_ne, beq_eq_false_iff_ne]
      constructor <;> (intro e; subst e; revert this; decide)
    · intro e; subst e; revert this; decide
    · intro e; subst e; revert this; decide
    · intro e; subst e; revert this; decide
  refine ⟨fun _ => ⟨c, t, e, (hnb c (by rw [e]; simp)).1, (hnb c (by rw [e]; simp)).2.1, (hnb c (by rw [e]; simp)).2.2.1, ?_⟩, ?_⟩
  · rw [List.all_eq_true]
    intro d hd
    unfold plainB
    rw [(hnb d (by rw [e]; exact List.mem_cons_of_mem _ hd)).1]; rfl
  · intro d hd
    unfold txtL at hd
    exact (hnb d (by simpa using hd)).2.2.2
theorem quote1_clean : ∀ n : Fin 256, ∀ x ∈ quote1 (UInt8.ofNat n.1), x ≠ 10 := by decide +kernel
theorem fine_quoted (s : ByteArray) : FineW ⟨s, true⟩ := by
  refine ⟨fun h => by simp at h, ?_⟩
  intro c hc
  unfold txtL quoteL at hc
  simp only [if_pos, List.mem_cons, List.mem_append, List.mem_flatMap, List.not_mem_nil, or_false] at hc
  rcases hc with rfl | ⟨a, _, hc⟩ | rfl
  · decide
  · have := quote1_clean ⟨a.toNat, a.toNat_lt⟩ c
    simp only [UInt8.ofNat_toNat] at this
    exact this hc
  · decide
theorem fine_names : ∀ k : Fin 5, (fieldName k.1).data.toList ≠ [] ∧ (fieldName k.1).data.toList.all (fun c => decide (36 ≤ c.toNat)) = true := by decide +kernel
theorem name_big {v : Nat} (h : nameByte v = true) : 36 ≤ v := by have := (nameByte_iff v).1 h; omega
theorem fine_words (n : Full) (hp : (parseSpec n.f0).2 = 0) (hn : inNum n) : ∀ k, k ≤ 5 → ∀ u ∈ wordsB n k, FineW u
  | 0, _, u, hu => by
    unfold wordsB dataW at hu
    rcases List.mem_cons.mp hu with rfl | hu
    · exact fine_plain (by decide) (by decide)
    rcases List.mem_cons.mp hu with rfl | hu
    · obtain ⟨t, e, h⟩ := place_bytes hp
      refine fine_plain (by rw [e]; simp) ?_
      rw [e, List.all_eq_true]
      intro c hc
      rw [decide_eq_true_eq]
      rcases List.mem_cons.mp hc with rfl | hc
      · decide
      · rcases h c hc with rfl | h
        · decide
        · exact name_big h
    · split at hu
      · cases hu
      · rcases List.mem_cons.mp hu with rfl | hu
        · exact fine_plain (by decide) (by decide)
        · rcases List.mem_cons.mp hu with rfl | hu
          · exact fine_quoted _
          · cases hu
  | k + 1, hk, u, hu => by
    unfold wordsB fieldW at hu
    rcases List.mem_append.mp hu with hu | hu
    · exact fine_words n hp hn k (by omega) u hu
    · split at hu
      · cases hu
      · rcases List.mem_cons.mp hu with rfl | hu
        · have := fine_names ⟨k, by omega⟩
          exact fine_plain this.1 this.2
        · rcases List.mem_cons.mp hu with rfl | hu
          · obtain ⟨c, t, e, h⟩ := itoa_bytes _ (hn k (by omega)).1
            refine fine_plain (by rw [e]; simp) ?_
            rw [e, List.all_eq_true]
            intro d hd
            have := List.all_eq_true.mp h d hd
            unfold isDig at this
            rw [decide_eq_true_eq] at this ⊢
            omega
          · cases hu
theorem line_cut (n : Full) (hp : (parseSpec n.f0).2 = 0) (hn : inNum n) : cutL (lineB n 5).data.toList = some (wordsB n 5) := by
  have h := cut_lineW (wordsB n 5) fun u hu => (fine_words n hp hn 5 (Nat.le_refl _) u hu).1
  rw [← line_words, cutL_blank rfl] at h
  exact h
theorem line_clean (n : Full) (hp : (parseSpec n.f0).2 = 0) (hn : inNum n) : ∀ c ∈ (lineB n 5).data.toList, c ≠ 10 := by
  intro c hc
  have h : c ∈ lineW (wordsB n 5) := by rw [← line_words]; exact List.mem_cons_of_mem _ hc
  unfold lineW at h
  obtain ⟨u, hu, h⟩ := List.mem_flatMap.mp h
  rcases List.mem_cons.mp h with rfl | h
  · decide
  · exact (fine_words n hp hn 5 (Nat.le_refl _) u hu).2 c h
def FineN (n : Full) : Prop := (parseSpec n.f0).2 = 0 ∧ inNum n
theorem step_line (l : List Full) (n : Full) (h : FineN n) : stepL true l (lineB n 5) = if (nodeAt l n.f0).isSome then none else some (true, l ++ [n]) := by
  have hw := words_tail n
  have hnode := node_words n h.1 h.2
  unfold stepL
  rw [line_cut n h.1 h.2]
  rw [hw] at hnode ⊢
  simp only []
  rw [if_neg (by simp), hnode]
theorem nodeAt_fresh {l : List Full} {n : Full} (h : Apart (l ++ [n])) : nodeAt l n.f0 = none := by
  cases hh : nodeAt l n.f0 with
  | none => rfl
  | some m =>
    obtain ⟨h1, h2⟩ := nodeAt_mem hh
    unfold Apart at h
    rw [List.map_append, List.nodup_append] at h
    exact absurd h2 (h.2.2 m.f0 (List.mem_map.mpr ⟨m, h1, rfl⟩) n.f0 (by simp))
theorem fold_lines : ∀ (d acc : List Full), (∀ n ∈ d, FineN n) → Apart (acc ++ d) → (d.map fun n => lineB n 5).foldl (fun st x => st.bind fun p => stepL p.1 p.2 x) (some (true, acc)) = some (true, acc ++ d)
  | [], acc, _, _ => by simp
  | n :: d, acc, h, ha => by
    have e : acc ++ n :: d = (acc ++ [n]) ++ d := by simp
    rw [e] at ha ⊢
    rw [List.map_cons, List.foldl_cons, Option.bind_some, step_line acc n (h n List.mem_cons_self)]
    have hf : nodeAt acc n.f0 = none := by
      apply nodeAt_fresh
      unfold Apart at ha ⊢
      rw [List.map_append] at ha
      exact (List.nodup_append.mp ha).1
    rw [hf]
    exact fold_lines d (acc ++ [n]) (fun m hm => h m (List.mem_cons_of_mem _ hm)) ha
def headW : List UInt8 := [104, 101, 114, 97, 108, 100, 32, 116, 114, 101, 101]
theorem head_cut : cutL headW = some [⟨heraldB, false⟩, ⟨treeB, false⟩] := by
  have h := cut_lineW [⟨heraldB, false⟩, ⟨treeB, false⟩] (fun u hu => by
    rcases List.mem_cons.mp hu with rfl | hu
    · exact (fine_plain (s := heraldB) (by decide) (by decide)).1
    · rcases List.mem_cons.mp hu with rfl | hu
      · exact (fine_plain (s := treeB) (by decide) (by decide)).1
      · cases hu)
  have e : lineW [⟨heraldB, false⟩, ⟨treeB, false⟩] = 32 :: headW := rfl
  rw [e, cutL_blank rfl] at h
  exact h
theorem lines_flat : ∀ d : List Full, (∀ n ∈ d, FineN n) → linesL (d.flatMap fun n => (lineB n 5).data.toList ++ [10]) = (d.map fun n => (lineB n 5).data.toList) ++ [[]]
  | [], _ => rfl
  | n :: d, h => by
    rw [List.flatMap_cons, List.append_assoc, List.singleton_append, linesL_line _ _ (line_clean n (h n List.mem_cons_self).1 (h n List.mem_cons_self).2), lines_flat d fun m hm => h m (List.mem_cons_of_mem _ hm)]
    rfl
theorem written_lines (d : List Full) (h : ∀ n ∈ d, FineN n) : linesB (mk (writtenL d)) = mk headW :: (d.map fun n => lineB n 5) ++ [mk []] := by
  have e : writtenL d = headW ++ 10 :: (d.flatMap fun n => (lineB n 5).data.toList ++ [10]) := rfl
  unfold linesB
  rw [mk_list, e, linesL_line _ _ (by decide), lines_flat d h]
  simp [List.map_append, List.map_map, Function.comp_def, mk_data]
/-- A tree's text is read to that tree's nodes. -/
theorem back_fold (d : List Full) (h : ∀ n ∈ d, FineN n) (ha : Apart d) : foldSt (linesB (mk (writtenL d))) = some (true, d) := by
  rw [written_lines d h]
  unfold foldSt
  rw [List.cons_append, List.foldl_cons, Option.bind_some]
  have h1 : stepL false [] (mk headW) = some (true, []) := by
    unfold stepL
    rw [mk_list, head_cut]
    simp only []
    rw [if_pos trivial, if_pos trivial]
  rw [h1, List.foldl_append, fold_lines d [] h (by simpa using ha)]
  have h2 : ∀ l, stepL true l (mk []) = some (true, l) := by
    intro l
    unfold stepL
    rw [mk_list, cutL_nil]
  simp [h2]
/-- What a loaded tree's nodes are. -/
theorem ok_fine {l : List Full} (h : okL l) : ∀ n ∈ l, FineN n := by
  intro n hn
  obtain ⟨j, hj, rfl⟩ := List.getElem_of_mem hn
  have hm := may_be (fits_may h.2.2 hj)
  refine ⟨?_, ?_⟩
  · by_cases c0 : j = 0
    · subst c0
      have := h.2.1.1
      rw [show l.getD 0 z40 = l[0] from by simp [List.getD, hj]] at this
      exact root_parse this
    · have h1 := h.2.2 j hj
      have hne : l.take j ≠ [] := by
        intro e; have := congrArg List.length e; rw [List.length_take, List.length_nil] at this; omega
      have e2 : l.getD (j - 1) z40 = (l.take j).getD ((l.take j).length - 1) z40 := by
        rw [List.length_take, Nat.min_eq_left (Nat.le_of_lt hj), List.getD_eq_getElem?_getD, List.getD_eq_getElem?_getD, List.getElem?_take_of_lt (by omega)]
      rw [e2, ← fits_later _ hne, show l.getD j z40 = l[j] from by simp [List.getD, hj]] at h1
      unfold fitsR at h1
      rw [Bool.and_eq_true, beq_iff_eq] at h1
      exact h1.1
  · intro k hk
    match k, hk with
    | 0, _ => exact hm.a2
    | 1, _ => exact hm.a3
    | 2, _ => exact hm.a4
    | 3, _ => exact hm.a5
    | 4, _ => exact ⟨hm.a6.1, by have := hm.a6.2; show l[j].f6 ≤ _; omega⟩
theorem fold_none : ∀ (ys : List ByteArray), ys.foldl (fun (st : Option (Bool × List Full)) x => st.bind fun p => stepL p.1 p.2 x) none = none
  | [] => rfl
  | _ :: ys => fold_none ys
theorem foldSt_prefix {p xs : List ByteArray} (h : p <+: xs) (hn : foldSt p = none) : foldSt xs = none := by
  obtain ⟨ys, rfl⟩ := h
  unfold foldSt at hn ⊢
  rw [List.foldl_append, hn, fold_none]
theorem import_written (d : List Full) (h64 : d.length ≤ 64) (hok : okL d) (hs : ∀ m ∈ d, m.f0.size ≤ 102) (w : World) (hG : Glob w) :
    Calls Tryz.prog 9 #[.string (mk (writtenL d))] w fun e w' => ∃ b m, e = .returned (.tuple #[.pointer (some ⟨b, 0, none⟩), .int .i64 0, .int .i64 0]) ∧ TreeAt w' b m d ∧ Aside0 (Below w.heap.size w w') := by
  have hbk := back_fold d (ok_fine hok) (fits_rising hok.2.2).apart
  have hwb := written_bound d (okL_nice hok hs)
  refine (import_calls (mk (writtenL d)) w hG).mono ?_
  rintro e w' ⟨h, hb⟩
  rcases h with ⟨h1, _⟩ | ⟨_, p, x, bg, l, h1, h2, h3, _⟩ | ⟨_, bg, l, d', h1, h2, h3, h4, h5⟩
  · exfalso; apply h1
    unfold mk; rw [mkB_size]; omega
  · rw [foldSt_prefix h1 h3] at hbk; cases hbk
  · rw [hbk] at h1
    injection h1 with h1
    injection h1 with h0 h1
    subst h1
    have hd := rising_unique d d' (fits_rising hok.2.2) h3 h4
    subst hd
    rcases h5 with ⟨_, _, _, _, b, m, he, hT⟩ | ⟨hno, _⟩
    · exact ⟨b, m, he, hT, hb⟩
    · exact absurd ⟨h64, hok.1, hok.2.1, hok.2.2⟩ hno
end Go.Proofs.YteamhfmpogbilaaGreatDoor.X
