/- A tree's text, read: the tree's nodes. -/
import Derived.Test.YteamhfmpogbilaaGreatDoorDig
import Derived.Test.YteamhfmpogbilaaGreatDoorCut
set_option linter.unusedVariables false
set_option linter.unusedSimpArgs false
namespace Go.Proofs.YteamhfmpogbilaaGreatDoor.X
open Go.RowKit Go.Proofs.YteamhfmpogbilaaGreatDoor Go.Proofs.YteamhfmpogbilaaGreatDoorW.PrintWords Go.Proofs.YteamhfmpogbilaaGreatDoorW.PrintLast

/-! ### words written, and cut -/
def txtL (u : Wd) : List UInt8 := if u.f1 = true then quoteL u.f0.data.toList else u.f0.data.toList
def lineW (ws : List Wd) : List UInt8 := ws.flatMap fun u => 32 :: txtL u
def GoodW (u : Wd) : Prop := u.f1 = false → ∃ c t, u.f0.data.toList = c :: t ∧ blankB c = false ∧ c ≠ 35 ∧ c ≠ 34 ∧ t.all plainB = true
theorem lineW_cons (u : Wd) (ws : List Wd) : lineW (u :: ws) = 32 :: (txtL u ++ lineW ws) := by simp [lineW]
theorem lineW_app (a b : List Wd) : lineW (a ++ b) = lineW a ++ lineW b := by simp [lineW]
theorem lineW_head (ws : List Wd) : lineW ws = [] ∨ ∃ t, lineW ws = 32 :: t := by
  cases ws with
  | nil => exact .inl rfl
  | cons u ws => exact .inr ⟨_, lineW_cons u ws⟩
theorem hex_back : ∀ n : Fin 16, hexV (Go.Proofs.YteamhfmpogbilaaGreatDoor.hexD n.1) = (n.1 : Int) := by decide +kernel
theorem unq_quotes (r : List UInt8) (hr : r = [] ∨ ∃ t, r = 32 :: t) : ∀ b : List UInt8, unqL (b.flatMap quote1 ++ 34 :: r) = some (b, r)
  | [] => by
    rcases hr with rfl | ⟨t, rfl⟩
    · exact unqL_end0
    · exact unqL_end rfl
  | c :: b => by
    have ih := unq_quotes r hr b
    rw [List.flatMap_cons, List.append_assoc]
    unfold quote1
    by_cases h1 : c.toNat = 34 ∨ c.toNat = 92
    · rw [if_pos h1]
      have h1' : c = 34 ∨ c = 92 := by
        rcases h1 with h | h
        · exact .inl (UInt8.toNat_inj.mp h)
        · exact .inr (UInt8.toNat_inj.mp h)
      show unqL (92 :: c :: (b.flatMap quote1 ++ 34 :: r)) = _
      rw [unqL_sign (signL_self h1')]
      show (unqL (b.flatMap quote1 ++ 34 :: r)).map _ = _
      rw [ih]; rfl
    · rw [if_neg h1]
      by_cases h2 : 32 ≤ c.toNat ∧ c.toNat ≤ 126
      · rw [if_pos h2]
        show unqL (c :: (b.flatMap quote1 ++ 34 :: r)) = _
        rw [unqL_plain (by omega) (fun e => h1 (.inl (by rw [e]; rfl))) (fun e => h1 (.inr (by rw [e]; rfl))), ih]; rfl
      · rw [if_neg h2]
        have hlt := c.toNat_lt
        have e1 := hex_back ⟨c.toNat / 16, by omega⟩
        have e2 := hex_back ⟨c.toNat % 16, by omega⟩
        simp only [] at e1 e2
        show unqL (92 :: 120 :: Go.Proofs.YteamhfmpogbilaaGreatDoor.hexD (c.toNat / 16) :: Go.Proofs.YteamhfmpogbilaaGreatDoor.hexD (c.toNat % 16) :: (b.flatMap quote1 ++ 34 :: r)) = _
        rw [unqL_sign (signL_hex ⟨by omega, by omega⟩), e1, e2]
        show (unqL (b.flatMap quote1 ++ 34 :: r)).map _ = _
        rw [ih]
        have : UInt8.ofNat ((c.toNat / 16 : Nat) * 16 + (c.toNat % 16 : Nat) : Int).toNat = c := by
          rw [show (((c.toNat / 16 : Nat) : Int) * 16 + ((c.toNat % 16 : Nat) : Int)).toNat = c.toNat by omega]; simp
        rw [this]; rfl
theorem take_plain : ∀ (t r : List UInt8), t.all plainB = true → (r = [] ∨ ∃ t', r = 32 :: t') → (t ++ r).takeWhile plainB = t ∧ (t ++ r).dropWhile plainB = r
  | [], r, _, hr => by
    rcases hr with rfl | ⟨t', rfl⟩
    · exact ⟨rfl, rfl⟩
    · exact ⟨rfl, rfl⟩
  | c :: t, r, h, hr => by
    rw [List.all_cons, Bool.and_eq_true] at h
    obtain ⟨h1, h2⟩ := take_plain t r h.2 hr
    rw [List.cons_append, List.takeWhile_cons, List.dropWhile_cons, if_pos h.1, if_pos h.1, h1, h2]
    exact ⟨rfl, rfl⟩
theorem cut_lineW : ∀ ws : List Wd, (∀ u ∈ ws, GoodW u) → cutL (lineW ws) = some ws
  | [], _ => cutL_nil
  | u :: ws, h => by
    have ih := cut_lineW ws fun v hv => h v (List.mem_cons_of_mem _ hv)
    have hu := h u List.mem_cons_self
    have hh := lineW_head ws
    rw [lineW_cons, cutL_blank rfl]
    obtain ⟨s, q⟩ := u
    unfold txtL
    simp only []
    cases q with
    | true =>
      rw [if_pos rfl]
      unfold quoteL
      rw [List.cons_append, List.append_assoc, List.singleton_append, cutL_quote (unq_quotes _ hh _), ih, mk_data]; rfl
    | false =>
      obtain ⟨c, t, e, h1, h2, h3, h4⟩ := hu rfl
      simp only [] at e
      obtain ⟨g1, g2⟩ := take_plain t _ h4 hh
      rw [if_neg (by simp), e, List.cons_append, cutL_word h1 h2 h3, g1, g2, ih, ← e, mk_data]; rfl

/-! ### a node's words -/
def fieldW (n : Full) (k : Nat) : List Wd := if fieldVal n k = 0 then [] else [⟨fieldName k, false⟩, ⟨itoaB (fieldVal n k), false⟩]
def dataW (n : Full) : List Wd := if n.f1.toList = [] then [] else [⟨dataB, false⟩, ⟨n.f1, true⟩]
def wordsB (n : Full) : Nat → List Wd
  | 0 => ⟨nodeB, false⟩ :: ⟨n.f0, false⟩ :: dataW n
  | k + 1 => wordsB n k ++ fieldW n k
theorem line_words (n : Full) : ∀ k, 32 :: (lineB n k).data.toList = lineW (wordsB n k)
  | 0 => by
    unfold lineB wordsB dataW
    by_cases h : n.f1.toList = []
    · rw [if_pos h, if_pos h]; simp [lineW, txtL, wd2]
    · rw [if_neg h, if_neg h]; simp [lineW, txtL, wd2, wd3, quoteB]
  | k + 1 => by
    have ih := line_words n k
    unfold lineB wordsB fieldW
    rw [lineW_app, ← ih]
    by_cases h : fieldVal n k = 0
    · rw [if_pos h, if_pos h]; simp [lineW]
    · rw [if_neg h, if_neg h]; simp [lineW, txtL, wd3]
/-- The words of the last j numbers. -/
def tailW (n : Full) : Nat → List Wd
  | 0 => []
  | j + 1 => fieldW n (4 - j) ++ tailW n j
theorem words_tail (n : Full) : wordsB n 5 = ⟨nodeB, false⟩ :: ⟨n.f0, false⟩ :: (dataW n ++ tailW n 5) := by
  show (((((_ :: _ :: dataW n) ++ fieldW n 0) ++ fieldW n 1) ++ fieldW n 2) ++ fieldW n 3) ++ fieldW n 4 = _ :: _ :: (dataW n ++ (fieldW n 0 ++ (fieldW n 1 ++ (fieldW n 2 ++ (fieldW n 3 ++ (fieldW n 4 ++ []))))))
  simp [List.append_assoc]
/-- A node with its last j numbers still 0. -/
def partF (n : Full) : Nat → Full
  | 0 => n
  | 1 => { n with f6 := 0 }
  | 2 => { n with f5 := 0, f6 := 0 }
  | 3 => { n with f4 := 0, f5 := 0, f6 := 0 }
  | 4 => { n with f3 := 0, f4 := 0, f5 := 0, f6 := 0 }
  | _ => { n with f2 := 0, f3 := 0, f4 := 0, f5 := 0, f6 := 0 }
theorem part_zero (n : Full) (j : Nat) (hj : j < 5) (h : fieldVal n (4 - j) = 0) : partF n (j + 1) = partF n j := by
  match j, hj, h with
  | 0, _, h => show ({ n with f6 := 0 } : Full) = n; have : n.f6 = 0 := h; rw [← this]
  | 1, _, h => show ({ n with f5 := 0, f6 := 0 } : Full) = { n with f6 := 0 }; have : n.f5 = 0 := h; rw [← this]
  | 2, _, h => show ({ n with f4 := 0, f5 := 0, f6 := 0 } : Full) = { n with f5 := 0, f6 := 0 }; have : n.f4 = 0 := h; rw [this]
  | 3, _, h => show ({ n with f3 := 0, f4 := 0, f5 := 0, f6 := 0 } : Full) = { n with f4 := 0, f5 := 0, f6 := 0 }; have : n.f3 = 0 := h; rw [this]
  | 4, _, h => show ({ n with f2 := 0, f3 := 0, f4 := 0, f5 := 0, f6 := 0 } : Full) = { n with f3 := 0, f4 := 0, f5 := 0, f6 := 0 }; have : n.f2 = 0 := h; rw [this]
theorem part_put (n : Full) (j : Nat) (hj : j < 5) : putNum (partF n (j + 1)) (4 - j) (fieldVal n (4 - j)) = partF n j := by
  match j, hj with
  | 0, _ => rfl
  | 1, _ => rfl
  | 2, _ => rfl
  | 3, _ => rfl
  | 4, _ => rfl
theorem fieldName_inj : ∀ i k : Fin 5, fieldName i.1 = fieldName k.1 → i = k := by decide +kernel
theorem data_noField : ∀ i : Fin 5, fieldName i.1 ≠ dataB := by decide +kernel
theorem tail_head (n : Full) : ∀ j, j ≤ 5 → tailW n j = [] ∨ ∃ i t, 5 - j ≤ i ∧ i < 5 ∧ tailW n j = ⟨fieldName i, false⟩ :: t
  | 0, _ => .inl rfl
  | j + 1, h => by
    unfold tailW fieldW
    by_cases c : fieldVal n (4 - j) = 0
    · rw [if_pos c, List.nil_append]
      rcases tail_head n j (by omega) with h1 | ⟨i, t, h1, h2, h3⟩
      · exact .inl h1
      · exact .inr ⟨i, t, by omega, h2, h3⟩
    · rw [if_neg c]
      exact .inr ⟨4 - j, _, by omega, by omega, rfl⟩
theorem next_other {name : ByteArray} {ws : List Wd} (h : ws = [] ∨ ∃ u t, ws = u :: t ∧ u ≠ ⟨name, false⟩) : nextL name ws = some (none, ws) := by
  rcases h with rfl | ⟨u, t, rfl, h⟩
  · rfl
  · unfold nextL; simp only []; rw [if_neg h]
theorem next_this (name : ByteArray) (v : Wd) (t : List Wd) : nextL name (⟨name, false⟩ :: v :: t) = some (some v, t) := by
  unfold nextL; simp only []; rw [if_pos trivial]
def inNum (n : Full) : Prop := ∀ k, k < 5 → 0 ≤ fieldVal n k ∧ fieldVal n k ≤ 2147483647
theorem fields_part (n : Full) (hn : inNum n) : ∀ j, j ≤ 5 → fieldsFrom j (partF n j) (tailW n j) = some (n, [])
  | 0, _ => rfl
  | j + 1, h => by
    have ih := fields_part n hn j (by omega)
    rw [fieldsFrom.eq_2]
    by_cases c : fieldVal n (4 - j) = 0
    · have e : tailW n (j + 1) = tailW n j := by
        show fieldW n (4 - j) ++ tailW n j = _
        unfold fieldW; rw [if_pos c, List.nil_append]
      have hx : nextL (fieldName (4 - j)) (tailW n j) = some (none, tailW n j) := by
        apply next_other
        rcases tail_head n j (by omega) with h1 | ⟨i, t, h1, h2, h3⟩
        · exact .inl h1
        · refine .inr ⟨_, t, h3, fun e => ?_⟩
          injection e with e _
          have := fieldName_inj ⟨i, h2⟩ ⟨4 - j, by omega⟩ e
          injection this with this
          omega
      rw [e, hx, part_zero n j (by omega) c]
      exact ih
    · have e : tailW n (j + 1) = ⟨fieldName (4 - j), false⟩ :: ⟨itoaB (fieldVal n (4 - j)), false⟩ :: tailW n j := by
        show fieldW n (4 - j) ++ tailW n j = _
        unfold fieldW; rw [if_neg c]; rfl
      have hb := hn (4 - j) (by omega)
      rw [e, next_this]
      simp only []
      rw [numL_itoa _ hb.1 hb.2]
      simp only []
      rw [part_put n j (by omega)]
      exact ih
theorem rest_part (n : Full) (hn : inNum n) : restL (partF n 5) (tailW n 5) = some n := by
  unfold restL; rw [fields_part n hn 5 (Nat.le_refl _)]; rfl
theorem node_words (n : Full) (hp : (parseSpec n.f0).2 = 0) (hn : inNum n) : nodeL (wordsB n 5) = some n := by
  have hr := rest_part n hn
  rw [words_tail]
  unfold nodeL
  have hh : headOk (⟨nodeB, false⟩ :: ⟨n.f0, false⟩ :: (dataW n ++ tailW n 5)) = true := by
    unfold headOk; simp [hp]
  rw [if_pos hh]
  show dataL { zFull with f0 := n.f0 } (dataW n ++ tailW n 5) = some n
  unfold dataL dataW
  by_cases c : n.f1.toList = []
  · rw [if_pos c, List.nil_append]
    have hx : nextL dataB (tailW n 5) = some (none, tailW n 5) := by
      apply next_other
      rcases tail_head n 5 (Nat.le_refl _) with h1 | ⟨i, t, h1, h2, h3⟩
      · exact .inl h1
      · refine .inr ⟨_, t, h3, fun e => ?_⟩
        injection e with e _
        exact data_noField ⟨i, h2⟩ e
    rw [hx]
    simp only []
    have e : ({ zFull with f0 := n.f0 } : Full) = partF n 5 := by
      have : n.f1 = ⟨#[]⟩ := WideShapes.bytes_inj (by rw [← ByteArray.toList_eq, c])
      show (⟨n.f0, ⟨#[]⟩, 0, 0, 0, 0, 0⟩ : Full) = ⟨n.f0, n.f1, 0, 0, 0, 0, 0⟩
      rw [this]
    rw [e]; exact hr
  · rw [if_neg c]
    rw [show [(⟨dataB, false⟩ : Wd), ⟨n.f1, true⟩] ++ tailW n 5 = ⟨dataB, false⟩ :: ⟨n.f1, true⟩ :: tailW n 5 from rfl, next_this]
    exact hr
end Go.Proofs.YteamhfmpogbilaaGreatDoor.X
