/- Printed by a tool of the kit for this seat; cut to what the claim uses. -/
import Derived.Test.YteamhfmpogbilaaGreatDoorPure2
import Derived.Test.YteamhfmpogbilaaGreatDoorZQ1
set_option linter.unusedVariables false
set_option linter.unusedSimpArgs false
section
namespace Go.Proofs.YteamhfmpogbilaaGreatDoor.X
open Go.RowKit Go.Proofs.YteamhfmpogbilaaGreatDoor Go.Proofs.YteamhfmpogbilaaGreatDoorW.PrintWords Go.Proofs.YteamhfmpogbilaaGreatDoorW.PrintLast
theorem refWeight_told (c : UInt8) : yeb.f (c.toNat : Int) = some (wt c) := by
 have hlt := c.toNat_lt
 unfold yeb.f wt
 have e : wrap64 (c.toNat : Int) = (c.toNat : Int) := by unfold wrap64; omega
 rw [e]
 by_cases h : c.toNat = 47
 ·rw [if_pos (by omega), if_pos h]
 ·rw [if_neg (by omega), if_neg h]
theorem zcs (s : ByteArray) (i : Nat) (h : i < s.size) : bt s (i : Int) = (s[i].toNat : Int) := by
 unfold bt; simp [h]
theorem refOrder_l0 (a b : ByteArray) (ha : a.size ≤ 1000000000) (hb : b.size ≤ 1000000000) : ∀ (d k i : Nat), a.size - i ≤ d → i ≤ a.size → i ≤ b.size → 2 * d + 2 ≤ k →
  ydn.l0 k a b (i : Int) = some (ordL (a.data.toList.drop i) (b.data.toList.drop i))
 | d, k, i, hd, hia, hib, hk => by
  obtain ⟨k, rfl⟩ : ∃ k', k = k' + 1 + 1 := ⟨k - 2, by omega⟩
  simp only [ydn.l0, ydn.j1]
  by_cases c1 : i < a.size
  ·by_cases c2 : i < b.size
   ·rw [if_pos (by omega), decide_eq_true (by omega : (i : Int) < b.size), if_pos rfl, if_pos (by omega), if_pos (by omega), zcs a i c1, refWeight_told]
    simp only [Option.bind_some]
    rw [if_pos (by omega), zcs b i c2, refWeight_told]
    simp only [Option.bind_some]
    rw [ordL_step a b i c1 c2]
    by_cases w1 : wt a[i] < wt b[i]
    ·rw [if_pos w1, if_pos w1]
    ·rw [if_neg w1, if_neg w1]
     by_cases w2 : wt b[i] < wt a[i]
     ·rw [if_pos (by omega), if_pos w2]
     ·have e : wrap64 ((i : Int) + 1) = ((i + 1 : Nat) : Int) := by unfold wrap64; omega
      rw [if_neg (by omega), if_neg w2, e]
      cases d with
      | zero => omega
      | succ d => exact refOrder_l0 a b ha hb d k (i + 1) (by omega) (by omega) (by omega) (by omega)
   ·rw [if_pos (by omega), decide_eq_false (by omega : ¬ (i : Int) < b.size), if_neg (by simp), ordL_end a b i (.inr (by omega)) (by omega) (by omega)]
    by_cases z1 : a.size < b.size
    ·rw [if_pos (by omega), if_pos z1]
    ·rw [if_neg (by omega), if_neg z1]
     by_cases z2 : b.size < a.size
     ·rw [if_pos (by omega), if_pos z2]
     ·rw [if_neg (by omega), if_neg z2]
  ·rw [if_neg (by omega), if_neg (by simp), ordL_end a b i (.inl (by omega)) (by omega) (by omega)]
   by_cases z1 : a.size < b.size
   ·rw [if_pos (by omega), if_pos z1]
   ·rw [if_neg (by omega), if_neg z1]
    by_cases z2 : b.size < a.size
    ·rw [if_pos (by omega), if_pos z2]
    ·rw [if_neg (by omega), if_neg z2]
theorem refOrder_told (k : Nat) (a b : ByteArray) (ha : a.size ≤ 1000000000) (hb : b.size ≤ 1000000000) (hk : 2 * a.size + 2 ≤ k) : ydn.f k a b = some (ordL a.data.toList b.data.toList) := by
 unfold ydn.f
 exact refOrder_l0 a b ha hb a.size k 0 (by omega) (by omega) (by omega) hk
theorem refIn_told (x y : Int) : ydm.f x y = some (decide (0 ≤ x ∧ x ≤ y)) := by
 unfold ydm.f
 by_cases h : x ≥ 0
 ·rw [if_pos h]; congr 1
  by_cases h2 : x ≤ y
  ·rw [decide_eq_true h2, decide_eq_true ⟨h, h2⟩]
  ·rw [decide_eq_false h2, decide_eq_false (fun ⟨_, e⟩ => h2 e)]
 ·rw [if_neg h, decide_eq_false (fun ⟨e, _⟩ => h e)]
theorem nameByte_iff (v : Nat) : zbo v = true ↔ (65 ≤ v ∧ v ≤ 90) ∨ (97 ≤ v ∧ v ≤ 122) ∨ (48 ≤ v ∧ v ≤ 57) ∨ v = 95 ∨ v = 45 ∨ v = 46 := by
 unfold zbo
 simp only [Bool.or_eq_true, Bool.and_eq_true, decide_eq_true_eq, beq_iff_eq]
 omega
set_option maxHeartbeats 1000000 in
theorem refName_step (k : Nat) (s : ByteArray) (i : Nat) (h : i < s.size) (hs : s.size ≤ 1000000) :
  ydi.l0 (k + 1) s (i : Int) = if zbo s[i].toNat = true then ydi.l0 k s ((i + 1 : Nat) : Int) else some false := by
 have e : wrap64 ((i : Int) + 1) = ((i + 1 : Nat) : Int) := by unfold wrap64; omega
 simp only [ydi.l0]
 rw [if_pos (by omega), if_pos (by omega), zcs s i h, e]
 generalize ydi.l0 k s ((i + 1 : Nat) : Int) = R
 have hb := nameByte_iff s[i].toNat
 generalize s[i].toNat = v at hb ⊢
 by_cases c : zbo v = true
 ·rw [if_pos c]
  have c := hb.1 c
  clear hb
  repeat' split
  all_goals first | rfl | (exfalso; omega)
 ·rw [if_neg c]
  have c : ¬ ((65 ≤ v ∧ v ≤ 90) ∨ (97 ≤ v ∧ v ≤ 122) ∨ (48 ≤ v ∧ v ≤ 57) ∨ v = 95 ∨ v = 45 ∨ v = 46) := fun e => c (hb.2 e)
  clear hb
  repeat' split
  all_goals first | rfl | (exfalso; omega)
theorem refName_l0 (s : ByteArray) (hs : s.size ≤ 1000000) : ∀ (k i : Nat), i ≤ s.size → s.size - i < k → ydi.l0 k s (i : Int) = some ((s.data.toList.drop i).all fun c => zbo c.toNat)
 | 0, i, _, h => by omega
 | k + 1, i, hi, h => by
  by_cases c : i < s.size
  ·rw [refName_step k s i c hs, List.drop_eq_getElem_cons (by rw [bl]; exact c), List.all_cons]
   have e : s.data.toList[i]'(by rw [bl]; exact c) = s[i] := rfl
   rw [e]
   by_cases n : zbo s[i].toNat = true
   ·rw [if_pos n, refName_l0 s hs k (i + 1) (by omega) (by omega), n]; simp
   ·rw [if_neg n]
    simp only [Bool.not_eq_true] at n
    rw [n]; simp
  ·have : i = s.size := by omega
   subst this
   simp only [ydi.l0]
   rw [if_neg (by omega), show s.data.toList.drop s.size = [] from List.drop_eq_nil_of_le (by rw [bl]; exact Nat.le_refl _)]; rfl
theorem refName_told (k : Nat) (s : ByteArray) (hk : 20 ≤ k) : ydi.f k s = some (zcm s) := by
 obtain ⟨k, rfl⟩ : ∃ k', k = k' + 1 := ⟨k - 1, by omega⟩
 have ej : ∀ b, ydi.j0 (k + 1) s b = if b = true then some false else ydi.l0 k s 0 := fun b => by simp only [ydi.j0]
 unfold ydi.f
 rw [ej, ej]
 have hlen : s.toList.length = s.size := by rw [ByteArray.toList_eq, bl]
 by_cases c1 : s.size < 1
 ·rw [if_pos (by omega)]
  have : s.toList = [] := List.length_eq_zero_iff.mp (by omega)
  rw [nameOk_nil this]; rfl
 ·rw [if_neg (by omega)]
  by_cases c2 : s.size > 16
  ·rw [if_pos (by omega), nameOk_long (by omega)]; rfl
  ·rw [if_neg (by omega)]
   by_cases c3 : s.toList = [46]
   ·rw [if_pos c3, nameOk_dot c3]; rfl
   ·rw [if_neg c3]
    by_cases c4 : s.toList = [46, 46]
    ·rw [if_pos (beq_iff_eq.mpr c4), nameOk_dots c4]
    ·rw [if_neg (by simpa using c4)]
     have := refName_l0 s (by omega) k 0 (by omega) (by omega)
     have e0 : ((0 : Nat) : Int) = 0 := rfl
     rw [e0] at this
     rw [this]
     have e1 : s.toList.isEmpty = false := by cases hh : s.toList <;> simp_all
     simp [zcm, e1, c3, c4]; omega
end Go.Proofs.YteamhfmpogbilaaGreatDoor.X
end
section
namespace Go.Proofs.YteamhfmpogbilaaGreatDoor.X
open Go.RowKit Go.Proofs.YteamhfmpogbilaaGreatDoor Go.Proofs.YteamhfmpogbilaaGreatDoorW.PrintWords Go.Proofs.YteamhfmpogbilaaGreatDoorW.PrintLast
def mk (l : List UInt8) : ByteArray := ⟨l.toArray⟩
theorem mk_data (s : ByteArray) : mk s.data.toList = s := by unfold mk; simp
def zcw : List UInt8 → List UInt8 → List (List UInt8)
 | p, [] => [p]
 | p, c :: l => if c = 47 then p :: zcw [] l else zcw (p ++ [c]) l
theorem cutFrom_cons (c : UInt8) (l p : List UInt8) : zcw p (c :: l) = if c = 47 then p :: zcw [] l else zcw (p ++ [c]) l := by rw [zcw]
theorem zdc (s : ByteArray) (a b : Nat) : (s.extract a b).data.toList = (s.data.toList.take b).drop a := by
 rw [ByteArray.data_extract]; simp [List.drop_take, List.extract_eq_take_drop]
theorem ext_succ (s : ByteArray) (a i : Nat) (ha : a ≤ i) (h : i < s.size) : (s.extract a (i + 1)).data.toList = (s.extract a i).data.toList ++ [s[i]] := by
 rw [zdc, zdc, take_snoc s i h, List.drop_append_of_le_length]
 rw [List.length_take, bl]; omega
theorem ext_nil (s : ByteArray) (a : Nat) : (s.extract a a).data.toList = [] := by
 rw [zdc]; apply List.drop_eq_nil_of_le; rw [List.length_take]; omega
theorem pieces_l0 (s : ByteArray) (hs : s.size ≤ 1000) : ∀ (d k a i : Nat) (acc : List ByteArray), s.size - i ≤ d → a ≤ i → i ≤ s.size → d + 2 ≤ k → acc.length + d ≤ 10000 →
  yds.l0 k s acc (a : Int) (i : Int) = some (acc ++ (zcw (s.extract a i).data.toList (s.data.toList.drop i)).map mk)
 | d, k, a, i, acc, hd, hai, hi, hk, hacc => by
  obtain ⟨k, rfl⟩ : ∃ k', k = k' + 1 + 1 := ⟨k - 2, by omega⟩
  have e : wrap64 ((i : Int) + 1) = ((i + 1 : Nat) : Int) := by unfold wrap64; omega
  by_cases c : i = s.size
  ·subst c
   rw [yds.l0]
   rw [if_pos (by omega), if_pos rfl, if_pos (by omega), if_pos (by omega), if_pos (by omega), e]
   rw [yds.l0]
   rw [if_neg (by omega), Int.toNat_natCast, Int.toNat_natCast, show s.data.toList.drop s.size = [] from List.drop_eq_nil_of_le (by rw [bl]; exact Nat.le_refl _)]
   simp only [zcw, List.map_cons, List.map_nil, mk_data]
  ·have hlt : i < s.size := by omega
   rw [yds.l0]
   rw [if_pos (by omega), if_neg (by omega), if_pos (by omega), if_pos (by omega), zcs s i hlt, e, Int.toNat_natCast, Int.toNat_natCast]
   rw [List.drop_eq_getElem_cons (l := s.data.toList) (i := i) (by rw [bl]; exact hlt)]
   have e2 : s.data.toList[i]'(by rw [bl]; exact hlt) = s[i] := rfl
   rw [e2, cutFrom_cons]
   cases d with
   | zero => omega
   | succ d =>
    by_cases c47 : s[i] = 47
    ·rw [if_pos (by rw [c47]; rfl), if_pos (by omega), if_pos (by omega), if_pos (by omega), if_pos c47, pieces_l0 s hs d (k + 1) (i + 1) (i + 1) _ (by omega) (by omega) (by omega) (by omega) (by simp; omega), ext_nil, List.map_cons, mk_data, List.append_assoc, List.singleton_append]
    ·have : ¬ (s[i].toNat : Int) = 47 := fun h => c47 (UInt8.toNat_inj.mp (by have : (47 : UInt8).toNat = 47 := rfl; omega))
     rw [if_neg this, if_neg c47, pieces_l0 s hs d (k + 1) a (i + 1) acc (by omega) (by omega) (by omega) (by omega) (by omega), ext_succ s a i hai hlt]
theorem refPieces_told (k : Nat) (s : ByteArray) (hs : s.size ≤ 1000) (h1 : 1 ≤ s.size) (hk : s.size + 2 ≤ k) : yds.f k s = some ((zcw [] (s.data.toList.drop 1)).map mk) := by
 unfold yds.f
 have := pieces_l0 s hs (s.size - 1) k 1 1 [] (by omega) (by omega) (by omega) (by omega) (by simp; omega)
 rw [ext_nil] at this
 simpa using this
theorem cutFrom_no : ∀ (l p : List UInt8), (∀ k : Nat, l[k]? ≠ some 47) → zcw p l = [p ++ l]
 | [], p, _ => by simp [zcw]
 | c :: l, p, h => by
  rw [cutFrom_cons]
  have hc : c ≠ 47 := fun e => h 0 (by simp [e])
  rw [if_neg hc, cutFrom_no l (p ++ [c]) (fun k => by have := h (k + 1); simpa using this)]
  simp
theorem cutFrom_at : ∀ (i : Nat) (l p : List UInt8), l[i]? = some 47 → (∀ k : Nat, k < i → l[k]? ≠ some 47) → zcw p l = (p ++ l.take i) :: zcw [] (l.drop (i + 1))
 | _, [], p, h, _ => by simp at h
 | 0, c :: l, p, h, _ => by
  rw [cutFrom_cons]
  have : c = 47 := by simpa using h
  rw [if_pos this]; simp
 | i + 1, c :: l, p, h, hn => by
  rw [cutFrom_cons]
  have hc : c ≠ 47 := fun e => hn 0 (by omega) (by simp [e])
  rw [if_neg hc, cutFrom_at i l (p ++ [c]) (by simpa using h) (fun k hk => by have := hn (k + 1) (by omega); simpa using this)]
  simp
theorem index_slash (t : ByteArray) : Lib.indexB t slashB = Lib.indexByte t.data.toList 47 := by
 rw [Lib.one t slashB rfl]; rfl
theorem split_cut : ∀ (d : Nat) (t : ByteArray), t.size ≤ d → Lib.splitB slashB 0 (Lib.countB t slashB) t = (zcw [] t.data.toList).map mk
 | d, t, hd => by
  rcases Lib.indexB_cases t slashB with h | ⟨i, h, hi⟩
  ·have h' := h
   rw [index_slash] at h'
   rw [Lib.splitB_miss _ _ _ _ h, cutFrom_no _ _ (Lib.indexByte_none h')]
   simp [mk_data]
  ·have h' := h
   rw [index_slash] at h'
   obtain ⟨h1, h2⟩ := Lib.indexByte_some h'
   have e1 : slashB.size = 1 := rfl
   rw [e1] at hi
   rw [Lib.countB_hit t slashB i (by decide) h, Nat.add_comm 1, Lib.splitB_hit _ _ _ _ i h, cutFrom_at i _ _ h1 h2, e1]
   cases d with
   | zero => omega
   | succ d =>
    rw [split_cut d (t.extract (i + 1) t.size) (by rw [ByteArray.size_extract]; omega), List.map_cons]
    have x1 : t.extract 0 (i + 0) = mk ([] ++ t.data.toList.take i) := by
     rw [← mk_data (t.extract 0 (i + 0)), zdc]; simp
    have x2 : (t.extract (i + 1) t.size).data.toList = t.data.toList.drop (i + 1) := by
     rw [zdc, List.take_of_length_le (by rw [bl]; exact Nat.le_refl _)]
    rw [x1, x2]
theorem partsOf_cut (s : ByteArray) : partsOf s = (zcw [] (s.data.toList.drop 1)).map mk := by
 unfold partsOf
 rw [split_cut _ _ (Nat.le_refl _), zdc, List.take_of_length_le (by rw [bl]; exact Nat.le_refl _)]
end Go.Proofs.YteamhfmpogbilaaGreatDoor.X
end
section
namespace Go.Proofs.YteamhfmpogbilaaGreatDoor.X
open Go.RowKit Go.Proofs.YteamhfmpogbilaaGreatDoor Go.Proofs.YteamhfmpogbilaaGreatDoorW.PrintWords Go.Proofs.YteamhfmpogbilaaGreatDoorW.PrintLast
theorem refParse_l0 (xs : List ByteArray) (hl : xs.length ≤ 1000) : ∀ (d k i : Nat), xs.length - i ≤ d → i ≤ xs.length → d + 22 ≤ k →
  ydo.l0 k xs (i : Int) = some (if (xs.drop i).all zcm = true then (xs, 0) else ([], 10))
 | d, k, i, hd, hi, hk => by
  obtain ⟨k, rfl⟩ : ∃ k', k = k' + 1 := ⟨k - 1, by omega⟩
  rw [ydo.l0]
  by_cases c : i < xs.length
  ·rw [if_pos (by omega), if_pos (by omega), rdOf_get xs i c, refName_told k _ (by omega), List.drop_eq_getElem_cons c, List.all_cons]
   simp only [Option.bind_some]
   by_cases hn : zcm xs[i] = true
   ·have e : wrap64 ((i : Int) + 1) = ((i + 1 : Nat) : Int) := by unfold wrap64; omega
    cases d with
    | zero => omega
    | succ d =>
     rw [if_pos hn, e, refParse_l0 xs hl d k (i + 1) (by omega) (by omega) (by omega), hn]
     simp
   ·rw [if_neg hn]
    simp only [Bool.not_eq_true] at hn
    rw [hn]; simp
  ·have : i = xs.length := by omega
   subst this
   rw [if_neg (by omega), List.drop_length]; rfl
theorem first_slash (s : ByteArray) (h : 0 < s.size) : ((s.extract 0 1).toList == [47]) = (bt s 0 == 47) := by
 rw [ByteArray.toList_eq, zdc, List.drop_zero]
 have h1 := take_snoc s 0 h
 rw [List.take_zero, List.nil_append] at h1
 have h2 : s.data.toList.take 1 = [s[0]] := h1
 have e : bt s 0 = (s[0].toNat : Int) := zcs s 0 h
 rw [h2, e]
 by_cases c : s[0] = 47
 ·rw [c]; rfl
 ·have c' : ¬ (s[0].toNat : Int) = 47 := fun h => c (UInt8.toNat_inj.mp (by have : (47 : UInt8).toNat = 47 := rfl; omega))
  rw [beq_eq_false_iff_ne.mpr c', beq_eq_false_iff_ne.mpr (by intro e; injection e with e _; exact c e)]
theorem refParse_told (k : Nat) (s : ByteArray) (hk : 200 ≤ k) : ydo.f k s = some (zaw s) := by
 obtain ⟨k, rfl⟩ : ∃ k', k = k' + 1 := ⟨k - 1, by omega⟩
 have ej : ∀ b, ydo.j0 (k + 1) s b = if b = true then some ([], 10) else ((yds.f k s).bind fun t181 => (if (t181.length : Int) > 6 then (some (([] : List ByteArray), 10)) else (ydo.l0 k t181 0))) := fun b => by rw [ydo.j0]
 unfold ydo.f zaw
 rw [ej, ej]
 have hlen : s.toList.length = s.size := by rw [ByteArray.toList_eq, bl]
 by_cases c1 : (s.size : Int) > 102
 ·rw [if_pos c1, if_pos c1]
 rw [if_neg c1, if_neg c1]
 by_cases c2 : s.toList = [47]
 ·rw [if_pos c2, if_pos c2]
 rw [if_neg c2, if_neg c2]
 by_cases c3 : s.toList = []
 ·have hs0 : s.size = 0 := by rw [← hlen, c3]; rfl
  rw [if_pos c3, if_pos rfl, if_neg (by simp [hs0])]
 ·have hs1 : 0 < s.size := by
   rcases Nat.eq_zero_or_pos s.size with h | h
   ·exact absurd (List.length_eq_zero_iff.mp (by omega)) c3
   ·exact h
  rw [if_neg c3, if_pos (by omega), first_slash s hs1, decide_eq_true (by omega : 1 ≤ s.size), Bool.true_and]
  by_cases c4 : bt s 0 = 47
  ·rw [if_neg (by simp [c4]), if_pos (by simp [c4]), refPieces_told k s (by omega) (by omega) (by omega), ← partsOf_cut]
   simp only [Option.bind_some]
   by_cases c5 : ((partsOf s).length : Int) > 6
   ·rw [if_pos c5, if_pos c5]
   ·rw [if_neg c5, if_neg c5]
    have := refParse_l0 (partsOf s) (by omega) (partsOf s).length k 0 (by omega) (by omega) (by omega)
    simpa using this
  ·rw [if_pos (by simp [c4]), if_neg (by simp [c4])]
theorem data_app (a b : ByteArray) : (a ++ b).data.toList = a.data.toList ++ b.data.toList := by rw [ByteArray.data_append, Array.toList_append]
theorem refOf_l0 (xs : List ByteArray) (h6 : xs.length ≤ 6) (hn : ∀ x ∈ xs, x.size ≤ 16) : ∀ (d k i : Nat) (acc : ByteArray), xs.length - i ≤ d → i ≤ xs.length → d + 1 ≤ k → acc.size ≤ 17 * i →
  ydx.l0 k xs acc (i : Int) = some (if (acc.data.toList ++ Lib.joinTail [47] ((xs.drop i).map (·.data.toList))) = [] then slashB else mk (acc.data.toList ++ Lib.joinTail [47] ((xs.drop i).map (·.data.toList))))
 | d, k, i, acc, hd, hi, hk, ha => by
  obtain ⟨k, rfl⟩ : ∃ k', k = k' + 1 := ⟨k - 1, by omega⟩
  rw [ydx.l0]
  by_cases c : i < xs.length
  ·have hx := hn _ (List.getElem_mem c)
   have e : wrap64 ((i : Int) + 1) = ((i + 1 : Nat) : Int) := by unfold wrap64; omega
   have e1 : (acc ++ (⟨#[47]⟩ : ByteArray)).size = acc.size + 1 := by rw [ByteArray.size_append]; rfl
   rw [if_pos (by omega), if_pos (by omega), if_pos (by omega), rdOf_get xs i c, e1, if_pos (by omega), e]
   cases d with
   | zero => omega
   | succ d =>
    rw [refOf_l0 xs h6 hn d k (i + 1) _ (by omega) (by omega) (by omega) (by rw [ByteArray.size_append, e1]; omega)]
    have e2 : (acc ++ (⟨#[47]⟩ : ByteArray) ++ xs[i]).data.toList ++ Lib.joinTail [47] ((xs.drop (i + 1)).map (·.data.toList)) = acc.data.toList ++ Lib.joinTail [47] ((xs.drop i).map (·.data.toList)) := by
     rw [List.drop_eq_getElem_cons c, List.map_cons]
     unfold Lib.joinTail
     rw [List.map_cons, List.flatten_cons, data_app, data_app]
     simp only [List.append_assoc]
    rw [e2]
  ·have : i = xs.length := by omega
   subst this
   rw [if_neg (by omega), List.drop_length]
   have e3 : acc.data.toList ++ Lib.joinTail [47] (([] : List ByteArray).map (·.data.toList)) = acc.data.toList := by simp [Lib.joinTail]
   rw [e3, ByteArray.toList_eq]
   by_cases c0 : acc.data.toList = []
   ·rw [if_pos c0, if_pos c0]; rfl
   ·rw [if_neg c0, if_neg c0, mk_data]
theorem refOf_told (k : Nat) (xs : List ByteArray) (h6 : xs.length ≤ 6) (hn : ∀ x ∈ xs, x.size ≤ 16) (hk : 10 ≤ k) : ydx.f k xs = some (slashB ++ joined xs) := by
 unfold ydx.f
 have := refOf_l0 xs h6 hn 6 k 0 ⟨#[]⟩ (by omega) (by omega) (by omega) (by show (0 : Nat) ≤ _; omega)
 have e0 : ((0 : Nat) : Int) = 0 := rfl
 rw [e0] at this
 rw [this, List.drop_zero]
 congr 1
 have e1 : (⟨#[]⟩ : ByteArray).data.toList = [] := rfl
 rw [e1, List.nil_append]
 cases xs with
 | nil =>
  rw [if_pos (by simp [Lib.joinTail])]
  apply WideShapes.bytes_inj
  rw [data_app]; rfl
 | cons x r =>
  rw [if_neg (by simp [Lib.joinTail])]
  apply WideShapes.bytes_inj
  rw [data_app]
  unfold joined mk
  simp only [List.map_cons]
  rw [Lib.join_cons]
  simp [Lib.joinTail, slashB]
theorem refParent_told (k : Nat) (s : ByteArray) (hk : 200 ≤ k) : yeh.f k s = some (zbl s) := by
 unfold yeh.f zbl
 rw [refParse_told k s hk]
 simp only [Option.bind_some]
 obtain ⟨h6, hn⟩ := parse_names s
 by_cases c1 : (zaw s).2 = 0
 ·rw [if_pos c1, if_pos c1]
  by_cases c2 : (zaw s).1 = []
  ·rw [if_pos (by rw [c2]; rfl), if_pos c2]
  ·have hpos : 0 < (zaw s).1.length := List.length_pos_iff.2 c2
   have e : wrap64 (((zaw s).1.length : Int) - 1) = (((zaw s).1.length - 1 : Nat) : Int) := by unfold wrap64; omega
   rw [if_neg (by omega), if_neg c2, e, if_pos (by omega), if_pos (by omega), Int.toNat_natCast, refOf_told k _ (by rw [List.length_take]; omega) (fun x hx => nameOk_size (hn x (List.mem_of_mem_take hx))) (by omega)]
   rfl
 ·rw [if_neg c1, if_neg c1]
end Go.Proofs.YteamhfmpogbilaaGreatDoor.X
end
section
namespace Go.Proofs.YteamhfmpogbilaaGreatDoor.X
open Go.RowKit Go.Proofs.YteamhfmpogbilaaGreatDoor Go.Proofs.YteamhfmpogbilaaGreatDoorW.PrintWords Go.Proofs.YteamhfmpogbilaaGreatDoorW.PrintLast
abbrev Ref := S74
def zbf (n : Full) : Ref := ⟨n.f0, n.f1, n.f2, n.f3, n.f4, n.f5, n.f6⟩
theorem rdRef (p : List Full) (j : Nat) (h : j < p.length) : zam (p.map zbf) (j : Int) = zbf p[j] := by
 unfold zam; simp [List.getD, h]
theorem find_told (p : List Full) (hp : p.length ≤ 1000) (up : ByteArray) : ∀ (d k i : Nat), p.length - i ≤ d → i ≤ p.length → d + 1 ≤ k →
  ∃ r : Int, ydy.l0 k (p.map zbf) up (i : Int) = some r ∧ ((r = -1 ∧ ∀ j (h : j < p.length), i ≤ j → p[j].f0 ≠ up) ∨ ∃ j, ∃ h : j < p.length, r = (j : Int) ∧ p[j].f0 = up)
 | d, k, i, hd, hi, hk => by
  obtain ⟨k, rfl⟩ : ∃ k', k = k' + 1 := ⟨k - 1, by omega⟩
  rw [ydy.l0, List.length_map]
  by_cases c : i < p.length
  ·have e : wrap64 ((i : Int) + 1) = ((i + 1 : Nat) : Int) := by unfold wrap64; omega
   rw [if_pos (by omega), if_pos (by omega), rdRef p i c, e]
   by_cases cf : p[i].f0 = up
   ·refine ⟨i, by rw [if_pos (by show p[i].f0.toList = up.toList; rw [cf])], .inr ⟨i, c, rfl, cf⟩⟩
   ·have cf' : ¬ (zbf p[i]).f0.toList = up.toList := fun h => cf (WideShapes.bytes_inj (by have : p[i].f0.toList = up.toList := h; rw [ByteArray.toList_eq, ByteArray.toList_eq] at this; exact this))
    rw [if_neg cf']
    cases d with
    | zero => omega
    | succ d =>
     obtain ⟨r, h1, h2⟩ := find_told p hp up d k (i + 1) (by omega) (by omega) (by omega)
     refine ⟨r, h1, ?_⟩
     rcases h2 with ⟨h2, h3⟩ | h2
     ·exact .inl ⟨h2, fun j h hij => by
       by_cases e : j = i
       ·subst e; exact cf
       ·exact h3 j h (by omega)⟩
     ·exact .inr h2
  ·exact ⟨-1, by rw [if_neg (by omega)], .inl ⟨rfl, fun j h hij => by omega⟩⟩
def tailR (p : List Full) (n : Full) : Bool :=
 if p = [] then n.f0.toList == [47] && n.f5 == 0
 else (zbl n.f0).2 == 0 && decide (ordL (p.getD (p.length - 1) z40).f0.data.toList n.f0.data.toList < 0) && match zbg p (zbl n.f0).1 with | some u => u.f5 == 0 | none => false
theorem j1_told (k : Nat) (p : List Full) (hp : p.length ≤ 64) (hpa : Apart p) (hps : ∀ m ∈ p, m.f0.size ≤ 102) (n : Full) (hn : n.f0.size ≤ 102) (b : Bool) (hk : 400 ≤ k) :
  ydh.j1 k (p.map zbf) b n.f0 n.f1 n.f2 n.f3 n.f4 n.f5 n.f6 = some (!b && tailR p n) := by
 obtain ⟨k, rfl⟩ : ∃ k', k = k' + 1 := ⟨k - 1, by omega⟩
 rw [ydh.j1, List.length_map]
 cases b with
 | true => rfl
 | false =>
  rw [if_neg (by simp), Bool.not_false, Bool.true_and]
  unfold tailR
  by_cases c0 : p = []
  ·subst c0
   rw [if_pos (by rfl), if_pos rfl]
   by_cases c1 : n.f0.toList = [47]
   ·rw [if_pos c1, c1]; rfl
   ·rw [if_neg c1, beq_eq_false_iff_ne.mpr c1]; rfl
  ·have hpos : 0 < p.length := List.length_pos_iff.2 c0
   have e : wrap64 ((p.length : Int) - 1) = ((p.length - 1 : Nat) : Int) := by unfold wrap64; omega
   have hlast : p.getD (p.length - 1) z40 = p[p.length - 1] := by rw [List.getD_eq_getElem?_getD, List.getElem?_eq_getElem (show p.length - 1 < p.length by omega)]; rfl
   rw [if_neg (by omega), if_neg c0, refParent_told k _ (by omega), e]
   simp only [Option.bind_some]
   have hls := hps _ (List.getElem_mem (show p.length - 1 < p.length by omega))
   rw [if_pos (by omega), if_pos (by omega), rdRef p (p.length - 1) (by omega), hlast]
   rw [show (zbf p[p.length - 1]).f0 = p[p.length - 1].f0 from rfl, refOrder_told k _ _ (by omega) (by omega) (by omega)]
   simp only [Option.bind_some]
   by_cases c1 : (zbl n.f0).2 = 0
   case neg => rw [if_neg c1, beq_eq_false_iff_ne.mpr c1]; rfl
   rw [if_pos c1, c1]
   by_cases c2 : ordL p[p.length - 1].f0.data.toList n.f0.data.toList < 0
   case neg => rw [if_pos (by omega), decide_eq_false c2]; simp
   rw [if_neg (by omega), decide_eq_true c2]
   obtain ⟨r, h1, h2⟩ := find_told p (by omega) (zbl n.f0).1 p.length k 0 (by omega) (by omega) (by omega)
   unfold ydy.f
   have e0 : ((0 : Nat) : Int) = 0 := rfl
   rw [e0] at h1
   rw [h1]
   simp only [Option.bind_some]
   rcases h2 with ⟨h2, h3⟩ | ⟨j, hj, h2, h3⟩
   ·have hnone : zbg p (zbl n.f0).1 = none := by
     cases hh : zbg p (zbl n.f0).1 with
     | none => rfl
     | some u =>
      obtain ⟨m1, m2⟩ := nodeAt_mem hh
      obtain ⟨j, hj, rfl⟩ := List.getElem_of_mem m1
      exact absurd m2 (h3 j hj (by omega))
    rw [if_neg (by omega), hnone]; rfl
   ·have hs : zbg p (zbl n.f0).1 = some p[j] := by rw [← h3]; exact nodeAt_of_mem hpa (List.getElem_mem hj)
    rw [if_pos (by omega), if_pos (by omega), if_pos (by omega), h2, rdRef p j hj, hs]
    simp [zbf]
theorem j0_true (k : Nat) (p : List Ref) (a0 a1 : ByteArray) (a2 a3 a4 a5 a6 : Int) : ydh.j0 (k + 1) p true a0 a1 a2 a3 a4 a5 a6 = some false := by rw [ydh.j0]; rfl
def boundsR (n : Full) : Bool :=
 decide (n.f1.size ≤ 64) && (decide (0 ≤ n.f2 ∧ n.f2 ≤ 2147483647) && (decide (0 ≤ n.f3 ∧ n.f3 ≤ 2147483647) && (decide (0 ≤ n.f4 ∧ n.f4 ≤ 2147483647) && (decide (0 ≤ n.f5 ∧ n.f5 ≤ 2147483647) && (decide (0 ≤ n.f6 ∧ n.f6 ≤ 100000) && !(decide (n.f5 > 0) && decide (n.f6 > 0)))))))
theorem parse_size {s : ByteArray} (h : (zaw s).2 = 0) : s.size ≤ 102 := by
 unfold zaw at h
 by_cases c1 : (s.size : Int) > 102
 ·rw [if_pos c1] at h; simp at h
 ·omega
theorem refFits_told (k : Nat) (p : List Full) (hp : p.length ≤ 64) (hpa : Apart p) (hps : ∀ m ∈ p, m.f0.size ≤ 102) (n : Full) (hk : 402 ≤ k) :
  ydh.f k (p.map zbf) n.f0 n.f1 n.f2 n.f3 n.f4 n.f5 n.f6 = some ((zaw n.f0).2 == 0 && (boundsR n && tailR p n)) := by
 obtain ⟨k, rfl⟩ : ∃ k', k = k' + 1 := ⟨k - 1, by omega⟩
 unfold ydh.f yed.f boundsR
 rw [refParse_told _ _ (by omega)]
 simp only [Option.bind_some, refIn_told]
 by_cases c0 : (zaw n.f0).2 = 0
 case neg => rw [beq_eq_false_iff_ne.mpr c0, if_neg (by simp), j0_true]; simp
 have hn := parse_size c0
 rw [c0, show ((0 : Int) == 0) = true from rfl, if_pos rfl]
 by_cases c1 : n.f1.size ≤ 64
 case neg => rw [if_pos (by omega), j0_true, decide_eq_false c1]; simp
 rw [if_neg (by omega), decide_eq_true c1]
 by_cases c2 : 0 ≤ n.f2 ∧ n.f2 ≤ 2147483647
 case neg => rw [decide_eq_false c2, if_neg (by simp), j0_true]; simp
 rw [decide_eq_true c2, if_pos rfl]
 by_cases c3 : 0 ≤ n.f3 ∧ n.f3 ≤ 2147483647
 case neg => rw [decide_eq_false c3, if_neg (by simp), j0_true]; simp
 rw [decide_eq_true c3, if_pos rfl, ydh.j0, refIn_told]
 by_cases c4 : 0 ≤ n.f4 ∧ n.f4 ≤ 2147483647
 case neg => rw [decide_eq_false c4]; simp
 rw [decide_eq_true c4, if_neg (by simp), refIn_told]
 simp only [Option.bind_some]
 by_cases c5 : 0 ≤ n.f5 ∧ n.f5 ≤ 2147483647
 case neg => rw [decide_eq_false c5, if_neg (by simp), j1_told k p hp hpa hps n hn true (by omega)]; simp
 rw [decide_eq_true c5, if_pos rfl]
 by_cases c6 : 0 ≤ n.f6 ∧ n.f6 ≤ 100000
 case neg => rw [decide_eq_false c6, if_neg (by simp), j1_told k p hp hpa hps n hn true (by omega)]; simp
 rw [decide_eq_true c6, if_pos rfl]
 by_cases c7 : n.f5 > 0
 ·rw [if_pos c7, j1_told k p hp hpa hps n hn _ (by omega), decide_eq_true c7]; simp
 ·rw [if_neg c7, j1_told k p hp hpa hps n hn _ (by omega), decide_eq_false c7]; simp
end Go.Proofs.YteamhfmpogbilaaGreatDoor.X
end
section
namespace Go.Proofs.YteamhfmpogbilaaGreatDoor.X
open Go.RowKit Go.Proofs.YteamhfmpogbilaaGreatDoor Go.Proofs.YteamhfmpogbilaaGreatDoorW.PrintWords Go.Proofs.YteamhfmpogbilaaGreatDoorW.PrintLast
theorem bounds_may (n : Full) : boundsR n = mayF n := by
 rw [mayF_eq]
 cases h : boundsR n with
 | true =>
  unfold boundsR at h
  simp only [Bool.and_eq_true, decide_eq_true_eq, Bool.not_eq_true', Bool.and_eq_false_iff, decide_eq_false_iff_not] at h
  obtain ⟨h1, h2, h3, h4, h5, h6, h7⟩ := h
  unfold maySpec
  rw [if_neg (by omega), if_neg (by omega), if_neg (by omega), if_neg (by omega), if_neg (by omega), if_neg (by omega), if_neg (by omega), if_neg (by omega), if_pos (by omega), if_pos (by omega), if_pos (by omega)]
  by_cases c : n.f5 = 0
  ·rw [if_pos c]
  ·rw [if_neg c, show n.f6 = 0 by omega]; rfl
 | false =>
  cases hm : maySpec n with
  | false => rfl
  | true =>
   have hb := may_be (n := n) (by rw [mayF_eq]; exact hm)
   obtain ⟨b2, b3, b4, b5, b1, b6⟩ := hb
   have h7 : ¬ (n.f5 > 0 ∧ n.f6 > 0) := by
    intro ⟨g1, g2⟩
    unfold maySpec at hm
    rw [if_neg (by omega), if_neg (by omega), if_neg (by omega), if_neg (by omega), if_neg (by omega), if_neg (by omega), if_neg (by omega), if_neg (by omega), if_pos (by omega), if_pos (by omega), if_pos (by omega), if_neg (by omega)] at hm
    have := beq_iff_eq.mp hm
    omega
   unfold boundsR at h
   rw [decide_eq_true b1, decide_eq_true b2, decide_eq_true b3, decide_eq_true b4, decide_eq_true b5, decide_eq_true b6] at h
   simp at h
   omega
def fitsR (p : List Full) (n : Full) : Bool := (zaw n.f0).2 == 0 && (boundsR n && tailR p n)
theorem parent_parse {s : ByteArray} (h : (zbl s).2 = 0) : (zaw s).2 = 0 := by
 unfold zbl at h
 by_cases c : (zaw s).2 = 0
 ·exact c
 ·rw [if_neg c] at h; exact absurd h c
theorem root_parse {s : ByteArray} (h : s.toList = [47]) : (zaw s).2 = 0 := by
 have hs : s.size = 1 := by rw [← bl, ← ByteArray.toList_eq, h]; rfl
 unfold zaw
 rw [if_neg (by omega), if_pos h]
theorem fits_first (q n : Full) : fitsR [] n = (zcr [] q n && (n.f0.toList == [47] && n.f5 == 0)) := by
 unfold fitsR tailR zcr
 rw [if_pos rfl, bounds_may]
 by_cases c : n.f0.toList = [47]
 ·rw [root_parse c]; simp
 ·rw [beq_eq_false_iff_ne.mpr c]; simp
theorem fits_later (p : List Full) (hp : p ≠ []) (n : Full) : fitsR p n = zcr p (p.getD (p.length - 1) z40) n := by
 obtain ⟨up, why, hup⟩ : ∃ up why, zdb n.f0 = (up, why) := ⟨_, _, rfl⟩
 have hup' := hup
 rw [parentF_eq] at hup'
 rw [fitsAt_up hp hup]
 unfold fitsR tailR
 rw [if_neg hp, bounds_may, hup']
 by_cases c : why = 0
 ·have : (zaw n.f0).2 = 0 := parent_parse (by rw [hup']; exact c)
  rw [this, c]
  cases zbg p up with
  | none => simp
  | some u => simp [Bool.and_comm, Bool.and_assoc, Bool.and_left_comm]
 ·rw [beq_eq_false_iff_ne.mpr c]; simp
def okL (l : List Full) : Prop := l ≠ [] ∧ rooted l ∧ fitsTo l l.length
theorem fitsTo_rising {l : List Full} {k : Nat} (hk : k ≤ l.length) (h : fitsTo l k) : Rising (l.take k) := by
 apply fits_rising
 rw [List.length_take, Nat.min_eq_left hk]
 intro j hj
 have := h j hj
 rw [List.take_take, Nat.min_eq_left (by omega)]
 have e : ∀ i, i < k → (l.take k).getD i z40 = l.getD i z40 := by
  intro i hi
  rw [List.getD_eq_getElem?_getD, List.getD_eq_getElem?_getD, List.getElem?_take_of_lt hi]
 rw [e j hj, e (j - 1) (by omega)]
 exact this
set_option maxRecDepth 100000 in
theorem refLoad_l0 (l : List Full) (hl : l.length ≤ 64) : ∀ (d k i : Nat), l.length - i ≤ d → i ≤ l.length → d + 403 ≤ k → fitsTo l i → (0 < i → rooted l) → (∀ m ∈ l.take i, m.f0.size ≤ 102) →
  ∃ r, ydv.l0 k (l.map zbf) ((l.take i).map zbf) (i : Int) = some r ∧ ((okL l ∧ (∀ m ∈ l, m.f0.size ≤ 102) ∧ r = (l.map zbf, 0)) ∨ (¬ okL l ∧ r = ([], 1)))
 | d, k, i, hd, hi, hk, hf, hroot, hs => by
  obtain ⟨k, rfl⟩ : ∃ k', k = k' + 1 := ⟨k - 1, by omega⟩
  rw [ydv.l0, List.length_map]
  by_cases c : i < l.length
  ·have e : wrap64 ((i : Int) + 1) = ((i + 1 : Nat) : Int) := by unfold wrap64; omega
   have hgi : l.getD i z40 = l[i] := by rw [List.getD_eq_getElem?_getD, List.getElem?_eq_getElem c]; rfl
   rw [if_pos (by omega), if_pos (by omega), rdRef l i c]
   rw [show (zbf l[i]).f0 = l[i].f0 from rfl, show (zbf l[i]).f1 = l[i].f1 from rfl, show (zbf l[i]).f2 = l[i].f2 from rfl, show (zbf l[i]).f3 = l[i].f3 from rfl, show (zbf l[i]).f4 = l[i].f4 from rfl, show (zbf l[i]).f5 = l[i].f5 from rfl, show (zbf l[i]).f6 = l[i].f6 from rfl]
   rw [refFits_told k (l.take i) (by rw [List.length_take]; omega) (fitsTo_rising hi hf).apart hs l[i] (by omega)]
   simp only [Option.bind_some]
   have key : ((zaw l[i].f0).2 == 0 && (boundsR l[i] && tailR (l.take i) l[i])) = true ↔ (zcr (l.take i) (l.getD (i - 1) z40) l[i] = true ∧ (i = 0 → rooted l)) := by
    show fitsR (l.take i) l[i] = true ↔ _
    by_cases c0 : i = 0
    ·subst c0
     rw [List.take_zero, fits_first (l.getD (0 - 1) z40), Bool.and_eq_true, Bool.and_eq_true]
     unfold rooted
     rw [hgi]
     simp
    ·have hne : l.take i ≠ [] := by
      intro h; have := congrArg List.length h; rw [List.length_take, List.length_nil] at this; omega
     rw [fits_later _ hne]
     have e2 : (l.take i).getD ((l.take i).length - 1) z40 = l.getD (i - 1) z40 := by
      rw [List.length_take, Nat.min_eq_left hi, List.getD_eq_getElem?_getD, List.getD_eq_getElem?_getD, List.getElem?_take_of_lt (by omega)]
     rw [e2]
     exact ⟨fun h => ⟨h, fun h0 => absurd h0 c0⟩, fun h => h.1⟩
   by_cases cf : ((zaw l[i].f0).2 == 0 && (boundsR l[i] && tailR (l.take i) l[i])) = true
   ·obtain ⟨k1, k2⟩ := key.1 cf
    rw [if_pos cf, if_pos (by simp; omega), e]
    have e3 : (l.take i).map zbf ++ [(⟨l[i].f0, l[i].f1, l[i].f2, l[i].f3, l[i].f4, l[i].f5, l[i].f6⟩ : Ref)] = (l.take (i + 1)).map zbf := by
     rw [List.take_succ_eq_append_getElem c, List.map_append]; rfl
    rw [e3]
    have hsz : l[i].f0.size ≤ 102 := by
     rw [Bool.and_eq_true] at cf
     exact parse_size (beq_iff_eq.mp cf.1)
    cases d with
    | zero => omega
    | succ d =>
     refine refLoad_l0 l hl d k (i + 1) (by omega) (by omega) (by omega) (fitsTo_succ hf hgi k1) (fun _ => ?_) (fun m hm => ?_)
     ·by_cases c0 : i = 0
      ·exact k2 c0
      ·exact hroot (by omega)
     ·rw [List.take_succ_eq_append_getElem c, List.mem_append] at hm
      rcases hm with hm | hm
      ·exact hs m hm
      ·simp at hm; rw [hm]; exact hsz
   ·refine ⟨_, by rw [if_neg cf], .inr ⟨fun h => cf (key.2 ⟨by have := h.2.2 i c; rwa [hgi] at this, fun _ => h.2.1⟩), rfl⟩⟩
  ·have : i = l.length := by omega
   subst this
   rw [List.take_of_length_le (Nat.le_refl _)] at hs ⊢
   rw [if_neg (by omega), List.length_map]
   by_cases c0 : l = []
   ·refine ⟨_, by rw [if_pos (by rw [c0]; rfl)], .inr ⟨fun h => h.1 c0, rfl⟩⟩
   ·have hpos := List.length_pos_iff.2 c0
    exact ⟨_, by rw [if_neg (by omega)], .inl ⟨⟨c0, hroot hpos, hf⟩, hs, rfl⟩⟩
theorem refLoad_told (l : List Full) (k : Nat) (hk : 500 ≤ k) : ∃ r, ydv.f k (l.map zbf) = some r ∧
  ((¬ l.length ≤ 64 ∧ r = ([], 2)) ∨ (l.length ≤ 64 ∧ okL l ∧ (∀ m ∈ l, m.f0.size ≤ 102) ∧ r = (l.map zbf, 0)) ∨ (l.length ≤ 64 ∧ ¬ okL l ∧ r = ([], 1))) := by
 unfold ydv.f
 rw [List.length_map]
 by_cases c : l.length ≤ 64
 ·rw [if_neg (by omega)]
  obtain ⟨r, h1, h2⟩ := refLoad_l0 l c l.length k 0 (by omega) (by omega) (by omega) (fun j hj => absurd hj (by omega)) (fun h => absurd h (by omega)) (fun m hm => by simp at hm)
  refine ⟨r, by simpa using h1, ?_⟩
  rcases h2 with ⟨h2, h3, h4⟩ | ⟨h2, h3⟩
  ·exact .inr (.inl ⟨c, h2, h3, h4⟩)
  ·exact .inr (.inr ⟨c, h2, h3⟩)
 ·exact ⟨_, by rw [if_pos (by omega)], .inl ⟨c, rfl⟩⟩
end Go.Proofs.YteamhfmpogbilaaGreatDoor.X
end
section
namespace Go.Proofs.YteamhfmpogbilaaGreatDoor.X
open Go.RowKit Go.Proofs.YteamhfmpogbilaaGreatDoor Go.Proofs.YteamhfmpogbilaaGreatDoorW.PrintWords Go.Proofs.YteamhfmpogbilaaGreatDoorW.PrintLast
def nums (l : List UInt8) : List Int := l.map fun c => (c.toNat : Int)
theorem nums_app (a b : List UInt8) : nums (a ++ b) = nums a ++ nums b := List.map_append
theorem nums_len (a : List UInt8) : (nums a).length = a.length := List.length_map ..
theorem str_nums (l : List UInt8) : strOfNums (nums l) = mk l := by
 unfold strOfNums nums mk
 congr 1
 rw [List.map_map]
 congr 1
 apply List.ext_getElem
 ·simp
 ·intro i h1 h2; simp
end Go.Proofs.YteamhfmpogbilaaGreatDoor.X
end
section
namespace Go.Proofs.YteamhfmpogbilaaGreatDoor.X
open Go.RowKit Go.Proofs.YteamhfmpogbilaaGreatDoor Go.Proofs.YteamhfmpogbilaaGreatDoorW.PrintWords Go.Proofs.YteamhfmpogbilaaGreatDoorW.PrintLast
def namesR : List ByteArray := [⟨#[100, 97, 116, 97]⟩, ⟨#[118, 101, 114, 115, 105, 111, 110]⟩, ⟨#[109, 97, 100, 101]⟩, ⟨#[99, 104, 97, 110, 103, 101, 100]⟩, ⟨#[111, 119, 110, 101, 114]⟩, ⟨#[99, 111, 117, 110, 116, 101, 114]⟩]
end Go.Proofs.YteamhfmpogbilaaGreatDoor.X
end
section
namespace Go.Proofs.YteamhfmpogbilaaGreatDoor.X
open Go.RowKit Go.Proofs.YteamhfmpogbilaaGreatDoor Go.Proofs.YteamhfmpogbilaaGreatDoorW.PrintWords Go.Proofs.YteamhfmpogbilaaGreatDoorW.PrintLast
theorem rdRefs (xs : List Ref) (j : Nat) (h : j < xs.length) : zam xs (j : Int) = xs[j] := by
 unfold zam; simp [List.getD, h]
theorem refNodes_l0 (xs : List Ref) (hl : xs.length ≤ 1000000) : ∀ (d k i : Nat), xs.length - i ≤ d → i ≤ xs.length → d + 1 ≤ k →
  ydz.l0 k (xs.take i) (i : Int) xs = some xs
 | d, k, i, hd, hi, hk => by
  obtain ⟨k, rfl⟩ : ∃ k', k = k' + 1 := ⟨k - 1, by omega⟩
  rw [ydz.l0]
  by_cases c : i < xs.length
  ·have e : wrap64 ((i : Int) + 1) = ((i + 1 : Nat) : Int) := by unfold wrap64; omega
   have hlt : (xs.take i).length ≤ i := List.length_take_le _ _
   rw [if_pos (by omega), if_pos (by omega), if_pos (by omega), rdRefs xs i c, e]
   cases d with
   | zero => omega
   | succ d =>
    have := refNodes_l0 xs hl d k (i + 1) (by omega) (by omega) (by omega)
    rw [List.take_succ_eq_append_getElem c] at this
    exact this
  ·have : i = xs.length := by omega
   subst this
   rw [if_neg (by omega), List.take_of_length_le (Nat.le_refl _)]
theorem refNodes_told (k : Nat) (xs : List Ref) (hl : xs.length ≤ 1000000) (hk : xs.length + 1 ≤ k) : ydz.f k xs = some xs := by
 unfold ydz.f
 have := refNodes_l0 xs hl xs.length k 0 (by omega) (by omega) hk
 simpa using this
theorem written_bound : ∀ (l : List Full), (∀ n ∈ l, ranged n ∧ n.f0.size ≤ 102 ∧ n.f1.size ≤ 64) → (zbm l).length ≤ 12 + 600 * l.length
 | [], _ => by show (12 : Nat) ≤ _; omega
 | n :: l, h => by
  have ih := written_bound l fun m hm => h m (List.mem_cons_of_mem _ hm)
  obtain ⟨h1, h2, h3⟩ := h n List.mem_cons_self
  have := lineB_size n h1 5 (Nat.le_refl _)
  unfold zbm at ih ⊢
  simp only [List.flatMap_cons, List.length_append, bl, List.length_cons, List.length_nil] at ih ⊢
  omega
theorem okL_nice {l : List Full} (h : okL l) (hs : ∀ m ∈ l, m.f0.size ≤ 102) : ∀ n ∈ l, ranged n ∧ n.f0.size ≤ 102 ∧ n.f1.size ≤ 64 := by
 intro n hn
 obtain ⟨j, hj, rfl⟩ := List.getElem_of_mem hn
 have hm := may_be (fits_may h.2.2 hj)
 exact ⟨hm.ranged, hs _ hn, hm.a1⟩
end Go.Proofs.YteamhfmpogbilaaGreatDoor.X
end
