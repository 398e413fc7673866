/- Printed by a tool of the kit for this seat; cut to what the claim uses. -/
import Derived.Test.YteamhfmpogbilaaGreatDoorRdP
set_option linter.unusedVariables false
set_option linter.unusedSimpArgs false
section
namespace Go.Proofs.YteamhfmpogbilaaGreatDoor.X
open Go.RowKit Go.Proofs.YteamhfmpogbilaaGreatDoor Go.Proofs.YteamhfmpogbilaaGreatDoorW.PrintWords Go.Proofs.YteamhfmpogbilaaGreatDoorW.PrintLast
theorem refHex_same (k : Nat) (x : Int) : ydk.f (k + 1) x = ydk.f 1 x := by
 unfold ydk.f
 rw [show ∀ b, ydk.j0 (k + 1) x b = ydk.j0 1 x b from fun b => by rw [ydk.j0, ydk.j0]]
 rw [show ∀ b, ydk.j0 (k + 1) x b = ydk.j0 1 x b from fun b => by rw [ydk.j0, ydk.j0]]
theorem refHex_all : ∀ n : Fin 256, ydk.f 1 (n.1 : Int) = some (hexV (UInt8.ofNat n.1)) := by decide +kernel
theorem refHex_told (k : Nat) (c : UInt8) (hk : 1 ≤ k) : ydk.f k (c.toNat : Int) = some (hexV c) := by
 obtain ⟨k, rfl⟩ : ∃ k', k = k' + 1 := ⟨k - 1, by omega⟩
 rw [refHex_same]
 have := refHex_all ⟨c.toNat, c.toNat_lt⟩
 simpa using this
theorem zdd (s : ByteArray) (i : Nat) (h : i < s.size) : s.data.toList.drop i = s[i] :: s.data.toList.drop (i + 1) := by
 rw [List.drop_eq_getElem_cons (l := s.data.toList) (i := i) (by rw [bl]; exact h)]; rfl
theorem drop_end (s : ByteArray) (i : Nat) (h : s.size ≤ i) : s.data.toList.drop i = [] := List.drop_eq_nil_of_le (by rw [bl]; exact h)
theorem nat_eq8 {c : UInt8} {n : Nat} (h : c.toNat = n) (hn : n < 256) : c = UInt8.ofNat n := by rw [← h]; simp
def QuoteE (s : ByteArray) (out : List UInt8) (r : Option (List UInt8 × List UInt8)) : ByteArray × Int := match r with
 | some (b, t) => (mk (out ++ b), ((s.size - t.length : Nat) : Int))
 | none => (⟨#[]⟩, -1)
theorem QuoteE_map (s : ByteArray) (out : List UInt8) (v : UInt8) (r : Option (List UInt8 × List UInt8)) : QuoteE s (out ++ [v]) r = QuoteE s out (r.map fun p => (v :: p.1, p.2)) := by
 cases r with
 | none => rfl
 | some p => unfold QuoteE; simp
theorem hex_byte (a b : UInt8) (ha : 0 ≤ hexV a) (hb : 0 ≤ hexV b) : (wrap64 ((wrap64 (16 * hexV a)) + hexV b)) % 256 = ((UInt8.ofNat (hexV a * 16 + hexV b).toNat).toNat : Int) := by
 have h1 := hexV_bd a
 have h2 := hexV_bd b
 rw [UInt8.toNat_ofNat']
 have e1 : wrap64 (16 * hexV a) = 16 * hexV a := by unfold wrap64; omega
 rw [e1]
 have e2 : wrap64 (16 * hexV a + hexV b) = 16 * hexV a + hexV b := by unfold wrap64; omega
 rw [e2]
 omega
theorem q_a1 {a i d : Nat} (h : a - i ≤ d + 1) : a - (i + 4) ≤ d - 3 := by omega
theorem q_a2 {a i : Nat} (h : i + 3 < a) : i + 4 ≤ a := h
theorem q_a3 {a i d k : Nat} (h : a - i ≤ d + 1) (hi : i + 3 < a) (hk : 4 * (d + 1) + 6 ≤ k + 1 + 1 + 1 + 1) : 4 * (d - 3) + 6 ≤ k := by omega
theorem q_a4 {n d : Nat} (h : n + (d + 1) ≤ 10000000) : n + 1 + (d - 3) ≤ 10000000 := by omega
theorem q_lt {i n : Nat} (h : i < n) : (i : Int) < (n : Int) := Int.ofNat_lt.mpr h
theorem q_ge (i : Nat) : (0 : Int) ≤ (i : Int) := Int.natCast_nonneg i
set_option maxHeartbeats 1000000 in
theorem refQuote_l0 (s : ByteArray) (hs : s.size ≤ 1000000) : ∀ (d k i : Nat) (out : List UInt8), s.size - i ≤ d → i ≤ s.size → 4 * d + 6 ≤ k → out.length + d ≤ 10000000 →
  ydf.l0 k s (nums out) (i : Int) = some (QuoteE s out (unqR (s.data.toList.drop i)))
 | d, k, i, out, hd, hi, hk, ho => by
  obtain ⟨k, rfl⟩ : ∃ k', k = k' + 1 := ⟨k - 1, by omega⟩
  rw [ydf.l0]
  by_cases c : i < s.size
  case neg =>
   rw [if_neg (by omega), drop_end s i (by omega), unqR_nil]; rfl
  have e1 : wrap64 ((i : Int) + 1) = ((i + 1 : Nat) : Int) := by unfold wrap64; omega
  have e2 : wrap64 ((i : Int) + 2) = ((i + 2 : Nat) : Int) := by unfold wrap64; omega
  have e3 : wrap64 ((i : Int) + 3) = ((i + 3 : Nat) : Int) := by unfold wrap64; omega
  have hv := s[i].toNat_lt
  have hnl : (nums out).length < 140737488355328 := by rw [nums_len]; omega
  rw [if_pos (by omega), if_pos (by omega), zcs s i c, e1, zdd s i c]
  by_cases h34 : s[i].toNat = 34
  ·rw [if_pos (by omega), nat_eq8 h34 (by omega), show UInt8.ofNat 34 = (34 : UInt8) from rfl, unqR_end, str_nums]
   unfold QuoteE
   simp only [List.append_nil, List.length_drop, bl]
   rw [show s.size - (s.size - (i + 1)) = i + 1 by omega]
  have n34 : s[i] ≠ 34 := fun e => h34 (by rw [e]; rfl)
  have ej : ∀ b, ydf.j1 k s (nums out) (i : Int) (s[i].toNat : Int) b = ydf.j1 k s (nums out) (i : Int) (s[i].toNat : Int) b := fun _ => rfl
  rw [if_neg (by omega)]
  obtain ⟨k, rfl⟩ : ∃ k', k = k' + 1 := ⟨k - 1, by omega⟩
  by_cases hr : s[i].toNat < 32 ∨ 126 < s[i].toNat
  ·rw [unqR_bad n34 hr]
   rcases hr with hr | hr
   ·rw [if_pos (by omega), ydf.j1, if_pos rfl]; rfl
   ·rw [if_neg (by omega), decide_eq_true (by omega), ydf.j1, if_pos rfl]; rfl
  rw [if_neg (by omega), decide_eq_false (by omega), ydf.j1, if_neg (by simp), e1]
  cases d with
  | zero => omega
  | succ d =>
   by_cases h92 : s[i].toNat = 92
   case neg =>
    have n92 : s[i] ≠ 92 := fun e => h92 (by rw [e]; rfl)
    rw [if_neg (by omega), if_pos (by rw [nums_len]; omega), unqR_plain hr n34 n92, ← QuoteE_map]
    have := refQuote_l0 s hs d k (i + 1) (out ++ [s[i]]) (by omega) (by omega) (by omega) (by simp; omega)
    rw [nums_app] at this
    exact this
   rw [if_pos (by omega), nat_eq8 h92 (by omega), show UInt8.ofNat 92 = (92 : UInt8) from rfl]
   obtain ⟨k, rfl⟩ : ∃ k', k = k' + 1 := ⟨k - 1, by omega⟩
   have hbad : signL (s.data.toList.drop (i + 1)) = none → ydf.j3 k s (nums out) (i : Int) false = some (QuoteE s out (unqR (92 :: s.data.toList.drop (i + 1)))) := by
    intro h
    obtain ⟨k, rfl⟩ : ∃ k', k = k' + 1 := ⟨k - 1, by omega⟩
    rw [ydf.j3, if_neg (by simp), unqR_nosign h]; rfl
   by_cases c1 : i + 1 < s.size
   case neg =>
    rw [if_neg (by omega), ydf.j2, if_neg (by simp), e3, if_neg (by omega)]
    exact hbad (by rw [drop_end s (i + 1) (by omega)]; rfl)
   rw [if_pos (by omega), if_pos (by omega), zcs s (i + 1) c1]
   have hd1 := zdd s (i + 1) c1
   by_cases g : s[i + 1].toNat = 34 ∨ s[i + 1].toNat = 92
   ·have g' : s[i + 1] = 34 ∨ s[i + 1] = 92 := by
     rcases g with g | g
     ·exact .inl (UInt8.toNat_inj.mp g)
     ·exact .inr (UInt8.toNat_inj.mp g)
    have hj : (if (s[i + 1].toNat : Int) = 34 then ydf.j2 (k + 1) s (nums out) (i : Int) true else ydf.j2 (k + 1) s (nums out) (i : Int) ((s[i + 1].toNat : Int) == 92)) = ydf.j2 (k + 1) s (nums out) (i : Int) true := by
     rcases g with g | g
     ·rw [if_pos (by omega)]
     ·rw [if_neg (by omega), show ((s[i + 1].toNat : Int) == 92) = true from by rw [g]; rfl]
    have e11 : wrap64 (((i + 1 : Nat) : Int) + 1) = ((i + 2 : Nat) : Int) := by unfold wrap64; omega
    rw [hj, ydf.j2, if_pos rfl, e1, if_pos (q_ge _), if_pos (q_lt c1), if_pos hnl, zcs s (i + 1) c1, e11]
    have hsg : signL (s.data.toList.drop (i + 1)) = some (s[i + 1], 1) := by rw [hd1]; exact signL_self g'
    rw [unqR_sign hsg, ← QuoteE_map, List.drop_drop]
    cases d with
    | zero => omega
    | succ d =>
     have := refQuote_l0 s hs d k (i + 2) (out ++ [s[i + 1]]) (by omega) (by omega) (by omega) (by simp; omega)
     rw [nums_app] at this
     exact this
   ·have hj : (if (s[i + 1].toNat : Int) = 34 then ydf.j2 (k + 1) s (nums out) (i : Int) true else ydf.j2 (k + 1) s (nums out) (i : Int) ((s[i + 1].toNat : Int) == 92)) = ydf.j2 (k + 1) s (nums out) (i : Int) false := by
     rw [if_neg (by omega), show ((s[i + 1].toNat : Int) == 92) = false from beq_eq_false_iff_ne.mpr (by omega)]
    have g' : ¬ (s[i + 1] = 34 ∨ s[i + 1] = 92) := by
     intro h
     rcases h with h | h
     ·exact g (.inl (by rw [h]; rfl))
     ·exact g (.inr (by rw [h]; rfl))
    rw [hj, ydf.j2, if_neg (by simp), e3, e2, e1]
    by_cases c120 : s[i + 1].toNat = 120
    case neg =>
     have n120 : s[i + 1] ≠ 120 := fun e => c120 (by rw [e]; rfl)
     have hb := hbad (by rw [hd1]; exact signL_other g' n120)
     by_cases c3 : i + 3 < s.size
     ·rw [if_pos (by omega), if_pos (by omega), if_pos (by omega), zcs s (i + 1) c1, if_neg (by omega)]
      exact hb
     ·rw [if_neg (by omega)]; exact hb
    have i120 : s[i + 1] = 120 := UInt8.toNat_inj.mp c120
    by_cases c3 : i + 3 < s.size
    case neg =>
     rw [if_neg (by omega)]
     refine hbad ?_
     rw [hd1, i120]
     by_cases c2 : i + 2 < s.size
     ·rw [zdd s (i + 1 + 1) c2, drop_end s (i + 1 + 1 + 1) (by omega)]; exact signL_one
     ·rw [drop_end s (i + 1 + 1) (by omega)]; exact signL_zero
    have c2 : i + 2 < s.size := by omega
    have hd2 := zdd s (i + 2) c2
    have hd3 := zdd s (i + 3) c3
    rw [if_pos (by omega), if_pos (by omega), if_pos (by omega), zcs s (i + 1) c1, if_pos (by omega), if_pos (by omega), if_pos (by omega), zcs s (i + 2) c2, refHex_told k _ (by omega)]
    simp only [Option.bind_some]
    have hall : s.data.toList.drop (i + 1) = 120 :: s[i + 2] :: s[i + 3] :: s.data.toList.drop (i + 4) := by
     rw [hd1, i120, hd2, hd3]
    by_cases ha : 0 ≤ hexV s[i + 2]
    case neg =>
     rw [if_neg (by omega)]
     exact hbad (by rw [hall]; exact signL_nohex fun h => ha h.1)
    rw [if_pos (by omega), if_pos (by omega), zcs s (i + 3) c3, refHex_told k _ (by omega)]
    simp only [Option.bind_some]
    by_cases hb : 0 ≤ hexV s[i + 3]
    case neg =>
     rw [decide_eq_false (by omega)]
     exact hbad (by rw [hall]; exact signL_nohex fun h => hb h.2)
    rw [decide_eq_true (by omega)]
    obtain ⟨k, rfl⟩ : ∃ k', k = k' + 1 := ⟨k - 1, by omega⟩
    rw [ydf.j3, if_pos rfl, e2, e3, if_pos (by omega), if_pos (by omega), zcs s (i + 2) c2, refHex_told k _ (by omega)]
    simp only [Option.bind_some]
    rw [if_pos (by omega), if_pos (by omega), zcs s (i + 3) c3, refHex_told k _ (by omega)]
    simp only [Option.bind_some]
    have e31 : wrap64 (((i + 3 : Nat) : Int) + 1) = ((i + 4 : Nat) : Int) := by unfold wrap64; omega
    rw [if_pos hnl, e31, hex_byte _ _ ha hb]
    have hsg : signL (s.data.toList.drop (i + 1)) = some (UInt8.ofNat (hexV s[i + 2] * 16 + hexV s[i + 3]).toNat, 3) := by rw [hall]; exact signL_hex ⟨ha, hb⟩
    rw [unqR_sign hsg, ← QuoteE_map, List.drop_drop]
    have := refQuote_l0 s hs (d - 3) k (i + 4) (out ++ [UInt8.ofNat (hexV s[i + 2] * 16 + hexV s[i + 3]).toNat]) (q_a1 hd) (q_a2 c3) (q_a3 hd c3 hk) (by rw [List.length_append]; exact q_a4 ho)
    rw [nums_app] at this
    exact this
termination_by d => d
theorem refQuote_told (k : Nat) (s : ByteArray) (hs : s.size ≤ 1000000) (i : Nat) (hi : i < s.size) (hk : 4 * s.size + 6 ≤ k) : ydf.f k s (i : Int) = some (QuoteE s [] (unqR (s.data.toList.drop (i + 1)))) := by
 unfold ydf.f
 have e1 : wrap64 ((i : Int) + 1) = ((i + 1 : Nat) : Int) := by unfold wrap64; omega
 rw [e1]
 exact refQuote_l0 s hs s.size k (i + 1) [] (by omega) (by omega) hk (by simp; omega)
end Go.Proofs.YteamhfmpogbilaaGreatDoor.X
end
section
namespace Go.Proofs.YteamhfmpogbilaaGreatDoor.X
open Go.RowKit Go.Proofs.YteamhfmpogbilaaGreatDoor Go.Proofs.YteamhfmpogbilaaGreatDoorW.PrintWords Go.Proofs.YteamhfmpogbilaaGreatDoorW.PrintLast
abbrev RWd := S73
def toRW (u : Wd) : RWd := ⟨u.f0, u.f1⟩
theorem blank_iff (c : UInt8) : zbk c = true ↔ c.toNat = 32 ∨ c.toNat = 9 := by
 unfold zbk
 rw [Bool.or_eq_true, beq_iff_eq, beq_iff_eq]
 constructor
 ·rintro (rfl | rfl)
  ·exact .inl rfl
  ·exact .inr rfl
 ·rintro (h | h)
  ·exact .inl (UInt8.toNat_inj.mp h)
  ·exact .inr (UInt8.toNat_inj.mp h)
theorem refBlank_told (c : UInt8) : yek.f (c.toNat : Int) = some (zbk c) := by
 unfold yek.f
 by_cases h : c.toNat = 32
 ·rw [if_pos (by omega), (blank_iff c).mpr (.inl h)]
 ·rw [if_neg (by omega)]
  by_cases g : c.toNat = 9
  ·rw [(blank_iff c).mpr (.inr g), show ((c.toNat : Int) == 9) = true from beq_iff_eq.mpr (by omega)]
  ·rw [show ((c.toNat : Int) == 9) = false from beq_eq_false_iff_ne.mpr (by omega)]
   have : zbk c = false := by
    cases hb : zbk c with
    | false => rfl
    | true => exact absurd ((blank_iff c).mp hb) (by omega)
   rw [this]
def zcp (s : ByteArray) (i : Nat) : Nat := i + ((s.data.toList.drop i).takeWhile zbz).length
theorem wordEnd_le (s : ByteArray) (i : Nat) (h : i ≤ s.size) : i ≤ zcp s i ∧ zcp s i ≤ s.size := by
 unfold zcp
 have := (List.takeWhile_prefix zbz (l := s.data.toList.drop i)).length_le
 rw [List.length_drop, bl] at this
 omega
theorem wordEnd_step {s : ByteArray} {i : Nat} (h : i < s.size) (hb : zbk s[i] = false) : zcp s i = zcp s (i + 1) := by
 unfold zcp
 rw [zdd s i h, List.takeWhile_cons, if_pos (by unfold zbz; rw [hb]; rfl), List.length_cons]; omega
theorem wordEnd_stop {s : ByteArray} {i : Nat} (h : i < s.size) (hb : zbk s[i] = true) : zcp s i = i := by
 unfold zcp
 rw [zdd s i h, List.takeWhile_cons, if_neg (by unfold zbz; rw [hb]; simp)]; rfl
theorem wordEnd_end {s : ByteArray} {i : Nat} (h : s.size ≤ i) : zcp s i = i := by
 unfold zcp; rw [drop_end s i h]; rfl
theorem refCut_l1 (s : ByteArray) (hs : s.size ≤ 1000000) (acc : List RWd) (ha : acc.length ≤ 10000000) (a : Nat) : ∀ (d k i : Nat), s.size - i ≤ d → a ≤ i → i ≤ s.size → d + 1 ≤ k →
  ∃ k', k ≤ k' + (zcp s i - i) + 1 ∧ ydj.l1 k s acc (i : Int) (a : Int) = ydj.l0 k' s (acc ++ [⟨s.extract a (zcp s i), false⟩]) ((zcp s i : Nat) : Int)
 | d, k, i, hd, hai, hi, hk => by
  obtain ⟨k, rfl⟩ : ∃ k', k = k' + 1 := ⟨k - 1, by omega⟩
  rw [ydj.l1]
  by_cases c : i < s.size
  case neg =>
   refine ⟨k, by omega, ?_⟩
   rw [if_neg (by omega), if_pos (by omega), if_pos (by omega), if_pos (by omega), if_pos (by omega), Int.toNat_natCast, Int.toNat_natCast, wordEnd_end (by omega)]
  rw [if_pos (by omega), if_pos (by omega), zcs s i c]
  by_cases hb : zbk s[i] = true
  ·refine ⟨k, by omega, ?_⟩
   rw [wordEnd_stop c hb]
   rcases (blank_iff _).mp hb with h | h
   ·rw [if_pos (by omega), if_pos (by omega), if_pos (by omega), if_pos (by omega), if_pos (by omega), Int.toNat_natCast, Int.toNat_natCast]
   ·rw [if_neg (by omega), if_pos (by omega), if_pos (by omega), if_pos (by omega), if_pos (by omega), if_pos (by omega), Int.toNat_natCast, Int.toNat_natCast]
  ·have hb' : zbk s[i] = false := by simpa using hb
   have hn : ¬ (s[i].toNat = 32 ∨ s[i].toNat = 9) := fun h => hb ((blank_iff _).mpr h)
   have e : wrap64 ((i : Int) + 1) = ((i + 1 : Nat) : Int) := by unfold wrap64; omega
   rw [if_neg (by omega), if_neg (by omega), e, wordEnd_step c hb']
   cases d with
   | zero => omega
   | succ d =>
    obtain ⟨k', h1, h2⟩ := refCut_l1 s hs acc ha a d k (i + 1) (by omega) (by omega) (by omega) (by omega)
    have hw := wordEnd_le s (i + 1) (by omega)
    exact ⟨k', by omega, h2⟩
def RCutE (acc : List RWd) (r : Option (List Wd)) : List RWd × Bool := match r with
 | some ws => (acc ++ ws.map toRW, true)
 | none => ([], false)
theorem RCutE_map (acc : List RWd) (u : Wd) (r : Option (List Wd)) : RCutE (acc ++ [toRW u]) r = RCutE acc (r.map fun ws => u :: ws) := by
 cases r with
 | none => rfl
 | some ws => unfold RCutE; simp
theorem take_of_takeWhile (s : ByteArray) (i : Nat) (h : i ≤ s.size) : (s.extract i (zcp s i)).data.toList = (s.data.toList.drop i).takeWhile zbz ∧ s.data.toList.drop (zcp s i) = (s.data.toList.drop i).dropWhile zbz := by
 have h1 := List.takeWhile_append_dropWhile (p := zbz) (l := s.data.toList.drop i)
 have h2 : ∀ (x y : List UInt8), (x ++ y).take x.length = x ∧ (x ++ y).drop x.length = y := fun x y => ⟨by simp, by simp⟩
 obtain ⟨g1, g2⟩ := h2 ((s.data.toList.drop i).takeWhile zbz) ((s.data.toList.drop i).dropWhile zbz)
 rw [h1] at g1 g2
 rw [zdc]
 unfold zcp
 constructor
 ·rw [← List.take_drop]; exact g1
 ·rw [List.drop_drop] at g2; exact g2
set_option maxHeartbeats 1000000 in
theorem refCut_l0 (s : ByteArray) (hs : s.size ≤ 1000000) : ∀ (d k i : Nat) (acc : List RWd), s.size - i ≤ d → i ≤ s.size → 5 * d + 4 * s.size + 20 ≤ k → acc.length + d ≤ 1000000 →
  ydj.l0 k s acc (i : Int) = some (RCutE acc (cutL (s.data.toList.drop i)))
 | d, k, i, acc, hd, hi, hk, ha => by
  obtain ⟨k, rfl⟩ : ∃ k', k = k' + 1 + 1 := ⟨k - 2, by omega⟩
  rw [ydj.l0]
  by_cases c : i < s.size
  case neg =>
   rw [if_neg (by omega), drop_end s i (by omega), cutL_nil]; simp [RCutE]
  have e : wrap64 ((i : Int) + 1) = ((i + 1 : Nat) : Int) := by unfold wrap64; omega
  rw [if_pos (by omega), if_pos (by omega), zcs s i c, zdd s i c]
  cases d with
  | zero => omega
  | succ d =>
   by_cases hb : zbk s[i] = true
   ·have hj : (if (s[i].toNat : Int) = 32 then ydj.j1 (k + 1) s acc (i : Int) true else ydj.j1 (k + 1) s acc (i : Int) ((s[i].toNat : Int) == 9)) = ydj.j1 (k + 1) s acc (i : Int) true := by
     rcases (blank_iff _).mp hb with h | h
     ·rw [if_pos (by omega)]
     ·rw [if_neg (by omega), show ((s[i].toNat : Int) == 9) = true from beq_iff_eq.mpr (by omega)]
    rw [hj, ydj.j1, if_pos rfl, e, cutL_blank hb]
    exact refCut_l0 s hs d k (i + 1) acc (by omega) (by omega) (by omega) (by omega)
   ·have hb' : zbk s[i] = false := by simpa using hb
    have hn : ¬ (s[i].toNat = 32 ∨ s[i].toNat = 9) := fun h => hb ((blank_iff _).mpr h)
    rw [if_neg (by omega), show ((s[i].toNat : Int) == 9) = false from beq_eq_false_iff_ne.mpr (by omega), ydj.j1, if_neg (by simp), if_pos (by omega), if_pos (by omega), zcs s i c]
    by_cases h35 : s[i].toNat = 35
    ·rw [if_pos (by omega), cutL_hash (UInt8.toNat_inj.mp h35)]; simp [RCutE]
    have n35 : s[i] ≠ 35 := fun e => h35 (by rw [e]; rfl)
    rw [if_neg (by omega)]
    by_cases h34 : s[i].toNat = 34
    ·have e34 : s[i] = 34 := UInt8.toNat_inj.mp h34
     rw [if_pos (by omega), refQuote_told _ s hs i c (by omega), e34]
     simp only [Option.bind_some]
     have hask := unq_ask _ (s.data.toList.drop (i + 1)) (Nat.le_refl _)
     cases hq : unqR (s.data.toList.drop (i + 1)) with
     | none =>
      rw [hq] at hask
      rw [cutL_noquote hask]
      show (if (-1 : Int) < 0 then _ else _) = _
      rw [if_pos (by omega)]; rfl
     | some p =>
      obtain ⟨b, r⟩ := p
      obtain ⟨h1, h2, h3⟩ := unqR_suffix _ _ (Nat.le_refl _) b r hq
      rw [List.length_drop, bl] at h2
      rw [hq, Option.bind_some] at hask
      unfold askEnd at hask
      simp only [] at hask
      have hr : s.data.toList.drop (s.size - r.length) = r := by
       obtain ⟨y, hy⟩ := h1
       have hl := congrArg List.length hy
       rw [List.length_append, List.length_drop, bl] at hl
       have : s.data.toList.drop (i + 1 + y.length) = r := by
        rw [← List.drop_drop, ← hy]; simp
       have e : s.size - r.length = i + 1 + y.length := by omega
       rw [e]; exact this
      show (if ((s.size - r.length : Nat) : Int) < 0 then _ else _) = _
      rw [if_neg (by omega)]
      unfold QuoteE
      simp only [List.nil_append]
      have next : endsB r = true → (if acc.length < 5864062014805 then ydj.l0 k s (acc ++ [(⟨mk b, true⟩ : RWd)]) ((s.size - r.length : Nat) : Int) else none) = some (RCutE acc (cutL (34 :: s.data.toList.drop (i + 1)))) := by
       intro he
       rw [if_pos he] at hask
       rw [if_pos (by omega), cutL_quote hask, ← RCutE_map]
       have := refCut_l0 s hs d k (s.size - r.length) (acc ++ [⟨mk b, true⟩]) (by omega) (by omega) (by omega) (by simp; omega)
       rw [hr] at this
       exact this
      by_cases hlt : s.size - r.length < s.size
      ·have hd2 := zdd s (s.size - r.length) hlt
       rw [hr] at hd2
       rw [if_pos (by omega), if_pos (by omega), zcs s _ hlt, refBlank_told]
       simp only [Option.bind_some]
       by_cases hbl : zbk s[s.size - r.length] = true
       ·rw [if_pos hbl]
        exact next (by rw [hd2]; exact hbl)
       ·rw [if_neg hbl]
        have : endsB r = false := by rw [hd2]; show zbk s[s.size - r.length] = false; simpa using hbl
        rw [this, if_neg (by simp)] at hask
        rw [cutL_noquote hask]; rfl
      ·rw [if_neg (by omega)]
       have hr0 : r = [] := List.length_eq_zero_iff.mp (by omega)
       exact next (by rw [hr0]; rfl)
    ·have n34 : s[i] ≠ 34 := fun e => h34 (by rw [e]; rfl)
     rw [if_neg (by omega), cutL_word hb' n35 n34]
     obtain ⟨k', hk', h⟩ := refCut_l1 s hs acc (by omega) i (s.size - i) k i (by omega) (Nat.le_refl _) (by omega) (by omega)
     obtain ⟨w1, w2⟩ := wordEnd_le s (i + 1) (by omega)
     obtain ⟨t1, t2⟩ := take_of_takeWhile s i (by omega)
     rw [zdd s i c, List.takeWhile_cons, if_pos (by unfold zbz; rw [hb']; rfl)] at t1
     rw [zdd s i c, List.dropWhile_cons, if_pos (by unfold zbz; rw [hb']; rfl)] at t2
     rw [h, ← t1, mk_data, ← RCutE_map, ← t2]
     rw [wordEnd_step c hb'] at hk' ⊢
     exact refCut_l0 s hs (d - (zcp s (i + 1) - (i + 1))) k' (zcp s (i + 1)) _ (by omega) (by omega) (by omega) (by simp; omega)
termination_by d => d
theorem refCut_told (k : Nat) (s : ByteArray) (hs : s.size ≤ 65536) (hk : 700000 ≤ k) : ydj.f k s = some (RCutE [] (cutL s.data.toList)) := by
 unfold ydj.f
 have := refCut_l0 s (by omega) s.size k 0 [] (by omega) (by omega) (by omega) (by simp; omega)
 exact this
def lnFrom : List UInt8 → List UInt8 → List (List UInt8)
 | p, [] => [p]
 | p, c :: l => if c = 10 then p :: lnFrom [] l else lnFrom (p ++ [c]) l
theorem lnFrom_cons (c : UInt8) (l p : List UInt8) : lnFrom p (c :: l) = if c = 10 then p :: lnFrom [] l else lnFrom (p ++ [c]) l := by rw [lnFrom]
theorem lnFrom_lines : ∀ (l p : List UInt8), lnFrom p l = match zcy l with | [] => [] | h :: r => (p ++ h) :: r
 | [], p => by show [p] = [p ++ []]; rw [List.append_nil]
 | c :: l, p => by
  have hne := linesL_ne l
  obtain ⟨h, r, e⟩ := List.exists_cons_of_ne_nil hne
  rw [lnFrom_cons]
  have el : zcy (c :: l) = if c = 10 then [] :: zcy l else match zcy l with | [] => [[c]] | h :: r => (c :: h) :: r := rfl
  rw [el, e]
  by_cases h10 : c = 10
  ·rw [if_pos h10, if_pos h10, lnFrom_lines l [], e]; simp
  ·rw [if_neg h10, if_neg h10, lnFrom_lines l (p ++ [c]), e]; simp
theorem lines_l0 (s : ByteArray) (hs : s.size ≤ 1000000) : ∀ (d k a i : Nat) (acc : List ByteArray), s.size - i ≤ d → a ≤ i → i ≤ s.size → d + 2 ≤ k → acc.length + d ≤ 10000000 →
  ydu.l0 k s acc (a : Int) (i : Int) = some (acc ++ (lnFrom (s.extract a i).data.toList (s.data.toList.drop i)).map mk)
 | d, k, a, i, acc, hd, hai, hi, hk, hacc => by
  obtain ⟨k, rfl⟩ : ∃ k', k = k' + 1 + 1 := ⟨k - 2, by omega⟩
  have e : wrap64 ((i : Int) + 1) = ((i + 1 : Nat) : Int) := by unfold wrap64; omega
  by_cases c : i = s.size
  ·subst c
   rw [ydu.l0]
   rw [if_pos (by omega), if_pos rfl, if_pos (by omega), if_pos (by omega), if_pos (by omega), e]
   rw [ydu.l0]
   rw [if_neg (by omega), Int.toNat_natCast, Int.toNat_natCast, drop_end s s.size (Nat.le_refl _)]
   simp only [lnFrom, List.map_cons, List.map_nil, mk_data]
  ·have hlt : i < s.size := by omega
   rw [ydu.l0]
   rw [if_pos (by omega), if_neg (by omega), if_pos (by omega), if_pos (by omega), zcs s i hlt, e, Int.toNat_natCast, Int.toNat_natCast]
   rw [zdd s i hlt, lnFrom_cons]
   cases d with
   | zero => omega
   | succ d =>
    by_cases c10 : s[i] = 10
    ·rw [if_pos (by rw [c10]; rfl), if_pos (by omega), if_pos (by omega), if_pos (by omega), if_pos c10, lines_l0 s hs d (k + 1) (i + 1) (i + 1) _ (by omega) (by omega) (by omega) (by omega) (by simp; omega), ext_nil, List.map_cons, mk_data, List.append_assoc, List.singleton_append]
    ·have : ¬ (s[i].toNat : Int) = 10 := fun h => c10 (UInt8.toNat_inj.mp (by have : (10 : UInt8).toNat = 10 := rfl; omega))
     rw [if_neg this, if_neg c10, lines_l0 s hs d (k + 1) a (i + 1) acc (by omega) (by omega) (by omega) (by omega) (by omega), ext_succ s a i hai hlt]
theorem refLines_told (k : Nat) (s : ByteArray) (hs : s.size ≤ 1000000) (hk : s.size + 2 ≤ k) : ydu.f k s = some (zcg s) := by
 unfold ydu.f
 have := lines_l0 s hs s.size k 0 0 [] (by omega) (by omega) (by omega) (by omega) (by simp; omega)
 rw [ext_nil] at this
 have e0 : ((0 : Nat) : Int) = 0 := rfl
 rw [e0] at this
 rw [this, List.drop_zero, lnFrom_lines]
 unfold zcg
 obtain ⟨h, r, e⟩ := List.exists_cons_of_ne_nil (linesL_ne s.data.toList)
 rw [e]; simp
theorem refValue_l0 (s : ByteArray) (h10 : s.size ≤ 10) : ∀ (d k i v : Nat), s.size - i ≤ d → i ≤ s.size → d + 1 ≤ k → v < 10 ^ i →
  ydp.l0 k s (v : Int) (i : Int) = some (if (s.data.toList.drop i).all isDig = true ∧ zca v (s.data.toList.drop i) ≤ 2147483647 then ((zca v (s.data.toList.drop i) : Nat) : Int) else -1)
 | d, k, i, v, hd, hi, hk, hv => by
  obtain ⟨k, rfl⟩ : ∃ k', k = k' + 1 := ⟨k - 1, by omega⟩
  have hp : 10 ^ i ≤ 10 ^ 10 := Nat.pow_le_pow_right (by omega) (by omega)
  rw [ydp.l0]
  by_cases c : i < s.size
  case neg =>
   rw [if_neg (by omega), drop_end s i (by omega), decVal_nil]
   by_cases g : (v : Int) > 2147483647
   ·rw [if_pos g, if_neg (by omega)]
   ·rw [if_neg g, if_pos ⟨rfl, by omega⟩]
  rw [if_pos (by omega), if_pos (by omega), zcs s i c, zdd s i c, List.all_cons, zcv]
  by_cases hdg : 48 ≤ s[i].toNat ∧ s[i].toNat ≤ 57
  case neg =>
   have : isDig s[i] = false := by unfold isDig; exact decide_eq_false hdg
   have hx : ∀ P : Prop, ¬ (false = true ∧ P) := fun _ h => by cases h.1
   rw [this, Bool.false_and, if_neg (hx _)]
   by_cases h1 : s[i].toNat < 48
   ·rw [if_pos (by omega)]
   ·rw [if_neg (by omega), if_pos (by omega)]
  have hD : isDig s[i] = true := by unfold isDig; exact decide_eq_true hdg
  have e : wrap64 ((i : Int) + 1) = ((i + 1 : Nat) : Int) := by unfold wrap64; omega
  have e2 : wrap64 ((wrap64 (10 * (v : Int))) + (((s[i].toNat : Int) - 48) % 256)) = ((v * 10 + (s[i].toNat - 48) : Nat) : Int) := by
   have : wrap64 (10 * (v : Int)) = 10 * (v : Int) := by unfold wrap64; omega
   rw [this]
   unfold wrap64
   omega
  rw [if_neg (by omega), if_neg (by omega), e, e2, hD, Bool.true_and]
  cases d with
  | zero => omega
  | succ d => exact refValue_l0 s h10 d k (i + 1) _ (by omega) (by omega) (by omega) (by rw [Nat.pow_succ]; omega)
def valueL (s : ByteArray) : Int := match numL ⟨s, false⟩ with | some v => v | none => -1
theorem refValue_told (k : Nat) (s : ByteArray) (hk : 20 ≤ k) : ydp.f k s = some (valueL s) := by
 obtain ⟨k, rfl⟩ : ∃ k', k = k' + 1 := ⟨k - 1, by omega⟩
 have ej : ∀ b, ydp.j0 (k + 1) s b = if b = true then some (-1) else ydp.l0 k s 0 0 := fun b => by rw [ydp.j0]
 have hV : valueL s = if canonB s.data.toList = true ∧ zca 0 s.data.toList ≤ 2147483647 then ((zca 0 s.data.toList : Nat) : Int) else -1 := by
  unfold valueL
  rw [numL_canon]
  by_cases h : canonB s.data.toList = true ∧ zca 0 s.data.toList ≤ 2147483647
  ·rw [if_pos ⟨rfl, h⟩, if_pos h]
  ·rw [if_neg (fun g => h g.2), if_neg h]
 unfold ydp.f
 rw [hV, ej, ej, ej]
 have hlen := bl s
 by_cases c1 : s.toList = []
 ·have c1' : s.data.toList = [] := by rw [← ByteArray.toList_eq]; exact c1
  rw [if_pos c1, if_pos rfl, c1', if_neg (fun h => by cases h.1)]
 rw [if_neg c1]
 have hne : s.data.toList ≠ [] := fun e => c1 (by rw [ByteArray.toList_eq]; exact e)
 have hpos := List.length_pos_iff.mpr hne
 by_cases c2 : (s.size : Int) > 10
 ·rw [if_pos c2, if_pos rfl, if_neg]
  rintro ⟨h1, h2⟩
  have hd := canon_dec _ _ rfl h1
  have := nDigits_le 10 (zca 0 s.data.toList) (by omega) (by omega)
  rw [← hd] at this
  omega
 rw [if_neg c2]
 have hl := refValue_l0 s (by omega) 10 k 0 0 (by omega) (by omega) (by omega) (by omega)
 have e0 : ((0 : Nat) : Int) = 0 := rfl
 rw [e0, List.drop_zero] at hl
 obtain ⟨a, t, hd⟩ := List.exists_cons_of_ne_nil hne
 have hcan : (canonB s.data.toList = true) ↔ s.data.toList.all isDig = true ∧ (s.size = 1 ∨ a ≠ 48) := by
  unfold canonB
  rw [hd]
  rw [hd] at hlen
  simp only [List.isEmpty_cons, Bool.not_false, Bool.true_and, Bool.and_eq_true, Bool.or_eq_true, decide_eq_true_eq, List.head?_cons, Bool.not_eq_true', beq_eq_false_iff_ne, ne_eq, Option.some.injEq]
  rw [hlen]
 have ha : ∀ (h : 0 < s.size), s[0] = a := by
  intro h
  have := zdd s 0 h
  rw [List.drop_zero, hd] at this
  injection this with this _
  exact this.symm
 by_cases c3 : (s.size : Int) > 1
 ·rw [if_pos c3, if_pos (by omega)]
  have hb := zcs s 0 (by omega)
  have e0' : ((0 : Nat) : Int) = 0 := rfl
  rw [e0', ha (by omega)] at hb
  rw [hb]
  by_cases c4 : a = 48
  ·rw [c4, if_pos (by rfl), if_neg]
   rintro ⟨h1, _⟩
   rcases (hcan.mp h1).2 with h | h
   ·omega
   ·exact h c4
  ·rw [if_neg (by
    intro h
    have h := beq_iff_eq.mp h
    exact c4 (UInt8.toNat_inj.mp (by have : (48 : UInt8).toNat = 48 := rfl; omega))), hl]
   congr 1
   by_cases g : s.data.toList.all isDig = true ∧ zca 0 s.data.toList ≤ 2147483647
   ·rw [if_pos g, if_pos ⟨hcan.mpr ⟨g.1, .inr c4⟩, g.2⟩]
   ·rw [if_neg g, if_neg (fun h => g ⟨(hcan.mp h.1).1, h.2⟩)]
 ·rw [if_neg c3, if_neg (by simp), hl]
  congr 1
  by_cases g : s.data.toList.all isDig = true ∧ zca 0 s.data.toList ≤ 2147483647
  ·rw [if_pos g, if_pos ⟨hcan.mpr ⟨g.1, .inl (by omega)⟩, g.2⟩]
  ·rw [if_neg g, if_neg (fun h => g ⟨(hcan.mp h.1).1, h.2⟩)]
end Go.Proofs.YteamhfmpogbilaaGreatDoor.X
end
