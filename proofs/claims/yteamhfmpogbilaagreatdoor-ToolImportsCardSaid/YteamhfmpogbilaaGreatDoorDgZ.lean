/- Printed by a tool of the kit for this seat; cut to what the claim uses. -/
import Derived.Test.YteamhfmpogbilaaGreatDoorRead
import Derived.Test.YteamhfmpogbilaaGreatDoorRefZ
import Derived.Lib.AtoiAll
import Derived.Lib.ItoaNum
set_option linter.unusedVariables false
set_option linter.unusedSimpArgs false
section
namespace Go.Proofs.YteamhfmpogbilaaGreatDoor.X
open Go.RowKit Go.Proofs.YteamhfmpogbilaaGreatDoor Go.Proofs.YteamhfmpogbilaaGreatDoorW.PrintWords Go.Proofs.YteamhfmpogbilaaGreatDoorW.PrintLast
def isDig (c : UInt8) : Bool := decide (48 ≤ c.toNat ∧ c.toNat ≤ 57)
def zca (acc : Nat) (l : List UInt8) : Nat := l.foldl (fun a c => a * 10 + (c.toNat - 48)) acc
theorem decVal_nil (acc : Nat) : zca acc [] = acc := rfl
theorem zcv (acc : Nat) (c : UInt8) (r : List UInt8) : zca acc (c :: r) = zca (acc * 10 + (c.toNat - 48)) r := List.foldl_cons ..
theorem decVal_app (l r : List UInt8) (acc : Nat) : zca acc (l ++ r) = zca (zca acc l) r := List.foldl_append ..
theorem decVal_ge : ∀ (l : List UInt8) (acc : Nat), acc ≤ zca acc l := by
 intro l
 induction l with
 | nil => intro acc; exact Nat.le_refl _
 | cons c l ih => intro acc; rw [zcv]; have := ih (acc * 10 + (c.toNat - 48)); omega
theorem parseUint_ok : ∀ (l : List UInt8) (acc : Nat), l.all isDig = true → zca acc l < 9223372036854775808 → Lib.parseUint10 acc l = .ok (zca acc l) := by
 intro l
 induction l with
 | nil => intro acc _ _; rw [decVal_nil, Lib.parseUint10.eq_1]
 | cons c r ih =>
  intro acc h hv
  rw [List.all_cons, Bool.and_eq_true] at h
  obtain ⟨h1, h2⟩ := h
  unfold isDig at h1
  rw [decide_eq_true_eq] at h1
  rw [zcv] at hv ⊢
  have := decVal_ge r (acc * 10 + (c.toNat - 48))
  rw [Lib.parseUint10.eq_2, if_pos h1, if_neg (by omega), if_neg (by omega)]
  exact ih _ h2 hv
theorem dig_of (k : Nat) (h : k < 10) : (UInt8.ofNat (48 + k)).toNat = 48 + k := by
 rw [UInt8.toNat_ofNat']; omega
theorem dec_small {u : Nat} (h : u < 10) : Lib.decDigits u = [UInt8.ofNat (48 + u)] := Lib.decDigits_one h
theorem dec_big {u : Nat} (h : ¬ u < 10) : Lib.decDigits u = Lib.decDigits (u / 10) ++ [UInt8.ofNat (48 + u % 10)] := by rw [Lib.decDigits, dif_neg h]
theorem dec_val (u : Nat) : zca 0 (Lib.decDigits u) = u := by
 induction u using Nat.strongRecOn with
 | _ u ih =>
  by_cases h : u < 10
  ·rw [dec_small h, zcv, decVal_nil, dig_of u h]; omega
  ·rw [dec_big h, decVal_app, ih (u / 10) (by omega), zcv, decVal_nil, dig_of _ (by omega)]; omega
theorem dec_dig (u : Nat) : (Lib.decDigits u).all isDig = true := by
 induction u using Nat.strongRecOn with
 | _ u ih =>
  by_cases h : u < 10
  ·rw [dec_small h]
   simp only [List.all_cons, List.all_nil, isDig, dig_of u h, Bool.and_true, decide_eq_true_eq]; omega
  ·rw [dec_big h, List.all_append, ih (u / 10) (by omega)]
   simp only [List.all_cons, List.all_nil, isDig, dig_of _ (show u % 10 < 10 by omega), Bool.and_true, Bool.true_and, decide_eq_true_eq]; omega
theorem dec_ne (u : Nat) : Lib.decDigits u ≠ [] := by
 by_cases h : u < 10
 ·rw [dec_small h]; simp
 ·rw [dec_big h]; simp
theorem dec_head (u : Nat) (hu : 1 ≤ u) : (Lib.decDigits u).head? ≠ some 48 := by
 induction u using Nat.strongRecOn with
 | _ u ih =>
  by_cases h : u < 10
  ·rw [dec_small h]
   intro e
   simp only [List.head?_cons, Option.some.injEq] at e
   have := congrArg UInt8.toNat e
   rw [dig_of u h] at this
   have e48 : (48 : UInt8).toNat = 48 := rfl
   omega
  ·rw [dec_big h]
   have hne := dec_ne (u / 10)
   obtain ⟨a, t, hd⟩ := List.exists_cons_of_ne_nil hne
   have := ih (u / 10) (by omega) (by omega)
   rw [hd] at this ⊢
   simpa using this
def canonB (l : List UInt8) : Bool := !l.isEmpty && l.all isDig && (decide (l.length = 1) || !(l.head? == some 48))
theorem canon_dec_of (u : Nat) : canonB (Lib.decDigits u) = true := by
 unfold canonB
 rw [dec_dig]
 have h1 : (Lib.decDigits u).isEmpty = false := by
  cases h : Lib.decDigits u with
  | nil => exact absurd h (dec_ne u)
  | cons => rfl
 rw [h1]
 by_cases h : u < 10
 ·rw [dec_small h]; rfl
 ·have := dec_head u (by omega)
  simp only [Bool.not_false, Bool.true_and, Bool.or_eq_true, decide_eq_true_eq, Bool.not_eq_true', beq_eq_false_iff_ne, ne_eq]
  exact .inr this
theorem head_val {c : UInt8} {t : List UInt8} (h : isDig c = true) (h0 : c ≠ 48) : 1 ≤ zca 0 (c :: t) := by
 unfold isDig at h
 rw [decide_eq_true_eq] at h
 have : c.toNat ≠ 48 := fun e => h0 (UInt8.toNat_inj.mp e)
 rw [zcv]
 have := decVal_ge t (0 * 10 + (c.toNat - 48))
 omega
theorem canon_dec : ∀ (k : Nat) (l : List UInt8), l.length = k → canonB l = true → l = Lib.decDigits (zca 0 l)
 | 0, l, hk, h => by
  obtain rfl := List.length_eq_zero_iff.mp hk
  cases h
 | k + 1, l, hk, h => by
  have hne : l ≠ [] := by intro e; subst e; cases hk
  obtain ⟨t, c, rfl⟩ : ∃ t c, l = t ++ [c] := ⟨l.dropLast, l.getLast hne, (List.dropLast_concat_getLast hne).symm⟩
  have hk' : t.length = k := by simpa using hk
  unfold canonB at h
  simp only [Bool.and_eq_true, Bool.or_eq_true, decide_eq_true_eq, Bool.not_eq_true', List.all_append, List.all_cons, List.all_nil, Bool.and_true] at h
  obtain ⟨⟨_, ht, hc⟩, hh⟩ := h
  have hc' : 48 ≤ c.toNat ∧ c.toNat ≤ 57 := by unfold isDig at hc; simpa using hc
  rw [decVal_app, zcv, decVal_nil]
  have hcc : UInt8.ofNat (48 + (c.toNat - 48)) = c := by
   rw [show 48 + (c.toNat - 48) = c.toNat by omega]; simp
  match t, ht, hk', hh with
  | [], ht, hk', hh =>
   rw [decVal_nil, Nat.zero_mul, Nat.zero_add, dec_small (by omega), hcc]; rfl
  | a :: r, ht, hk', hh =>
   have ha : a ≠ 48 := by
    rcases hh with hh | hh
    ·simp at hh
    ·intro e; subst e; simp at hh
   rw [List.all_cons, Bool.and_eq_true] at ht
   have h1 := head_val (t := r) ht.1 ha
   have hcan : canonB (a :: r) = true := by
    unfold canonB
    have : ((a :: r).head? == some 48) = false := by simp [ha]
    rw [this, List.all_cons, ht.1, ht.2]; simp
   have ih := canon_dec k (a :: r) hk' hcan
   rw [dec_big (by omega), show (zca 0 (a :: r) * 10 + (c.toNat - 48)) / 10 = zca 0 (a :: r) by omega, show (zca 0 (a :: r) * 10 + (c.toNat - 48)) % 10 = c.toNat - 48 by omega, hcc, ← ih]
theorem atoi_dig {l : List UInt8} (hne : l ≠ []) (hd : l.all isDig = true) (hv : zca 0 l < 9223372036854775808) : Lib.atoiAll l = .ok (zca 0 l : Int) := by
 obtain ⟨c, r, rfl⟩ := List.exists_cons_of_ne_nil hne
 have hc : 48 ≤ c.toNat ∧ c.toNat ≤ 57 := by
  rw [List.all_cons, Bool.and_eq_true] at hd
  have := hd.1; unfold isDig at this; simpa using this
 have hp : Lib.parseMag (c :: r) = .ok (zca 0 (c :: r)) := by
  unfold Lib.parseMag
  rw [if_neg (by simp), parseUint_ok _ _ hd hv]
 unfold Lib.atoiAll
 simp only []
 rw [if_neg (by omega), hp]
 simp only []
 rw [if_neg (by omega), if_neg (by omega), if_neg (by omega)]
theorem itoa_dec (v : Nat) : itoaB (v : Int) = mk (Lib.decDigits v) := by
 unfold itoaB mk
 rw [show Lib.itoa (v : Int) = Lib.decDigits v from by unfold Lib.itoa; rw [if_neg (by omega)]; simp]
theorem mk_list (l : List UInt8) : (mk l).data.toList = l := by unfold mk; simp
theorem numL_canon (s : ByteArray) (q : Bool) : numL ⟨s, q⟩ = if q = false ∧ canonB s.data.toList = true ∧ zca 0 s.data.toList ≤ 2147483647 then some (zca 0 s.data.toList : Int) else none := by
 unfold numL
 simp only []
 by_cases hc : canonB s.data.toList = true ∧ zca 0 s.data.toList ≤ 2147483647
 ·obtain ⟨h1, h2⟩ := hc
  have hd := canon_dec _ _ rfl h1
  have hne : s.data.toList ≠ [] := by intro e; rw [e] at h1; cases h1
  have hall : s.data.toList.all isDig = true := by
   have := h1; unfold canonB at this
   rw [Bool.and_eq_true, Bool.and_eq_true] at this; exact this.1.2
  rw [atoi_dig hne hall (by omega)]
  simp only []
  have hs : (itoaB (zca 0 s.data.toList : Int)).toList = s.toList := by
   rw [itoa_dec, ← hd, mk_data]
  by_cases hq : q = false
  ·rw [if_pos ⟨hq, by omega, by omega, hs⟩, if_pos ⟨hq, h1, h2⟩]
  ·rw [if_neg (fun e => hq e.1), if_neg (fun e => hq e.1)]
 ·rw [if_neg (fun e => hc e.2)]
  split
  ·rename_i v hv
   split
   ·rename_i hh
    obtain ⟨_, h0, h1, hs⟩ := hh
    exfalso
    apply hc
    obtain ⟨u, rfl⟩ : ∃ u : Nat, v = u := ⟨v.toNat, by omega⟩
    have e : s = mk (Lib.decDigits u) := by rw [← itoa_dec]; exact (b_eq.mp hs).symm
    rw [e, mk_list, dec_val]
    exact ⟨canon_dec_of u, by omega⟩
   ·rfl
  ·rfl
theorem nDigits_le : ∀ (k u : Nat), 1 ≤ k → u < 10 ^ k → (Lib.decDigits u).length ≤ k
 | 0, u, h, _ => by omega
 | k + 1, u, _, h => by
  by_cases hu : u < 10
  ·rw [dec_small hu]; simp
  ·rw [dec_big hu, List.length_append]
   have hk : 1 ≤ k := by
    rcases Nat.eq_zero_or_pos k with e | e
    ·subst e; simp at h; omega
    ·exact e
   have := nDigits_le k (u / 10) hk (by rw [Nat.pow_succ] at h; omega)
   simp; omega
end Go.Proofs.YteamhfmpogbilaaGreatDoor.X
end
section
namespace Go.Proofs.YteamhfmpogbilaaGreatDoor.X
open Go.RowKit Go.Proofs.YteamhfmpogbilaaGreatDoor Go.Proofs.YteamhfmpogbilaaGreatDoorW.PrintWords Go.Proofs.YteamhfmpogbilaaGreatDoorW.PrintLast
def inNum (n : Full) : Prop := ∀ k, k < 5 → 0 ≤ zbx n k ∧ zbx n k ≤ 2147483647
end Go.Proofs.YteamhfmpogbilaaGreatDoor.X
end
