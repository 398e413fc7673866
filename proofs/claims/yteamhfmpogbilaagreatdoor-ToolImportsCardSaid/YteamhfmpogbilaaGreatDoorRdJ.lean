/- The reference's Import is told. -/
import Derived.Test.YteamhfmpogbilaaGreatDoorRdI
set_option linter.unusedVariables false
set_option linter.unusedSimpArgs false
namespace Go.Proofs.YteamhfmpogbilaaGreatDoor.X
open Go.RowKit Go.Proofs.YteamhfmpogbilaaGreatDoor Go.Proofs.YteamhfmpogbilaaGreatDoorW.PrintWords Go.Proofs.YteamhfmpogbilaaGreatDoorW.PrintLast
theorem j_a1 {l k d : Nat} (h : l ≤ 70000) (hk : d + 10000000000 ≤ k) : l * (l + 2) + l + 2200 ≤ k := by
 have : l * (l + 2) ≤ 70000 * 70002 := Nat.mul_le_mul h (by omega)
 omega
theorem j_a2 {k d : Nat} (hk : d + 10000000000 ≤ k) : 700000 ≤ k ∧ 6000 ≤ k := by omega
theorem j_a3 {k d l : Nat} (h : l ≤ 65536) (hk : d + 10000000000 ≤ k) : 12 * l + 300 ≤ k := by omega
theorem j_a4 {k d l : Nat} (h : l ≤ 70000) (hk : d + 10000000000 ≤ k) : l + 1 ≤ k := by omega
theorem j_a6 {k d K : Nat} (hK : 10000000001 ≤ K) (hk : d + K ≤ k) : ∃ k', k = k' + 1 ∧ d + K ≤ k' + 1 ∧ d + 10000000000 ≤ k' := ⟨k - 1, by omega, by omega, by omega⟩
theorem j_a9 {d K k : Nat} (h : (d + 1) + K ≤ k + 1) : d + K ≤ k := by omega
theorem j_a7 {a i d : Nat} (h : a - i ≤ d + 1) : a - (i + 1) ≤ d := by omega
theorem j_lt {i n : Nat} (h : i < n) : (i : Int) < (n : Int) := Int.ofNat_lt.mpr h
theorem j_nlt {i n : Nat} (h : ¬ i < n) : ¬ (i : Int) < (n : Int) := fun e => h (Int.ofNat_lt.mp e)
theorem j_w {i : Nat} (h : i ≤ 70000) : wrap64 ((i : Int) + 1) = ((i + 1 : Nat) : Int) := by unfold wrap64; omega
theorem fail_here {xs : List ByteArray} {i : Nat} (hi : i < xs.length) {bg : Bool} {l : List Full} (hf : zbh (xs.take i) = some (bg, l)) (hs : stepL bg l xs[i] = none) : ImpR xs ([], 220, ((i + 1 : Nat) : Int)) := by
 refine .inl ⟨xs.take i, xs[i], bg, l, ?_, hf, ?_, ?_⟩
 ·rw [← List.take_succ_eq_append_getElem hi]; exact List.take_prefix _ _
 ·rw [foldSt_snoc, hf]; exact hs
 ·rw [List.length_take, Nat.min_eq_left (Nat.le_of_lt hi)]; rfl
theorem next_here {xs : List ByteArray} {i : Nat} (hi : i < xs.length) {bg bg' : Bool} {l l' : List Full} (hf : zbh (xs.take i) = some (bg, l)) (hs : stepL bg l xs[i] = some (bg', l')) : zbh (xs.take (i + 1)) = some (bg', l') := by
 rw [List.take_succ_eq_append_getElem hi, foldSt_snoc, hf]; exact hs
theorem rd_line (xs : List ByteArray) (i : Nat) (h : i < xs.length) : rdOf ByteArray.empty xs (i : Int) = xs[i] := rdOf_get xs i h
theorem node_flag {o : Option Full} {r : NodeT} (h : NodeRE o r) : (o = none ∧ r.2.2.2.2.2.2.2 = false) ∨ ∃ n, o = some n ∧ r = encT n true := by
 cases o with
 | none => exact .inl ⟨rfl, h⟩
 | some n => exact .inr ⟨n, rfl, h⟩
set_option maxRecDepth 100000 in
set_option maxHeartbeats 2000000 in
theorem refImp_l0 (xs : List ByteArray) (hx : ∀ x ∈ xs, x.size ≤ 65536) (hl : xs.length ≤ 70000) (K : Nat) (hK : 10000000001 ≤ K) : ∀ (d k i : Nat) (bg : Bool) (l : List Full), xs.length - i ≤ d → i ≤ xs.length → zbh (xs.take i) = some (bg, l) → d + K ≤ k →
  ∃ r, ydq.l0 k (l.map zbf) xs bg (i : Int) = some r ∧ ImpR xs r
 | d, k, i, bg, l, hd, hi, hf, hk => by
  obtain ⟨k, rfl, hk3, hk2⟩ := j_a6 hK hk
  have hsm := foldSt_small _ _ rfl bg l hf
  rw [List.length_take] at hsm
  have hl7 : l.length ≤ 70000 := by omega
  clear hk
  obtain ⟨_, hsz, hbg⟩ := hsm
  rw [ydq.l0]
  by_cases c : i < xs.length
  case neg =>
   rw [if_neg (j_nlt c)]
   have e : xs.take i = xs := List.take_of_length_le (by omega)
   rw [e] at hf
   rw [refSorted_told k l (by omega) (fun x hx => by have := hsz x hx; omega) (j_a1 hl7 hk2), Option.bind_some]
   obtain ⟨⟨rl, rc⟩, h1, h2⟩ := refLoad_told (sortedR l) k (Nat.le_trans (by decide) (j_a2 hk2).2)
   rw [h1, Option.bind_some]
   simp only []
   cases bg with
   | false =>
    rw [if_neg (by simp)]
    exact ⟨_, rfl, .inr ⟨false, l, hf, .inr ⟨fun h => (by cases h.1), rfl⟩⟩⟩
   | true =>
    rw [if_pos rfl]
    rcases h2 with ⟨g1, g2⟩ | ⟨g1, g2, g3, g4⟩ | ⟨g1, g2, g3⟩
    ·injection g2 with g2 g5
     subst g5
     rw [if_neg (by decide)]
     exact ⟨_, rfl, .inr ⟨true, l, hf, .inr ⟨fun h => g1 h.2.1, rfl⟩⟩⟩
    ·injection g4 with g4 g5
     subst g5; subst g4
     rw [if_pos rfl]
     exact ⟨_, rfl, .inr ⟨true, l, hf, .inl ⟨rfl, g1, g2, rfl⟩⟩⟩
    ·injection g3 with g3 g5
     subst g5
     rw [if_neg (by decide)]
     exact ⟨_, rfl, .inr ⟨true, l, hf, .inr ⟨fun h => g2 h.2.2, rfl⟩⟩⟩
  have hxs := hx _ (List.getElem_mem c)
  rw [if_pos (j_lt c), if_pos (Int.natCast_nonneg i), rd_line xs i c, refCut_told k _ hxs (j_a2 hk2).1, Option.bind_some, j_w (by omega)]
  have hcl := cutL_len _ xs[i].data.toList (Nat.le_refl _)
  have hfail := fun h => fail_here c hf h
  have hnext := fun bg' l' h => next_here (bg' := bg') (l' := l') c hf h
  have hrec : ∀ (bg' : Bool) (l' : List Full), stepL bg l xs[i] = some (bg', l') → ∃ r, ydq.l0 k (l'.map zbf) xs bg' ((i + 1 : Nat) : Int) = some r ∧ ImpR xs r := by
   intro bg' l' h
   cases d with
   | zero => exact absurd hd (by omega)
   | succ d => exact refImp_l0 xs hx hl K hK d k (i + 1) bg' l' (j_a7 hd) c (hnext _ _ h) (j_a9 hk3)
  unfold stepL at hfail hrec
  cases hcut : cutL xs[i].data.toList with
  | none =>
   rw [hcut] at hfail
   exact ⟨_, rfl, hfail rfl⟩
  | some wl =>
   have hwl := hcl wl hcut
   rw [bl] at hwl
   rw [hcut] at hfail hrec
   simp only [RCutE, List.nil_append, List.length_map, if_pos]
   cases wl with
   | nil =>
    rw [if_pos (show ((([] : List Wd).length : Nat) : Int) = 0 from rfl)]
    exact hrec bg l rfl
   | cons u ws =>
    have hlen : ¬ (((u :: ws).length : Nat) : Int) = 0 := by simp; omega
    rw [if_neg hlen]
    simp only [] at hfail hrec
    cases bg with
    | true =>
     rw [if_pos rfl]
     rw [if_neg (by simp)] at hfail
     have hrec' : ∀ (bg' : Bool) (l' : List Full), (match nodeL (u :: ws) with | none => none | some n => if (zbg l n.f0).isSome = true then none else some (true, l ++ [n])) = some (bg', l') → ∃ r, ydq.l0 k (l'.map zbf) xs bg' ((i + 1 : Nat) : Int) = some r ∧ ImpR xs r := by
      intro bg' l' h
      apply hrec
      rw [if_neg (by simp)]; exact h
     obtain ⟨r, h1, h2⟩ := refNode_told k (u :: ws) (by omega) (j_a3 (Nat.le_trans hwl hxs) hk2)
     rw [h1, Option.bind_some]
     rcases node_flag h2 with ⟨g1, g2⟩ | ⟨n, g1, g2⟩
     ·rw [g2, if_neg (by simp)]
      rw [g1] at hfail
      exact ⟨_, rfl, hfail rfl⟩
     ·subst g2
      rw [g1] at hfail hrec'
      simp only [] at hfail hrec'
      show ∃ r, (if true = true then _ else _) = some r ∧ _
      rw [if_pos rfl]
      show ∃ r, ((ydt.f k (l.map zbf) n.f0).bind _) = some r ∧ _
      rw [refThere_told k l (by omega) n.f0 (j_a4 hl7 hk2), Option.bind_some]
      cases hat : (zbg l n.f0).isSome with
      | true =>
       rw [hat, if_pos rfl] at hfail
       rw [if_pos rfl]
       exact ⟨_, rfl, hfail rfl⟩
      | false =>
       rw [hat] at hrec'
       rw [if_neg (by simp), if_pos (Nat.lt_of_le_of_lt hl7 (by decide))]
       have := hrec' true (l ++ [n]) (by rw [if_neg (by simp)])
       rw [List.map_append] at this
       exact this
    | false =>
     rw [if_neg (by simp)]
     have hw := two_head (u :: ws)
     by_cases ht : u :: ws = [⟨heraldB, false⟩, ⟨treeB, false⟩]
     ·rw [if_pos rfl, if_pos ht] at hrec
      have h3 := hrec true l rfl
      obtain ⟨w1, w2, w3⟩ := hw.mp ht
      injection ht with t1 t2
      subst t1; subst t2
      rw [if_pos (show ((([⟨heraldB, false⟩, ⟨treeB, false⟩] : List Wd).length : Nat) : Int) = 2 from rfl), if_pos (show (0 : Int) < ((([⟨heraldB, false⟩, ⟨treeB, false⟩] : List Wd).length : Nat) : Int) by decide)]
      have n1 := word_ne ⟨heraldB, false⟩ heraldB _ herald_list
      have n2 := word_ne ⟨treeB, false⟩ treeB _ tree_list
      rw [decide_eq_true rfl] at n1 n2
      show ∃ r, (if (!((toRW ⟨heraldB, false⟩).f0.toList == [104, 101, 114, 97, 108, 100]) || (toRW ⟨heraldB, false⟩).f1) = true then _ else _) = some r ∧ _
      rw [n1, if_neg (by simp), if_pos (show (1 : Int) < ((([⟨heraldB, false⟩, ⟨treeB, false⟩] : List Wd).length : Nat) : Int) by decide)]
      show ∃ r, (if (!((toRW ⟨treeB, false⟩).f0.toList == [116, 114, 101, 101]) || (toRW ⟨treeB, false⟩).f1) = true then _ else _) = some r ∧ _
      rw [n2, if_neg (by simp)]
      exact h3
     ·rw [if_pos rfl, if_neg ht] at hfail
      have hF := hfail rfl
      by_cases c2 : (((u :: ws).length : Nat) : Int) = 2
      case neg => rw [if_neg c2]; exact ⟨_, rfl, hF⟩
      obtain ⟨v, rfl⟩ : ∃ v, ws = [v] := by
       match ws, c2 with
       | [v], _ => exact ⟨v, rfl⟩
       | [], h => simp at h
       | _ :: _ :: _, h => simp at h; omega
      rw [if_pos c2, if_pos (show (0 : Int) < ((([u, v] : List Wd).length : Nat) : Int) by show (0 : Int) < 2; decide)]
      have n1 := word_ne u heraldB _ herald_list
      have n2 := word_ne v treeB _ tree_list
      show ∃ r, (if (!((toRW u).f0.toList == [104, 101, 114, 97, 108, 100]) || (toRW u).f1) = true then _ else _) = some r ∧ _
      rw [n1]
      by_cases hu : u = ⟨heraldB, false⟩
      ·rw [decide_eq_true hu, if_neg (by simp), if_pos (show (1 : Int) < ((([u, v] : List Wd).length : Nat) : Int) by show (1 : Int) < 2; decide)]
       show ∃ r, (if (!((toRW v).f0.toList == [116, 114, 101, 101]) || (toRW v).f1) = true then _ else _) = some r ∧ _
       have hv : ¬ v = ⟨treeB, false⟩ := fun e => ht (by rw [hu, e])
       rw [n2, decide_eq_false hv, if_pos (show (!false) = true from rfl)]
       exact ⟨_, rfl, hF⟩
      ·rw [decide_eq_false hu, if_pos (show (!false) = true from rfl)]
       exact ⟨_, rfl, hF⟩
theorem refImport_told (k : Nat) (s : ByteArray) (hk : 20000000000 ≤ k) : ∃ r, ydq.f k s = some r ∧ ((¬ s.size ≤ 65536 ∧ r = ([], 2, 0)) ∨ (s.size ≤ 65536 ∧ ImpR (zcg s) r)) := by
 unfold ydq.f
 by_cases c : s.size ≤ 65536
 case neg => exact ⟨_, by rw [if_pos (by omega)], .inl ⟨c, rfl⟩⟩
 have hln := linesB_len s
 rw [if_neg (by omega), refLines_told k s (by omega) (by omega), Option.bind_some]
 obtain ⟨r, h1, h2⟩ := refImp_l0 (zcg s) (fun x hx => by have := linesB_size s x hx; omega) (by omega) 10000000001 (Nat.le_refl _) (zcg s).length k 0 false [] (by omega) (by omega) rfl (by omega)
 exact ⟨r, h1, .inr ⟨c, h2⟩⟩
end Go.Proofs.YteamhfmpogbilaaGreatDoor.X
