/- tool.cut: a line's words, or the panic. -/
import Derived.Test.YteamhfmpogbilaaGreatDoorUnq
set_option linter.unusedVariables false
set_option linter.unusedSimpArgs false
namespace Go.Proofs.YteamhfmpogbilaaGreatDoor.X
open Go.RowKit Go.Proofs.YteamhfmpogbilaaGreatDoor Go.Proofs.YteamhfmpogbilaaGreatDoorW.PrintWords Go.Proofs.YteamhfmpogbilaaGreatDoorW.PrintLast
theorem infoWd : (Tryz.prog.info? 122).map (fun i => (i.zero, i.size, i.bytes)) = some (some (.agg #[.string ⟨#[]⟩, .bool false]), 2, 24) := by kernel_rfl
def CutE (B : Nat) (U : Option (List Wd)) (e : Ending) (w' : World) : Prop := match U with
 | some ws => ∃ v, e = .returned v ∧ Kd.R k122 122 w' B (fun _ => True) v ws
 | none => e = .panicked flawC
def pushW (acc : List Wd) (o : Option (List Wd)) : Option (List Wd) := o.map fun ws => acc ++ ws
theorem pushW_nil (o : Option (List Wd)) : pushW [] o = o := by unfold pushW; cases o <;> rfl
theorem pushW_snoc (acc : List Wd) (u : Wd) (o : Option (List Wd)) : pushW acc (o.map fun ws => u :: ws) = pushW (acc ++ [u]) o := by unfold pushW; cases o <;> simp
theorem suffix_drop {r l : List UInt8} (h : r <:+ l) : r = l.drop (l.length - r.length) := List.suffix_iff_eq_drop.mp h
theorem word_stop (s : ByteArray) (k j : Nat) (hkj : k ≤ j) (hj : j ≤ s.size) (hall : ∀ i (hi : i < s.size), k ≤ i → i < j → zbk s[i] = false) (hend : j = s.size ∨ ∃ h : j < s.size, zbk s[j] = true) :
  (s.data.toList.drop k).takeWhile zbz = (s.data.toList.take j).drop k ∧ (s.data.toList.drop k).dropWhile zbz = s.data.toList.drop j := by
 have hlen := zcu s
 have hsplit : s.data.toList.drop k = (s.data.toList.take j).drop k ++ s.data.toList.drop j := by
  have : s.data.toList = s.data.toList.take j ++ s.data.toList.drop j := (List.take_append_drop j _).symm
  conv => lhs; rw [this]
  rw [List.drop_append_of_le_length (by rw [List.length_take]; omega)]
 have h1 : ∀ x ∈ (s.data.toList.take j).drop k, zbz x = true := by
  intro x hx
  obtain ⟨i, hi, rfl⟩ := List.getElem_of_mem hx
  simp only [List.length_drop, List.length_take] at hi
  rw [List.getElem_drop, List.getElem_take]
  have := hall (k + i) (by omega) (by omega) (by omega)
  unfold zbz
  have e : s.data.toList[k + i] = s[k + i] := rfl
  rw [e, this]; rfl
 have h2 : ∀ l, s.data.toList.drop j = l → l.takeWhile zbz = [] ∧ l.dropWhile zbz = l := by
  intro l hl
  rcases hend with rfl | ⟨h, hb⟩
  ·rw [List.drop_eq_nil_of_le (by omega)] at hl; subst hl; exact ⟨rfl, rfl⟩
  ·rw [drop_cons s j h] at hl
   subst hl
   have : zbz s[j] = false := by unfold zbz; rw [hb]; rfl
   simp [List.takeWhile_cons, List.dropWhile_cons, this]
 obtain ⟨h3, h4⟩ := h2 _ rfl
 rw [hsplit]
 constructor
 ·rw [List.takeWhile_append_of_pos h1, h3, List.append_nil]
 ·rw [List.dropWhile_append_of_pos h1, h4]
set_option maxHeartbeats 4000000 in
set_option maxRecDepth 100000 in
theorem cut_calls (s : ByteArray) (hs : s.size ≤ 1000000000000) (w : World) :
  Calls Tryz.prog 51 #[.string s] w fun e w' => CutE w.heap.size (cutL s.data.toList) e w' ∧ Aside0 (Below w.heap.size w w') := by
 obtain ⟨U, hU⟩ : ∃ U, U = cutL s.data.toList := ⟨_, rfl⟩
 have HU : Aside0 (U = pushW [] (cutL (s.data.toList.drop 0))) := ⟨by rw [hU, pushW_nil]; rfl⟩
 rw [← hU]
 clear hU
 have HB0 := Aside0.mk (Below.refl w.heap.size w)
 go_enter Tryz.func51, Tryz.ntmps51
 go_wp2_with fail
 go_loopw [3, 4] (fun v iv wr => ∃ (k : Nat) (acc : List Wd), k ≤ s.size ∧ iv = .int .i64 k ∧ acc.length ≤ k ∧ Aside0 (U = pushW acc (cutL (s.data.toList.drop k))) ∧ Aside0 (Kd.R k122 122 wr w.heap.size (fun _ => True) v acc) ∧ Aside0 (Below w.heap.size w wr)) (fun _ iv _ => s.size - (intOf iv).toNat)
 case atStart => exact ⟨0, [], Nat.zero_le _, rfl, Nat.zero_le _, HU, ⟨Kd.R_nil _ _ _ _ _⟩, HB0⟩
 case round =>
  clear HU HB0
  obtain ⟨k, acc, hk, rfl, hak, HU, HO, HB⟩ := hrel
  by_cases hlt : k < s.size
  ·obtain ⟨c, hc⟩ : ∃ c, c = s[k] := ⟨_, rfl⟩
   have hdrop := drop_cons s k hlt
   rw [← hc] at hdrop
   rw [hdrop] at HU
   have hc' : s[k] = c := hc.symm
   have HDR := Aside0.mk hdrop
   clear hc hdrop
   have hcl := c.toNat_lt
   cases hbl : zbk c with
   | true =>
    have HN : Aside0 (U = pushW acc (cutL (s.data.toList.drop (k + 1)))) := ⟨by rw [HU.out, cutL_blank hbl]⟩
    clear HU
    go_wp2_with (go_at_call 96; refine (zcn c _).mono ?_; rintro e w' ⟨rfl, rfl⟩)
    go_roundw
    case rel => exact ⟨k + 1, acc, by omega, by go_num, by omega, HN, HO, HB⟩
    case measure => simp [intOf]; omega
   | false =>
    by_cases h35 : c = 35
    ·have e35 : ((c.toNat : Int) == 35) = true := by rw [h35]; rfl
     have HN : Aside0 (U = some acc) := ⟨by rw [HU.out, cutL_hash h35]; simp [pushW]⟩
     clear HU h35
     go_wp2_with (go_at_call 96; refine (zcn c _).mono ?_; rintro e w' ⟨rfl, rfl⟩)
     go_ret
     refine ⟨?_, HB⟩
     rw [HN.out]
     exact ⟨_, rfl, HO.out⟩
    have e35 : ((c.toNat : Int) == 35) = false := beq_eq_false_iff_ne.mpr fun e => h35 (UInt8.toNat_inj.mp (by simpa using (Int.ofNat.inj e)))
    by_cases h34 : c = 34
    ·have e34 : ((c.toNat : Int) == 34) = true := by rw [h34]; rfl
     rw [h34] at HU
     have hun := unquote_calls s (k + 1) (by omega) (by omega)
     rw [show ((k + 1 : Nat) : Int) = (k : Int) + 1 by omega] at hun
     cases hS : unqL (s.data.toList.drop (k + 1)) with
     | none =>
      rw [hS] at hun
      have HN : Aside0 (U = none) := ⟨by rw [HU.out, cutL_noquote hS]; rfl⟩
      have HSG := Aside0.mk hun
      clear HU h35 h34 hS hun
      go_wp2_with (first | (go_at_call 96; refine (zcn c _).mono ?_; rintro e w' ⟨rfl, rfl⟩) | fail)
      refine (HSG.out _).mono ?_
      rintro e w2 ⟨he, hd⟩
      change e = _ at he
      subst he
      go_wp2_with fail
      refine ⟨rfl, ?_, ⟨HB.out.trans (hd.out.mono HB.out.size)⟩⟩
      rw [HN.out]; rfl
     | some p =>
      obtain ⟨b, r⟩ := p
      rw [hS] at hun
      obtain ⟨r1, r2, r3⟩ := unqL_suffix _ _ (Nat.le_refl _) b r hS
      have r4 := r1.trans (List.drop_suffix _ _)
      have hr : r = s.data.toList.drop (s.size - r.length) := by have := suffix_drop r4; rwa [zcu] at this
      rw [List.length_drop, zcu] at r2 r3
      have HN : Aside0 (U = pushW (acc ++ [⟨mk b, true⟩]) (cutL (s.data.toList.drop (s.size - r.length)))) := ⟨by rw [HU.out, cutL_quote hS, pushW_snoc, ← hr]⟩
      have HSG := Aside0.mk hun
      obtain ⟨j, hj⟩ : ∃ j, j = s.size - r.length := ⟨_, rfl⟩
      have hj1 : k + 1 < j := by omega
      have hj2 : j ≤ s.size := by omega
      unfold UnqE at HSG
      simp only [] at HSG
      rw [← hj] at HSG HN
      clear HU h35 h34 hS hun hr r1 r4 hj r2 r3
      go_wp2_with (first | (go_at_call 96; refine (zcn c _).mono ?_; rintro e w' ⟨rfl, rfl⟩) | fail)
      refine (HSG.out _).mono ?_
      rintro e w2 ⟨rfl, hd⟩
      have HO2 := Aside0.mk (Kd.R_below HO.out hd.out)
      have HB2 := Aside0.mk (HB.out.trans (hd.out.mono HB.out.size))
      clear HO HB hd HSG
      go_wp2_with (first | ((with_reducible refine zax (b := .append) (xs := #[.tmp 57, .tmp 60]) rfl ?_); at_builtin; refine Kd.R_append k122 (w0 := w) w.heap.size rfl (.tmp 57) (.tmp 60) 118 122 (.agg #[.string ⟨#[]⟩, .bool false]) 24 rfl Tryz.underlying118 infoWd rfl (by decide) (by omega) u3 acc ⟨mk b, true⟩ [.string (mk b), .bool true] (fun _ => True) (fun _ => False) rfl rfl (k122_mkM _ _ _ ⟨mk b, true⟩) (fun _ hk => hk.elim) (fun _ _ => trivial) HO2.out HB2.out HB2.out.size (by omega) ?_; intro v1 w3 hR1 hBl1 _ _; have hR1 := Aside0.mk hR1; have hBl1 := Aside0.mk hBl1) | fail)
      go_roundw
      case rel => exact ⟨j, acc ++ [⟨mk b, true⟩], hj2, rfl, by simp; omega, HN, hR1, hBl1⟩
      case measure => simp [intOf]; omega
    ·have e34 : ((c.toNat : Int) == 34) = false := beq_eq_false_iff_ne.mpr fun e => h34 (UInt8.toNat_inj.mp (by simpa using (Int.ofNat.inj e)))
     have hpl : zbz c = true := by unfold zbz; rw [hbl]; rfl
     have HW : Aside0 (∀ j, k ≤ j → j ≤ s.size → (∀ i (hi : i < s.size), k ≤ i → i < j → zbk s[i] = false) → (j = s.size ∨ ∃ h : j < s.size, zbk s[j] = true) → U = pushW (acc ++ [⟨s.extract k j, false⟩]) (cutL (s.data.toList.drop j))) := ⟨by
      intro j h1 h2 h3 h4
      obtain ⟨e1, e2⟩ := word_stop s k j h1 h2 h3 h4
      rw [HDR.out, List.takeWhile_cons, if_pos hpl] at e1
      rw [HDR.out, List.dropWhile_cons, if_pos hpl] at e2
      have e3 : s.extract k j = mk (c :: (s.data.toList.drop (k + 1)).takeWhile zbz) := by
       rw [e1, ← zdc]; rfl
      rw [HU.out, cutL_word hbl h35 h34, e2, pushW_snoc, e3]⟩
     clear HU h35 h34 HDR hpl
     go_wp2_with (first | (go_at_call 96; refine (zcn c _).mono ?_; rintro e w' ⟨rfl, rfl⟩) | fail)
     go_loopw [4] (fun iv wq => ∃ j : Nat, k ≤ j ∧ j ≤ s.size ∧ iv = .int .i64 j ∧ (j = k → k < s.size) ∧ Aside0 (∀ i (hi : i < s.size), k ≤ i → i < j → zbk s[i] = false) ∧ wq = wr) (fun iv _ => s.size - (intOf iv).toNat)
     case atStart => exact ⟨k, Nat.le_refl _, by omega, rfl, fun _ => hlt, ⟨fun i _ h1 h2 => absurd h1 (by omega)⟩, rfl⟩
     case round =>
      obtain ⟨j, hj1, hj2, rfl, hjk, HAll, rfl⟩ := hrel
      by_cases hjl : j < s.size
      ·obtain ⟨d, hd⟩ : ∃ d, d = s[j] := ⟨_, rfl⟩
       have hd' : s[j] = d := hd.symm
       have e1 : decide ((j : Int) < (s.size : Int)) = true := decide_eq_true (by omega)
       have e1n : decide (j < s.size) = true := decide_eq_true hjl
       clear hd
       cases hbd : zbk d with
       | false =>
        have HA2 : Aside0 (∀ i (hi : i < s.size), k ≤ i → i < j + 1 → zbk s[i] = false) := ⟨fun i hi h1 h2 => by
         by_cases e : i = j
         ·subst e; rw [hd']; exact hbd
         ·exact HAll.out i hi h1 (by omega)⟩
        clear HAll
        go_wp2_with (first | (go_at_call 96; refine (zcn d _).mono ?_; rintro e w' ⟨rfl, rfl⟩) | fail)
        go_roundw
        case rel => exact ⟨j + 1, by omega, by omega, by go_num, fun _ => hlt, HA2, by first | rfl | trivial⟩
        case measure => simp [intOf]; omega
       | true =>
        have HN := Aside0.mk (HW.out j hj1 hj2 HAll.out (.inr ⟨hjl, by rw [hd']; exact hbd⟩))
        have hkj : k < j := by
         rcases Nat.lt_or_ge k j with h | h
         ·exact h
         ·have : j = k := by omega
          subst this
          rw [← hd', hc', hbl] at hbd; cases hbd
        clear HAll HW
        go_wp2_with (first | ((with_reducible refine zax (b := .append) (xs := #[.tmp 30, .tmp 36]) rfl ?_); at_builtin; refine Kd.R_append k122 (w0 := w) w.heap.size rfl (.tmp 30) (.tmp 36) 118 122 (.agg #[.string ⟨#[]⟩, .bool false]) 24 rfl Tryz.underlying118 infoWd rfl (by decide) (by omega) u3 acc ⟨s.extract k j, false⟩ [.string (s.extract k j), .bool false] (fun _ => True) (fun _ => False) rfl rfl (k122_mkM _ _ _ ⟨s.extract k j, false⟩) (fun _ hk => hk.elim) (fun _ _ => trivial) HO.out HB.out HB.out.size (by omega) ?_; intro v1 w3 hR1 hBl1 _ _; have hR1 := Aside0.mk hR1; have hBl1 := Aside0.mk hBl1) | (go_at_call 96; refine (zcn d _).mono ?_; rintro e w' ⟨rfl, rfl⟩) | fail)
        go_roundw
        case rel => exact ⟨j, acc ++ [⟨s.extract k j, false⟩], hj2, rfl, by simp; omega, HN, hR1, hBl1⟩
        case measure => simp [intOf]; omega
      ·have e1 : decide ((j : Int) < (s.size : Int)) = false := decide_eq_false (by omega)
       have e1n : decide (j < s.size) = false := decide_eq_false hjl
       have HN := Aside0.mk (HW.out j hj1 hj2 HAll.out (.inl (by omega)))
       have hkj : k < j := by omega
       clear HAll HW hjk
       go_wp2_with (first | ((with_reducible refine zax (b := .append) (xs := #[.tmp 30, .tmp 36]) rfl ?_); at_builtin; refine Kd.R_append k122 (w0 := w) w.heap.size rfl (.tmp 30) (.tmp 36) 118 122 (.agg #[.string ⟨#[]⟩, .bool false]) 24 rfl Tryz.underlying118 infoWd rfl (by decide) (by omega) u3 acc ⟨s.extract k j, false⟩ [.string (s.extract k j), .bool false] (fun _ => True) (fun _ => False) rfl rfl (k122_mkM _ _ _ ⟨s.extract k j, false⟩) (fun _ hk => hk.elim) (fun _ _ => trivial) HO.out HB.out HB.out.size (by omega) ?_; intro v1 w3 hR1 hBl1 _ _; have hR1 := Aside0.mk hR1; have hBl1 := Aside0.mk hBl1) | fail)
       go_roundw
       case rel => exact ⟨j, acc ++ [⟨s.extract k j, false⟩], hj2, rfl, by simp; omega, HN, hR1, hBl1⟩
       case measure => simp [intOf]; omega
  ·have hk' : k = s.size := by omega
   have HN : Aside0 (U = some acc) := ⟨by rw [HU.out, List.drop_eq_nil_of_le (by rw [zcu]; omega), cutL_nil]; simp [pushW]⟩
   subst hk'
   go_wp2_with fail
   go_ret
   refine ⟨?_, HB⟩
   rw [HN.out]
   exact ⟨_, rfl, HO.out⟩
end Go.Proofs.YteamhfmpogbilaaGreatDoor.X
