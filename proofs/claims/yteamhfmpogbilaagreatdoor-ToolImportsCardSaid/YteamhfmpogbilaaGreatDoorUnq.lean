/- tool.isBlank, tool.unquote: as their plain functions, or the panic. -/
import Derived.Test.YteamhfmpogbilaaGreatDoorSign
set_option linter.unusedVariables false
set_option linter.unusedSimpArgs false
namespace Go.Proofs.YteamhfmpogbilaaGreatDoor.X
open Go.RowKit Go.Proofs.YteamhfmpogbilaaGreatDoor Go.Proofs.YteamhfmpogbilaaGreatDoorW.PrintWords Go.Proofs.YteamhfmpogbilaaGreatDoorW.PrintLast
def ints (l : List UInt8) : List Int := l.map fun b => (b.toNat : Int)
theorem ints_length (l : List UInt8) : (ints l).length = l.length := List.length_map ..
theorem ints_snoc (l : List UInt8) (c : UInt8) : ints (l ++ [c]) = ints l ++ [(c.toNat : Int)] := by simp [ints]
theorem str_ints (l : List UInt8) : strOfNums (ints l) = mk l := by
 have e : (ints l).map (fun n => UInt8.ofNat n.toNat) = l := by
  unfold ints; rw [List.map_map]
  conv => rhs; rw [← List.map_id l]
  exact List.map_congr_left fun c _ => by simp
 unfold strOfNums mk; rw [e]
theorem infoU8 : (Tryz.prog.info? 5).map (fun i => (i.zero, i.size, i.bytes)) = some (some (.int .u8 0), 1, 1) := by kernel_rfl
set_option maxRecDepth 100000 in
theorem zcn (c : UInt8) (w : World) : Calls Tryz.prog 96 #[.int .u8 (c.toNat : Int)] w fun e w' => e = .returned (.bool (zbk c)) ∧ w = w' := by
 by_cases h : c.toNat = 32
 ·have d : ((c.toNat : Int) == 32) = true := beq_iff_eq.mpr (by omega)
  have hb : zbk c = true := by have : c = 32 := UInt8.toNat_inj.mp h; subst this; rfl
  rw [hb]
  clear h hb
  go_enter Tryz.func96, Tryz.ntmps96
  go_wp2
  go_ret
  exact ⟨rfl, rfl⟩
 ·have d : ((c.toNat : Int) == 32) = false := beq_eq_false_iff_ne.mpr (by omega)
  have hb : zbk c = ((c.toNat : Int) == 9) := by
   have h1 : c ≠ 32 := fun e => h (by rw [e]; rfl)
   unfold zbk
   rw [beq_eq_false_iff_ne.mpr h1, Bool.false_or, Bool.eq_iff_iff, beq_iff_eq, beq_iff_eq]
   exact ⟨fun e => by rw [e]; rfl, fun e => UInt8.toNat_inj.mp (by simpa using (Int.ofNat.inj e))⟩
  rw [hb]
  clear h hb
  go_enter Tryz.func96, Tryz.ntmps96
  go_wp2
  go_ret
  exact ⟨rfl, rfl⟩
def SignE (r : Option (UInt8 × Nat)) (e : Ending) : Prop := match r with
 | some (v, n) => e = .returned (.tuple #[.int .u8 (v.toNat : Int), .int .i64 (n : Int)])
 | none => e = .panicked flawC
theorem zcu (s : ByteArray) : s.data.toList.length = s.size := Array.length_toList
theorem sign_calls (s : ByteArray) (w : World) : Calls Tryz.prog 139 #[.string s] w fun e w' => SignE (signL s.data.toList) e ∧ Aside0 (Drawn0 w w') := by
 have hlen := zcu s
 obtain ⟨l, hl⟩ : ∃ l, l = s.data.toList := ⟨_, rfl⟩
 rw [← hl] at hlen ⊢
 match l, hl, hlen with
 | [], hl, hlen =>
  have h : ∀ d, Lib.hasPrefix s.data.toList [d] = false := fun d => by rw [← hl]; rfl
  exact (sign_no s w (h _) (h _) (.inl (h _))).mono fun _ _ ⟨h1, h2⟩ => ⟨h1, h2⟩
 | c :: t, hl, hlen =>
  have h : ∀ d, Lib.hasPrefix s.data.toList [d] = (c == d) := fun d => by rw [← hl]; exact pre_cons c d t
  have hpos : 0 < s.size := by rw [← hlen]; simp
  have h0 : s[0] = c := at_list s _ hl.symm 0 hpos c rfl
  by_cases h34 : c = 34
  ·refine (sign_self s w hpos (.inl (by rw [h, h34]; rfl))).mono fun _ _ ⟨h1, h2⟩ => ⟨?_, h2⟩
   rw [h1, h0, signL_self (.inl h34)]; rfl
  have n34 : (c == 34) = false := beq_eq_false_iff_ne.mpr h34
  by_cases h92 : c = 92
  ·refine (sign_self s w hpos (.inr ⟨by rw [h, n34], by rw [h, h92]; rfl⟩)).mono fun _ _ ⟨h1, h2⟩ => ⟨?_, h2⟩
   rw [h1, h0, signL_self (.inr h92)]; rfl
  have n92 : (c == 92) = false := beq_eq_false_iff_ne.mpr h92
  by_cases h120 : c = 120
  ·match t, hl, hlen with
   | x :: y :: t, hl, hlen =>
    have h3 : 3 ≤ s.size := by rw [← hlen]; simp
    have h1 : s[1] = x := at_list s _ hl.symm 1 (by omega) x rfl
    have h2 : s[2] = y := at_list s _ hl.symm 2 (by omega) y rfl
    by_cases hx : 0 ≤ hexV x ∧ 0 ≤ hexV y
    ·refine (sign_hex s w (by rw [h, n34]) (by rw [h, n92]) (by rw [h, h120]; rfl) h3 x y h1 h2 hx.1 hx.2).mono fun _ _ ⟨h1, h2⟩ => ⟨?_, h2⟩
     rw [h1, h120, signL_hex hx]
     have := hexV_bd x
     have := hexV_bd y
     simp only [SignE]
     have e : ((UInt8.ofNat (hexV x * 16 + hexV y).toNat).toNat : Int) = hexV x * 16 + hexV y := by simp; omega
     rw [e]; rfl
    ·refine (sign_bad s w (by rw [h, n34]) (by rw [h, n92]) (by rw [h, h120]; rfl) h3 x y h1 h2 hx).mono fun _ _ ⟨h1, h2⟩ => ⟨?_, h2⟩
     rw [h1, h120, signL_nohex hx]; rfl
   | [x], hl, hlen =>
    refine (sign_no s w (by rw [h, n34]) (by rw [h, n92]) (.inr (by rw [← hlen]; simp))).mono fun _ _ ⟨h1, h2⟩ => ⟨?_, h2⟩
    rw [h1, h120]; rfl
   | [], hl, hlen =>
    refine (sign_no s w (by rw [h, n34]) (by rw [h, n92]) (.inr (by rw [← hlen]; simp))).mono fun _ _ ⟨h1, h2⟩ => ⟨?_, h2⟩
    rw [h1, h120]; rfl
  ·have n120 : (c == 120) = false := beq_eq_false_iff_ne.mpr h120
   refine (sign_no s w (by rw [h, n34]) (by rw [h, n92]) (.inl (by rw [h, n120]))).mono fun _ _ ⟨h1, h2⟩ => ⟨?_, h2⟩
   rw [h1, signL_other (by simp [h34, h92]) h120]; rfl
def UnqE (n : Nat) (U : Option (List UInt8 × List UInt8)) (e : Ending) : Prop := match U with
 | some (b, r) => e = .returned (.tuple #[.string (mk b), .int .i64 ((n - r.length : Nat) : Int)])
 | none => e = .panicked flawC
def pushL (acc : List UInt8) (o : Option (List UInt8 × List UInt8)) : Option (List UInt8 × List UInt8) := o.map fun p => (acc ++ p.1, p.2)
theorem pushL_nil (o : Option (List UInt8 × List UInt8)) : pushL [] o = o := by unfold pushL; cases o <;> rfl
theorem pushL_snoc (acc : List UInt8) (c : UInt8) (o : Option (List UInt8 × List UInt8)) : pushL acc (o.map fun p => (c :: p.1, p.2)) = pushL (acc ++ [c]) o := by unfold pushL; cases o <;> simp
theorem drop_cons (s : ByteArray) (k : Nat) (h : k < s.size) : s.data.toList.drop k = s[k] :: s.data.toList.drop (k + 1) := List.drop_eq_getElem_cons (by rw [zcu]; exact h)
theorem unq_end (s : ByteArray) (acc : List UInt8) (k : Nat) (hk : k + 1 ≤ s.size) : UnqE s.size (some (acc, s.data.toList.drop (k + 1))) (.returned (.tuple #[.string (strOfNums (ints acc)), .int .i64 ((k : Int) + 1)])) := by
 unfold UnqE
 simp only []
 rw [str_ints, List.length_drop, zcu, show ((s.size - (s.size - (k + 1)) : Nat) : Int) = (k : Int) + 1 by omega]
theorem ext_drop (s : ByteArray) (k : Nat) : (s.extract k s.size).data.toList = s.data.toList.drop k := by
 rw [zdc, List.take_of_length_le (by rw [zcu]; exact Nat.le_refl _)]
set_option maxHeartbeats 4000000 in
set_option maxRecDepth 100000 in
theorem unquote_calls (s : ByteArray) (i : Nat) (hi : i ≤ s.size) (hs : s.size ≤ 140737488355327) (w : World) :
  Calls Tryz.prog 97 #[.string s, .int .i64 (i : Int)] w fun e w' => UnqE s.size (unqL (s.data.toList.drop i)) e ∧ Aside0 (Below w.heap.size w w') := by
 obtain ⟨U, hU⟩ : ∃ U, U = unqL (s.data.toList.drop i) := ⟨_, rfl⟩
 have HU : Aside0 (U = pushL [] (unqL (s.data.toList.drop i))) := ⟨by rw [hU, pushL_nil]⟩
 rw [← hU]
 clear hU
 have HB0 := Aside0.mk (Below.refl w.heap.size w)
 go_enter Tryz.func97, Tryz.ntmps97
 go_wp2_with fail
 go_loopw [1, 6] (fun iv v wr => ∃ (k : Nat) (acc : List UInt8), k ≤ s.size ∧ iv = .int .i64 k ∧ acc.length ≤ k ∧ Aside0 (U = pushL acc (unqL (s.data.toList.drop k))) ∧ Aside0 (wr.ownsRow w.heap.size 5 1 v (ints acc).length (Go.Proofs.YteamhfmpogbilaaGreatDoorW.PrintWords.nums .u8 (ints acc))) ∧ Aside0 (Below w.heap.size w wr)) (fun iv _ _ => s.size - (intOf iv).toNat)
 case atStart => exact ⟨i, [], hi, rfl, Nat.zero_le _, HU, ⟨own_nil _ _ _ _⟩, HB0⟩
 case round =>
  clear HU HB0
  obtain ⟨k, acc, hk, rfl, hak, HU, HO, HB⟩ := hrel
  by_cases hlt : k < s.size
  ·obtain ⟨c, hc⟩ : ∃ c, c = s[k] := ⟨_, rfl⟩
   have hdrop := drop_cons s k hlt
   rw [← hc] at hdrop
   rw [hdrop] at HU
   have hc' : s[k] = c := hc.symm
   clear hdrop hc
   have hcl := c.toNat_lt
   by_cases hbad : c.toNat < 32 ∨ 126 < c.toNat
   ·have HN : Aside0 (U = none) := ⟨by rw [HU.out, unqL_bad hbad]; rfl⟩
    by_cases h32 : c.toNat < 32
    case' pos => have d0 : decide ((c.toNat : Int) < 32) = true := decide_eq_true (by omega)
    case' neg =>
     have d0 : decide ((c.toNat : Int) < 32) = false := decide_eq_false (by omega)
     have d1 : decide (126 < (c.toNat : Int)) = true := decide_eq_true (by omega)
    all_goals
     clear hbad h32
     go_wp2_with fail
     refine ⟨rfl, ?_, HB⟩
     rw [HN.out]; rfl
   ·have d0 : decide ((c.toNat : Int) < 32) = false := decide_eq_false (by omega)
    have d1 : decide (126 < (c.toNat : Int)) = false := decide_eq_false (by omega)
    have HK : Aside0 (¬ (c.toNat < 32 ∨ 126 < c.toNat)) := ⟨hbad⟩
    clear hbad
    by_cases h34 : c = 34
    ·have e34 : ((c.toNat : Int) == 34) = true := by rw [h34]; rfl
     by_cases hn : k + 1 < s.size
     ·obtain ⟨d, hd⟩ : ∃ d, d = s[k + 1] := ⟨_, rfl⟩
      have hdrop := drop_cons s (k + 1) hn
      rw [← hd] at hdrop
      rw [hdrop, h34] at HU
      have hd' : s[k + 1] = d := hd.symm
      have e1 : decide ((k : Int) + 1 < (s.size : Int)) = true := decide_eq_true (by omega)
      have e1n : decide (k + 1 < s.size) = true := decide_eq_true hn
      clear hdrop hd h34
      cases hb : zbk d with
      | false =>
       have HN : Aside0 (U = none) := ⟨by rw [HU.out, unqL_tail hb]; rfl⟩
       clear HK
       go_wp2_with (go_at_call 96; refine (zcn d _).mono ?_; rintro e w' ⟨rfl, rfl⟩)
       refine ⟨rfl, ?_, HB⟩
       rw [HN.out]; rfl
      | true =>
       have HN : Aside0 (U = some (acc, s.data.toList.drop (k + 1))) := ⟨by rw [HU.out, unqL_end hb]; simp [pushL, drop_cons s (k + 1) hn, hd']⟩
       have hcv := own_string (P := Tryz.prog) (dst := 9) Tryz.underlying85 Tryz.underlying5 Tryz.underlying9 HO.out
       clear HK
       go_wp2_with (go_at_call 96; refine (zcn d _).mono ?_; rintro e w' ⟨rfl, rfl⟩)
       go_ret2
       refine ⟨?_, HB⟩
       rw [HN.out]
       exact unq_end s acc k (by omega)
     ·have e1 : decide ((k : Int) + 1 < (s.size : Int)) = false := decide_eq_false (by omega)
      have e1n : decide (k + 1 < s.size) = false := decide_eq_false hn
      have HN : Aside0 (U = some (acc, s.data.toList.drop (k + 1))) := ⟨by
       have e : s.data.toList.drop (k + 1) = [] := List.drop_eq_nil_of_le (by rw [zcu]; omega)
       rw [HU.out, h34, e, unqL_end0]; simp [pushL]⟩
      have hcv := own_string (P := Tryz.prog) (dst := 9) Tryz.underlying85 Tryz.underlying5 Tryz.underlying9 HO.out
      clear HK h34
      go_wp2
      go_ret2
      refine ⟨?_, HB⟩
      rw [HN.out]
      exact unq_end s acc k (by omega)
    ·have e34 : ((c.toNat : Int) == 34) = false := beq_eq_false_iff_ne.mpr fun e => h34 (UInt8.toNat_inj.mp (by simpa using (Int.ofNat.inj e)))
     by_cases h92 : c = 92
     ·have e92 : ((c.toNat : Int) == 92) = true := by rw [h92]; rfl
      rw [h92] at HU
      have hsg := sign_calls (s.extract (k + 1) s.size)
      rw [ext_drop] at hsg
      cases hS : signL (s.data.toList.drop (k + 1)) with
      | none =>
       rw [hS] at hsg
       have HN : Aside0 (U = none) := ⟨by rw [HU.out, unqL_nosign hS]; rfl⟩
       have HSG := Aside0.mk hsg
       clear HK h34 h92 hS hsg
       go_wp2_with fail
       refine (HSG.out _).mono ?_
       rintro e w2 ⟨he, hd⟩
       change e = _ at he
       subst he
       go_wp2_with fail
       refine ⟨rfl, ?_, ⟨HB.out.trans (hd.out.below.mono HB.out.size)⟩⟩
       rw [HN.out]; rfl
      | some p =>
       obtain ⟨v, n⟩ := p
       rw [hS] at hsg
       have HN : Aside0 (U = pushL (acc ++ [v]) (unqL (s.data.toList.drop (k + 1 + n)))) := ⟨by rw [HU.out, unqL_sign hS, pushL_snoc, List.drop_drop]⟩
       obtain ⟨hn1, hn2⟩ := signL_len hS
       rw [List.length_drop, zcu] at hn2
       have HSG := Aside0.mk hsg
       clear HK h34 h92 hS hsg
       go_wp2_with fail
       refine (HSG.out _).mono ?_
       rintro e w2 ⟨he, hd⟩
       change e = _ at he
       subst he
       have HO2 := Aside0.mk (pw_own_below HO.out hd.out.below)
       have HB2 := Aside0.mk (HB.out.trans (hd.out.below.mono HB.out.size))
       have hal := ints_length acc
       have HS := Aside0.mk (ints_snoc acc v)
       clear HO HB hd HSG HU
       go_wp2_with (first | ((with_reducible refine zax (b := .append) (xs := #[.tmp 64, .tmp 66]) rfl ?_); at_builtin; refine print_append_num (w0 := w) w.heap.size rfl (.tmp 64) (.tmp 66) 85 5 .u8 1 rfl Tryz.underlying85 infoU8 (by decide) u6 (ints acc) (v.toNat : Int) rfl rfl HO2.out HB2.out HB2.out.size (by rw [hal]; omega) ?_; intro v1 w3 ho3 hb3 _ _; rw [← HS.out] at ho3; have ho3 := Aside0.mk ho3; have hb3 := Aside0.mk hb3) | fail)
       go_roundw
       case rel => exact ⟨k + 1 + n, acc ++ [v], by omega, by go_num, by simp; omega, HN, ho3, hb3⟩
       case measure => simp [intOf]; omega
     ·have e92 : ((c.toNat : Int) == 92) = false := beq_eq_false_iff_ne.mpr fun e => h92 (UInt8.toNat_inj.mp (by simpa using (Int.ofNat.inj e)))
      have HN : Aside0 (U = pushL (acc ++ [c]) (unqL (s.data.toList.drop (k + 1)))) := ⟨by rw [HU.out, unqL_plain HK.out h34 h92, pushL_snoc]⟩
      have hal := ints_length acc
      have HS := ints_snoc acc c
      have HS := Aside0.mk HS
      clear HK h34 h92 HU
      go_wp2_with (first | ((with_reducible refine zax (b := .append) (xs := #[.tmp 27, .tmp 29]) rfl ?_); at_builtin; refine print_append_num (w0 := w) w.heap.size rfl (.tmp 27) (.tmp 29) 85 5 .u8 1 rfl Tryz.underlying85 infoU8 (by decide) u6 (ints acc) (c.toNat : Int) rfl rfl HO.out HB.out HB.out.size (by rw [hal]; omega) ?_; intro v1 w3 ho3 hb3 _ _; rw [← HS.out] at ho3; have ho3 := Aside0.mk ho3; have hb3 := Aside0.mk hb3) | fail)
      go_roundw
      case rel => exact ⟨k + 1, acc ++ [c], by omega, by go_num, by simp; omega, HN, ho3, hb3⟩
      case measure => simp [intOf]; omega
  ·have hk' : k = s.size := by omega
   have HN : Aside0 (U = none) := ⟨by rw [HU.out, List.drop_eq_nil_of_le (by rw [zcu]; omega), unqL_nil]; rfl⟩
   subst hk'
   go_wp2_with fail
   refine ⟨rfl, ?_, HB⟩
   rw [HN.out]; rfl
end Go.Proofs.YteamhfmpogbilaaGreatDoor.X
