/- tool.node's inner function: the next word behind a name, or none, or the panic. -/
import Derived.Test.YteamhfmpogbilaaGreatDoorNum
set_option linter.unusedVariables false
set_option linter.unusedSimpArgs false
namespace Go.Proofs.YteamhfmpogbilaaGreatDoor.X
open Go.RowKit Go.Proofs.YteamhfmpogbilaaGreatDoor Go.Proofs.YteamhfmpogbilaaGreatDoorW.PrintWords Go.Proofs.YteamhfmpogbilaaGreatDoorW.PrintLast
theorem b_eq {a b : ByteArray} : a.toList = b.toList ↔ a = b := ⟨fun h => WideShapes.bytes_inj (by rw [ByteArray.toList_eq, ByteArray.toList_eq] at h; exact h), fun h => by rw [h]⟩
theorem b_eq_t {a b : ByteArray} (h : a = b) : (a.toList == b.toList) = true := beq_iff_eq.mpr (b_eq.mpr h)
theorem b_eq_f {a b : ByteArray} (h : a ≠ b) : (a.toList == b.toList) = false := beq_eq_false_iff_ne.mpr fun e => h (b_eq.mp e)
instance : DecidableEq ByteArray := fun a b => if h : a.data = b.data then isTrue (by cases a; cases b; simp_all) else isFalse (fun e => h (by rw [e]))
instance : DecidableEq Wd := fun a b => if h : a.f0 = b.f0 ∧ a.f1 = b.f1 then isTrue (by cases a; cases b; simp_all) else isFalse (fun e => h (by rw [e]; exact ⟨rfl, rfl⟩))
def nextL (name : ByteArray) (ws : List Wd) : Option (Option Wd × List Wd) := match ws with
 | [] => some (none, [])
 | u :: t => if u = ⟨name, false⟩ then (match t with
   | [] => none
   | v :: t' => some (some v, t'))
  else some (none, u :: t)
def LBox (B lb : Nat) (ws : List Wd) (w : World) : Prop :=
 ∃ (A : Option Addr) (n c : Nat), ws.length = n ∧ Holds lb #[.slice A n c] 118 w ∧ Kd.C k122 w A n ws ∧ n ≤ c ∧ ∀ ad, A = some ad → ad.block < B
def NextR (B : Nat) (r : Option (Option Wd × List Wd)) (lb : Nat) (e : Ending) (w' : World) : Prop := match r with
 | none => e = .panicked flawC
 | some (o, ws') => e = .returned (.tuple #[wdV (o.getD z122), .bool o.isSome]) ∧ Aside0 (LBox B lb ws' w')
theorem sizeWd : ∃ i, Tryz.prog.info? 122 = some i ∧ i.size = 2 := by
 obtain ⟨i, h1, h2⟩ := Option.map_eq_some_iff.mp infoWd
 exact ⟨i, h1, congrArg (fun p => p.2.1) h2⟩
theorem cutK {P : Program} (t e : TypeId) {i : TypeInfo} (ht : P.underlying t = some (.slice e)) (hi : P.info? e = some i) (size : Nat) (hsz : i.size = size) (A : Option Addr) (n c m : Nat) (hm : m ≤ n) :
  ∀ W : World, (Instr.slice t (.slice A n c) (some (.int .i64 (m : Int))) none none).run P W = .ok (.slice (if c = m then A else A.map (·.add (m * size))) (n - m) (c - m)) W := by
 intro W
 have hel : P.elem t = e := by simp [Program.elem, ht]
 have hu : P.underlying t = some (.slice (P.elem t)) := by rw [hel]; exact ht
 rw [run_slice_l W t A n c hu .i64 (m : Int) (Int.natCast_nonneg _) (by omega), hel]
 simp [sizeOf, typeInfo, hi, hsz, sliced, Result.andThen]
theorem cut2 (A : Option Addr) (n c : Nat) (hn : 2 ≤ n) (hc : n ≤ c) :
  ∃ A' : Option Addr, (∀ W : World, (Instr.slice 118 (.slice A n c) (some (.int .i64 2)) none none).run Tryz.prog W = .ok (.slice A' (n - 2) (c - 2)) W) ∧
   (∀ (w : World) (ws : List Wd), ws.length = n → Kd.C k122 w A n ws → Kd.C k122 w A' (n - 2) (ws.drop 2)) ∧ (∀ ad', A' = some ad' → ∃ ad, A = some ad ∧ ad'.block = ad.block) := by
 obtain ⟨i, hi, hsz⟩ := sizeWd
 refine ⟨if c = 2 then A else A.map (·.add (2 * 2)), cutK 118 122 Tryz.underlying118 hi 2 hsz A n c 2 hn, fun w ws hl h => ?_, fun ad' h => ?_⟩
 ·subst hl
  have := Kd.C_drop h hn hc
  rw [List.length_drop] at this
  exact this
 ·split at h
  ·exact ⟨ad', h, rfl⟩
  ·obtain ⟨ad, h1, h2⟩ := Option.map_eq_some_iff.mp h
   refine ⟨ad, h1, ?_⟩
   rw [← h2]; unfold Addr.add; split <;> rfl
theorem zbd (w : World) (b i : Nat) (v : Value) : w.grownBy (w.setCell ⟨b, i, none⟩ v) (some b) :=
 ⟨rfl, rfl, rfl, by show w.heap.size ≤ (w.heap.modify _ _).size; rw [Array.size_modify]; exact Nat.le_refl _, fun k hk h => Below.heap_setCell w _ v k (fun e => h (by rw [e]))⟩
theorem C_grown {w w' : World} {A : Option Addr} {n lb : Nat} {ws : List Wd} (h : Kd.C k122 w A n ws) (hg : w.grownBy w' (some lb)) (hne : ∀ ad, A = some ad → ad.block ≠ lb) : Kd.C k122 w' A n ws := by
 refine ⟨h.1, h.2.1, fun hp => ?_⟩
 obtain ⟨ad, e, hc⟩ := h.2.2 hp
 refine ⟨ad, e, fun j p hj => ?_⟩
 obtain ⟨cs, h1, h2, h3⟩ := hc j p hj
 refine ⟨cs, h1, by obtain rfl := k122_open h2; exact k122_mk _ _, fun i u hu => ?_⟩
 have h4 := h3 i u hu
 have hb : (ad.add (j * Kd.sz k122 + i)).block = ad.block := by unfold Addr.add; split <;> rfl
 rw [World.cell?_of_block (w := w) (hg.block _ (World.block_lt_of_cell? w _ h4) (by rw [hb]; intro e'; injection e' with e'; exact hne ad e e'))]
 exact h4
theorem grown_one (w : World) (o : Obj) (row : Option Nat) : w.grownBy (w.alloc o) row := World.grownBy_alloc w o row
set_option maxHeartbeats 2000000 in
set_option maxRecDepth 100000 in
theorem next_no (name : ByteArray) (ws : List Wd) (lb : Nat) (w : World) (B : Nat) (hBl : B ≤ lb) (hL : LBox B lb ws w) (h : ws = [] ∨ ∃ u t, ws = u :: t ∧ u ≠ ⟨name, false⟩) :
  Calls Tryz.prog 98 #[.string name, .pointer (some ⟨lb, 0, none⟩)] w fun e w' => Aside0 (w.grownBy w' (some lb)) ∧ NextR B (some (none, ws)) lb e w' := by
 have hu139 := Tryz.underlying122
 obtain ⟨A, n, c, hn, hH, hC, hc, hne⟩ := hL
 have hlt := hH.lt
 have H0 := Aside0.mk hH
 have HC := Aside0.mk hC
 have HNE := Aside0.mk hne
 have HN := Aside0.mk hn
 have k0 : ∀ o, (w.alloc o).cell? ⟨lb, 0, none⟩ = some (.slice A n c) := fun o => (hH.alloc o).cell 0 _ rfl
 rcases h with h | ⟨u, t, h, hx⟩
 ·have d0 : ((n : Int) == 0) = true := by subst h; simp at hn; subst hn; rfl
  clear hne hn hH hC h
  go_enter Tryz.func98, Tryz.ntmps98
  go_wp2_with fail
  refine bodyPost_ret (v := .tuple #[.agg #[.string ⟨#[]⟩, .bool false], .bool false]) (by simp [results, Tryz.results98, go_sem]) rfl ⟨⟨grown_one _ _ _⟩, rfl, ⟨A, n, c, HN.out, H0.out.alloc _, Kd.C_alloc HC.out _, hc, HNE.out⟩⟩
 ·have hpos : 0 < n := by rw [← hn, h]; simp
  obtain ⟨ad, rfl, g0, g1⟩ := at_T122 hC 0 (by omega) (by omega)
  have er : zcd ws 0 = u := by rw [h]; rfl
  rw [er] at g0 g1
  rw [show (0 : Int).toNat * 2 = 0 from rfl, show ad.add 0 = ad by unfold Addr.add; split <;> simp_all] at g0 g1
  have b0 : ∀ o, (w.alloc o).cell? ad = some (.string u.f0) := fun o => zas ((Below.refl _ _).alloc (Nat.le_refl _) o) g0
  have b1 : ∀ o, (w.alloc o).cell? ⟨ad.block, ad.off + 1, none⟩ = some (.bool u.f1) := fun o => zas ((Below.refl _ _).alloc (Nat.le_refl _) o) g1
  have d0 : ((n : Int) == 0) = false := beq_eq_false_iff_ne.mpr (by omega)
  obtain ⟨x, q⟩ := u
  simp only [] at b0 b1
  clear g0 g1 er hne hn hH hC h
  cases q with
  | true =>
   go_enter Tryz.func98, Tryz.ntmps98
   go_wp2_with fail
   refine bodyPost_ret (v := .tuple #[.agg #[.string ⟨#[]⟩, .bool false], .bool false]) (by simp [results, Tryz.results98, go_sem]) rfl ⟨⟨grown_one _ _ _⟩, rfl, ⟨_, n, c, HN.out, H0.out.alloc _, Kd.C_alloc HC.out _, hc, HNE.out⟩⟩
  | false =>
   have d1 := b_eq_f (a := x) (b := name) (fun e => hx (by rw [e]))
   clear hx
   go_enter Tryz.func98, Tryz.ntmps98
   go_wp2_with fail
   refine bodyPost_ret (v := .tuple #[.agg #[.string ⟨#[]⟩, .bool false], .bool false]) (by simp [results, Tryz.results98, go_sem]) rfl ⟨⟨grown_one _ _ _⟩, rfl, ⟨_, n, c, HN.out, H0.out.alloc _, Kd.C_alloc HC.out _, hc, HNE.out⟩⟩
set_option maxHeartbeats 2000000 in
set_option maxRecDepth 100000 in
theorem next_end (name : ByteArray) (lb : Nat) (w : World) (B : Nat) (hBl : B ≤ lb) (hL : LBox B lb [⟨name, false⟩] w) :
  Calls Tryz.prog 98 #[.string name, .pointer (some ⟨lb, 0, none⟩)] w fun e w' => Aside0 (w.grownBy w' (some lb)) ∧ NextR B none lb e w' := by
 have hu139 := Tryz.underlying122
 obtain ⟨A, n, c, hn, hH, hC, hc, hne⟩ := hL
 obtain rfl : n = 1 := hn.symm
 have hlt := hH.lt
 have k0 : ∀ o, (w.alloc o).cell? ⟨lb, 0, none⟩ = some (.slice A 1 c) := fun o => (hH.alloc o).cell 0 _ rfl
 obtain ⟨ad, rfl, g0, g1⟩ := at_T122 hC 0 (by omega) (by omega)
 change w.cell? (ad.add ((0 : Int).toNat * 2)) = some (.string name) at g0
 change w.cell? ⟨(ad.add ((0 : Int).toNat * 2)).block, (ad.add ((0 : Int).toNat * 2)).off + 1, none⟩ = some (.bool false) at g1
 rw [show (0 : Int).toNat * 2 = 0 from rfl, show ad.add 0 = ad by unfold Addr.add; split <;> simp_all] at g0 g1
 have b0 : ∀ o, (w.alloc o).cell? ad = some (.string name) := fun o => zas ((Below.refl _ _).alloc (Nat.le_refl _) o) g0
 have b1 : ∀ o, (w.alloc o).cell? ⟨ad.block, ad.off + 1, none⟩ = some (.bool false) := fun o => zas ((Below.refl _ _).alloc (Nat.le_refl _) o) g1
 have d1 := b_eq_t (a := name) rfl
 clear g0 g1 hne hn hH hC
 go_enter Tryz.func98, Tryz.ntmps98
 go_wp2_with fail
 exact ⟨rfl, ⟨grown_one _ _ _⟩, rfl⟩
set_option maxHeartbeats 4000000 in
set_option maxRecDepth 100000 in
theorem next_yes (name : ByteArray) (v : Wd) (t : List Wd) (lb : Nat) (w : World) (B : Nat) (hBl : B ≤ lb) (hL : LBox B lb (⟨name, false⟩ :: v :: t) w) :
  Calls Tryz.prog 98 #[.string name, .pointer (some ⟨lb, 0, none⟩)] w fun e w' => Aside0 (w.grownBy w' (some lb)) ∧ NextR B (some (some v, t)) lb e w' := by
 have hu139 := Tryz.underlying122
 obtain ⟨A, n, c, hn, hH, hC, hc, hne⟩ := hL
 have hn2 : 2 ≤ n := by rw [← hn]; simp
 have hlt := hH.lt
 obtain ⟨A', hcut, hC', hA'⟩ := cut2 A n c hn2 hc
 have HC' := Aside0.mk (hC' w _ hn hC)
 have k0 : ∀ o, (w.alloc o).cell? ⟨lb, 0, none⟩ = some (.slice A n c) := fun o => (hH.alloc o).cell 0 _ rfl
 have k1 : ∀ o o', ((w.alloc o).alloc o').cell? ⟨lb, 0, none⟩ = some (.slice A n c) := fun o o' => ((hH.alloc o).alloc o').cell 0 _ rfl
 have f1 : ∀ o o', ((w.alloc o).alloc o').frozen? ⟨lb, 0, none⟩ = false := fun o o' => Lib.frozen_of_heap ((hH.alloc o).alloc o') 0
 obtain ⟨ad, rfl, g0, g1⟩ := at_T122 hC 0 (by omega) (by omega)
 obtain ⟨ad', e', g2, g3⟩ := at_T122 hC 1 (by omega) (by omega)
 injection e' with e'
 subst e'
 change w.cell? (ad.add ((0 : Int).toNat * 2)) = some (.string name) at g0
 change w.cell? ⟨(ad.add ((0 : Int).toNat * 2)).block, (ad.add ((0 : Int).toNat * 2)).off + 1, none⟩ = some (.bool false) at g1
 change w.cell? (ad.add ((1 : Int).toNat * 2)) = some (.string v.f0) at g2
 change w.cell? ⟨(ad.add ((1 : Int).toNat * 2)).block, (ad.add ((1 : Int).toNat * 2)).off + 1, none⟩ = some (.bool v.f1) at g3
 rw [show (0 : Int).toNat * 2 = 0 from rfl, show ad.add 0 = ad by unfold Addr.add; split <;> simp_all] at g0 g1
 rw [show (1 : Int).toNat * 2 = 2 from rfl, show ad.add 2 = ⟨ad.block, ad.off + 2, none⟩ from by unfold Addr.add; simp] at g2 g3
 have hb := fun o => ((Below.refl w.heap.size w).alloc (Nat.le_refl _) o)
 have b0 : ∀ o, (w.alloc o).cell? ad = some (.string name) := fun o => zas (hb o) g0
 have b1 : ∀ o, (w.alloc o).cell? ⟨ad.block, ad.off + 1, none⟩ = some (.bool false) := fun o => zas (hb o) g1
 have b2 : ∀ o, (w.alloc o).cell? ⟨ad.block, ad.off + 2, none⟩ = some (.string v.f0) := fun o => zas (hb o) g2
 have b3 : ∀ o, (w.alloc o).cell? ⟨ad.block, ad.off + 2 + 1, none⟩ = some (.bool v.f1) := fun o => zas (hb o) g3
 have d1 := b_eq_t (a := name) rfl
 have d0 : ((n : Int) == 0) = false := beq_eq_false_iff_ne.mpr (by omega)
 have d2 : ((n : Int) == 1) = false := beq_eq_false_iff_ne.mpr (by omega)
 have HH := Aside0.mk hH
 have HNE := Aside0.mk hne
 have HA := Aside0.mk hA'
 have HN := Aside0.mk hn
 clear g0 g1 g2 g3 hne hn hH hC hb hC' hA'
 go_enter Tryz.func98, Tryz.ntmps98
 go_wp2_with fail
 have hgr : w.grownBy (((w.setCell ⟨lb, 0, none⟩ (.slice A' (n - 2) (c - 2))).alloc (.cells #[.string v.f0, .bool v.f1] 122)).alloc (.cells #[.string v.f0, .bool v.f1] 122)) (some lb) :=
  ((zbd w lb 0 _).trans (grown_one _ _ _)).trans (grown_one _ _ _)
 refine bodyPost_ret (v := .tuple #[.agg #[.string v.f0, .bool v.f1], .bool true]) (by simp [results, Tryz.results98, go_sem]) rfl ⟨⟨hgr⟩, rfl, ⟨A', n - 2, c - 2, ?_, ?_, ?_, by omega, ?_⟩⟩
 ·have := HN.out; simp at this; omega
 ·have h1 : Holds lb #[.slice A' (n - 2) (c - 2)] 118 (w.setCell ⟨lb, 0, none⟩ (.slice A' (n - 2) (c - 2))) := zcf HH.out 0 _
  exact (h1.alloc _).alloc _
 ·refine C_grown ?_ hgr fun ad' h => ?_
  ·have := HC'.out; simpa using this
  ·obtain ⟨ad2, h1, h2⟩ := HA.out ad' h
   rw [h2]; exact Nat.ne_of_lt (Nat.lt_of_lt_of_le (HNE.out _ h1) hBl)
 ·intro ad' h
  obtain ⟨ad2, h1, h2⟩ := HA.out ad' h
  rw [h2]; exact HNE.out _ h1
theorem next_calls (name : ByteArray) (ws : List Wd) (lb : Nat) (w : World) (B : Nat) (hBl : B ≤ lb) (hL : LBox B lb ws w) :
  Calls Tryz.prog 98 #[.string name, .pointer (some ⟨lb, 0, none⟩)] w fun e w' => Aside0 (w.grownBy w' (some lb)) ∧ NextR B (nextL name ws) lb e w' := by
 match ws, hL with
 | [], hL => exact next_no name [] lb w B hBl hL (.inl rfl)
 | u :: t, hL =>
  by_cases h : u = ⟨name, false⟩
  ·subst h
   match t, hL with
   | [], hL =>
    have e : nextL name [⟨name, false⟩] = none := by unfold nextL; simp
    rw [e]
    exact next_end name lb w B hBl hL
   | v :: t, hL =>
    have e : nextL name (⟨name, false⟩ :: v :: t) = some (some v, t) := by unfold nextL; simp
    rw [e]
    exact next_yes name v t lb w B hBl hL
  ·have e : nextL name (u :: t) = some (none, u :: t) := by
    show (if u = ⟨name, false⟩ then _ else _) = _
    rw [if_neg h]
   rw [e]
   exact next_no name (u :: t) lb w B hBl hL (.inr ⟨u, t, rfl, h⟩)
end Go.Proofs.YteamhfmpogbilaaGreatDoor.X
