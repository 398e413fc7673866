/- tool.node: what a node's line says, or the panic. -/
import Derived.Test.YteamhfmpogbilaaGreatDoorNext
set_option linter.unusedVariables false
set_option linter.unusedSimpArgs false
namespace Go.Proofs.YteamhfmpogbilaaGreatDoor.X
open Go.RowKit Go.Proofs.YteamhfmpogbilaaGreatDoor Go.Proofs.YteamhfmpogbilaaGreatDoorW.PrintWords Go.Proofs.YteamhfmpogbilaaGreatDoorW.PrintLast
def putNum (n : Full) (k : Nat) (v : Int) : Full := match k with
 | 0 => { n with f2 := v } | 1 => { n with f3 := v } | 2 => { n with f4 := v } | 3 => { n with f5 := v } | _ => { n with f6 := v }
def fieldsFrom : Nat → Full → List Wd → Option (Full × List Wd)
 | 0, n, ws => some (n, ws)
 | j + 1, n, ws => match nextL (zaz (4 - j)) ws with
  | none => none
  | some (none, ws') => fieldsFrom j n ws'
  | some (some u, ws') => match numL u with
   | none => none
   | some v => fieldsFrom j (putNum n (4 - j) v) ws'
def zco : Full := z40
def finL (r : Option (Full × List Wd)) : Option Full := match r with
 | some (m, []) => some m
 | _ => none
def restL (n : Full) (ws : List Wd) : Option Full := finL (fieldsFrom 5 n ws)
def dataL (n : Full) (ws : List Wd) : Option Full := match nextL dataB ws with
 | none => none
 | some (none, ws') => restL n ws'
 | some (some u, ws') => if u.f1 = true then restL { n with f1 := u.f0 } ws' else none
def headOk (ws : List Wd) : Bool := match ws with
 | a :: b :: _ => decide (a = ⟨nodeB, false⟩) && (!b.f1) && decide ((zaw b.f0).2 = 0)
 | _ => false
def nodeL (ws : List Wd) : Option Full := if headOk ws then dataL { zco with f0 := (ws.getD 1 z122).f0 } (ws.drop 2) else none
theorem parse_calls (s : ByteArray) (w : World) (hG : Glob w) :
  Calls Tryz.prog 84 #[.string s] w fun e w' => ∃ v, e = .returned (.tuple #[v, .int .i64 (zaw s).2]) ∧ Aside0 (Below w.heap.size w w') := by
 refine (ydr.calls 200 s (zaw s).1 (zaw s).2 w hG (parse_told s)).mono ?_
 rintro e w' ⟨v, rfl, _, hb⟩
 exact ⟨v, rfl, ⟨hb⟩⟩
theorem two_cells {w : World} {A : Option Addr} {n : Nat} {a b : Wd} {t : List Wd} (hC : Kd.C k122 w A n (a :: b :: t)) :
  ∃ ad, A = some ad ∧ w.cell? ad = some (.string a.f0) ∧ w.cell? ⟨ad.block, ad.off + 1, none⟩ = some (.bool a.f1) ∧ w.cell? ⟨ad.block, ad.off + 2, none⟩ = some (.string b.f0) ∧ w.cell? ⟨ad.block, ad.off + 2 + 1, none⟩ = some (.bool b.f1) := by
 have hn : 2 ≤ n := by have := hC.1; simp at this; omega
 obtain ⟨ad, rfl, g0, g1⟩ := at_T122 hC 0 (by omega) (by omega)
 obtain ⟨ad', e', g2, g3⟩ := at_T122 hC 1 (by omega) (by omega)
 injection e' with e'
 subst e'
 change w.cell? (ad.add ((0 : Int).toNat * 2)) = some (.string a.f0) at g0
 change w.cell? ⟨(ad.add ((0 : Int).toNat * 2)).block, (ad.add ((0 : Int).toNat * 2)).off + 1, none⟩ = some (.bool a.f1) at g1
 change w.cell? (ad.add ((1 : Int).toNat * 2)) = some (.string b.f0) at g2
 change w.cell? ⟨(ad.add ((1 : Int).toNat * 2)).block, (ad.add ((1 : Int).toNat * 2)).off + 1, none⟩ = some (.bool b.f1) at g3
 rw [show (0 : Int).toNat * 2 = 0 from rfl, show ad.add 0 = ad by unfold Addr.add; split <;> simp_all] at g0 g1
 rw [show (1 : Int).toNat * 2 = 2 from rfl, show ad.add 2 = ⟨ad.block, ad.off + 2, none⟩ from by unfold Addr.add; simp] at g2 g3
 exact ⟨ad, rfl, g0, g1, g2, g3⟩
set_option maxHeartbeats 4000000 in
set_option maxRecDepth 100000 in
theorem node_bad (A : Option Addr) (n c : Nat) (ws : List Wd) (w : World) (hn : ws.length = n) (hC : Kd.C k122 w A n ws) (hG : Glob w) (h : headOk ws = false) :
  Calls Tryz.prog 53 #[.slice A n c] w fun e w' => e = .panicked flawC ∧ Aside0 (Below w.heap.size w w') := by
 have hu139 := Tryz.underlying122
 have hB2 : ∀ o o', Below w.heap.size w ((w.alloc o).alloc o') := fun o o' => ((Below.refl _ w).alloc (Nat.le_refl _) o).alloc (by simp) o'
 have HB2 := Aside0.mk hB2
 clear hB2
 by_cases h2 : n < 2
 ·have d0 : decide ((n : Int) < 2) = true := decide_eq_true (by omega)
  clear hC h hn
  go_enter Tryz.func53, Tryz.ntmps53
  go_wp2_with fail
  exact ⟨rfl, rfl, ⟨HB2.out _ _⟩⟩
 have d0 : decide ((n : Int) < 2) = false := decide_eq_false (by omega)
 obtain ⟨a, b, t, rfl⟩ : ∃ a b t, ws = a :: b :: t := by
  match ws, hn with
  | [], hn => simp at hn; omega
  | [a], hn => simp at hn; omega
  | a :: b :: t, _ => exact ⟨a, b, t, rfl⟩
 obtain ⟨ad, rfl, g0, g1, g2, g3⟩ := two_cells hC
 have b0 : ∀ o o', ((w.alloc o).alloc o').cell? ad = some (.string a.f0) := fun o o' => zas (HB2.out o o') g0
 have b1 : ∀ o o', ((w.alloc o).alloc o').cell? ⟨ad.block, ad.off + 1, none⟩ = some (.bool a.f1) := fun o o' => zas (HB2.out o o') g1
 have b2 : ∀ o o', ((w.alloc o).alloc o').cell? ⟨ad.block, ad.off + 2, none⟩ = some (.string b.f0) := fun o o' => zas (HB2.out o o') g2
 have b3 : ∀ o o', ((w.alloc o).alloc o').cell? ⟨ad.block, ad.off + 2 + 1, none⟩ = some (.bool b.f1) := fun o o' => zas (HB2.out o o') g3
 have hd1 : 1 < n := by omega
 obtain ⟨x, q⟩ := a
 obtain ⟨y, r⟩ := b
 simp only [] at b0 b1 b2 b3
 have H := Aside0.mk h
 clear g0 g1 g2 g3 hC h hn
 cases q with
 | true =>
  go_enter Tryz.func53, Tryz.ntmps53
  go_wp2_with fail
  exact ⟨rfl, rfl, ⟨HB2.out _ _⟩⟩
 | false =>
  by_cases hx : x = nodeB
  case neg =>
   have e1 := b_eq_f (a := x) (b := nodeB) hx
   rw [show nodeB.toList = [110, 111, 100, 101] from by rw [ByteArray.toList_eq]; rfl] at e1
   clear hx
   go_enter Tryz.func53, Tryz.ntmps53
   go_wp2_with fail
   exact ⟨rfl, rfl, ⟨HB2.out _ _⟩⟩
  case pos =>
   have e1 := b_eq_t (a := x) (b := nodeB) hx
   rw [show nodeB.toList = [110, 111, 100, 101] from by rw [ByteArray.toList_eq]; rfl] at e1
   have HX := Aside0.mk hx
   clear hx
   cases r with
   | true =>
    go_enter Tryz.func53, Tryz.ntmps53
    go_wp2_with fail
    exact ⟨rfl, rfl, ⟨HB2.out _ _⟩⟩
   | false =>
    have hcode : (zaw y).2 ≠ 0 := by
     intro e
     have := H.out
     rw [HX.out] at this
     simp [headOk, e] at this
    have HP := Aside0.mk (parse_calls y)
    generalize (zaw y).2 = code at hcode HP
    have e3 : (code == 0) = false := beq_eq_false_iff_ne.mpr hcode
    have e4 : (code != 0) = true := by simp [hcode]
    have HG := Aside0.mk hG
    clear hcode hG
    go_enter Tryz.func53, Tryz.ntmps53
    go_wp2_with fail
    have HB3 := Aside0.mk ((HB2.out (.cells #[.slice (some ad) n c] 118) (.cells (zao zco) 40)).alloc (by simp; omega) (.cells (zao { zco with f0 := y }) 40))
    refine (HP.out _ (HG.out.below HB3.out)).mono ?_
    rintro e w1 ⟨v, rfl, hb⟩
    have HB4 := Aside0.mk (HB3.out.trans (hb.out.mono HB3.out.size))
    clear hb HB3 HP
    go_wp2_with fail
    exact ⟨rfl, rfl, HB4⟩
def NodeE (r : Option Full) (e : Ending) : Prop := match r with
 | some n => e = .returned (fullV n)
 | none => e = .panicked flawC
theorem zbe {B : Nat} {a b c : World} {m : Nat} (h : Below B a b) (hm : B ≤ m) (hB : B ≤ b.heap.size) (hg : b.grownBy c (some m)) : Below B a c :=
 ⟨hg.os.trans h.os, hg.tape.trans h.tape, hg.output.trans h.output, Nat.le_trans h.size hg.size, fun k hk => (hg.block k (by omega) (by simp; omega)).trans (h.block k hk)⟩
theorem Holds.row {b t m : Nat} {xs : Array Value} {w w' : World} (h : Holds b xs t w) (hg : w.grownBy w' (some m)) (hne : b ≠ m) : Holds b xs t w' := (hg.block b h.lt (by simp; exact hne)).trans h
theorem LBox.below {B lb : Nat} {ws : List Wd} {w w' : World} (h : LBox B lb ws w) (hb : Below w.heap.size w w') : LBox B lb ws w' := by
 obtain ⟨A, n, c, h1, h2, h3, h4, h5⟩ := h
 exact ⟨A, n, c, h1, h2.below _ h2.lt hb, Kd.C_below h3 hb, h4, h5⟩
def intAt (w : World) (a : Addr) : Int := match w.cell? a with | some (.int _ n) => n | _ => 0
def LR (pb nb off tb : Nat) (s : ByteArray) (q : Bool) (W w' : World) : Prop :=
 w'.cell? ⟨pb, 1, none⟩ = some (.pointer (some ⟨nb, off, none⟩)) ∧ w'.cell? ⟨tb, 0, none⟩ = some (.string s) ∧ w'.cell? ⟨tb, 1, none⟩ = some (.bool q) ∧ w'.cell? ⟨nb, off, none⟩ = some (.int .i64 (intAt w' ⟨nb, off, none⟩)) ∧ w'.frozen? ⟨nb, off, none⟩ = false ∧ nb ≠ pb ∧ nb ≠ tb ∧ Aside0 (W.grownBy w' (some nb))
theorem LR.drew {pb nb off tb : Nat} {s : ByteArray} {q : Bool} {W w' : World} (h : LR pb nb off tb s q W w') : LR pb nb off tb s q W w'.drew := by
 obtain ⟨h1, h2, h3, h4, h5, h6, h7, h8⟩ := h
 exact ⟨h1, h2, h3, h4, h5, h6, h7, ⟨⟨h8.out.os, h8.out.tape, h8.out.output, h8.out.size, h8.out.block⟩⟩⟩
theorem LR.call {pb nb off tb : Nat} {s : ByteArray} {q : Bool} {W w' w2 : World} (h : LR pb nb off tb s q W w') (hb : Aside0 (Below w'.heap.size w' w2)) : LR pb nb off tb s q W w2 := by
 obtain ⟨h1, h2, h3, h4, h5, h6, h7, h8⟩ := h
 have h9 := zas hb.out h4
 exact ⟨zas hb.out h1, zas hb.out h2, zas hb.out h3, by rw [h9]; unfold intAt; rw [h9, h4], (hb.out.frozen (World.block_lt_of_cell? w' _ h4)).trans h5, h6, h7, ⟨h8.out.trans (zce hb.out _)⟩⟩
theorem LR.set {pb nb off tb : Nat} {s : ByteArray} {q : Bool} {W w' : World} (h : LR pb nb off tb s q W w') (v : Int) : LR pb nb off tb s q W (w'.setCell ⟨nb, off, none⟩ (.int .i64 v)) := by
 obtain ⟨h1, h2, h3, h4, h5, h6, h7, h8⟩ := h
 have hg := zbd w' nb off (.int .i64 v)
 have hk : ∀ (b o : Nat) (u : Value), b ≠ nb → w'.cell? ⟨b, o, none⟩ = some u → (w'.setCell ⟨nb, off, none⟩ (.int .i64 v)).cell? ⟨b, o, none⟩ = some u := fun b o u hb hu => by
  rw [World.cell?_of_block (w := w') (hg.block b (World.block_lt_of_cell? w' _ hu) (fun e => hb (by injection e)))]; exact hu
 have h9 : (w'.setCell ⟨nb, off, none⟩ (.int .i64 v)).cell? ⟨nb, off, none⟩ = some (.int .i64 v) := World.cell?_setCell_same' _ _ _ (by rw [h4]; rfl)
 exact ⟨hk _ _ _ (Ne.symm h6) h1, hk _ _ _ (Ne.symm h7) h2, hk _ _ _ (Ne.symm h7) h3, by rw [h9]; unfold intAt; rw [h9], by rw [World.frozen?_setCell]; exact h5, h6, h7, ⟨h8.out.trans hg⟩⟩
theorem fullCells_int (m : Full) (k : Nat) (h : k < 5) : (zao m)[2 + k]? = some (.int .i64 (zbx m k)) := fullCells_val m k h
theorem fullCells_put (m : Full) (k : Nat) (v : Int) (h : k < 5) : (zao m).setIfInBounds (2 + k) (.int .i64 v) = zao (putNum m k v) := by
 match k, h with
 | 0, _ => rfl | 1, _ => rfl | 2, _ => rfl | 3, _ => rfl | 4, _ => rfl
theorem seven_set (w : World) (b : Nat) (m : Full) (h : Holds b (zao zco) 40 w) :
  Holds b (zao m) 40 (((((((w.setCell ⟨b, 0, none⟩ (.string m.f0)).setCell ⟨b, 1, none⟩ (.string m.f1)).setCell ⟨b, 2, none⟩ (.int .i64 m.f2)).setCell ⟨b, 3, none⟩ (.int .i64 m.f3)).setCell ⟨b, 4, none⟩ (.int .i64 m.f4)).setCell ⟨b, 5, none⟩ (.int .i64 m.f5)).setCell ⟨b, 6, none⟩ (.int .i64 m.f6)) ∧
  w.grownBy (((((((w.setCell ⟨b, 0, none⟩ (.string m.f0)).setCell ⟨b, 1, none⟩ (.string m.f1)).setCell ⟨b, 2, none⟩ (.int .i64 m.f2)).setCell ⟨b, 3, none⟩ (.int .i64 m.f3)).setCell ⟨b, 4, none⟩ (.int .i64 m.f4)).setCell ⟨b, 5, none⟩ (.int .i64 m.f5)).setCell ⟨b, 6, none⟩ (.int .i64 m.f6)) (some b) :=
 ⟨zcf (zcf (zcf (zcf (zcf (zcf (zcf h 0 _) 1 _) 2 _) 3 _) 4 _) 5 _) 6 _,
  ((((((zbd _ _ _ _).trans (zbd _ _ _ _)).trans (zbd _ _ _ _)).trans (zbd _ _ _ _)).trans (zbd _ _ _ _)).trans (zbd _ _ _ _)).trans (zbd _ _ _ _)⟩
def Short (ws : List Wd) : Prop := ∀ u ∈ ws, u.f0.size ≤ 281474976710656
theorem nextL_mem {name : ByteArray} {ws ws' : List Wd} {o : Option Wd} (h : nextL name ws = some (o, ws')) (hs : Short ws) : Short ws' ∧ ∀ u, o = some u → u.f0.size ≤ 281474976710656 := by
 match ws, h, hs with
 | [], h, hs => injection h with h; injection h with h1 h2; subst h1; subst h2; exact ⟨hs, fun u hu => by cases hu⟩
 | a :: t, h, hs =>
  unfold nextL at h
  simp only [] at h
  split at h
  ·match t, h, hs with
   | [], h, _ => cases h
   | v :: t', h, hs =>
    injection h with h; injection h with h1 h2; subst h1; subst h2
    exact ⟨fun u hu => hs u (by simp [hu]), fun u hu => by injection hu with hu; subst hu; exact hs _ (by simp)⟩
  ·injection h with h; injection h with h1 h2; subst h1; subst h2
   exact ⟨hs, fun u hu => by cases hu⟩
theorem LBox.row {B lb m : Nat} {ws : List Wd} {w w' : World} (h : LBox B lb ws w) (hg : w.grownBy w' (some m)) (hB : B ≤ m) (hne : lb ≠ m) : LBox B lb ws w' := by
 obtain ⟨A, n, c, h1, h2, h3, h4, h5⟩ := h
 exact ⟨A, n, c, h1, h2.row hg hne, C_grown h3 hg (fun ad e => Nat.ne_of_lt (Nat.lt_of_lt_of_le (h5 ad e) hB)), h4, h5⟩
set_option maxHeartbeats 8000000 in
set_option maxRecDepth 100000 in
theorem node_good (A : Option Addr) (n c : Nat) (y : ByteArray) (t : List Wd) (w : World) (hC : Kd.C k122 w A n (⟨nodeB, false⟩ :: ⟨y, false⟩ :: t)) (hc : n ≤ c) (hG : Glob w) (hcode : (zaw y).2 = 0) (hsh : Short t) :
  Calls Tryz.prog 53 #[.slice A n c] w fun e w' => NodeE (dataL { zco with f0 := y } t) e ∧ Aside0 (Below w.heap.size w w') := by
 have HSH := Aside0.mk hsh
 clear hsh
 have hu139 := Tryz.underlying122
 obtain ⟨U, hU⟩ : ∃ U, U = dataL { zco with f0 := y } t := ⟨_, rfl⟩
 rw [← hU]
 have HU := Aside0.mk hU
 have HG := Aside0.mk hG
 have hn : (⟨nodeB, false⟩ :: ⟨y, false⟩ :: t : List Wd).length = n := hC.1
 have hn2 : 2 ≤ n := by rw [← hn]; simp
 have HN := Aside0.mk (show t.length = n - 2 by simp at hn; omega)
 have d0 : decide ((n : Int) < 2) = false := decide_eq_false (by omega)
 obtain ⟨ad, rfl, g0, g1, g2, g3⟩ := two_cells hC
 have hadlt := World.block_lt_of_cell? w _ g0
 have HB2 : Aside0 (∀ o o', Below w.heap.size w ((w.alloc o).alloc o')) := ⟨fun o o' => ((Below.refl _ w).alloc (Nat.le_refl _) o).alloc (by simp) o'⟩
 have HB3 : Aside0 (∀ o o' o'', Below w.heap.size w (((w.alloc o).alloc o').alloc o'')) := ⟨fun o o' o'' => (HB2.out o o').alloc (by simp; omega) o''⟩
 have b0 : ∀ o o', ((w.alloc o).alloc o').cell? ad = some (.string nodeB) := fun o o' => zas (HB2.out o o') g0
 have b1 : ∀ o o', ((w.alloc o).alloc o').cell? ⟨ad.block, ad.off + 1, none⟩ = some (.bool false) := fun o o' => zas (HB2.out o o') g1
 have b2 : ∀ o o', ((w.alloc o).alloc o').cell? ⟨ad.block, ad.off + 2, none⟩ = some (.string y) := fun o o' => zas (HB2.out o o') g2
 have b3 : ∀ o o', ((w.alloc o).alloc o').cell? ⟨ad.block, ad.off + 2 + 1, none⟩ = some (.bool false) := fun o o' => zas (HB2.out o o') g3
 have hd1 : 1 < n := by omega
 have e1 : (nodeB.toList == [110, 111, 100, 101]) = true := by rw [show nodeB.toList = [110, 111, 100, 101] from by rw [ByteArray.toList_eq]; rfl]; rfl
 obtain ⟨A', hcut, hC', hA'⟩ := cut2 (some ad) n c hn2 hc
 have HC := Aside0.mk hC
 have HC' := Aside0.mk hC'
 have HA' := Aside0.mk hA'
 have HL0 := Aside0.mk (((Holds.new w #[.slice (some ad) n c] 118).alloc (.cells (zao zco) 40)).alloc (.cells (zao { zco with f0 := y }) 40))
 have HN0 : Aside0 (Holds (w.heap.size + 1 + 1) (zao { zco with f0 := y }) 40 (((w.alloc (.cells #[.slice (some ad) n c] 118)).alloc (.cells (zao zco) 40)).alloc (.cells (zao { zco with f0 := y }) 40))) := ⟨by
  have := Holds.new ((w.alloc (.cells #[.slice (some ad) n c] 118)).alloc (.cells (zao zco) 40)) (zao { zco with f0 := y }) 40
  simpa using this⟩
 have HR0 : Aside0 (Holds (w.heap.size + 1) (zao zco) 40 (((w.alloc (.cells #[.slice (some ad) n c] 118)).alloc (.cells (zao zco) 40)).alloc (.cells (zao { zco with f0 := y }) 40))) := ⟨by
  have := (Holds.new (w.alloc (.cells #[.slice (some ad) n c] 118)) (zao zco) 40).alloc (.cells (zao { zco with f0 := y }) 40)
  simpa using this⟩
 have HP := Aside0.mk (parse_calls y)
 rw [hcode] at HP
 have hGA := Aside0.mk hadlt
 clear g0 g1 g2 g3 hC hcode hG hU hn hC' hA' hadlt
 go_enter Tryz.func53, Tryz.ntmps53
 go_wp2_with fail
 refine (HP.out _ (HG.out.below (HB3.out _ _ _))).mono ?_
 rintro e w1 ⟨v, rfl, hb⟩
 have HB1 := Aside0.mk ((HB3.out _ _ _).trans (hb.out.mono (HB3.out _ _ _).size))
 have HL1 : Aside0 (Holds w.heap.size #[.slice (some ad) n c] 118 w1) := ⟨HL0.out.below _ HL0.out.lt hb.out⟩
 have HN1 : Aside0 (Holds (w.heap.size + 1 + 1) (zao { zco with f0 := y }) 40 w1) := ⟨HN0.out.below _ HN0.out.lt hb.out⟩
 have HR1 : Aside0 (Holds (w.heap.size + 1) (zao zco) 40 w1) := ⟨HR0.out.below _ HR0.out.lt hb.out⟩
 have HC1 := Aside0.mk (Kd.C_below HC.out HB1.out)
 clear b0 b1 b2 b3 HB2 HP hb HL0 HN0 HR0 HB3
 have l0 : w1.cell? ⟨w.heap.size, 0, none⟩ = some (.slice (some ad) n c) := HL1.out.cell 0 _ rfl
 have l1 : w1.frozen? ⟨w.heap.size, 0, none⟩ = false := Lib.frozen_of_heap HL1.out 0
 have hmf : ∀ (fn : Fn) (first cap : Array Value) (w : World), (Instr.makeFunc fn first cap).run Tryz.prog w = .ok (.func fn first cap) w := fun _ _ _ _ => rfl
 go_wp2_with fail
 have HL2 : Aside0 (LBox w.heap.size w.heap.size t (w1.setCell ⟨w.heap.size, 0, none⟩ (.slice A' (n - 2) (c - 2)))) := ⟨⟨A', n - 2, c - 2, HN.out, zcf HL1.out 0 _, C_grown (by have := HC'.out w1 _ HC1.out.1 HC1.out; simpa using this) (zbd _ _ _ _) (fun ad' h => by
  obtain ⟨ad2, h1, h2⟩ := HA'.out ad' h
  injection h1 with h1
  rw [h2, ← h1]; have := hGA.out; omega), by omega, fun ad' h => by
  obtain ⟨ad2, h1, h2⟩ := HA'.out ad' h
  injection h1 with h1
  rw [h2, ← h1]; have := hGA.out; omega⟩⟩
 have HN2 : Aside0 (Holds (w.heap.size + 1 + 1) (zao { zco with f0 := y }) 40 (w1.setCell ⟨w.heap.size, 0, none⟩ (.slice A' (n - 2) (c - 2)))) := ⟨HN1.out.row (zbd _ _ _ _) (by omega)⟩
 have HR2 : Aside0 (Holds (w.heap.size + 1) (zao zco) 40 (w1.setCell ⟨w.heap.size, 0, none⟩ (.slice A' (n - 2) (c - 2)))) := ⟨HR1.out.row (zbd _ _ _ _) (by omega)⟩
 have HB2 : Aside0 (Below w.heap.size w (w1.setCell ⟨w.heap.size, 0, none⟩ (.slice A' (n - 2) (c - 2)))) := ⟨zbe HB1.out (Nat.le_refl _) HB1.out.size (zbd _ _ _ _)⟩
 generalize (w1.setCell ⟨w.heap.size, 0, none⟩ (.slice A' (n - 2) (c - 2))) = w2 at HL2 HN2 HR2 HB2 ⊢
 clear HL1 HN1 HR1 HB1 HC1 HC HC' HA' hcut l0 l1 HN
 have hnx := next_calls dataB t w.heap.size w2 w.heap.size (Nat.le_refl _) HL2.out
 cases hD : nextL dataB t with
 | none =>
  have HV : Aside0 (U = none) := ⟨by rw [HU.out]; unfold dataL; rw [hD]⟩
  rw [hD] at hnx
  have HX := Aside0.mk hnx
  clear hnx hD HU
  refine HX.out.mono ?_
  rintro e w3 ⟨hg, he⟩
  change e = _ at he
  subst he
  go_wp2_with fail
  refine ⟨rfl, ?_, ⟨zbe HB2.out (Nat.le_refl _) HB2.out.size hg.out⟩⟩
  rw [HV.out]; rfl
 | some p =>
  obtain ⟨o, t1⟩ := p
  rw [hD] at hnx
  have HX := Aside0.mk hnx
  have HD := Aside0.mk hD
  have HSH1 := Aside0.mk (nextL_mem hD HSH.out).1
  clear hnx hD
  refine HX.out.mono ?_
  rintro e w3 ⟨hg, he, hL3⟩
  subst he
  have HB3 := Aside0.mk (zbe HB2.out (Nat.le_refl _) HB2.out.size hg.out)
  have HN3 := Aside0.mk (HN2.out.row hg.out (by omega))
  have HR3 := Aside0.mk (HR2.out.row hg.out (by omega))
  clear HX hg HB2 HN2 HR2 HL2
  have hsz3 := HB3.out.size
  have hlt3 := HN3.out.lt
  have f1 : w3.cell? ⟨w.heap.size + 1 + 1, 1, none⟩ = some (.string ⟨#[]⟩) := HN3.out.cell 1 _ rfl
  have f2 : w3.frozen? ⟨w.heap.size + 1 + 1, 1, none⟩ = false := Lib.frozen_of_heap HN3.out 1
  cases o
  case' none =>
   have HV : Aside0 (U = restL { zco with f0 := y } t1) := ⟨by rw [HU.out]; unfold dataL; rw [HD.out]⟩
   clear HU HD
   unfold wdV
   have HN5 := Aside0.mk (HN3.out.alloc (.cells #[.string z122.f0, .bool z122.f1] 122))
   have HR5 := Aside0.mk (HR3.out.alloc (.cells #[.string z122.f0, .bool z122.f1] 122))
   have HB5 := Aside0.mk (HB3.out.alloc hsz3 (.cells #[.string z122.f0, .bool z122.f1] 122))
   have HL5 := Aside0.mk (hL3.out.below ((Below.refl _ _).alloc (Nat.le_refl _) (.cells #[.string z122.f0, .bool z122.f1] 122)))
   go_wp2_with fail
   generalize w3.alloc (.cells #[.string z122.f0, .bool z122.f1] 122) = w5 at HN5 HR5 HB5 HL5 ⊢
   generalize ({ zco with f0 := y } : Full) = n1 at HN5 HV
  case' some u =>
   obtain ⟨x, q⟩ := u
   cases q
   case false =>
    have HV : Aside0 (U = none) := ⟨by rw [HU.out]; unfold dataL; rw [HD.out]; rfl⟩
    clear HU HD
    unfold wdV
    go_wp2_with fail
    refine ⟨rfl, ?_, ⟨HB3.out.alloc hsz3 _⟩⟩
    rw [HV.out]; rfl
   case' true =>
    have HV : Aside0 (U = restL { zco with f0 := y, f1 := x } t1) := ⟨by rw [HU.out]; unfold dataL; rw [HD.out]; rfl⟩
    clear HU HD
    unfold wdV
    have hg4 := (zbd w3 (w.heap.size + 1 + 1) 1 (.string x))
    have HN4 : Aside0 (Holds (w.heap.size + 1 + 1) (zao { zco with f0 := y, f1 := x }) 40 (w3.setCell ⟨w.heap.size + 1 + 1, 1, none⟩ (.string x))) := ⟨zcf HN3.out 1 _⟩
    have HR4 := Aside0.mk (HR3.out.row hg4 (by omega))
    have HB4 := Aside0.mk (zbe HB3.out (by omega) hsz3 hg4)
    have HL4 := Aside0.mk (hL3.out.row hg4 (by omega) (by omega))
    have hs4 := HB4.out.size
    have HN5 := Aside0.mk (HN4.out.alloc (.cells #[.string x, .bool true] 122))
    have HR5 := Aside0.mk (HR4.out.alloc (.cells #[.string x, .bool true] 122))
    have HB5 := Aside0.mk (HB4.out.alloc hs4 (.cells #[.string x, .bool true] 122))
    have HL5 := Aside0.mk (HL4.out.below ((Below.refl _ _).alloc (Nat.le_refl _) (.cells #[.string x, .bool true] 122)))
    clear hg4 HN4 HR4 HB4 HL4
    go_wp2_with fail
    generalize (w3.setCell ⟨w.heap.size + 1 + 1, 1, none⟩ (.string x)).alloc (.cells #[.string x, .bool true] 122) = w5 at HN5 HR5 HB5 HL5 ⊢
    generalize ({ zco with f0 := y, f1 := x } : Full) = n1 at HN5 HV
  all_goals
   clear f1 f2 HN3 HR3 HB3 hL3 hsz3 hlt3
   refine (fields_calls (w.heap.size + 1 + 1) _).mono ?_
   rintro e w6 ⟨rfl, HD6, hb6⟩
   have HN6 : Aside0 (Holds (w.heap.size + 1 + 1) (zao n1) 40 w6) := ⟨HN5.out.below _ HN5.out.lt hb6.out⟩
   have HR6 : Aside0 (Holds (w.heap.size + 1) (zao zco) 40 w6) := ⟨HR5.out.below _ HR5.out.lt hb6.out⟩
   have HL6 : Aside0 (LBox w.heap.size w.heap.size t1 w6) := ⟨HL5.out.below hb6.out⟩
   have HB6 : Aside0 (Below w.heap.size w w6) := ⟨HB5.out.trans (hb6.out.mono HB5.out.size)⟩
   have hfb : w.heap.size + 1 + 1 < w5.heap.size := HN5.out.lt
   clear HN5 HR5 HL5 HB5 hb6
   go_wp2_with fail
   go_loopw [65] (fun iv wr => ∃ (k : Nat) (m : Full) (ws : List Wd), k ≤ 5 ∧ iv = .int .i64 k ∧ Aside0 (Short ws) ∧ Aside0 (U = finL (fieldsFrom (5 - k) m ws)) ∧ Aside0 (Holds (w.heap.size + 1 + 1) (zao m) 40 wr) ∧ Aside0 (Holds (w.heap.size + 1) (zao zco) 40 wr) ∧
    Aside0 (Holds w5.heap.size (fieldCells (w.heap.size + 1 + 1)) 172 wr) ∧ Aside0 (LBox w.heap.size w.heap.size ws wr) ∧ Aside0 (Below w.heap.size w wr)) (fun iv _ => 5 - (intOf iv).toNat)
   case atStart => exact ⟨0, n1, t1, by omega, rfl, HSH1, HV, HN6, HR6, HD6, HL6, HB6⟩
   case round =>
    clear HV HN6 HR6 HD6 HL6 HB6 HSH1
    obtain ⟨k, m, ws, hk, rfl, HSW, HV, HN, HR, HD, HL, HB⟩ := hrel
    by_cases hlt : k < 5
    ·have p0 := HD.out.cell _ _ (fieldCells_name (w.heap.size + 1 + 1) k hlt)
     have p1 := HD.out.cell _ _ (fieldCells_at (w.heap.size + 1 + 1) k hlt)
     have HLa := Aside0.mk (HL.out.below ((Below.refl _ _).alloc (Nat.le_refl _) (.cells #[.string (zaz k), .pointer (some ⟨w.heap.size + 1 + 1, 2 + k, none⟩)] 172)))
     have HNa := Aside0.mk (HN.out.alloc (.cells #[.string (zaz k), .pointer (some ⟨w.heap.size + 1 + 1, 2 + k, none⟩)] 172))
     have HRa := Aside0.mk (HR.out.alloc (.cells #[.string (zaz k), .pointer (some ⟨w.heap.size + 1 + 1, 2 + k, none⟩)] 172))
     have HDa := Aside0.mk (HD.out.alloc (.cells #[.string (zaz k), .pointer (some ⟨w.heap.size + 1 + 1, 2 + k, none⟩)] 172))
     have HBa := Aside0.mk (HB.out.alloc HB.out.size (.cells #[.string (zaz k), .pointer (some ⟨w.heap.size + 1 + 1, 2 + k, none⟩)] 172))
     have HTa := Aside0.mk (Holds.new wr #[.string (zaz k), .pointer (some ⟨w.heap.size + 1 + 1, 2 + k, none⟩)] 172)
     have hwr : w.heap.size ≤ wr.heap.size := HB.out.size
     clear HN HR HD HL HB
     have hnx := next_calls (zaz k) ws w.heap.size _ w.heap.size (Nat.le_refl _) HLa.out
     have e5 : 5 - k = (4 - k) + 1 := by omega
     have e4 : 4 - (4 - k) = k := by omega
     rw [e5] at HV
     have HV : Aside0 (U = finL (match nextL (zaz k) ws with
      | none => none
      | some (none, ws') => fieldsFrom (4 - k) m ws'
      | some (some u, ws') => match numL u with
       | none => none
       | some v => fieldsFrom (4 - k) (putNum m k v) ws')) := ⟨by rw [HV.out]; rw [fieldsFrom.eq_2, e4]⟩
     clear e4 e5
     cases hD : nextL (zaz k) ws with
     | none =>
      rw [hD] at hnx HV
      have HX := Aside0.mk hnx
      clear hnx hD
      go_wp2_with fail
      refine HX.out.mono ?_
      rintro e w8 ⟨hg, he⟩
      change e = _ at he
      subst he
      go_wp2_with fail
      refine ⟨rfl, ?_, ⟨zbe HBa.out (Nat.le_refl _) HBa.out.size hg.out⟩⟩
      rw [HV.out]; rfl
     | some p =>
      obtain ⟨o, ws'⟩ := p
      rw [hD] at hnx HV
      have HX := Aside0.mk hnx
      have HSX := Aside0.mk (nextL_mem hD HSW.out)
      clear hnx hD
      go_wp2_with fail
      refine HX.out.mono ?_
      rintro e w8 ⟨hg, he, hL8⟩
      subst he
      have hsz8 : wr.heap.size + 1 ≤ w8.heap.size := by have := hg.out.size; simpa using this
      have HB8 := Aside0.mk (zbe HBa.out (Nat.le_refl _) HBa.out.size hg.out)
      have HN8 := Aside0.mk (HNa.out.row hg.out (by omega))
      have HR8 := Aside0.mk (HRa.out.row hg.out (by omega))
      have HD8 := Aside0.mk (HDa.out.row hg.out (by omega))
      have hw4 : wr.heap.size ≠ w5.heap.size := by have := World.block_lt_of_cell? wr _ p0; simp at this; omega
      have hw5 : w5.heap.size < wr.heap.size := by have := World.block_lt_of_cell? wr _ p0; simpa using this
      have hw6 : wr.heap.size ≠ w.heap.size + 1 + 1 := by omega
      have hw7 : wr.heap.size ≠ w.heap.size := by omega
      have HT8 := Aside0.mk (HTa.out.row hg.out (by omega))
      have hn8 := HN8.out.lt
      clear HX hg HBa HNa HRa HDa HTa HLa
      have HB9 := Aside0.mk (HB8.out.alloc HB8.out.size (.cells #[.string (o.getD z122).f0, .bool (o.getD z122).f1] 122))
      have HN9 := Aside0.mk (HN8.out.alloc (.cells #[.string (o.getD z122).f0, .bool (o.getD z122).f1] 122))
      have HR9 := Aside0.mk (HR8.out.alloc (.cells #[.string (o.getD z122).f0, .bool (o.getD z122).f1] 122))
      have HD9 := Aside0.mk (HD8.out.alloc (.cells #[.string (o.getD z122).f0, .bool (o.getD z122).f1] 122))
      have HT9 := Aside0.mk (HT8.out.alloc (.cells #[.string (o.getD z122).f0, .bool (o.getD z122).f1] 122))
      have HL9 := Aside0.mk (hL8.out.below ((Below.refl _ _).alloc (Nat.le_refl _) (.cells #[.string (o.getD z122).f0, .bool (o.getD z122).f1] 122)))
      have HU9 := Aside0.mk (Holds.new w8 #[.string (o.getD z122).f0, .bool (o.getD z122).f1] 122)
      clear HB8 HN8 HR8 HD8 HT8 hL8
      cases o with
      | none =>
       simp only [Option.getD_none] at HB9 HN9 HR9 HD9 HT9 HL9 HU9
       have HV : Aside0 (U = finL (fieldsFrom (5 - (k + 1)) m ws')) := ⟨by rw [HV.out, show 5 - (k + 1) = 4 - k by omega]⟩
       unfold wdV
       go_wp2_with fail
       go_roundw
       case rel => exact ⟨k + 1, m, ws', by omega, by go_num, ⟨HSX.out.1⟩, HV, HN9, HR9, HD9, HL9, HB9⟩
       case measure => simp [intOf]; omega
      | some u =>
       obtain ⟨x, q⟩ := u
       simp only [Option.getD_some] at HB9 HN9 HR9 HD9 HT9 HL9 HU9
       have hwf : wr.heap.size ≠ w.heap.size + 1 + 1 := by omega
       have hnm := fun w' hG' => numeral_calls ⟨x, q⟩ (HSX.out.2 _ rfl) w' hG'
       have HLR : LR wr.heap.size (w.heap.size + 1 + 1) (2 + k) w8.heap.size x q (w8.alloc (.cells #[.string x, .bool q] 122)) (w8.alloc (.cells #[.string x, .bool q] 122)) :=
        ⟨HT9.out.cell 1 _ rfl, HU9.out.cell 0 _ rfl, HU9.out.cell 1 _ rfl, by rw [HN9.out.cell _ _ (fullCells_int m k hlt)]; unfold intAt; rw [HN9.out.cell _ _ (fullCells_int m k hlt)], Lib.frozen_of_heap HN9.out _, by omega, by omega, ⟨World.grownBy.refl _ _⟩⟩
       unfold wdV
       go_wp2_with fail
       have K0 : ∀ w', LR wr.heap.size (w.heap.size + 1 + 1) (2 + k) w8.heap.size x q (w8.alloc (.cells #[.string x, .bool q] 122)) w' → w'.cell? ⟨wr.heap.size, 1, none⟩ = some (.pointer (some ⟨w.heap.size + 1 + 1, 2 + k, none⟩)) := fun w' h => h.1
       have K1 : ∀ w', LR wr.heap.size (w.heap.size + 1 + 1) (2 + k) w8.heap.size x q (w8.alloc (.cells #[.string x, .bool q] 122)) w' → w'.cell? ⟨w8.heap.size, 0, none⟩ = some (.string x) := fun w' h => h.2.1
       have K2 : ∀ w', LR wr.heap.size (w.heap.size + 1 + 1) (2 + k) w8.heap.size x q (w8.alloc (.cells #[.string x, .bool q] 122)) w' → w'.cell? ⟨w8.heap.size, 1, none⟩ = some (.bool q) := fun w' h => h.2.2.1
       have K3 : ∀ w', LR wr.heap.size (w.heap.size + 1 + 1) (2 + k) w8.heap.size x q (w8.alloc (.cells #[.string x, .bool q] 122)) w' → w'.cell? ⟨w.heap.size + 1 + 1, 2 + k, none⟩ = some (.int .i64 (intAt w' ⟨w.heap.size + 1 + 1, 2 + k, none⟩)) := fun w' h => h.2.2.2.1
       have K4 : ∀ w', LR wr.heap.size (w.heap.size + 1 + 1) (2 + k) w8.heap.size x q (w8.alloc (.cells #[.string x, .bool q] 122)) w' → w'.frozen? ⟨w.heap.size + 1 + 1, 2 + k, none⟩ = false := fun w' h => h.2.2.2.2.1
       have HG2 : Aside0 (∀ w', LR wr.heap.size (w.heap.size + 1 + 1) (2 + k) w8.heap.size x q (w8.alloc (.cells #[.string x, .bool q] 122)) w' → Glob w') := ⟨fun w' h => HG.out.below (zbe HB9.out (by omega) HB9.out.size h.2.2.2.2.2.2.2.out)⟩
       cases hnum : numL ⟨x, q⟩ with
       | none =>
        rw [hnum] at hnm HV
        have HNM := Aside0.mk hnm
        clear hnm hnum
        have p1 := HLR.1
        have p2 := HLR.2.1
        have p3 := HLR.2.2.1
        have hGd : Glob ((w8.alloc (.cells #[.string x, .bool q] 122)).drew) := HG2.out _ HLR.drew
        have HGd := Aside0.mk hGd
        have HBd := Aside0.mk HB9.out.drew
        have HN0 : Aside0 (U = none) := ⟨by rw [HV.out]; rfl⟩
        clear hGd K0 K1 K2 K3 K4 HLR
        refine wp_region_any (by kernel_rfl) ?_
        change wpAny _ _ _ _ _ _ _ (World.drew _)
        refine wpAny_take (i := 0) (v := .pointer (some ⟨wr.heap.size, 1, none⟩)) rfl (by kernel_rfl) (by kernel_rfl) (by kernel_rfl) (fun _ _ _ h => h) (Or.inl ⟨by rfl, by intro w; go_simp⟩) ?_
        refine wpAny_ready (rs := [1, 2]) (by kernel_rfl) (by simp) ?_
        refine AllReady.cons rfl (fun K hK => ?_) (AllReady.cons rfl (fun K hK => ?_) AllReady.nil)
        ·go_simp
         refine hK _ _ ?_
         clear hK K
         refine wpAny_ready (rs := [2]) (by kernel_rfl) (by simp) ?_
         refine AllReady.cons rfl (fun K hK => ?_) AllReady.nil
         go_simp
         refine hK _ _ ?_
         clear hK K
         refine wpAny_ready (rs := [3]) (by kernel_rfl) (by simp) ?_
         refine AllReady.cons rfl (fun K hK => ?_) AllReady.nil
         go_simp
         (refine (HNM.out _ HGd.out).mono ?_; rintro e w3 ⟨he, hb3⟩; change e = _ at he; subst he; exact ⟨rfl, by rw [HN0.out]; rfl, ⟨HBd.out.trans (hb3.out.mono HBd.out.size)⟩⟩)
        ·go_simp
         refine hK _ _ ?_
         clear hK K
         refine wpAny_ready (rs := [1, 3]) (by kernel_rfl) (by simp) ?_
         refine AllReady.cons rfl (fun K hK => ?_) (AllReady.cons rfl (fun K hK => ?_) AllReady.nil)
         ·go_simp
          refine hK _ _ ?_
          clear hK K
          refine wpAny_ready (rs := [3]) (by kernel_rfl) (by simp) ?_
          refine AllReady.cons rfl (fun K hK => ?_) AllReady.nil
          go_simp
          (refine (HNM.out _ HGd.out).mono ?_; rintro e w3 ⟨he, hb3⟩; change e = _ at he; subst he; exact ⟨rfl, by rw [HN0.out]; rfl, ⟨HBd.out.trans (hb3.out.mono HBd.out.size)⟩⟩)
         ·go_simp
          (refine (HNM.out _ HGd.out).mono ?_; rintro e w3 ⟨he, hb3⟩; change e = _ at he; subst he; exact ⟨rfl, by rw [HN0.out]; rfl, ⟨HBd.out.trans (hb3.out.mono HBd.out.size)⟩⟩)
       | some v =>
        rw [hnum] at hnm HV
        have HNM := Aside0.mk hnm
        clear hnm hnum
        go_region_held3 (fun w' => LR wr.heap.size (w.heap.size + 1 + 1) (2 + k) w8.heap.size x q (w8.alloc (.cells #[.string x, .bool q] 122)) w')
         (first
          | exact LR.drew (by assumption)
          | exact LR.call (by assumption) (by assumption)
          | exact LR.set (by assumption) _)
         (first
          | (go_at_call 99; refine (HNM.out _ (HG2.out _ (by assumption))).mono ?_; rintro e w3 ⟨he, hb3⟩; change e = _ at he; subst he))
        have hb4 : Aside0 (Below (w8.alloc (.cells #[.string x, .bool q] 122)).heap.size (w8.alloc (.cells #[.string x, .bool q] 122)) w3) := ⟨(below_drew (Below.refl _ _)).trans hb3.out⟩
        have HB10 := Aside0.mk (HB9.out.trans (hb4.out.mono HB9.out.size))
        have HN10 : Aside0 (Holds (w.heap.size + 1 + 1) (zao m) 40 w3) := ⟨Holds.below HN9.out _ HN9.out.lt hb4.out⟩
        have HR10 : Aside0 (Holds (w.heap.size + 1) (zao zco) 40 w3) := ⟨Holds.below HR9.out _ HR9.out.lt hb4.out⟩
        have HD10 : Aside0 (Holds w5.heap.size (fieldCells (w.heap.size + 1 + 1)) 172 w3) := ⟨Holds.below HD9.out _ HD9.out.lt hb4.out⟩
        have HL10 : Aside0 (LBox w.heap.size w.heap.size ws' w3) := ⟨LBox.below HL9.out hb4.out⟩
        have hg11 := Aside0.mk (zbd w3 (w.heap.size + 1 + 1) (2 + k) (.int .i64 v))
        have HN11 : Aside0 (Holds (w.heap.size + 1 + 1) (zao (putNum m k v)) 40 (w3.setCell ⟨w.heap.size + 1 + 1, 2 + k, none⟩ (.int .i64 v))) := ⟨by rw [← fullCells_put m k v hlt]; exact zcf HN10.out (2 + k) _⟩
        have HV2 : Aside0 (U = finL (fieldsFrom (5 - (k + 1)) (putNum m k v) ws')) := ⟨by rw [HV.out, show 5 - (k + 1) = 4 - k by omega]⟩
        go_wp2_with fail
        go_roundw
        case rel => exact ⟨k + 1, putNum m k v, ws', by omega, by go_num, ⟨HSX.out.1⟩, HV2, HN11, ⟨HR10.out.row hg11.out (by omega)⟩, ⟨HD10.out.row hg11.out (by omega)⟩, ⟨HL10.out.row hg11.out (by omega) (by omega)⟩, ⟨zbe HB10.out (by omega) HB10.out.size hg11.out⟩⟩
        case measure => simp [intOf]; omega
    ·have hk5 : k = 5 := by omega
     subst hk5
     have l0 : ∃ A n c, wr.cell? ⟨w.heap.size, 0, none⟩ = some (.slice A n c) ∧ ws.length = n := by
      obtain ⟨A, n, c, h1, h2, h3, h4, h5⟩ := HL.out
      exact ⟨A, n, c, h2.cell 0 _ rfl, h1⟩
     obtain ⟨A2, n2, c2, l0, hn2'⟩ := l0
     have q0 : wr.cell? ⟨w.heap.size + 1 + 1, 0, none⟩ = some (.string m.f0) := HN.out.cell 0 _ rfl
     have q1 : wr.cell? ⟨w.heap.size + 1 + 1, 1, none⟩ = some (.string m.f1) := HN.out.cell 1 _ rfl
     have q2 : wr.cell? ⟨w.heap.size + 1 + 1, 2, none⟩ = some (.int .i64 m.f2) := HN.out.cell 2 _ rfl
     have q3 : wr.cell? ⟨w.heap.size + 1 + 1, 3, none⟩ = some (.int .i64 m.f3) := HN.out.cell 3 _ rfl
     have q4 : wr.cell? ⟨w.heap.size + 1 + 1, 4, none⟩ = some (.int .i64 m.f4) := HN.out.cell 4 _ rfl
     have q5 : wr.cell? ⟨w.heap.size + 1 + 1, 5, none⟩ = some (.int .i64 m.f5) := HN.out.cell 5 _ rfl
     have q6 : wr.cell? ⟨w.heap.size + 1 + 1, 6, none⟩ = some (.int .i64 m.f6) := HN.out.cell 6 _ rfl
     have HW := Aside0.mk hn2'
     by_cases hpos : 0 < n2
     ·have d9 : decide (0 < (n2 : Int)) = true := decide_eq_true (by omega)
      have HV2 : Aside0 (U = none) := ⟨by
       rw [HV.out, show 5 - 5 = 0 from rfl, fieldsFrom.eq_1]
       match ws, HW.out with
       | [], h => simp at h; omega
       | _ :: _, _ => rfl⟩
      clear hn2'
      go_wp2_with fail
      refine ⟨rfl, ?_, HB⟩
      rw [HV2.out]; rfl
     ·have d9 : decide (0 < (n2 : Int)) = false := decide_eq_false (by omega)
      have HV2 : Aside0 (U = some m) := ⟨by
       rw [HV.out, show 5 - 5 = 0 from rfl, fieldsFrom.eq_1]
       match ws, HW.out with
       | [], h => rfl
       | _ :: _, h => simp at h; omega⟩
      have r0 : wr.cell? ⟨w.heap.size + 1, 0, none⟩ = some (.string ⟨#[]⟩) := HR.out.cell 0 _ rfl
      have r1 : wr.cell? ⟨w.heap.size + 1, 1, none⟩ = some (.string ⟨#[]⟩) := HR.out.cell 1 _ rfl
      have r2 : wr.cell? ⟨w.heap.size + 1, 2, none⟩ = some (.int .i64 0) := HR.out.cell 2 _ rfl
      have r3 : wr.cell? ⟨w.heap.size + 1, 3, none⟩ = some (.int .i64 0) := HR.out.cell 3 _ rfl
      have r4 : wr.cell? ⟨w.heap.size + 1, 4, none⟩ = some (.int .i64 0) := HR.out.cell 4 _ rfl
      have r5 : wr.cell? ⟨w.heap.size + 1, 5, none⟩ = some (.int .i64 0) := HR.out.cell 5 _ rfl
      have r6 : wr.cell? ⟨w.heap.size + 1, 6, none⟩ = some (.int .i64 0) := HR.out.cell 6 _ rfl
      have z0 := Lib.frozen_of_heap HR.out 0
      have z1 := Lib.frozen_of_heap HR.out 1
      have z2 := Lib.frozen_of_heap HR.out 2
      have z3 := Lib.frozen_of_heap HR.out 3
      have z4 := Lib.frozen_of_heap HR.out 4
      have z5 := Lib.frozen_of_heap HR.out 5
      have z6 := Lib.frozen_of_heap HR.out 6
      clear hn2'
      go_wp2_with fail
      clear z0 z1 z2 z3 z4 z5 z6 r0 r1 r2 r3 r4 r5 r6 q0 q1 q2 q3 q4 q5 q6 l0
      obtain ⟨hW, hX⟩ := seven_set wr (w.heap.size + 1) m HR.out
      have HX := Aside0.mk (zbe HB.out (by omega) HB.out.size hX)
      have HW7 := Aside0.mk hW
      clear hW hX HB HR HN HD HL
      generalize (((((((wr.setCell ⟨w.heap.size + 1, 0, none⟩ (.string m.f0)).setCell ⟨w.heap.size + 1, 1, none⟩ (.string m.f1)).setCell ⟨w.heap.size + 1, 2, none⟩ (.int .i64 m.f2)).setCell ⟨w.heap.size + 1, 3, none⟩ (.int .i64 m.f3)).setCell ⟨w.heap.size + 1, 4, none⟩ (.int .i64 m.f4)).setCell ⟨w.heap.size + 1, 5, none⟩ (.int .i64 m.f5)).setCell ⟨w.heap.size + 1, 6, none⟩ (.int .i64 m.f6)) = W7 at HX HW7 ⊢
      have o0 : W7.cell? ⟨w.heap.size + 1, 0, none⟩ = some (.string m.f0) := HW7.out.cell 0 _ rfl
      have o1 : W7.cell? ⟨w.heap.size + 1, 1, none⟩ = some (.string m.f1) := HW7.out.cell 1 _ rfl
      have o2 : W7.cell? ⟨w.heap.size + 1, 2, none⟩ = some (.int .i64 m.f2) := HW7.out.cell 2 _ rfl
      have o3 : W7.cell? ⟨w.heap.size + 1, 3, none⟩ = some (.int .i64 m.f3) := HW7.out.cell 3 _ rfl
      have o4 : W7.cell? ⟨w.heap.size + 1, 4, none⟩ = some (.int .i64 m.f4) := HW7.out.cell 4 _ rfl
      have o5 : W7.cell? ⟨w.heap.size + 1, 5, none⟩ = some (.int .i64 m.f5) := HW7.out.cell 5 _ rfl
      have o6 : W7.cell? ⟨w.heap.size + 1, 6, none⟩ = some (.int .i64 m.f6) := HW7.out.cell 6 _ rfl
      refine bodyPost_ret (v := .agg #[.string m.f0, .string m.f1, .int .i64 m.f2, .int .i64 m.f3, .int .i64 m.f4, .int .i64 m.f5, .int .i64 m.f6]) (by simp [results, Tryz.results53, go_sem, o0, o1, o2, o3, o4, o5, o6]) rfl ⟨?_, HX⟩
      rw [HV2.out]; rfl
theorem node_calls (A : Option Addr) (n c : Nat) (ws : List Wd) (w : World) (hn : ws.length = n) (hC : Kd.C k122 w A n ws) (hc : n ≤ c) (hG : Glob w) (hsh : Short ws) :
  Calls Tryz.prog 53 #[.slice A n c] w fun e w' => NodeE (nodeL ws) e ∧ Aside0 (Below w.heap.size w w') := by
 cases h : headOk ws with
 | false =>
  have e : nodeL ws = none := by unfold nodeL; rw [h]; rfl
  rw [e]
  exact node_bad A n c ws w hn hC hG h
 | true =>
  match ws, hn, hC, hsh, h with
  | [], _, _, _, h => cases h
  | [_], _, _, _, h => cases h
  | a :: b :: t, hn, hC, hsh, h =>
   have h' := h
   simp only [headOk, Bool.and_eq_true, decide_eq_true_eq, Bool.not_eq_true'] at h'
   obtain ⟨⟨h1, h2⟩, h3⟩ := h'
   obtain ⟨y, q⟩ := b
   simp only [] at h2 h3
   subst h1
   subst h2
   have e : nodeL (⟨nodeB, false⟩ :: ⟨y, false⟩ :: t) = dataL { zco with f0 := y } t := by unfold nodeL; rw [h]; rfl
   rw [e]
   exact node_good A n c y t w hC hc hG h3 (fun u hu => hsh u (by simp [hu]))
end Go.Proofs.YteamhfmpogbilaaGreatDoor.X
