/- tool.fields, tool.line, tool.written: a node's line, a tree's text, as plain functions of lists of bytes. -/
import Derived.Test.YteamhfmpogbilaaGreatDoorQuote
import Derived.Test.YteamhfmpogbilaaGreatDoorZQ1
import Derived.WalkKit
import Derived.Outline
import Derived.StillTailTactics
import Derived.Deep.RegionHeld3
import Derived.Deep.RegionWith
import Derived.Lib.ItoaLen
set_option linter.unusedVariables false
set_option linter.unusedSimpArgs false
namespace Go.Proofs.YteamhfmpogbilaaGreatDoor.X
open Go.RowKit Go.Proofs.YteamhfmpogbilaaGreatDoor Go.Proofs.YteamhfmpogbilaaGreatDoorW.PrintWords Go.Proofs.YteamhfmpogbilaaGreatDoorW.PrintLast
def fieldCells (b : Nat) : Array Value :=
 #[.string ⟨#[118, 101, 114, 115, 105, 111, 110]⟩, .pointer (some ⟨b, 2, none⟩), .string ⟨#[109, 97, 100, 101]⟩, .pointer (some ⟨b, 3, none⟩), .string ⟨#[99, 104, 97, 110, 103, 101, 100]⟩, .pointer (some ⟨b, 4, none⟩),
  .string ⟨#[111, 119, 110, 101, 114]⟩, .pointer (some ⟨b, 5, none⟩), .string ⟨#[99, 111, 117, 110, 116, 101, 114]⟩, .pointer (some ⟨b, 6, none⟩)]
def zaz (k : Nat) : ByteArray := match k with
 | 0 => ⟨#[118, 101, 114, 115, 105, 111, 110]⟩ | 1 => ⟨#[109, 97, 100, 101]⟩ | 2 => ⟨#[99, 104, 97, 110, 103, 101, 100]⟩ | 3 => ⟨#[111, 119, 110, 101, 114]⟩ | _ => ⟨#[99, 111, 117, 110, 116, 101, 114]⟩
theorem fieldCells_name (b k : Nat) (h : k < 5) : (fieldCells b)[k * 2]? = some (.string (zaz k)) := by
 match k, h with
 | 0, _ => rfl | 1, _ => rfl | 2, _ => rfl | 3, _ => rfl | 4, _ => rfl
theorem fieldCells_at (b k : Nat) (h : k < 5) : (fieldCells b)[k * 2 + 1]? = some (.pointer (some ⟨b, 2 + k, none⟩)) := by
 match k, h with
 | 0, _ => rfl | 1, _ => rfl | 2, _ => rfl | 3, _ => rfl | 4, _ => rfl
set_option maxHeartbeats 400000 in
set_option maxRecDepth 100000 in
theorem fields_any (b : Nat) (w : World) :
  Calls Tryz.prog 79 #[.pointer (some ⟨b, 0, none⟩)] w fun e w' => e = .returned (.slice (some ⟨w.heap.size, 0, none⟩) 5 5) ∧ w' = (w.alloc (.cells (fieldCells b) 172)).drew := by
 go_enter Tryz.func79, Tryz.ntmps79
 go_wp2
 go_still_tail 20, (by kernel_rfl)
 change wpList _ _ _ _ _ w.drew
 go_wp2
 go_ret
 exact ⟨rfl, rfl⟩
def zbx (n : S40) (k : Nat) : Int := match k with | 0 => n.f2 | 1 => n.f3 | 2 => n.f4 | 3 => n.f5 | _ => n.f6
def zao (n : S40) : Array Value := #[.string n.f0, .string n.f1, .int .i64 n.f2, .int .i64 n.f3, .int .i64 n.f4, .int .i64 n.f5, .int .i64 n.f6]
theorem fullCells_val (n : S40) (k : Nat) (h : k < 5) : (zao n)[2 + k]? = some (.int .i64 (zbx n k)) := by
 match k, h with
 | 0, _ => rfl | 1, _ => rfl | 2, _ => rfl | 3, _ => rfl | 4, _ => rfl
def wd2 (a b : ByteArray) : ByteArray := ⟨(a.data.toList ++ [32] ++ b.data.toList).toArray⟩
def wd3 (a b c : ByteArray) : ByteArray := ⟨(a.data.toList ++ [32] ++ b.data.toList ++ [32] ++ c.data.toList).toArray⟩
def quoteB (s : ByteArray) : ByteArray := ⟨(quoteL s.data.toList).toArray⟩
def itoaB (n : Int) : ByteArray := ⟨(Lib.itoa n).toArray⟩
theorem mkB_size (l : List UInt8) : (⟨l.toArray⟩ : ByteArray).size = l.length := by show l.toArray.size = _; exact List.size_toArray
theorem bl (a : ByteArray) : a.data.toList.length = a.size := Array.length_toList
theorem wd2_size (a b : ByteArray) : (wd2 a b).size = a.size + b.size + 1 := by unfold wd2; rw [mkB_size]; simp only [List.length_append, bl, List.length_cons, List.length_nil]; omega
theorem wd3_size (a b c : ByteArray) : (wd3 a b c).size = a.size + b.size + c.size + 2 := by unfold wd3; rw [mkB_size]; simp only [List.length_append, bl, List.length_cons, List.length_nil]; omega
theorem quoteB_size (s : ByteArray) : (quoteB s).size ≤ 4 * s.size + 2 := by
 have := quotes_len s.data.toList
 unfold quoteB quoteL; rw [mkB_size]; rw [bl] at this; simp only [List.length_append, List.length_cons, List.length_nil]; omega
theorem itoaB_size (n : Int) (h0 : -9223372036854775808 ≤ n) (h1 : n ≤ 9223372036854775807) : (itoaB n).size ≤ 21 := by
 have := Lib.itoa_length_le n h0 h1
 unfold itoaB; rw [mkB_size]; exact this
def nodeB : ByteArray := ⟨#[110, 111, 100, 101]⟩
def dataB : ByteArray := ⟨#[100, 97, 116, 97]⟩
def lineB (n : S40) : Nat → ByteArray
 | 0 => if n.f1.toList = [] then wd2 nodeB n.f0 else wd3 (wd2 nodeB n.f0) dataB (quoteB n.f1)
 | k + 1 => if zbx n k = 0 then lineB n k else wd3 (lineB n k) (zaz k) (itoaB (zbx n k))
def ranged (n : S40) : Prop := ∀ k, k < 5 → -9223372036854775808 ≤ zbx n k ∧ zbx n k ≤ 9223372036854775807
theorem fieldName_size (k : Nat) : (zaz k).size ≤ 7 := by unfold zaz; split <;> decide
theorem lineB_size (n : S40) (hr : ranged n) : ∀ k, k ≤ 5 → (lineB n k).size ≤ n.f0.size + 4 * n.f1.size + 20 + 30 * k
 | 0, _ => by
  have := quoteB_size n.f1
  have e1 : nodeB.size = 4 := rfl
  have e2 : dataB.size = 4 := rfl
  unfold lineB; split <;> (try simp only [wd2_size, wd3_size]) <;> omega
 | k + 1, h => by
  have := lineB_size n hr k (by omega)
  have := fieldName_size k
  have := itoaB_size _ (hr k (by omega)).1 (hr k (by omega)).2
  unfold lineB; split <;> (try simp only [wd3_size]) <;> omega
theorem words2 (a b : ByteArray) (h : a.size + b.size + 1 ≤ 140737488355328) : yem.f [a, b] = some (wd2 a b) := by
 have e : Lib.join (List.map (fun x => x.data.toList) [a, b]) [32] = a.data.toList ++ [32] ++ b.data.toList := by simp [Lib.join, List.intercalate]
 have hl : (a.data.toList ++ [32] ++ b.data.toList).length ≤ 140737488355328 := by simp; omega
 unfold yem.f yec.f
 rw [if_pos ⟨by simp, by rw [e]; exact hl⟩, e]; rfl
theorem words3 (a b c : ByteArray) (h : a.size + b.size + c.size + 2 ≤ 140737488355328) : yem.f [a, b, c] = some (wd3 a b c) := by
 have e : Lib.join (List.map (fun x => x.data.toList) [a, b, c]) [32] = a.data.toList ++ [32] ++ b.data.toList ++ [32] ++ c.data.toList := by simp [Lib.join, List.intercalate]
 have hl : (a.data.toList ++ [32] ++ b.data.toList ++ [32] ++ c.data.toList).length ≤ 140737488355328 := by simp; omega
 unfold yem.f yec.f
 rw [if_pos ⟨by simp, by rw [e]; exact hl⟩, e]; rfl
theorem number_itoa (n : Int) (h0 : -9223372036854775808 ≤ n) (h1 : n ≤ 9223372036854775807) : tool_number.f n = some (itoaB n) := by
 unfold tool_number.f yei.f; rw [if_pos h0, if_pos h1]; rfl
theorem readsS {W : World} {g : Nat} {xs : List ByteArray} (hn : xs.length ≤ 9223372036854775807) (h : ∀ j x, xs[j]? = some x → W.cell? ⟨g, j, none⟩ = some (.string x)) : Kd.C Kd.string W (some ⟨g, 0, none⟩) xs.length xs := by
 refine ⟨rfl, hn, fun _ => ⟨_, rfl, fun j p hj => ⟨[.string p], rfl, rfl, fun i u hi => ?_⟩⟩⟩
 match i, hi with
 | 0, hi =>
  have e : Kd.string.sz = 1 := rfl
  simp at hi; subst hi
  rw [add_plain, e, Nat.mul_one, Nat.add_zero]
  exact h j p hj
theorem words2_call (a b : ByteArray) (W : World) (g : Nat) (h0 : W.cell? ⟨g, 0, none⟩ = some (.string a)) (h1 : W.cell? ⟨g, 1, none⟩ = some (.string b)) (h : a.size + b.size + 1 ≤ 140737488355328) :
  Calls Tryz.prog 68 #[.slice (some ⟨g, 0, none⟩) 2 2] W fun e w' => e = .returned (.string (wd2 a b)) ∧ Aside0 (Below W.heap.size W w') := by
 refine (yem.calls (some ⟨g, 0, none⟩) 2 [a, b] _ W (readsS (by simp) fun j x hj => ?_) (Nat.le_refl _) (words2 a b h)).mono ?_
 ·match j, hj with
  | 0, hj => simp at hj; subst hj; exact h0
  | 1, hj => simp at hj; subst hj; exact h1
 ·rintro e w' ⟨rfl, hb⟩; exact ⟨rfl, ⟨hb⟩⟩
theorem words3_call (a b c : ByteArray) (W : World) (g : Nat) (h0 : W.cell? ⟨g, 0, none⟩ = some (.string a)) (h1 : W.cell? ⟨g, 1, none⟩ = some (.string b)) (h2 : W.cell? ⟨g, 2, none⟩ = some (.string c)) (h : a.size + b.size + c.size + 2 ≤ 140737488355328) :
  Calls Tryz.prog 68 #[.slice (some ⟨g, 0, none⟩) 3 3] W fun e w' => e = .returned (.string (wd3 a b c)) ∧ Aside0 (Below W.heap.size W w') := by
 refine (yem.calls (some ⟨g, 0, none⟩) 3 [a, b, c] _ W (readsS (by simp) fun j x hj => ?_) (Nat.le_refl _) (words3 a b c h)).mono ?_
 ·match j, hj with
  | 0, hj => simp at hj; subst hj; exact h0
  | 1, hj => simp at hj; subst hj; exact h1
  | 2, hj => simp at hj; subst hj; exact h2
 ·rintro e w' ⟨rfl, hb⟩; exact ⟨rfl, ⟨hb⟩⟩
def Holds (b : Nat) (xs : Array Value) (t : Nat) (w : World) : Prop := w.heap[b]? = some (.cells xs t (0, 0))
theorem Holds.lt {b t : Nat} {xs : Array Value} {w : World} (h : Holds b xs t w) : b < w.heap.size := by
 rcases Nat.lt_or_ge b w.heap.size with h' | h'
 ·exact h'
 ·unfold Holds at h; simp [Array.getElem?_eq_none h'] at h
theorem Holds.cell {b t : Nat} {xs : Array Value} {w : World} (h : Holds b xs t w) (j : Nat) (v : Value) (hj : xs[j]? = some v) : w.cell? ⟨b, j, none⟩ = some v := by rw [Lib.cell_of_heap h]; exact hj
theorem Holds.below {b t : Nat} {xs : Array Value} {w w' : World} (h : Holds b xs t w) (B : Nat) (hB : b < B) (hb : Below B w w') : Holds b xs t w' := (hb.block b hB).trans h
theorem Holds.new (w : World) (xs : Array Value) (t : Nat) : Holds w.heap.size xs t (w.alloc (.cells xs t)) := (MapKept.heap_alloc w _).1
theorem Holds.drew {b t : Nat} {xs : Array Value} {w : World} (h : Holds b xs t w) : Holds b xs t w.drew := h
theorem Holds.alloc {b t : Nat} {xs : Array Value} {w : World} (h : Holds b xs t w) (o : Obj) : Holds b xs t (w.alloc o) := h.below w.heap.size h.lt ((Below.refl _ _).alloc (Nat.le_refl _) o)
theorem fields_calls (b : Nat) (w : World) :
  Calls Tryz.prog 79 #[.pointer (some ⟨b, 0, none⟩)] w fun e w' => e = .returned (.slice (some ⟨w.heap.size, 0, none⟩) 5 5) ∧ Aside0 (Holds w.heap.size (fieldCells b) 172 w') ∧ Aside0 (Below w.heap.size w w') := by
 refine (fields_any b w).mono ?_
 rintro e w' ⟨rfl, rfl⟩
 exact ⟨rfl, ⟨(Holds.new w _ _).drew⟩, ⟨((Below.refl _ _).alloc (Nat.le_refl _) _).drew⟩⟩
theorem number_call (n : Int) (w : World) (hG : Glob w) (h0 : -9223372036854775808 ≤ n) (h1 : n ≤ 9223372036854775807) :
  Calls Tryz.prog 69 #[.int .i64 n] w fun e w' => e = .returned (.string (itoaB n)) ∧ Aside0 (Below w.heap.size w w') := by
 refine (tool_number.calls n _ w hG (number_itoa n h0 h1)).mono ?_
 rintro e w' ⟨rfl, hb⟩
 exact ⟨rfl, ⟨hb⟩⟩
def LS (b c k : Nat) (v : Int) (wr w' : World) : Prop :=
 w'.cell? ⟨c, 0, none⟩ = some (.string (zaz k)) ∧ w'.cell? ⟨c, 1, none⟩ = some (.pointer (some ⟨b, 2 + k, none⟩)) ∧ w'.cell? ⟨b, 2 + k, none⟩ = some (.int .i64 v) ∧ Aside0 (Below wr.heap.size wr w')
theorem LS.drew {b c k : Nat} {v : Int} {wr w' : World} (h : LS b c k v wr w') : LS b c k v wr w'.drew := by
 obtain ⟨h1, h2, h3, h4⟩ := h
 exact ⟨h1, h2, h3, ⟨h4.out.drew⟩⟩
theorem LS.alloc {b c k : Nat} {v : Int} {wr w' : World} (h : LS b c k v wr w') (o : Obj) : LS b c k v wr (w'.alloc o) := by
 obtain ⟨h1, h2, h3, h4⟩ := h
 have hb := (Below.refl w'.heap.size w').alloc (Nat.le_refl _) o
 exact ⟨zas hb h1, zas hb h2, zas hb h3, ⟨h4.out.alloc h4.out.size o⟩⟩
theorem LS.call {b c k : Nat} {v : Int} {wr w' w2 : World} (h : LS b c k v wr w') (hb : Aside0 (Below w'.heap.size w' w2)) : LS b c k v wr w2 := by
 obtain ⟨h1, h2, h3, h4⟩ := h
 exact ⟨zas hb.out h1, zas hb.out h2, zas hb.out h3, ⟨h4.out.trans (hb.out.mono h4.out.size)⟩⟩
theorem LS.under {b c k : Nat} {v : Int} {wr w' : World} {o : Obj} (h : LS b c k v (wr.alloc o) w') : Below wr.heap.size wr w' :=
 ((Below.refl wr.heap.size wr).alloc (Nat.le_refl _) o).trans (h.2.2.2.out.mono (by simp))
theorem LS.glob {b c k : Nat} {v : Int} {wr w' : World} {o : Obj} (h : LS b c k v (wr.alloc o) w') (hG : Aside0 (Glob wr)) : Glob w' := hG.out.below h.under
set_option maxHeartbeats 2000000 in
set_option maxRecDepth 100000 in
theorem line_calls (n : S40) (w : World) (hG : Glob w) (hr : ranged n) (hs : n.f0.size + 4 * n.f1.size + 1000 ≤ 140737488355328) :
  Calls Tryz.prog 38 #[.agg (zao n)] w fun e w' => e = .returned (.string (lineB n 5)) ∧ Aside0 (Below w.heap.size w w') := by
 have HG := Aside0.mk hG
 have HH0 := Aside0.mk (Holds.new w (zao n) 40)
 have HB0 := Aside0.mk ((Below.refl w.heap.size w).alloc (Nat.le_refl _) (.cells (zao n) 40))
 have hq := quoteB_size n.f1
 have HR := Aside0.mk hr
 have HLs := Aside0.mk (lineB_size n hr)
 clear hG hr
 unfold zao
 go_enter Tryz.func38, Tryz.ntmps38
 go_wp2_with fail
 refine (words2_call nodeB n.f0 _ _ ?_ ?_ ?_).mono ?_
 ·go_simp; rfl
 ·go_simp
 ·show 4 + n.f0.size + 1 ≤ _; omega
 rintro e w1 ⟨rfl, hb1⟩
 have HH1 : Aside0 (Holds w.heap.size (zao n) 40 w1) := ⟨(HH0.out.alloc _).below _ (by simp; omega) hb1.out⟩
 have HB1 : Aside0 (Below w.heap.size w w1) := ⟨(HB0.out.alloc (by simp) _).trans (hb1.out.mono (by simp; omega))⟩
 have sz1 := HB1.out.size
 clear HH0 HB0 hb1
 have c0 : w1.cell? ⟨w.heap.size, 0, none⟩ = some (.string n.f0) := HH1.out.cell 0 _ rfl
 have c1 : w1.cell? ⟨w.heap.size, 1, none⟩ = some (.string n.f1) := HH1.out.cell 1 _ rfl
 obtain ⟨s, es⟩ : ∃ s, s = wd2 nodeB n.f0 := ⟨_, rfl⟩
 rw [← es]
 have zs := wd2_size nodeB n.f0
 by_cases hne : n.f1.toList = []
 case' pos =>
  have d1 : (n.f1.toList == []) = true := beq_iff_eq.mpr hne
  have HS : Aside0 (s = lineB n 0) := ⟨by rw [es]; unfold lineB; rw [if_pos hne]⟩
  clear hne es
  go_wp2_with fail
 case' neg =>
  have d1 : (n.f1.toList == []) = false := beq_eq_false_iff_ne.mpr hne
  have HS0 : Aside0 (wd3 s dataB (quoteB n.f1) = lineB n 0) := ⟨by rw [es]; unfold lineB; rw [if_neg hne]⟩
  clear hne
  have hss : s.size = 4 + n.f0.size + 1 := by rw [es, wd2_size]; rfl
  clear es
  go_wp2_with fail
  refine (quote_calls n.f1 _ (by omega)).mono ?_
  rintro e w2 ⟨rfl, hb2⟩
  replace HH1 : Aside0 (Holds w.heap.size (zao n) 40 w2) := ⟨HH1.out.below _ HH1.out.lt hb2.out⟩
  replace HB1 : Aside0 (Below w.heap.size w w2) := ⟨HB1.out.trans (hb2.out.mono sz1)⟩
  replace sz1 := HB1.out.size
  clear hb2
  go_wp2_with fail
  refine (words3_call s dataB (quoteB n.f1) _ _ ?_ ?_ ?_ ?_).mono ?_
  ·go_simp
  ·go_simp; rfl
  ·go_simp; rfl
  ·show s.size + 4 + _ + 2 ≤ _; omega
  rintro e w1 ⟨rfl, hb3⟩
  replace HH1 : Aside0 (Holds w.heap.size (zao n) 40 w1) := ⟨(HH1.out.alloc _).below _ (by have := HH1.out.lt; simp; omega) hb3.out⟩
  replace HB1 : Aside0 (Below w.heap.size w w1) := ⟨(HB1.out.alloc (by omega) _).trans (hb3.out.mono (by simp; omega))⟩
  replace sz1 := HB1.out.size
  clear hb3 c0 c1 hss
  have HS : Aside0 (wd3 s dataB (quoteB n.f1) = lineB n 0) := HS0
  clear HS0
  generalize wd3 s dataB (quoteB n.f1) = s at HS ⊢
  clear zs
  go_wp2_with fail
 all_goals
  refine (fields_calls w.heap.size _).mono ?_
  rintro e w2 ⟨rfl, HD, hb2⟩
  replace HH1 : Aside0 (Holds w.heap.size (zao n) 40 w2) := ⟨HH1.out.below _ HH1.out.lt hb2.out⟩
  replace HB1 : Aside0 (Below w.heap.size w w2) := ⟨HB1.out.trans (hb2.out.mono sz1)⟩
  clear hb2
  go_wp2_with fail
  go_loopw [21, 3] (fun i sv wr => ∃ k : Nat, k ≤ 5 ∧ i = .int .i64 k ∧ sv = .string (lineB n k) ∧ Aside0 (Holds w.heap.size (zao n) 40 wr) ∧ Aside0 (Holds w1.heap.size (fieldCells w.heap.size) 172 wr) ∧ Aside0 (Below w.heap.size w wr)) (fun i _ _ => 5 - (intOf i).toNat)
  case atStart => exact ⟨0, by omega, rfl, by rw [HS.out], HH1, HD, HB1⟩
  case round =>
   clear HH1 HB1 HD
   obtain ⟨k, hk, rfl, rfl, HH1, HD, HB1⟩ := hrel
   by_cases hlt : k < 5
   ·have f0 := HD.out.cell _ _ (fieldCells_name w.heap.size k hlt)
    have f1 := HD.out.cell _ _ (fieldCells_at w.heap.size k hlt)
    have v1 := HH1.out.cell _ _ (fullCells_val n k hlt)
    have v2 : ∀ o, (wr.alloc o).cell? ⟨w.heap.size, 2 + k, none⟩ = some (.int .i64 (zbx n k)) := fun o => (HH1.out.alloc o).cell _ _ (fullCells_val n k hlt)
    have HLS : LS w.heap.size wr.heap.size k (zbx n k) (wr.alloc (.cells #[.string (zaz k), .pointer (some ⟨w.heap.size, 2 + k, none⟩)] 172)) (wr.alloc (.cells #[.string (zaz k), .pointer (some ⟨w.heap.size, 2 + k, none⟩)] 172)) :=
     ⟨(Holds.new wr _ _).cell _ _ rfl, (Holds.new wr _ _).cell _ _ rfl, v2 _, ⟨Below.refl _ _⟩⟩
    have HG8 : Aside0 (Glob wr) := ⟨HG.out.below HB1.out⟩
    have hin := HR.out k hlt
    have hls := HLs.out k (by omega)
    have hfn := fieldName_size k
    have hit := itoaB_size _ hin.1 hin.2
    by_cases hz : zbx n k = 0
    ·have d2 : (zbx n k == 0) = true := beq_iff_eq.mpr hz
     have HX : Aside0 (lineB n (k + 1) = lineB n k) := ⟨by show (if _ then _ else _) = _; rw [if_pos hz]⟩
     clear hz
     go_wp2_with fail
     go_roundw
     case rel => exact ⟨k + 1, by omega, by go_num, by rw [HX.out], ⟨HH1.out.alloc _⟩, ⟨HD.out.alloc _⟩, ⟨HB1.out.alloc (by have := HB1.out.size; omega) _⟩⟩
     case measure => simp [intOf]; omega
    ·have d2 : (zbx n k == 0) = false := beq_eq_false_iff_ne.mpr hz
     have HX : Aside0 (lineB n (k + 1) = wd3 (lineB n k) (zaz k) (itoaB (zbx n k))) := ⟨by show (if _ then _ else _) = _; rw [if_neg hz]⟩
     clear hz
     go_wp2_with fail
     have K0 : ∀ w', LS w.heap.size wr.heap.size k (zbx n k) (wr.alloc (.cells #[.string (zaz k), .pointer (some ⟨w.heap.size, 2 + k, none⟩)] 172)) w' → w'.cell? ⟨wr.heap.size, 0, none⟩ = some (.string (zaz k)) := fun w' h => h.1
     have K1 : ∀ w', LS w.heap.size wr.heap.size k (zbx n k) (wr.alloc (.cells #[.string (zaz k), .pointer (some ⟨w.heap.size, 2 + k, none⟩)] 172)) w' → w'.cell? ⟨wr.heap.size, 1, none⟩ = some (.pointer (some ⟨w.heap.size, 2 + k, none⟩)) := fun w' h => h.2.1
     have K2 : ∀ w', LS w.heap.size wr.heap.size k (zbx n k) (wr.alloc (.cells #[.string (zaz k), .pointer (some ⟨w.heap.size, 2 + k, none⟩)] 172)) w' → w'.cell? ⟨w.heap.size, 2 + k, none⟩ = some (.int .i64 (zbx n k)) := fun w' h => h.2.2.1
     go_region_held3 (fun w' => LS w.heap.size wr.heap.size k (zbx n k) (wr.alloc (.cells #[.string (zaz k), .pointer (some ⟨w.heap.size, 2 + k, none⟩)] 172)) w')
      (first
       | exact LS.drew (by assumption)
       | exact LS.alloc (by assumption) _
       | exact LS.call (by assumption) (by assumption))
      (first
       | (go_at_call 69; refine (number_call _ _ (LS.glob (by assumption) HG8) hin.1 hin.2).mono ?_; rintro e w3 ⟨rfl, hb3⟩)
       | (go_at_call 68; refine (words3_call (lineB n k) (zaz k) (itoaB (zbx n k)) _ _ (by go_simp) (by go_simp) (by go_simp) (by omega)).mono ?_; rintro e w3 ⟨rfl, hb3⟩))
     have HU : Aside0 (Below wr.heap.size wr w3) := ⟨LS.under (by assumption)⟩
     go_wp2_with fail
     go_roundw
     case rel => exact ⟨k + 1, by omega, by go_num, by rw [HX.out], ⟨HH1.out.below _ HH1.out.lt HU.out⟩, ⟨HD.out.below _ HD.out.lt HU.out⟩, ⟨HB1.out.trans (HU.out.mono HB1.out.size)⟩⟩
     case measure => simp [intOf]; omega
   ·have hk5 : k = 5 := by omega
    subst hk5
    go_wp2
    go_ret
    exact ⟨rfl, HB1⟩
end Go.Proofs.YteamhfmpogbilaaGreatDoor.X
