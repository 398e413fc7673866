/- tool.written: a tree's text. -/
import Derived.Test.YteamhfmpogbilaaGreatDoorLine
set_option linter.unusedVariables false
set_option linter.unusedSimpArgs false
namespace Go.Proofs.YteamhfmpogbilaaGreatDoor
open Go.RowKit Go.Proofs.YteamhfmpogbilaaGreatDoorW.PrintWords
theorem Bld.below {B b : Nat} {l : List UInt8} {w w' : World} (h : Bld B b l w) (hb : Below w.heap.size w w') : Bld B b l w' := by
 have key : ∀ p, Lib.BuilderAtF 134 5 B b p (Lib.byteCells l) w → Lib.BuilderAtF 134 5 B b p (Lib.byteCells l) w' := by
  rintro p h
  have hlt := h.lt
  obtain ⟨hB, v, hc, hown, hne⟩ := h
  exact ⟨hB, v, (hb.block b hlt).trans hc, hown.kept (row := none) ⟨hb.os, hb.tape, hb.output, hb.size, fun k hk _ => hb.block k hk⟩ (by cases hv : v.ownBlock <;> simp), hne⟩
 rcases h with h | h
 ·exact .inl (key _ h)
 ·exact .inr (key _ h)
theorem Bld.alloc {B b : Nat} {l : List UInt8} {w : World} (h : Bld B b l w) (o : Obj) : Bld B b l (w.alloc o) := h.below ((Below.refl _ _).alloc (Nat.le_refl _) o)
end Go.Proofs.YteamhfmpogbilaaGreatDoor
namespace Go.Proofs.YteamhfmpogbilaaGreatDoor.X
open Go.RowKit Go.Proofs.YteamhfmpogbilaaGreatDoor Go.Proofs.YteamhfmpogbilaaGreatDoorW.PrintWords Go.Proofs.YteamhfmpogbilaaGreatDoorW.PrintLast
def headL : List UInt8 := [104, 101, 114, 97, 108, 100, 32, 116, 114, 101, 101, 10]
def zbm (l : List S40) : List UInt8 := headL ++ l.flatMap fun n => (lineB n 5).data.toList ++ [10]
theorem written_snoc (l : List S40) (k : Nat) (h : k < l.length) : zbm (l.take (k + 1)) = zbm (l.take k) ++ (lineB l[k] 5).data.toList ++ [10] := by
 unfold zbm
 rw [List.take_succ_eq_append_getElem h, List.flatMap_append]; simp
theorem written_len (l : List S40) (k : Nat) : (zbm (l.take k)).length ≤ (zbm l).length := by
 have : zbm l = zbm (l.take k) ++ ((l.drop k).flatMap fun n => (lineB n 5).data.toList ++ [10]) := by
  unfold zbm
  conv => lhs; rw [← List.take_append_drop k l, List.flatMap_append]
  rw [List.append_assoc]
 rw [this, List.length_append]; omega
theorem rd_get (l : List S40) (k : Nat) (h : k < l.length) : rd_T40 l (k : Int) = l[k] := by
 unfold rd_T40; simp [List.getD, h]
set_option maxHeartbeats 2000000 in
set_option maxRecDepth 100000 in
theorem written_calls (A0 : Option Addr) (c0 : Nat) (l : List S40) (w : World) (hr0 : Kd.C k40 w A0 l.length l) (hc0 : l.length ≤ c0) (hG : Glob w)
  (hr : ∀ n ∈ l, ranged n) (hs : ∀ n ∈ l, n.f0.size + 4 * n.f1.size + 1000 ≤ 140737488355328) (hl : (zbm l).length ≤ 140737488355328) :
  Calls Tryz.prog 34 #[.slice A0 l.length c0] w fun e w' => e = .returned (.string ⟨(zbm l).toArray⟩) ∧ Aside0 (Below w.heap.size w w') := by
 have HG := Aside0.mk hG
 have HR := Aside0.mk hr
 have HS := Aside0.mk hs
 have HR0 := Aside0.mk hr0
 have HC0 := Aside0.mk hc0
 have hll : l.length ≤ 9223372036854775807 := hr0.2.1
 have HWS := Aside0.mk (written_snoc l)
 have HWL := Aside0.mk (written_len l)
 have HB0 := Aside0.mk ((Below.refl w.heap.size w).alloc (Nat.le_refl _) (.cells #[.pointer none, .slice none 0 0] 134))
 have HN := Aside0.mk (bld_new w)
 clear hG hr hs hr0 hc0
 go_enter Tryz.func34, Tryz.ntmps34
 go_wp2_with fail
 refine (bld_string w.heap.size w.heap.size [] ⟨#[104, 101, 114, 97, 108, 100, 32, 116, 114, 101, 101, 10]⟩ _ HN.out (by show 0 + 12 ≤ _; omega) (by simp)).mono ?_
 rintro e w1 ⟨rfl, hB, hb⟩
 have HB1 : Aside0 (Below w.heap.size w w1) := ⟨HB0.out.trans hb.out⟩
 replace hB : Aside0 (Bld w.heap.size w.heap.size (zbm (l.take 0)) w1) := hB
 clear HB0 HN hb
 go_wp2_with fail
 go_loopw [9] (fun i wr => ∃ k : Nat, k ≤ l.length ∧ i = .int .i64 k ∧ Aside0 (Bld w.heap.size w.heap.size (zbm (l.take k)) wr) ∧ Aside0 (Below w.heap.size w wr)) (fun i _ => l.length - (intOf i).toNat)
 case atStart => exact ⟨0, Nat.zero_le _, rfl, hB, HB1⟩
 case round =>
  clear hB HB1
  obtain ⟨k, hk, rfl, hB, hb⟩ := hrel
  have hsz := hb.out.size
  have hlk := HWL.out k
  by_cases hlt : k < l.length
  ·obtain ⟨ad, e0, h0, h1, h2, h3, h4, h5, h6⟩ := at_T40 HR0.out k (by omega) (by omega)
   cases e0
   have hn := rd_get l k hlt
   have hmem : l[k] ∈ l := List.getElem_mem hlt
   have hrn := Aside0.mk (HR.out _ hmem)
   have hsn := HS.out _ hmem
   have hsnoc := Aside0.mk (HWS.out k hlt)
   have hlk1 := HWL.out (k + 1)
   rw [hsnoc.out] at hlk1
   simp only [List.length_append, bl, List.length_cons, List.length_nil] at hlk1
   clear hmem
   rw [hn] at h0 h1 h2 h3 h4 h5 h6
   clear hn
   generalize l[k] = n at *
   replace h0 := (hb.out.cell (World.block_lt_of_cell? w _ h0)).trans h0
   replace h1 := (hb.out.cell (World.block_lt_of_cell? w _ h1)).trans h1
   replace h2 := (hb.out.cell (World.block_lt_of_cell? w _ h2)).trans h2
   replace h3 := (hb.out.cell (World.block_lt_of_cell? w _ h3)).trans h3
   replace h4 := (hb.out.cell (World.block_lt_of_cell? w _ h4)).trans h4
   replace h5 := (hb.out.cell (World.block_lt_of_cell? w _ h5)).trans h5
   replace h6 := (hb.out.cell (World.block_lt_of_cell? w _ h6)).trans h6
   rw [Int.toNat_natCast] at h0 h1 h2 h3 h4 h5 h6
   have HX : Aside0 (Bld w.heap.size w.heap.size (zbm (l.take k)) (wr.alloc (.cells (zao n) 40))) := ⟨hB.out.alloc _⟩
   have HG1 : Aside0 (Glob (wr.alloc (.cells (zao n) 40))) := ⟨HG.out.below (hb.out.alloc hsz _)⟩
   have HB1 : Aside0 (Below w.heap.size w (wr.alloc (.cells (zao n) 40))) := ⟨hb.out.alloc hsz _⟩
   clear hB hb
   go_wp2_with fail
   refine (line_calls n _ HG1.out hrn.out hsn).mono ?_
   rintro e w2 ⟨rfl, hb2⟩
   have hB : Aside0 (Bld w.heap.size w.heap.size (zbm (l.take k)) w2) := ⟨HX.out.below hb2.out⟩
   replace HB1 : Aside0 (Below w.heap.size w w2) := ⟨HB1.out.trans (hb2.out.mono HB1.out.size)⟩
   have hsz2 := HB1.out.size
   clear hb2 HX
   go_wp2_with fail
   refine (bld_string w.heap.size w.heap.size _ (lineB n 5) _ hB.out (by omega) (by omega)).mono ?_
   rintro e w3 ⟨rfl, hB, hb3⟩
   replace HB1 : Aside0 (Below w.heap.size w w3) := ⟨HB1.out.trans hb3.out⟩
   replace hsz2 := HB1.out.size
   clear hb3
   go_wp2_with fail
   refine (bld_byte w.heap.size w.heap.size _ 10 _ hB.out (by omega) (by omega) (by simp only [List.length_append, bl]; omega) (by omega)).mono ?_
   rintro e w4 ⟨rfl, hB, hb4⟩
   replace HB1 : Aside0 (Below w.heap.size w w4) := ⟨HB1.out.trans hb4.out⟩
   clear hb4
   go_wp2_with fail
   go_roundw
   case rel => exact ⟨k + 1, by omega, by go_num, ⟨by rw [hsnoc.out]; exact hB.out⟩, HB1⟩
   case measure => simp [intOf]; omega
  ·have hk' : k = l.length := by omega
   have HQ : Aside0 (zbm (l.take k) = zbm l) := ⟨by rw [hk', List.take_of_length_le (Nat.le_refl _)]⟩
   clear hk'
   go_wp2_with fail
   refine (bld_end w.heap.size w.heap.size _ _ hB.out (by omega)).mono ?_
   rintro e w3 ⟨rfl, hb3⟩
   go_wp2
   go_ret
   exact ⟨by rw [HQ.out]; rfl, ⟨hb.out.trans hb3.out⟩⟩
end Go.Proofs.YteamhfmpogbilaaGreatDoor.X
