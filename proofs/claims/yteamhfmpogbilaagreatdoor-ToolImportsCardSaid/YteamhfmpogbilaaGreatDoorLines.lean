/- strings.SplitSeq at a line's end: the iterator's contract. -/
import Derived.Test.YteamhfmpogbilaaGreatDoorNode
import Derived.Test.YteamhfmpogbilaaGreatDoorRangeP
import Derived.RangeFuncBound
import Derived.Shelf.Abstract
import Derived.Shelf.RegionOpen
import Derived.OwnWalkIn
import Derived.TacticsInMore
import Derived.LoopNIn
import Derived.LoopIn
set_option linter.unusedVariables false
set_option linter.unusedSimpArgs false
namespace Go.Proofs.YteamhfmpogbilaaGreatDoor.X
open Go.RowKit Go.Shelf Go.Proofs.YteamhfmpogbilaaGreatDoor Go.Proofs.YteamhfmpogbilaaGreatDoorW.PrintWords Go.Proofs.YteamhfmpogbilaaGreatDoorW.PrintLast
attribute [local go_sem] Oper.semAt_some
def zcy : List UInt8 → List (List UInt8)
 | [] => [[]]
 | c :: t => if c = 10 then [] :: zcy t else match zcy t with
  | [] => [[c]]
  | h :: r => (c :: h) :: r
theorem linesL_ne : ∀ l, zcy l ≠ []
 | [] => by simp [zcy]
 | c :: t => by
  unfold zcy
  split
  ·simp
  ·split <;> simp
theorem linesL_cut : ∀ (l : List UInt8) (i : Nat), Lib.indexByte l 10 = (i : Int) → i < l.length ∧ zcy l = l.take i :: zcy (l.drop (i + 1))
 | [], i, h => by simp [Lib.indexByte] at h <;> omega
 | c :: t, i, h => by
  unfold Lib.indexByte at h
  by_cases hc : c = 10
  ·subst hc
   simp at h
   have hi : i = 0 := by omega
   subst hi
   exact ⟨by simp, by simp [zcy]⟩
  ·have hb : (c == 10) = false := beq_eq_false_iff_ne.mpr hc
   rw [hb] at h
   simp only [Bool.false_eq_true, if_false] at h
   split at h
   ·omega
   ·have hge := Lib.indexByte_ge t 10
    rename_i hn
    have hn' : Lib.indexByte t 10 ≠ -1 := fun e => hn (by rw [e]; rfl)
    obtain ⟨j, hj⟩ : ∃ j : Nat, Lib.indexByte t 10 = (j : Int) := ⟨(Lib.indexByte t 10).toNat, by omega⟩
    obtain ⟨h1, h2⟩ := linesL_cut t j hj
    have hi : i = j + 1 := by omega
    subst hi
    refine ⟨by simp; omega, ?_⟩
    show (if c = 10 then _ else _) = _
    rw [if_neg hc, h2]
    simp
theorem linesL_all : ∀ (l : List UInt8), Lib.indexByte l 10 < 0 → zcy l = [l]
 | [], h => rfl
 | c :: t, h => by
  unfold Lib.indexByte at h
  by_cases hc : c = 10
  ·subst hc; simp at h
  ·have hb : (c == 10) = false := beq_eq_false_iff_ne.mpr hc
   rw [hb] at h
   simp only [Bool.false_eq_true, if_false] at h
   have hge := Lib.indexByte_ge t 10
   have ht : Lib.indexByte t 10 < 0 := by
    split at h
    ·rename_i hn; have := beq_iff_eq.mp hn; omega
    ·omega
   show (if c = 10 then _ else _) = _
   rw [if_neg hc, linesL_all t ht]
def zcg (s : ByteArray) : List ByteArray := (zcy s.data.toList).map mk
theorem linesB_cut (s : ByteArray) (i : Nat) (h : Lib.indexByte s.data.toList 10 = (i : Int)) : i < s.size ∧ zcg s = s.extract 0 i :: zcg (s.extract (i + 1) s.size) := by
 obtain ⟨h1, h2⟩ := linesL_cut _ _ h
 rw [zcu] at h1
 refine ⟨h1, ?_⟩
 unfold zcg
 rw [h2, List.map_cons, ext_drop]
 congr 1
 show mk (s.data.toList.take i) = s.extract 0 i
 have : (s.extract 0 i).data.toList = s.data.toList.take i := by rw [zdc, List.drop_zero]
 rw [← this]; rfl
theorem linesB_all (s : ByteArray) (h : Lib.indexByte s.data.toList 10 < 0) : zcg s = [s] := by unfold zcg; rw [linesL_all _ h]; rfl
theorem index_one (s : ByteArray) (w : World) : Calls Tryz.prog 138 #[.string s, .string ⟨#[10]⟩] w fun e w' => e = .returned (.int .i64 (Lib.indexByte s.data.toList 10)) ∧ w = w' :=
 (Tryz.strings_Index_one s 10 w).mono fun _ _ ⟨h, h'⟩ => ⟨h, h'.symm⟩
def SeqBox (b : Nat) (s : ByteArray) (w : World) : Prop := Holds b #[.string s] 9 w ∧ Holds (b + 1) #[.string ⟨#[10]⟩] 9 w ∧ Holds (b + 1 + 1) #[.int .i64 0] 3 w
def seqLb (b : Nat) : Array Value := #[.pointer (some ⟨b + 1, 0, none⟩), .pointer (some ⟨b, 0, none⟩), .pointer (some ⟨b + 1 + 1, 0, none⟩)]
def SeqAb (b : Nat) (A B : World) : Prop := ∃ v, B = A.setCell ⟨b, 0, none⟩ (.string v)
def SeqKp (b : Nat) (A B : World) : Prop := ∀ k, b ≤ k → k ≤ b + 2 → B.heap[k]? = A.heap[k]?
set_option maxRecDepth 100000 in
theorem splitSeq_calls (s : ByteArray) (w : World) :
  Calls Tryz.prog 50 #[.string s, .string ⟨#[10]⟩] w fun e w' => e = .returned (.func (.func 136) #[] (seqLb w.heap.size)) ∧ Aside0 (SeqBox w.heap.size s w') ∧ Aside0 (Below w.heap.size w w') ∧ Aside0 (w'.heap.size = w.heap.size + 3) := by
 have hmf : ∀ (fn : Fn) (first cap : Array Value) (w : World), (Instr.makeFunc fn first cap).run Tryz.prog w = .ok (.func fn first cap) w := fun _ _ _ _ => rfl
 go_enter Tryz.func50, Tryz.ntmps50
 go_wp2
 go_ret
 have h1 := ((Holds.new w #[.string s] 9).alloc (.cells #[.string ⟨#[10]⟩] 9)).alloc (.cells #[.int .i64 0] 3)
 have h2 := (Holds.new (w.alloc (.cells #[.string s] 9)) #[.string ⟨#[10]⟩] 9).alloc (.cells #[.int .i64 0] 3)
 have h3 := Holds.new ((w.alloc (.cells #[.string s] 9)).alloc (.cells #[.string ⟨#[10]⟩] 9)) #[.int .i64 0] 3
 rw [World.size_alloc] at h2 h3
 rw [World.size_alloc] at h3
 exact ⟨rfl, ⟨h1, h2, h3⟩, ⟨(((Below.refl _ _).alloc (Nat.le_refl _) _).alloc (by simp) _).alloc (by simp; omega) _⟩, ⟨by simp⟩⟩
def boxLen (b : Nat) (w : World) : Nat := match w.cell? ⟨b, 0, none⟩ with | some (.string s) => s.size | _ => 0
theorem boxLen_of {b : Nat} {s : ByteArray} {w : World} (h : Holds b #[.string s] 9 w) : boxLen b w = s.size := by unfold boxLen; rw [h.cell 0 (.string s) rfl]
theorem SeqBox.kept {b : Nat} {s : ByteArray} {w w' : World} (h : SeqBox b s w) (hk : SeqKp b w w') : SeqBox b s w' :=
 ⟨(hk b (Nat.le_refl _) (by omega)).trans h.1, (hk (b + 1) (by omega) (by omega)).trans h.2.1, (hk (b + 1 + 1) (by omega) (by omega)).trans h.2.2⟩
theorem SeqBox.set {b : Nat} {s : ByteArray} {w : World} (h : SeqBox b s w) (v : ByteArray) : SeqBox b v (w.setCell ⟨b, 0, none⟩ (.string v)) :=
 ⟨zcf h.1 0 _, h.2.1.row (zbd _ _ _ _) (by omega), h.2.2.row (zbd _ _ _ _) (by omega)⟩
set_option maxHeartbeats 4000000 in
set_option maxRecDepth 100000 in
theorem splitSeq_gives (b : Nat) (s : ByteArray) (hs : s.size ≤ 4294967000) : SeqP Fence.wide 3 Tryz.prog 136 (seqLb b) (fun x : ByteArray => #[.string x]) (SeqAb b) (SeqKp b) (zcg s) (SeqBox b s) := by
 intro l J Jx Jp W hok hJ hJx hY h0
 refine callsIn_of_wp Tryz.func136 rfl trivial ?_ rfl
 unfold seqLb
 simp only [Tryz.ntmps136, List.size_toArray, List.length_cons, List.length_nil, Nat.reduceAdd, Nat.reduceSub, Array.replicate_succ, Array.replicate_zero, List.push_toArray, List.append_toArray, List.nil_append, List.cons_append]
 have HOK := Aside0.mk hok
 have c1 : W.cell? ⟨b + 1, 0, none⟩ = some (.string ⟨#[10]⟩) := hok.2.1.cell 0 _ rfl
 have HY := Aside0.mk hY
 have HJ := Aside0.mk hJ
 have HJx := Aside0.mk hJx
 have H0 := Aside0.mk h0
 clear hok hY hJ hJx h0
 gi_wp2
 gi_loopw [7] (fun _ wr => ∃ (pre : List ByteArray) (cur : ByteArray), Aside0 (zcg s = pre ++ zcg cur) ∧ cur.size ≤ 4294967000 ∧ Aside0 (SeqBox b cur wr) ∧ Aside0 (J pre wr)) (fun _ wr => boxLen b wr)
 case atStart => exact ⟨[], s, ⟨rfl⟩, hs, HOK, H0⟩
 case round =>
  clear HOK H0 c1
  obtain ⟨pre, cur, HP, hcs, HB, HJp⟩ := hrel
  have c0 : wr.cell? ⟨b, 0, none⟩ = some (.string cur) := HB.out.1.cell 0 _ rfl
  have c1 : wr.cell? ⟨b + 1, 0, none⟩ = some (.string ⟨#[10]⟩) := HB.out.2.1.cell 0 _ rfl
  have c2 : wr.cell? ⟨b + 1 + 1, 0, none⟩ = some (.int .i64 0) := HB.out.2.2.cell 0 _ rfl
  have hge := Lib.indexByte_ge cur.data.toList 10
  by_cases hneg : Lib.indexByte cur.data.toList 10 < 0
  ·have HL := Aside0.mk (linesB_all cur hneg)
   have hpx : pre ++ [cur] <+: zcg s := by rw [HP.out, HL.out]; exact List.prefix_refl _
   obtain ⟨fn, tmps, assign, body, hy, hR⟩ := HY.out pre cur wr hpx HJp.out
   have HR := Aside0.mk hR
   have hix := Aside0.mk (index_one cur)
   generalize Lib.indexByte cur.data.toList 10 = ix at *
   have d0 : decide (ix < 0) = true := decide_eq_true hneg
   clear hR hpx hneg hge
   gi_wp2_with (refine ⟨trivial, ?_⟩; gi_at_call 138; refine (callsIn_wide.2 (hix.out _)).mono ?_; rintro e w' ⟨rfl, rfl⟩)
   refine HR.out.mono ?_
   rintro e W3 (⟨rfl, hJ3, hk3⟩ | ⟨rfl, hJx3⟩ | ⟨ch, rfl, hp⟩)
   ·gi_wp2
    go_end0
    exact .inl ⟨_, rfl, .inl (by rw [HP.out, HL.out]; exact hJ3)⟩
   ·gi_wp2
    go_end0
    exact .inl ⟨_, rfl, .inr ⟨_, by rw [HP.out, HL.out]; exact List.prefix_refl _, hJx3⟩⟩
   ·gi_wp2
    exact ⟨rfl, .inr ⟨_, rfl, _, by rw [HP.out, HL.out]; exact List.prefix_refl _, hp⟩⟩
  ·obtain ⟨i, hi⟩ : ∃ i : Nat, Lib.indexByte cur.data.toList 10 = (i : Int) := ⟨(Lib.indexByte cur.data.toList 10).toNat, by omega⟩
   obtain ⟨hil, hcut⟩ := linesB_cut cur i hi
   have HL := Aside0.mk hcut
   have hpx : pre ++ [cur.extract 0 i] <+: zcg s := by rw [HP.out, HL.out]; exact ⟨zcg (cur.extract (i + 1) cur.size), by simp⟩
   obtain ⟨fn, tmps, assign, body, hy, hR⟩ := HY.out pre (cur.extract 0 i) wr hpx HJp.out
   have HR := Aside0.mk hR
   have hix0 := index_one cur
   rw [hi] at hix0
   have hix := Aside0.mk hix0
   have d0 : decide ((i : Int) < 0) = false := decide_eq_false (by omega)
   have hsz2 : (cur.extract (i + 1) cur.size).size = cur.size - (i + 1) := by rw [ByteArray.size_extract]; omega
   have HPX := Aside0.mk hpx
   clear hR hpx hneg hge hi hcut hix0
   gi_wp2_with (refine ⟨trivial, ?_⟩; gi_at_call 138; refine (callsIn_wide.2 (hix.out _)).mono ?_; rintro e w' ⟨rfl, rfl⟩)
   refine HR.out.mono ?_
   rintro e W3 (⟨rfl, hJ3, hk3⟩ | ⟨rfl, hJx3⟩ | ⟨ch, rfl, hp⟩)
   ·have HB3 := Aside0.mk (HB.out.kept hk3)
    replace hJ3 := Aside0.mk hJ3
    have e0 : W3.cell? ⟨b, 0, none⟩ = some (.string cur) := HB3.out.1.cell 0 _ rfl
    have e1 : W3.cell? ⟨b + 1, 0, none⟩ = some (.string ⟨#[10]⟩) := HB3.out.2.1.cell 0 _ rfl
    have e2 : W3.frozen? ⟨b, 0, none⟩ = false := Lib.frozen_of_heap HB3.out.1 0
    clear hk3
    have HS := Aside0.mk (HB3.out.set (cur.extract (i + 1) cur.size))
    have HJ4 := Aside0.mk (HJ.out _ _ _ ⟨cur.extract (i + 1) cur.size, rfl⟩ hJ3.out)
    have hl1 := Aside0.mk (boxLen_of HB.out.1)
    have hl2 := Aside0.mk (boxLen_of HS.out.1)
    gi_wp2
    go_roundw
    case rel => exact ⟨pre ++ [cur.extract 0 i], cur.extract (i + 1) cur.size, ⟨by rw [HP.out, HL.out]; simp⟩, by omega, HS, HJ4⟩
    case measure => rw [hl1.out, hl2.out]; omega
   ·gi_wp2
    refine bodyPost_ret (results_none rfl _ _ _) rfl ?_
    exact .inl ⟨_, rfl, .inr ⟨_, HPX.out, hJx3⟩⟩
   ·gi_wp2
    exact ⟨rfl, .inr ⟨_, rfl, _, HPX.out, hp⟩⟩
end Go.Proofs.YteamhfmpogbilaaGreatDoor.X
