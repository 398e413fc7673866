/- tree.Load. -/
import Derived.Test.YteamhfmpogbilaaGreatDoorNodes2
set_option linter.unusedVariables false
set_option linter.unusedSimpArgs false
namespace Go.Proofs.YteamhfmpogbilaaGreatDoor.X
open Go.RowKit Go.Proofs.YteamhfmpogbilaaGreatDoor Go.Proofs.YteamhfmpogbilaaGreatDoorW.PrintWords Go.Proofs.YteamhfmpogbilaaGreatDoorW.PrintLast
def zdb (s : ByteArray) : ByteArray × Int := (yen.f 200 s).getD (⟨#[]⟩, 0)
def mayF (n : Full) : Bool := (ydw.f 200 n.f0 n.f1 n.f2 n.f3 n.f4 n.f5 n.f6).getD false
structure Total : Prop where
 parent : ∀ s : ByteArray, s.size ≤ 9223372036854775807 → yen.f 200 s = some (zdb s)
 parentLen : ∀ s : ByteArray, (zdb s).1.size ≤ 140737488355328
 may : ∀ n : Full, ydw.f 200 n.f0 n.f1 n.f2 n.f3 n.f4 n.f5 n.f6 = some (mayF n)
theorem parent_calls (T : Total) (s : ByteArray) (w : World) (hG : Glob w) (hs : s.size ≤ 9223372036854775807) :
  Calls Tryz.prog 43 #[.string s] w fun e w' => e = .returned (.tuple #[.string (zdb s).1, .int .i64 (zdb s).2]) ∧ Aside0 (Below w.heap.size w w') := by
 refine (yen.calls 200 s (zdb s).1 (zdb s).2 w hG (T.parent s hs)).mono ?_
 rintro e w' ⟨rfl, h⟩; exact ⟨rfl, ⟨h⟩⟩
theorem may_calls (T : Total) (n : Full) (w : World) :
  Calls Tryz.prog 45 #[.agg #[.string n.f0, .string n.f1, .int .i64 n.f2, .int .i64 n.f3, .int .i64 n.f4, .int .i64 n.f5, .int .i64 n.f6]] w fun e w' => e = .returned (.bool (mayF n)) ∧ Aside0 (Below w.heap.size w w') := by
 refine (ydw.calls 200 n.f0 n.f1 n.f2 n.f3 n.f4 n.f5 n.f6 (mayF n) w (T.may n)).mono ?_
 rintro e w' ⟨rfl, h⟩; exact ⟨rfl, ⟨h⟩⟩
def zcr (p : List Full) (q n : Full) : Bool :=
 (p.isEmpty || ((zdb n.f0).2 == 0 && match zbg p (zdb n.f0).1 with
  | some u => u.f5 == 0 && decide (ordL q.f0.data.toList n.f0.data.toList < 0)
  | none => false)) && mayF n
def fitsTo (l : List Full) (k : Nat) : Prop := ∀ j, j < k → zcr (l.take j) (l.getD (j - 1) z40) (l.getD j z40) = true
def rooted (l : List Full) : Prop := (l.getD 0 z40).f0.toList = [47] ∧ (l.getD 0 z40).f5 = 0
theorem zeroFull (w : World) : (zeroValue 40).run Tryz.prog w = .ok (fullV z40) w := Tryz.zeroValue40 w
def LD (pb : Nat) (pv : Int) (ad : Addr) (qf : ByteArray) (nb : Nat) (nf : ByteArray) (W w' : World) : Prop :=
 w'.cell? ⟨pb, 5, none⟩ = some (.int .i64 pv) ∧ w'.cell? ad = some (.string qf) ∧ w'.cell? ⟨nb, 0, none⟩ = some (.string nf) ∧ Aside0 (Below W.heap.size W w')
theorem LD.drew {pb nb : Nat} {pv : Int} {ad : Addr} {qf nf : ByteArray} {W w' : World} (h : LD pb pv ad qf nb nf W w') : LD pb pv ad qf nb nf W w'.drew := by
 obtain ⟨h1, h2, h3, h4⟩ := h
 exact ⟨h1, h2, h3, ⟨h4.out.drew⟩⟩
theorem LD.call {pb nb : Nat} {pv : Int} {ad : Addr} {qf nf : ByteArray} {W w' w2 : World} (h : LD pb pv ad qf nb nf W w') (hb : Aside0 (Below w'.heap.size w' w2)) : LD pb pv ad qf nb nf W w2 := by
 obtain ⟨h1, h2, h3, h4⟩ := h
 exact ⟨zas hb.out h1, zas hb.out h2, zas hb.out h3, ⟨h4.out.trans (hb.out.mono h4.out.size)⟩⟩
theorem wpList_lookup_full (w : World) {ops : Array Oper} {rest : List Oper} {o : Oper} {a : Act} {Q : Exit → Act → World → Prop} (hg : o.guard = none) (m x : Operand) (hop : o.op = Op.lookup 64 m x true)
  (b c : Nat) (l : List Full) (hm : a.eval m = .map (some b)) (hown : w.ownsMap Tryz.prog 9 fullR b c (mapD l)) (up : ByteArray) (hx : a.eval x = .string up) (hs : up.size ≤ maxLen)
  (hK : ∀ (p : Full) (f : Bool), Aside0 (p = (zbg l up).getD z40) → Aside0 (f = (zbg l up).isSome) →
   wpList Tryz.prog ops Q rest (a.put o.dst (.tuple #[.agg #[.string p.f0, .string p.f1, .int .i64 p.f2, .int .i64 p.f3, .int .i64 p.f4, .int .i64 p.f5, .int .i64 p.f6], .bool f])) w) :
  wpList Tryz.prog ops Q (o :: rest) a w := by
 refine wpList_lookup_own_ok w hg m x _ hop 9 40 keyed Tryz.underlying64 fullR (zeroFull _) (.held z40) [] (fullR_mk _) b c _ hm hown _ (keyL up) hx (WideMaps.keyOf_string_mk Tryz.underlying9 hs) ?_
 intro v ps hv
 obtain ⟨h1, h2⟩ := mapD_look _ l rfl up (.held z40)
 rw [h1]
 obtain ⟨n, rfl, e⟩ := fullR_inv hv
 have e2 : n = (zbg l up).getD z40 := by
  have := congrArg Prod.fst e
  rw [h2] at this
  simp only [] at this
  cases hh : zbg l up with
  | none => rw [hh] at this; injection this with this; exact this.symm
  | some u => rw [hh] at this; injection this with this; exact this.symm
 exact hK n _ ⟨e2⟩ ⟨rfl⟩
theorem fits_bad {l : List Full} {k : Nat} {n : Full} (hk : k < l.length) (HK : l.getD k z40 = n) (h : zcr (l.take k) (l.getD (k - 1) z40) n = false) : ¬ (l ≠ [] ∧ rooted l ∧ fitsTo l l.length) :=
 fun ⟨_, _, hf⟩ => by have := hf k hk; rw [HK, h] at this; cases this
theorem zcq {B n : Nat} {a b : World} (h : Below B a b) : Below B a (b.drewN n) := ⟨h.os, h.tape, h.output, h.size, h.block⟩
theorem fitsAt_up {p : List Full} {q n : Full} (hp : p ≠ []) {up : ByteArray} {why : Int} (h : zdb n.f0 = (up, why)) :
  zcr p q n = ((why == 0 && match zbg p up with | some u => u.f5 == 0 && decide (ordL q.f0.data.toList n.f0.data.toList < 0) | none => false) && mayF n) := by
 unfold zcr
 rw [h]
 have : p.isEmpty = false := by cases p <;> simp_all
 rw [this]; simp
theorem fitsTo_succ {l : List Full} {k : Nat} {n : Full} (hf : fitsTo l k) (HK : l.getD k z40 = n) (h : zcr (l.take k) (l.getD (k - 1) z40) n = true) : fitsTo l (k + 1) := by
 intro j hj
 by_cases e : j = k
 ·subst e; rw [HK]; exact h
 ·exact hf j (by omega)
theorem TreeAt.put {w w' : World} {b m : Nat} {l : List Full} {k : Nat} {n : Full} (h : TreeAt w b m (l.take k)) (hk : k < l.length) (HK : l.getD k z40 = n) (hb : b < w.heap.size)
  (ho : w'.ownsMap Tryz.prog 9 fullR m ((l.take k).length + 1) ((mapD (l.take k)).put (keyL n.f0) (.held n))) (hg : w.grownBy w' (some m)) : TreeAt w' b m (l.take (k + 1)) := by
 have e : l.take (k + 1) = l.take k ++ [n] := by
  rw [List.take_succ_eq_append_getElem hk, ← HK]; simp [List.getD, hk]
 refine ⟨?_, ?_, h.ne⟩
 ·rw [World.cell?_of_block (w := w) (hg.block b hb (by simp; exact h.ne))]; exact h.cell
 ·rw [e, mapD_snoc]; simpa using ho
theorem below_map {B m : Nat} {a b c : World} (h : Below B a b) (hm : B ≤ m) (hB : B ≤ b.heap.size) (hg : b.grownBy c (some m)) : Below B a c :=
 ⟨hg.os.trans h.os, hg.tape.trans h.tape, hg.output.trans h.output, Nat.le_trans h.size hg.size, fun k hk => (hg.block k (by omega) (by simp; omega)).trans (h.block k hk)⟩
set_option maxHeartbeats 4000000 in
set_option maxRecDepth 100000 in
theorem load_calls (T : Total) (A0 : Option Addr) (c0 : Nat) (l : List Full) (w : World) (hr0 : Kd.C k40 w A0 l.length l) (hc0 : l.length ≤ c0) (hG : Glob w)
  (hs : ∀ n ∈ l, n.f0.size ≤ 140737488355328) :
  Calls Tryz.prog 21 #[.slice A0 l.length c0] w fun e w' => Aside0 (Below w.heap.size w w') ∧
   ((l.length ≤ 64 ∧ l ≠ [] ∧ rooted l ∧ fitsTo l l.length ∧ e = .returned (.tuple #[.pointer (some ⟨w.heap.size + 1, 0, none⟩), .int .i64 0]) ∧ TreeAt w' (w.heap.size + 1) w.heap.size l) ∨
    (¬ l.length ≤ 64 ∧ e = .returned (.tuple #[.pointer none, .int .i64 2])) ∨
    (l.length ≤ 64 ∧ ¬ (l ≠ [] ∧ rooted l ∧ fitsTo l l.length) ∧ e = .returned (.tuple #[.pointer none, .int .i64 1]))) := by
 have hll : l.length ≤ 9223372036854775807 := hr0.2.1
 have HG := Aside0.mk hG
 have HS := Aside0.mk hs
 have HR0 := Aside0.mk hr0
 have HC0 := Aside0.mk hc0
 have HT := Aside0.mk T
 have HBr := Aside0.mk (Below.refl w.heap.size w)
 clear hG hs hr0 hc0 T
 by_cases h64 : l.length ≤ 64
 case neg =>
  have d0 : decide (64 < (l.length : Int)) = true := decide_eq_true (by omega)
  go_enter Tryz.func21, Tryz.ntmps21
  go_wp2
  go_ret2
  exact ⟨HBr, .inr (.inl ⟨h64, rfl⟩)⟩
 have d0 : decide (64 < (l.length : Int)) = false := decide_eq_false (by omega)
 by_cases hne : l = []
 ·have HN := Aside0.mk hne
  have d1 : ((l.length : Int) == 0) = true := beq_iff_eq.mpr (by rw [hne]; rfl)
  clear hne
  go_enter Tryz.func21, Tryz.ntmps21
  go_wp2
  go_ret2
  exact ⟨HBr, .inr (.inr ⟨h64, fun h => h.1 HN.out, rfl⟩)⟩
 have hpos : 0 < l.length := List.length_pos_iff.2 hne
 have d1 : ((l.length : Int) == 0) = false := beq_eq_false_iff_ne.mpr (by omega)
 obtain ⟨ad, e0, a0, a1, a2, a3, a4, a5, a6⟩ := at_T40 HR0.out 0 (by omega) (by omega)
 cases e0
 obtain ⟨n0, hn0⟩ : ∃ n0, n0 = l.getD 0 z40 := ⟨_, rfl⟩
 change w.cell? (ad.add (0 * 7)) = some (.string (l.getD 0 z40).f0) at a0
 change w.cell? ⟨(ad.add (0 * 7)).block, (ad.add (0 * 7)).off + 5, none⟩ = some (.int .i64 (l.getD 0 z40).f5) at a5
 rw [← hn0] at a0 a5
 rw [Nat.zero_mul, show ad.add 0 = ad by unfold Addr.add; split <;> simp_all] at a0 a5
 have HN0 := Aside0.mk hn0
 clear a1 a2 a3 a4 a6 hn0
 by_cases hroot : n0.f0.toList = [47]
 case neg =>
  have d2 : (n0.f0.toList == [47]) = false := beq_eq_false_iff_ne.mpr hroot
  go_enter Tryz.func21, Tryz.ntmps21
  go_wp2
  go_ret2
  exact ⟨HBr, .inr (.inr ⟨h64, fun h => hroot (by rw [HN0.out]; exact h.2.1.1), rfl⟩)⟩
 have d2 : (n0.f0.toList == [47]) = true := beq_iff_eq.mpr hroot
 by_cases hown : n0.f5 = 0
 case neg =>
  have d3 : (n0.f5 == 0) = false := beq_eq_false_iff_ne.mpr hown
  go_enter Tryz.func21, Tryz.ntmps21
  go_wp2
  go_ret2
  exact ⟨HBr, .inr (.inr ⟨h64, fun h => hown (by rw [HN0.out]; exact h.2.1.2), rfl⟩)⟩
 have d3 : (n0.f5 == 0) = true := beq_iff_eq.mpr hown
 have d3' : (n0.f5 != 0) = false := by simp [hown]
 have HRT : Aside0 (rooted l) := ⟨by unfold rooted; rw [← HN0.out]; exact ⟨hroot, hown⟩⟩
 clear hroot hown
 go_enter Tryz.func21, Tryz.ntmps21
 have HT0 : Aside0 (TreeAt ((w.alloc (.map #[] 0)).alloc (.cells #[.map (some w.heap.size)] 89)) (w.heap.size + 1) w.heap.size []) := ⟨by
  have e : (w.alloc (.map #[] 0)).heap.size = w.heap.size + 1 := by simp
  refine ⟨?_, (World.ownsMap_made w _ _ fullR).alloc _, by omega⟩
  rw [← e]; exact (Holds.new _ _ _).cell 0 _ rfl⟩
 have HB0 : Aside0 (Below w.heap.size w ((w.alloc (.map #[] 0)).alloc (.cells #[.map (some w.heap.size)] 89))) := ⟨((Below.refl _ _).alloc (Nat.le_refl _) _).alloc (by simp) _⟩
 have hmm := fun t w => run_makeMap (P := Tryz.prog) t w
 clear HBr
 go_wp2_with fail
 clear d1 d2 d3 d3' a0 a5
 go_loopw [36] (fun i wr => ∃ k : Nat, k ≤ l.length ∧ i = .int .i64 k ∧ Aside0 (fitsTo l k) ∧ Aside0 (TreeAt wr (w.heap.size + 1) w.heap.size (l.take k)) ∧ Aside0 (Below w.heap.size w wr)) (fun i _ => l.length - (intOf i).toNat)
 case atStart => exact ⟨0, Nat.zero_le _, rfl, ⟨fun j hj => absurd hj (by omega)⟩, HT0, HB0⟩
 case round =>
  clear HT0 HB0
  obtain ⟨k, hk, rfl, HF, HTr, HB⟩ := hrel
  by_cases hlt : k < l.length
  ·have hnk : l.getD k z40 = l[k] := by simp [List.getD, hlt]
   have hmem : l[k] ∈ l := List.getElem_mem hlt
   obtain ⟨ad', e1, h0, h1, h2, h3, h4, h5, h6⟩ := at_T40 HR0.out k (by omega) (by omega)
   injection e1 with e1
   subst e1
   rw [rd_get l k hlt, Int.toNat_natCast] at h0 h1 h2 h3 h4 h5 h6
   obtain ⟨n, hn⟩ : ∃ n, n = l[k] := ⟨_, rfl⟩
   rw [← hn] at h0 h1 h2 h3 h4 h5 h6 hmem hnk
   have hsn := HS.out n hmem
   have HK := Aside0.mk hnk
   have Hn := Aside0.mk hn
   clear hn hnk hmem
   replace h0 := (HB.out.cell (World.block_lt_of_cell? w _ h0)).trans h0
   replace h1 := (HB.out.cell (World.block_lt_of_cell? w _ h1)).trans h1
   replace h2 := (HB.out.cell (World.block_lt_of_cell? w _ h2)).trans h2
   replace h3 := (HB.out.cell (World.block_lt_of_cell? w _ h3)).trans h3
   replace h4 := (HB.out.cell (World.block_lt_of_cell? w _ h4)).trans h4
   replace h5 := (HB.out.cell (World.block_lt_of_cell? w _ h5)).trans h5
   replace h6 := (HB.out.cell (World.block_lt_of_cell? w _ h6)).trans h6
   have HB1 : Aside0 (Below w.heap.size w (wr.alloc (.cells (zao n) 40))) := ⟨HB.out.alloc HB.out.size _⟩
   have HG1 : Aside0 (Glob (wr.alloc (.cells (zao n) 40))) := ⟨HG.out.below HB1.out⟩
   have HT1 : Aside0 (TreeAt (wr.alloc (.cells (zao n) 40)) (w.heap.size + 1) w.heap.size (l.take k)) := ⟨HTr.out.below ((Below.refl _ _).alloc (Nat.le_refl _) _)⟩
   have HN1 := Aside0.mk (Holds.new wr (zao n) 40)
   have hzz : (wr.alloc (.cells (zao n) 40)).heap.size = wr.heap.size + 1 := by simp
   have hsz := HB.out.size
   have c6 : (wr.alloc (.cells (zao n) 40)).cell? ⟨wr.heap.size, 0, none⟩ = some (.string n.f0) := HN1.out.cell 0 _ rfl
   have Hzz := Aside0.mk hzz
   clear hzz HTr HB
   unfold zao at c6
   go_wp2_with fail
   refine (parent_calls HT.out n.f0 _ HG1.out (by omega)).mono ?_
   rintro e w2 ⟨rfl, hb2⟩
   clear c6 h0 h1 h2 h3 h4 h5 h6
   replace HT1 : Aside0 (TreeAt w2 (w.heap.size + 1) w.heap.size (l.take k)) := ⟨HT1.out.below hb2.out⟩
   replace HN1 : Aside0 (Holds wr.heap.size (zao n) 40 w2) := ⟨HN1.out.below _ (by rw [Hzz.out]; omega) hb2.out⟩
   replace HB1 : Aside0 (Below w.heap.size w w2) := ⟨HB1.out.trans (hb2.out.mono (by rw [Hzz.out]; omega))⟩
   have hsz2 := HB1.out.size
   have hpl := HT.out.parentLen n.f0
   obtain ⟨up, why, hpf⟩ : ∃ up why, zdb n.f0 = (up, why) := ⟨_, _, rfl⟩
   rw [hpf] at hpl ⊢
   simp only [] at hpl ⊢
   have HP := Aside0.mk hpf
   clear hb2 hpf HG1 Hzz
   by_cases hk0 : k = 0
   case' pos =>
    have HF1 : Aside0 (zcr (l.take k) (l.getD (k - 1) z40) n = mayF n) := ⟨by subst hk0; simp [zcr]⟩
    have e1 : decide (0 < (k : Int)) = false := decide_eq_false (by omega)
    have e1n : decide (0 < k) = false := decide_eq_false (by omega)
    clear hk0
    have b0 : w2.cell? ⟨wr.heap.size, 0, none⟩ = some (.string n.f0) := HN1.out.cell 0 _ rfl
    have b1 : w2.cell? ⟨wr.heap.size, 1, none⟩ = some (.string n.f1) := HN1.out.cell 1 _ rfl
    have b2 : w2.cell? ⟨wr.heap.size, 2, none⟩ = some (.int .i64 n.f2) := HN1.out.cell 2 _ rfl
    have b3 : w2.cell? ⟨wr.heap.size, 3, none⟩ = some (.int .i64 n.f3) := HN1.out.cell 3 _ rfl
    have b4 : w2.cell? ⟨wr.heap.size, 4, none⟩ = some (.int .i64 n.f4) := HN1.out.cell 4 _ rfl
    have b5 : w2.cell? ⟨wr.heap.size, 5, none⟩ = some (.int .i64 n.f5) := HN1.out.cell 5 _ rfl
    have b6 : w2.cell? ⟨wr.heap.size, 6, none⟩ = some (.int .i64 n.f6) := HN1.out.cell 6 _ rfl
    go_wp2_with fail
    clear b0 b1 b2 b3 b4 b5 b6
    refine (may_calls HT.out n _).mono ?_
    rintro e w5 ⟨rfl, hb5⟩
    have HT5 : Aside0 (TreeAt w5 (w.heap.size + 1) w.heap.size (l.take k)) := ⟨HT1.out.below hb5.out⟩
    have HN5 : Aside0 (Holds wr.heap.size (zao n) 40 w5) := ⟨HN1.out.below _ HN1.out.lt hb5.out⟩
    have HB5 : Aside0 (Below w.heap.size w w5) := ⟨HB1.out.trans (hb5.out.mono HB1.out.size)⟩
    have hsz5 := HB5.out.size
    clear hb5 HT1 HN1 HB1
    by_cases hmay : mayF n = true
    case' neg =>
     have hm : mayF n = false := by simpa using hmay
     have hbad := Aside0.mk (show zcr (l.take k) (l.getD (k - 1) z40) n = false by rw [HF1.out, hm])
     go_wp2_with fail
     go_ret2
     exact ⟨HB5, .inr (.inr ⟨h64, fits_bad hlt HK.out hbad.out, rfl⟩)⟩
    case' pos =>
     have HF2 := Aside0.mk (fitsTo_succ HF.out HK.out (show zcr (l.take k) (l.getD (k - 1) z40) n = true by rw [HF1.out, hmay]))
     have t5 := HT5.out.cell
     have b0 : w5.cell? ⟨wr.heap.size, 0, none⟩ = some (.string n.f0) := HN5.out.cell 0 _ rfl
     have b1 : w5.cell? ⟨wr.heap.size, 1, none⟩ = some (.string n.f1) := HN5.out.cell 1 _ rfl
     have b2 : w5.cell? ⟨wr.heap.size, 2, none⟩ = some (.int .i64 n.f2) := HN5.out.cell 2 _ rfl
     have b3 : w5.cell? ⟨wr.heap.size, 3, none⟩ = some (.int .i64 n.f3) := HN5.out.cell 3 _ rfl
     have b4 : w5.cell? ⟨wr.heap.size, 4, none⟩ = some (.int .i64 n.f4) := HN5.out.cell 4 _ rfl
     have b5 : w5.cell? ⟨wr.heap.size, 5, none⟩ = some (.int .i64 n.f5) := HN5.out.cell 5 _ rfl
     have b6 : w5.cell? ⟨wr.heap.size, 6, none⟩ = some (.int .i64 n.f6) := HN5.out.cell 6 _ rfl
     go_wp2_with fail
     go_still_tail 7, (by kernel_rfl)
     change wpList _ _ _ _ _ w5.drew
     refine wpList_mapUpdate_own _ rfl _ _ _ 64 rfl 9 40 keyed Tryz.underlying64 fullR w.heap.size _ (mapD (l.take k)) rfl HT5.out.map.drew (by have := List.length_take_le k l; unfold maxLen; omega) _ _ (keyL n.f0) rfl rfl (WideMaps.keyOf_string_mk Tryz.underlying9 (by unfold maxLen; omega)) (.held n) [] (fullR_mk n) ?_
     intro w6 hown6 hgrow6'
     have hgrow6 : w5.grownBy w6 (some w.heap.size) := ⟨hgrow6'.os, hgrow6'.tape, hgrow6'.output, hgrow6'.size, hgrow6'.block⟩
     have HT6 : Aside0 (TreeAt w6 (w.heap.size + 1) w.heap.size (l.take (k + 1))) := ⟨HT5.out.put hlt HK.out HT5.out.lt hown6 hgrow6⟩
     have HB6 : Aside0 (Below w.heap.size w w6) := ⟨below_map HB5.out (Nat.le_refl _) hsz5 hgrow6⟩
     clear hown6 hgrow6 hgrow6'
     go_frame
     go_wp2_with fail
     go_roundw
     case rel => exact ⟨k + 1, by omega, by go_num, HF2, HT6, HB6⟩
     case measure => simp [intOf]; omega
   case' neg =>
    have e1 : decide (0 < (k : Int)) = true := decide_eq_true (by omega)
    have t0 := HT1.out.cell
    obtain ⟨j, rfl⟩ : ∃ j, k = j + 1 := ⟨k - 1, by omega⟩
    have hjl : j < l.length := by omega
    obtain ⟨q, hq⟩ : ∃ q, q = l[j] := ⟨_, rfl⟩
    have hqd : l.getD (j + 1 - 1) z40 = q := by rw [hq]; simp [List.getD, hjl]
    have hsq := HS.out q (by rw [hq]; exact List.getElem_mem hjl)
    obtain ⟨ad', e2, g0, _, _, _, _, _, _⟩ := at_T40 HR0.out j (by omega) (by omega)
    injection e2 with e2
    subst e2
    rw [rd_get l j hjl, Int.toNat_natCast, ← hq] at g0
    replace g0 : ∀ o, (w2.alloc o).cell? (ad.add (j * 7)) = some (.string q.f0) := fun o => ((HB1.out.alloc hsz2 o).cell (World.block_lt_of_cell? w _ g0)).trans g0
    have HQ := Aside0.mk hqd
    clear hq hqd
    go_wp2_with (first
     | (at_lookup; refine wpList_lookup_full _ rfl _ _ rfl w.heap.size _ (l.take (j + 1)) rfl HT1.out.map up rfl (by unfold maxLen; omega) ?_; intro p f hp hf)
     | fail)
    have HG3 : Aside0 (Below w2.heap.size w2 (w2.alloc (.cells (zao p) 40))) := ⟨(Below.refl _ _).alloc (Nat.le_refl _) _⟩
    have p5 : (w2.alloc (.cells (zao p) 40)).cell? ⟨w2.heap.size, 5, none⟩ = some (.int .i64 p.f5) := (Holds.new w2 _ _).cell 5 _ rfl
    have n5 : ∀ o, (w2.alloc o).cell? ⟨wr.heap.size, 0, none⟩ = some (.string n.f0) := fun o => (HN1.out.alloc o).cell 0 _ rfl
    unfold zao at p5 HG3
    obtain ⟨W3, hW3⟩ : ∃ W, W = w2.alloc (.cells #[.string p.f0, .string p.f1, .int .i64 p.f2, .int .i64 p.f3, .int .i64 p.f4, .int .i64 p.f5, .int .i64 p.f6] 40) := ⟨_, rfl⟩
    have g0' := g0 (.cells #[.string p.f0, .string p.f1, .int .i64 p.f2, .int .i64 p.f3, .int .i64 p.f4, .int .i64 p.f5, .int .i64 p.f6] 40)
    have n5' := n5 (.cells #[.string p.f0, .string p.f1, .int .i64 p.f2, .int .i64 p.f3, .int .i64 p.f4, .int .i64 p.f5, .int .i64 p.f6] 40)
    rw [← hW3] at HG3 p5 g0' n5' ⊢
    clear hW3 n5 g0
    have HBW : Aside0 (Below w.heap.size w W3) := ⟨HB1.out.trans (HG3.out.mono hsz2)⟩
    have HNW : Aside0 (Holds wr.heap.size (zao n) 40 W3) := ⟨HN1.out.below _ HN1.out.lt HG3.out⟩
    have HTW : Aside0 (TreeAt W3 (w.heap.size + 1) w.heap.size (l.take (j + 1))) := ⟨HT1.out.below HG3.out⟩
    have HFA := Aside0.mk (fitsAt_up (p := l.take (j + 1)) (q := q) (n := n) (by simp; intro e; rw [e] at hjl; simp at hjl) HP.out)
    clear HG3 HN1 HT1 HB1
    by_cases w0 : why = 0
    case' neg =>
     have x0 : (why == 0) = false := beq_eq_false_iff_ne.mpr w0
     have x0' : (why != 0) = true := by simp [w0]
     have hbad := Aside0.mk (show zcr (l.take (j + 1)) (l.getD (j + 1 - 1) z40) n = false by rw [HQ.out, HFA.out, x0]; rfl)
     go_quiet (fail)
     go_wp2_with fail
     go_ret2
     exact ⟨⟨zcq HBW.out⟩, .inr (.inr ⟨h64, fits_bad hlt HK.out hbad.out, rfl⟩)⟩
    case' pos =>
     have x0 : (why == 0) = true := beq_iff_eq.mpr w0
     have x0' : (why != 0) = false := by simp [w0]
     by_cases f0 : f = true
     case' neg =>
      obtain rfl : f = false := by simpa using f0
      have hbad := Aside0.mk (show zcr (l.take (j + 1)) (l.getD (j + 1 - 1) z40) n = false by
       rw [HQ.out, HFA.out]
       have := hf.out
       cases hh : zbg (l.take (j + 1)) up with
       | none => simp
       | some u => rw [hh] at this; cases this)
      clear f0
      go_quiet (fail)
      go_wp2_with fail
      go_ret2
      exact ⟨⟨zcq HBW.out⟩, .inr (.inr ⟨h64, fits_bad hlt HK.out hbad.out, rfl⟩)⟩
     case' pos =>
      subst f0
      obtain ⟨u, hu⟩ := Option.isSome_iff_exists.mp hf.out.symm
      have hpu : p = u := by rw [hp.out, hu]; rfl
      subst hpu
      have HFB : Aside0 (zcr (l.take (j + 1)) q n = ((p.f5 == 0 && decide (ordL q.f0.data.toList n.f0.data.toList < 0)) && mayF n)) := ⟨by rw [HFA.out, hu, x0]; simp⟩
      clear hu hf hp HFA
      by_cases p0 : p.f5 = 0
      case' neg =>
       have x1 : (p.f5 == 0) = false := beq_eq_false_iff_ne.mpr p0
       have x1' : (p.f5 != 0) = true := by simp [p0]
       have hbad := Aside0.mk (show zcr (l.take (j + 1)) (l.getD (j + 1 - 1) z40) n = false by rw [HQ.out, HFB.out, x1]; rfl)
       go_quiet (fail)
       go_wp2_with fail
       go_ret2
       exact ⟨⟨zcq HBW.out⟩, .inr (.inr ⟨h64, fits_bad hlt HK.out hbad.out, rfl⟩)⟩
      case' pos =>
       have x1 : (p.f5 == 0) = true := beq_iff_eq.mpr p0
       have x1' : (p.f5 != 0) = false := by simp [p0]
       have hord := fun w' => order_calls q.f0 n.f0 w' (by omega) (by omega)
       obtain ⟨r, hr⟩ : ∃ r, r = ordL q.f0.data.toList n.f0.data.toList := ⟨_, rfl⟩
       rw [← hr] at hord HFB
       have HORD := Aside0.mk hord
       clear hord hr
       by_cases r0 : r < 0
       case' neg =>
        have x2 : decide (0 ≤ r) = true := decide_eq_true (by omega)
        have hbad := Aside0.mk (show zcr (l.take (j + 1)) (l.getD (j + 1 - 1) z40) n = false by rw [HQ.out, HFB.out, decide_eq_false r0]; simp)
        clear r0
        go_quiet ((go_at_call 44; exact Calls.quiet_of ((HORD.out _).mono fun _ _ ⟨he, h⟩ => ⟨he, h.out⟩)))
        go_wp2_with fail
        go_ret2
        exact ⟨⟨zcq HBW.out⟩, .inr (.inr ⟨h64, fits_bad hlt HK.out hbad.out, rfl⟩)⟩
       case' pos =>
        have x2 : decide (0 ≤ r) = false := decide_eq_false (by omega)
        have HF1 : Aside0 (zcr (l.take (j + 1)) (l.getD (j + 1 - 1) z40) n = mayF n) := ⟨by rw [HQ.out, HFB.out, decide_eq_true r0, x1]; simp⟩
        clear r0
        have b1 : W3.cell? ⟨wr.heap.size, 1, none⟩ = some (.string n.f1) := HNW.out.cell 1 _ rfl
        have b2 : W3.cell? ⟨wr.heap.size, 2, none⟩ = some (.int .i64 n.f2) := HNW.out.cell 2 _ rfl
        have b3 : W3.cell? ⟨wr.heap.size, 3, none⟩ = some (.int .i64 n.f3) := HNW.out.cell 3 _ rfl
        have b4 : W3.cell? ⟨wr.heap.size, 4, none⟩ = some (.int .i64 n.f4) := HNW.out.cell 4 _ rfl
        have b5 : W3.cell? ⟨wr.heap.size, 5, none⟩ = some (.int .i64 n.f5) := HNW.out.cell 5 _ rfl
        have b6 : W3.cell? ⟨wr.heap.size, 6, none⟩ = some (.int .i64 n.f6) := HNW.out.cell 6 _ rfl
        go_quiet ((go_at_call 44; exact Calls.quiet_of ((HORD.out _).mono fun _ _ ⟨he, h⟩ => ⟨he, h.out⟩)))
        go_wp2_with fail
        clear b1 b2 b3 b4 b5 b6 p5 g0' n5'
        refine (may_calls HT.out n _).mono ?_
        rintro e w5 ⟨rfl, hb5⟩
        have HNW' : Holds wr.heap.size (zao n) 40 (W3.drewN nq) := HNW.out
        have HBW' : Below w.heap.size w (W3.drewN nq) := zcq HBW.out
        have HTW' : TreeAt (W3.drewN nq) (w.heap.size + 1) w.heap.size (l.take (j + 1)) := HTW.out.below ⟨rfl, rfl, rfl, Nat.le_refl _, fun _ _ => rfl⟩
        have HT5 : Aside0 (TreeAt w5 (w.heap.size + 1) w.heap.size (l.take (j + 1))) := ⟨HTW'.below hb5.out⟩
        have HN5 : Aside0 (Holds wr.heap.size (zao n) 40 w5) := ⟨HNW'.below _ HNW'.lt hb5.out⟩
        have HB5 : Aside0 (Below w.heap.size w w5) := ⟨HBW'.trans (hb5.out.mono HBW'.size)⟩
        have hsz5 := HB5.out.size
        clear hb5 HTW HTW' HNW HNW' HBW HBW'
        by_cases hmay : mayF n = true
        case' neg =>
         have hm : mayF n = false := by simpa using hmay
         have hbad := Aside0.mk (show zcr (l.take (j + 1)) (l.getD ((j + 1) - 1) z40) n = false by rw [HF1.out, hm])
         go_wp2_with fail
         go_ret2
         exact ⟨HB5, .inr (.inr ⟨h64, fits_bad hlt HK.out hbad.out, rfl⟩)⟩
        case' pos =>
         have HF2 := Aside0.mk (fitsTo_succ HF.out HK.out (show zcr (l.take (j + 1)) (l.getD ((j + 1) - 1) z40) n = true by rw [HF1.out, hmay]))
         have t5 := HT5.out.cell
         have b0 : w5.cell? ⟨wr.heap.size, 0, none⟩ = some (.string n.f0) := HN5.out.cell 0 _ rfl
         have b1 : w5.cell? ⟨wr.heap.size, 1, none⟩ = some (.string n.f1) := HN5.out.cell 1 _ rfl
         have b2 : w5.cell? ⟨wr.heap.size, 2, none⟩ = some (.int .i64 n.f2) := HN5.out.cell 2 _ rfl
         have b3 : w5.cell? ⟨wr.heap.size, 3, none⟩ = some (.int .i64 n.f3) := HN5.out.cell 3 _ rfl
         have b4 : w5.cell? ⟨wr.heap.size, 4, none⟩ = some (.int .i64 n.f4) := HN5.out.cell 4 _ rfl
         have b5 : w5.cell? ⟨wr.heap.size, 5, none⟩ = some (.int .i64 n.f5) := HN5.out.cell 5 _ rfl
         have b6 : w5.cell? ⟨wr.heap.size, 6, none⟩ = some (.int .i64 n.f6) := HN5.out.cell 6 _ rfl
         go_wp2_with fail
         go_still_tail 7, (by kernel_rfl)
         change wpList _ _ _ _ _ w5.drew
         refine wpList_mapUpdate_own _ rfl _ _ _ 64 rfl 9 40 keyed Tryz.underlying64 fullR w.heap.size _ (mapD (l.take (j + 1))) rfl HT5.out.map.drew (by have := List.length_take_le (j + 1) l; unfold maxLen; omega) _ _ (keyL n.f0) rfl rfl (WideMaps.keyOf_string_mk Tryz.underlying9 (by unfold maxLen; omega)) (.held n) [] (fullR_mk n) ?_
         intro w6 hown6 hgrow6'
         have hgrow6 : w5.grownBy w6 (some w.heap.size) := ⟨hgrow6'.os, hgrow6'.tape, hgrow6'.output, hgrow6'.size, hgrow6'.block⟩
         have HT6 : Aside0 (TreeAt w6 (w.heap.size + 1) w.heap.size (l.take ((j + 1) + 1))) := ⟨HT5.out.put hlt HK.out HT5.out.lt hown6 hgrow6⟩
         have HB6 : Aside0 (Below w.heap.size w w6) := ⟨below_map HB5.out (Nat.le_refl _) hsz5 hgrow6⟩
         clear hown6 hgrow6 hgrow6'
         go_frame
         go_wp2_with fail
         go_roundw
         case rel => exact ⟨(j + 1) + 1, by omega, by go_num, HF2, HT6, HB6⟩
         case measure => simp [intOf]; omega
  ·have hk' : k = l.length := by omega
   subst hk'
   go_wp2
   go_ret2
   refine ⟨HB, .inl ⟨h64, hne, HRT.out, HF.out, rfl, ?_⟩⟩
   have := HTr.out
   rwa [List.take_of_length_le (Nat.le_refl _)] at this
end Go.Proofs.YteamhfmpogbilaaGreatDoor.X
