/- The card of heraldlaw22.ToolExports. -/
import Derived.Test.YtaadaeiikhokjaaGreatDoorGlob
import Derived.Test.YtaadaeiikhokjaaGreatDoorLaw
import Derived.Test.YtaadaeiikhokjaaGreatDoorCards
import Derived.Test.YtaadaeiikhokjaaGreatDoorTie
import Derived.WalkKit
import Derived.ProofKit
import Derived.OpenShut
import Derived.Deep.DeepHandedRow
import Derived.Deep.DeepWitnessRowRef
import Derived.Deep.Slices
import Derived.Deep.Fields
import Derived.ChangeSame
import Derived.Carry
import Derived.Lay
set_option linter.unusedVariables false
set_option linter.unusedSimpArgs false
namespace Go.Proofs.YtaadaeiikhokjaaGreatDoor.X
open Go.RowKit Go.Shelf Go.ChangeShapes Go.WideShapes Go.ChangeAt Go.Deep Go.Proofs.YtaadaeiikhokjaaGreatDoor Go.Proofs.YtaadaeiikhokjaaGreatDoorW.PrintWords Go.Proofs.YtaadaeiikhokjaaGreatDoorW.PrintLast

section
variable {H : Type} {enc : TypeId × Value → H}
/-- The row's last step over a call of which 'Below' is known. -/
theorem post_under {P : Program} {f : Func} {s : ChangeSpec} {apart fresh handsOn again : Bool} {W W' : World} {args : Array Value} {v : Value} {ds gs : List (DataW H)} {before pa pv : List MemPlace}
    (hW : DataW.Whole enc P f.params.toList s.vars apart W args.toList ds gs before)
    (hres : ∀ (b : Nat) (sp : Nat → Bool) (hd : Bool), DataW.TrodAll enc P W' b sp hd f.resultTypes.toList (v.resultList f.resultTypes.size) (s.fn H (ds ++ gs)).results [])
    (hargs : ∀ sp : Nat → Bool, (∀ p ∈ before, sp p.block = true) → DataW.TrodAll enc P W' 0 sp true f.params.toList args.toList (s.fn H (ds ++ gs)).args pa)
    (hvars : ∀ sp : Nat → Bool, (∀ p ∈ before, sp p.block = true) → DataW.TrodVars enc P W' sp s.vars (s.fn H (ds ++ gs)).vars pv)
    (hps : before = pa ++ pv) (hb : Below W.heap.size W W')
    (hok : ∀ (j : Nat) (t : TypeId) (r : Value), f.resultTypes[j]? = some t → (v.resultList f.resultTypes.size)[j]? = some r → Value.okWide P W' .any 0 t r) :
    s.post enc P f apart fresh handsOn again W args v W' := by
  have hlt : ∀ p ∈ before, p.block < W.heap.size := fun p hp => hW.lt p hp
  have hold : ∀ p ∈ before, (fun b => decide (b < W.heap.size)) p.block = true := fun p hp => by simpa using hlt p hp
  refine ⟨ds, gs, before, [], pa, pv, hW, hres _ _ _, hargs _ hold, hvars _ hold, World.keptBut_mono (fun p hp => ⟨hp, ?_⟩) (hb.frame (· ∈ before)), fun _ => ?_⟩
  · rw [hps, List.mem_append] at hp
    exact Or.inr hp
  · obtain ⟨_, _, _, _, _, hz, hn⟩ := hW
    refine ⟨hok, _, _, ([] ++ pa) ++ pv, ⟨[] ++ pa, pv, trodAll_append (hargs _ (fun _ _ => rfl)) (hres _ _ _), hvars _ (fun _ _ => rfl), rfl, ?_, ?_⟩, ?_⟩
    · intro b off hp
      have hin : MemPlace.cell b off ∈ before := by rw [hps]; simpa using hp
      rw [hb.frozen (hlt _ hin)]
      exact hz b off hin
    · intro ha
      have := hn ha
      rw [hps] at this
      simpa using this
    · intro p hp _
      rw [hps]
      simpa using hp

/-- A node's cells. -/
theorem open_full {w : World} {base n : Nat} {sp : Nat → Bool} {held : Bool} {cs : List Value} {x : DataW H × List MemPlace} (h : DataW.trod enc Tryz.prog w base sp held n 44 cs = some x) (hl : cs.length = 7) :
    ∃ m : Full, cs = [.string m.f0, .string m.f1, .int .i64 m.f2, .int .i64 m.f3, .int .i64 m.f4, .int .i64 m.f5, .int .i64 m.f6] ∧ ∃ r, x.1 = .agg (.lit (.string m.f0.data.toList) :: r) := by
  match cs, hl with
  | [c0, c1, c2, c3, c4, c5, c6], _ =>
    obtain ⟨ys, n', hn', hy, hlen, hyl, hf⟩ := DataW.trod_struct Tryz.underlying44 h
    have z3 : Tryz.prog.cellsOf 3 = 1 := by kernel_rfl
    have z9 : Tryz.prog.cellsOf 9 = 1 := by kernel_rfl
    have g : ∀ j, j < 7 → ∃ y, ys[j]? = some y := fun j hj => ⟨ys[j]'(by rw [hyl]; exact hj), List.getElem?_eq_getElem _⟩
    obtain ⟨y0, e0⟩ := g 0 (by omega)
    obtain ⟨y1, e1⟩ := g 1 (by omega)
    obtain ⟨y2, e2⟩ := g 2 (by omega)
    obtain ⟨y3, e3⟩ := g 3 (by omega)
    obtain ⟨y4, e4⟩ := g 4 (by omega)
    obtain ⟨y5, e5⟩ := g 5 (by omega)
    obtain ⟨y6, e6⟩ := g 6 (by omega)
    have h0 := hf 0 (Field.mk "Place" 9 0 false "" "" 0) rfl
    have h1 := hf 1 (Field.mk "Data" 9 1 false "" "" 16) rfl
    have h2 := hf 2 (Field.mk "Version" 3 2 false "" "" 32) rfl
    have h3 := hf 3 (Field.mk "Made" 3 3 false "" "" 40) rfl
    have h4 := hf 4 (Field.mk "Changed" 3 4 false "" "" 48) rfl
    have h5 := hf 5 (Field.mk "Owner" 3 5 false "" "" 56) rfl
    have h6 := hf 6 (Field.mk "Counter" 3 6 false "" "" 64) rfl
    rw [e0] at h0; rw [e1] at h1; rw [e2] at h2; rw [e3] at h3; rw [e4] at h4; rw [e5] at h5; rw [e6] at h6
    dsimp only at h0
    rw [z9] at h0
    simp only [List.drop_zero, List.drop_succ_cons, List.take_succ_cons, List.take_zero] at h0
    dsimp only at h1
    rw [z9] at h1
    simp only [List.drop_zero, List.drop_succ_cons, List.take_succ_cons, List.take_zero] at h1
    dsimp only at h2
    rw [z3] at h2
    simp only [List.drop_zero, List.drop_succ_cons, List.take_succ_cons, List.take_zero] at h2
    dsimp only at h3
    rw [z3] at h3
    simp only [List.drop_zero, List.drop_succ_cons, List.take_succ_cons, List.take_zero] at h3
    dsimp only at h4
    rw [z3] at h4
    simp only [List.drop_zero, List.drop_succ_cons, List.take_succ_cons, List.take_zero] at h4
    dsimp only at h5
    rw [z3] at h5
    simp only [List.drop_zero, List.drop_succ_cons, List.take_succ_cons, List.take_zero] at h5
    dsimp only at h6
    rw [z3] at h6
    simp only [List.drop_zero, List.drop_succ_cons, List.take_succ_cons, List.take_zero] at h6
    obtain ⟨s0, k0, b0, _⟩ := DataW.trod_string Tryz.underlying9 h0
    obtain ⟨s1, k1, _, b1⟩ := DataW.trod_string Tryz.underlying9 h1
    obtain ⟨n2, k2, _, _⟩ := DataW.trod_int Tryz.underlying3 h2
    obtain ⟨n3, k3, _, _⟩ := DataW.trod_int Tryz.underlying3 h3
    obtain ⟨n4, k4, _, _⟩ := DataW.trod_int Tryz.underlying3 h4
    obtain ⟨n5, k5, _, _⟩ := DataW.trod_int Tryz.underlying3 h5
    obtain ⟨n6, k6, _, _⟩ := DataW.trod_int Tryz.underlying3 h6
    simp only [List.cons.injEq, and_true] at k0 k1 k2 k3 k4 k5 k6
    subst k0 k1 k2 k3 k4 k5 k6
    refine ⟨⟨s0, s1, n2, n3, n4, n5, n6⟩, rfl, (ys.drop 1).map (·.1), ?_⟩
    clear hf g h
    cases ys with
    | nil => simp at e0
    | cons y t =>
      have e0' : y = y0 := by simpa using e0
      rw [hy]
      show DataW.agg (y.1 :: t.map (·.1)) = _
      rw [e0', b0]; rfl

/-- An argument that is a slice of nodes reads as a list. -/
theorem open_nodes {w : World} {n : Nat} {held : Bool} {cs : List Value} {x : DataW H × List MemPlace} (h : DataW.trod enc Tryz.prog w 0 (fun _ => true) held n 22 cs = some x) :
    ∃ A c l, cs = [.slice A l.length c] ∧ l.length ≤ c ∧ Kd.C k44 w A l.length l ∧ ∀ m ∈ l, ∃ e sp r, x.1 = .slice e sp ∧ .agg (.lit (.string m.f0.data.toList) :: r) ∈ e := by
  rcases open_slice Tryz.underlying22 h with ⟨rfl, _⟩ | ⟨a, len, cap, m, n', D, Pl, rfl, hb, hlc, hcm, hm, hx, hi⟩
  · exact ⟨none, 0, [], rfl, Nat.le_refl _, ⟨rfl, by simp, fun h => by simp at h⟩, by simp⟩
  · have hc7 : Tryz.prog.cellsOf 44 = 7 := by kernel_rfl
    have hall : ∀ k, k ≤ len → ∃ l : List Full, l.length = k ∧ (∀ m ∈ l, ∃ r, .agg (.lit (.string m.f0.data.toList) :: r) ∈ (List.range len).map D) ∧ ∀ j p, l[j]? = some p → ∀ i u, [Value.string p.f0, .string p.f1, .int .i64 p.f2, .int .i64 p.f3, .int .i64 p.f4, .int .i64 p.f5, .int .i64 p.f6][i]? = some u → w.cell? (a.add (j * 7 + i)) = some u := by
      intro k
      induction k with
      | zero => intro _; exact ⟨[], rfl, by simp, by simp⟩
      | succ k ih =>
        intro hk
        obtain ⟨l, hl, hls, hlc'⟩ := ih (by omega)
        obtain ⟨cs', hc, ht⟩ := hi k (by rw [hm]; simp; omega)
        obtain ⟨_, hcl, hat⟩ := World.cells?_some hc
        rw [hc7] at hcl hat hc
        obtain ⟨p, hp, hsz⟩ := open_full ht hcl
        refine ⟨l ++ [p], by simp [hl], ?_, ?_⟩
        · intro m hm'
          rcases List.mem_append.1 hm' with h' | h'
          · exact hls m h'
          · rw [List.mem_singleton.1 h']
            obtain ⟨r, hr⟩ := hsz
            exact ⟨r, by rw [← hr]; exact List.mem_map.2 ⟨k, List.mem_range.2 (by omega), rfl⟩⟩
        · intro j q hq i u hu
          by_cases hj : j < l.length
          · rw [List.getElem?_append_left hj] at hq
            exact hlc' j q hq i u hu
          · have hjk : j = k := by
              have := (List.getElem?_eq_some_iff.1 hq).1
              simp at this; omega
            subst hjk
            rw [List.getElem?_append_right (by omega), hl, Nat.sub_self] at hq
            obtain rfl : p = q := by simpa using hq
            have hi7 : i < 7 := (List.getElem?_eq_some_iff.1 hu).1
            have h2 := hat i hi7
            rw [← Go.Deep.add_add, h2, hp]
            exact hu
    obtain ⟨l, hl, hls, hcell⟩ := hall len (Nat.le_refl _)
    subst hl
    refine ⟨some a, cap, l, rfl, hlc, ⟨rfl, by unfold maxLen at hcm; omega, fun _ => ⟨a, rfl, fun j p hp => ⟨[.string p.f0, .string p.f1, .int .i64 p.f2, .int .i64 p.f3, .int .i64 p.f4, .int .i64 p.f5, .int .i64 p.f6], rfl, ?_, hcell j p hp⟩⟩⟩, fun m hm => by obtain ⟨r, hr⟩ := hls m hm; exact ⟨_, _, r, by rw [hx], hr⟩⟩
    exact ⟨[.string p.f0], _, rfl, rfl, [.string p.f1], _, rfl, rfl, [.int .i64 p.f2], _, rfl, rfl, [.int .i64 p.f3], _, rfl, rfl, [.int .i64 p.f4], _, rfl, rfl, [.int .i64 p.f5], [.int .i64 p.f6], rfl, rfl, rfl⟩
end

theorem weightsAll_in {H : Type} {P : Program} {e : TypeId} : ∀ {l : List (DataW H)} {d : DataW H}, d ∈ l → ∀ n ∈ d.weights P e, n ∈ DataW.weightsAll P e l
  | [], _, h, _, _ => by cases h
  | a :: l, d, h, n, hn => by
    unfold DataW.weightsAll
    rcases List.mem_cons.1 h with rfl | h
    · exact List.mem_append_left _ hn
    · exact List.mem_append_right _ (weightsAll_in h n hn)
theorem place_bound {H : Type} {e sp r : List (DataW H)} {bs : List UInt8} (h : (DataW.weightsEach Tryz.prog [22] [.slice e sp]).all (· ≤ reachBytes) = true) (hm : DataW.agg (.lit (.string bs) :: r) ∈ e) : bs.length ≤ reachBytes := by
  have h1 : bs.length ∈ (DataW.agg (.lit (.string bs) :: r) : DataW H).weights Tryz.prog 44 := by
    unfold DataW.weights
    rw [Tryz.underlying44]
    simp [DataW.weightsEach, DataW.weights]
  have h2 := weightsAll_in hm _ h1
  have h3 : bs.length ∈ DataW.weightsEach Tryz.prog [22] [.slice e sp] := by
    unfold DataW.weightsEach DataW.weights
    rw [Tryz.underlying22]
    simp [h2]
  simpa using List.all_eq_true.1 h _ h3

theorem own : ownKnob Tryz.prog.godebug = none := by kernel_rfl
theorem laidOut : laidOutB Tryz.prog = true := by kernel_rfl
set_option maxRecDepth 100000 in
/-- What the walk gives, for every argument and every world that holds what the row lists. -/
theorem contract (H : Type) (enc : TypeId × Value → H) (W : World) (base : Nat) (args : Array Value) (ds gs : List (DataW H)) (before : List MemPlace)
    (hval : ∀ (j : Nat) t v, Tryz.f3.params[j]? = some t → args[j]? = some v → Value.okWide Tryz.prog W .any base t v)
    (hW : DataW.Whole enc Tryz.prog Tryz.f3.params.toList Rows.toolExportsSpec.vars false W args.toList ds gs before) (hsz : (DataW.weightsEach Tryz.prog (Tryz.f3.params.toList ++ []) (ds ++ gs)).all (· ≤ reachBytes) = true) (hL : laidMetH Tryz.prog Rows.toolExportsRow.laid W) (hsh : W.ShapedOpen Tryz.prog) :
    Calls Tryz.prog 3 args W fun e W' => ∃ v, e = .returned v ∧ Rows.toolExportsSpec.post enc Tryz.prog Tryz.f3 false true false false W args v W' := by
  have hG := glob_of hL hsh
  have hW' := hW
  obtain ⟨p, q, hA0, hV, rfl, hfz, hnd⟩ := hW
  have hA : DataW.TrodAll enc Tryz.prog W 0 (fun _ => true) true Tryz.f3.params.toList args.toList ds p := hA0
  rw [Tryz.params3] at hA hval
  obtain ⟨v0, d0, rfl, rfl, h0⟩ := trodAll_one hA
  obtain ⟨rfl, rfl⟩ := trodVars_none hV
  have h0k := h0
  obtain ⟨fuel, h1⟩ := h0
  obtain ⟨A, c, l, hv, hlc, hC, hs⟩ := open_nodes h1
  obtain rfl : v0 = .slice A l.length c := by
    have hw := hval 0 22 v0 rfl rfl
    clear hL hsh hsz hW' h1 h0k hA hV hC hs
    cases v0 with
    | agg xs => simp [Value.okWide, Tryz.underlying22, Cell.okWide, Cell.ok] at hw
    | tuple xs => simp [Value.okWide, Tryz.underlying22, Cell.okWide, Cell.ok] at hw
    | _ => first | (simp [Value.cells] at hv; done) | (simpa [Value.cells] using hv)
  clear hA0
  simp only [List.append_nil] at hW'
  have hsN : ∀ n ∈ l, n.f0.size ≤ 140737488355328 := by
    intro n hn
    obtain ⟨e, sp, r, hx, hm⟩ := hs n hn
    have hx' : d0 = .slice e sp := hx
    subst hx'
    have h7 : (DataW.weightsEach Tryz.prog [22] [.slice e sp]).all (· ≤ reachBytes) = true := by
      have := hsz
      rw [Tryz.params3] at this
      simpa using this
    have h8 := place_bound h7 hm
    have h9 : n.f0.size = n.f0.data.toList.length := (bl n.f0).symm
    unfold reachBytes at h8
    omega
  refine (law_calls A c l W hC hlc hG hsN (fun w1 hG1 => known_calls w1 hG1)).mono fun e W' ⟨he, hb⟩ => ?_
  subst he
  have hlt : ∀ x ∈ p, x.block < W.heap.size := fun x hx => by simpa using hW'.lt x hx
  exact ⟨_, rfl, post_under (pa := p) (pv := []) hW' (fun _ _ _ => trodAll_mk1 (shut_bool Tryz.underlying4 _)) (fun sp hsp => by
    exact trodAll_mk1 (WideElems.Trod_stays laidOut (by kernel_rfl) (of_decide_eq_true (by kernel_rfl)) h0k (fun x hx => hb.out.same (hlt x hx)) (fun x hx => hsp x hx))) (fun _ _ => rfl) (by simp) hb.out
    (ok_one (by kernel_rfl) rfl (okWide_bool_mk Tryz.underlying4 _))⟩

set_option maxRecDepth 100000 in
theorem laid_met (os : Os) (args : Array Value) : laidMetH Tryz.prog Rows.toolExportsRow.laid ((World.laidAll Tryz.prog os Rows.toolExportsRow.laid).forCall (fun _ _ => 0) ⟨#[], args, []⟩).memory := by
  rw [Go.MakeChecks.laidMetH_plain _ _ _ (by kernel_rfl)]
  exact laidMet_laidAll _ (by kernel_rfl) (by kernel_rfl)
set_option maxRecDepth 100000 in
theorem reads (os : Os) {H : Type} (enc : TypeId × Value → H) : ∃ places, DataW.whole enc Tryz.prog ((World.laidAll Tryz.prog os Rows.toolExportsRow.laid).forCall (fun _ _ => 0) ⟨#[], #[.slice none 0 0], []⟩).memory Tryz.f3.params.toList Rows.toolExportsSpec.vars false #[Value.slice none 0 0].toList 8 = some ([.nil], [], places) :=
  ⟨[], by kernel_rfl⟩
set_option maxRecDepth 100000 in
theorem lifted (os : Os) (started : os.Started) (H : Type) (enc : TypeId × Value → H) (F : Stop.Interp) :
    ReturnsInHanded {} Tryz.checked os 3 .any ((OpenSpec.ofChange Rows.toolExportsSpec).preRow enc Tryz.prog Tryz.f3 Rows.toolExportsRow.domain false Rows.toolExportsRow.laid) (((OpenSpec.ofChange Rows.toolExportsSpec).at F).post enc Tryz.prog Tryz.f3 false true false false) := by
  obtain ⟨places, hx⟩ := reads os enc
  refine returnsInHanded_of_row (C := Tryz.checked) (s := OpenSpec.ofChange Rows.toolExportsSpec) own started (by kernel_rfl) Tryz.func3
    (witness_row_atRef (enc := enc) (C := Tryz.checked) false (World.laidAll Tryz.prog os Rows.toolExportsRow.laid) #[.slice none 0 0] (World.laidAll_os _ _ _) (by kernel_rfl) (by kernel_rfl) (by kernel_rfl)
      (OpenSpec.preRow_of_cond 8 hx (by kernel_rfl) (fun k hk => by cases hk) (by kernel_rfl) (laid_met os _))) ?_
  intro W base args ds gs before hval hW _ _ hsz hL hsh _
  exact contract H enc W base args ds gs before hval hW hsz hL hsh

set_option maxRecDepth 100000 in
theorem said : Rows.ToolExportsSaid :=
  OpenClaim.holds_of_cond 3 Tryz.f3 rfl rfl rfl rfl rfl rfl rfl ⟨rfl, rfl, rfl, rfl, rfl⟩ rfl rfl rfl rfl rfl (by kernel_rfl) Tryz.func3 (by kernel_rfl)
    (of_decide_eq_true (by kernel_rfl)) (by unfold Func.isWrapper; first | (rw [if_pos (by decide +kernel)]; kernel_rfl) | (rw [if_neg (by decide +kernel)]; exact ⟨rfl, rfl⟩))
    (fun os started H enc _ F => by rw [OpenClaim.pre_eq_preRow]; exact lifted os started H enc F)

theorem plain (f : FuncId) (fn : Func) (hf : Tryz.pinned.checked.prog.funcNamed "herald/heraldlaw22.ToolExports" = some f) (hfn : Tryz.pinned.checked.prog.funcs[f]? = some fn) :
    true = Tryz.pinned.checked.prog.looks [] ∧ ∀ (j : Nat) t, fn.params[j]? = some t → Tryz.pinned.checked.prog.wantsStandIn t = false := by
  obtain rfl : f = 3 := Option.some.inj ((show Tryz.prog.funcNamed "herald/heraldlaw22.ToolExports" = some 3 by kernel_rfl).symm.trans hf) |>.symm
  obtain rfl : fn = Tryz.f3 := (Option.some.inj (Tryz.func3.symm.trans hfn)).symm
  refine ⟨by kernel_rfl, fun j t ht => ?_⟩
  rw [Tryz.params3] at ht
  obtain rfl : t = 22 := by simpa using Array.mem_of_getElem? ht
  exact (show Tryz.prog.wantsStandIn 22 = false by kernel_rfl)

/-- THE CARD. -/
theorem card : Rows.ToolExportsCardSaid :=
  Claim7.holds_tied_plain_at .later [] _ _ _ _ said (fun _ h => by cases h) (by kernel_rfl) (fun _ h => by cases h) toolExports_row_tie rfl ⟨rfl, rfl⟩ (by kernel_rfl) rfl plain (by kernel_rfl)
#print axioms card
end Go.Proofs.YtaadaeiikhokjaaGreatDoor.X
