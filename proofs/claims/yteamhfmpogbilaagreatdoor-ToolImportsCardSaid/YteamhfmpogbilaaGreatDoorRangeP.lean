/- A range over a function whose elements are known, whose rounds may go on, leave, or panic: the iterator's contract and the statement's law. -/
import Derived.Test.YteamhfmpogbilaaGreatDoorProg
import Derived.RangeFuncNested
import Derived.RangeFuncCalls
set_option linter.unusedVariables false
set_option linter.unusedSimpArgs false
namespace Go.Proofs.YteamhfmpogbilaaGreatDoor.X
open Go.RowKit Go.Proofs.YteamhfmpogbilaaGreatDoor
variable {F : Fence} {n : Nat} {P : Program}
def roundPostP (P : Program) (l : Nat) (R : Ending → World → Prop) (e : Exit) (a : Act) (w : World) : Prop :=
 match e with
 | .panic ch => a.defers = [] ∧ R (.panicked ch) w
 | e => roundPost P l R e a w
theorem roundIn_p {l : Nat} {f : FuncId} {fn : Func} {tmps : Array Value} {assign body : Code} {w : World} {R : Ending → World → Prop} (hfn : P.funcs[f]? = some fn) (hF : F.fn f)
  (h : assign.wpIn (F.inRound l) n P (Exit.then (fun a₁ w₁ => ∃ w₂, (Instr.beginRound l).run P w₁ = .ok () w₂ ∧ body.wpIn (F.inRound l) n P (roundPostP P l R) a₁ w₂) (fun _ _ _ => False))
   { tmps := tmps, defers := [] } w) :
  RoundIn F n P l f tmps assign body w R := by
 refine ⟨hF, fun c cs hr => ?_⟩
 let b : Frame := { (default : Frame) with fn := f, kind := .normal, roundOf := some l }
 have hb0 : Frame.round l f tmps assign body .normal = b.atR { tmps := tmps, defers := [] } [.code assign, .beginRound, .code body] := by
  simp [Frame.round, Frame.atR, b]
 have hr' : (F.inRound l).room ((c :: cs).length + 1 + n) := hr
 have hF' : (F.inRound l).fn b.fn := hF
 obtain ⟨e, a₁, w₁, hq, harr⟩ := h b [.beginRound, .code body] (c :: cs) rfl hF' hr'
 rw [← hb0] at harr
 cases e with
 | normal =>
  obtain ⟨w₂, hbr, hbody⟩ := hq
  have s1 : StepsIn (Machine.fenced P (F.inRound l)) P (lone (b.atR a₁ [.beginRound, .code body]) (c :: cs) w₁) (lone (b.atR a₁ [.code body]) (c :: cs) w₂) :=
   .one (fenced_calm (fr := b.atR a₁ [.beginRound, .code body]) hF' hr' rfl) (stepR_beginRound rfl hbr)
  obtain ⟨e₂, a₂, w₃, hq₂, harr₂⟩ := hbody b [] (c :: cs) rfl hF' hr'
  cases e₂ with
  | normal =>
   obtain ⟨v, w₄, hend, hR⟩ := hq₂
   exact ⟨.returned v, w₄, hR, (StepsIn.trans harr s1).trans (StepsIn.trans harr₂ (.one (fenced_calm (fr := b.atR a₂ []) hF' hr' rfl) (stepR_round_end rfl rfl hend)))⟩
  | ret =>
   obtain ⟨v, w₄, hend, hR⟩ := hq₂
   obtain ⟨k₁, hs⟩ := harr₂.2 rfl
   exact ⟨.returned v, w₄, hR, (StepsIn.trans harr s1).trans (StepsIn.trans hs (.one (fenced_calm (fr := b.atR a₂ (.code .ret :: k₁)) hF' hr' rfl) (stepR_round_ret rfl rfl hend)))⟩
  | exit id =>
   obtain ⟨v, w₄, hend, hR⟩ := hq₂
   obtain ⟨k₁, hk, hs⟩ := harr₂.2 rfl rfl
   exact ⟨.returned v, w₄, hR, (StepsIn.trans harr s1).trans (StepsIn.trans hs (.one (fenced_calm (fr := b.atR a₂ (.code (.exit id) :: k₁)) hF' hr' rfl) (stepR_round_exit rfl rfl hk hend)))⟩
  | goto t =>
   obtain ⟨v, w₄, hend, hR⟩ := hq₂
   obtain ⟨k₁, hk, hs⟩ := harr₂.2 rfl rfl
   exact ⟨.returned v, w₄, hR, (StepsIn.trans harr s1).trans (StepsIn.trans hs (.one (fenced_calm (fr := b.atR a₂ (.code (.goto t) :: k₁)) hF' hr' rfl) (stepR_round_goto rfl rfl hk hend)))⟩
  | panic chain =>
   obtain ⟨hd, hR⟩ := hq₂
   obtain ⟨todo, hs⟩ := harr₂
   have hl : ({ b.atR a₂ todo with mode := .panicking chain } : Frame).leaving P w₃ (.panicked chain) := ⟨rfl, hd, fn, hfn⟩
   exact ⟨.panicked chain, w₃, hR, (StepsIn.trans harr s1).trans (StepsIn.trans hs (.one (fenced_leaving hF' hr' hl) (step_leave_panicked hl)))⟩
  | outgrown => exact hq₂.elim
 | exit id => exact hq.elim
 | goto t => exact hq.elim
 | ret => exact hq.elim
 | panic chain => exact hq.elim
 | outgrown => exact hq.elim
def SeqEnd {α : Type} (xs : List α) (J Jx : List α → World → Prop) (Jp : List PanicEntry → List α → World → Prop) (e : Ending) (w : World) : Prop :=
 (∃ v, e = .returned v ∧ (J xs w ∨ ∃ pre, pre <+: xs ∧ Jx pre w)) ∨ (∃ ch, e = .panicked ch ∧ ∃ pre, pre <+: xs ∧ Jp ch pre w)
def RoundEnd {α : Type} (Kp : World → World → Prop) (J Jx : List α → World → Prop) (Jp : List PanicEntry → List α → World → Prop) (pre : List α) (W : World) (e : Ending) (w : World) : Prop :=
 (e = .returned (.bool true) ∧ J pre w ∧ Kp W w) ∨ (e = .returned (.bool false) ∧ Jx pre w) ∨ (∃ ch, e = .panicked ch ∧ Jp ch pre w)
def SeqP {α : Type} (F : Fence) (n : Nat) (P : Program) (g : Nat) (lb : Array Value) (encs : α → Array Value) (Ab Kp : World → World → Prop) (xs : List α) (ok : World → Prop) : Prop :=
 ∀ (l : Nat) (J Jx : List α → World → Prop) (Jp : List PanicEntry → List α → World → Prop) (W : World), ok W →
  (∀ s A B, Ab A B → J s A → J s B) → (∀ s A B, Ab A B → Jx s A → Jx s B) →
  (∀ pre x W1, pre ++ [x] <+: xs → J pre W1 → YieldAt F (n - 1) P l (encs x) W1 (RoundEnd Kp J Jx Jp (pre ++ [x]) W1)) →
  J [] W →
  CallsIn F n P g (#[.func (.yield l) #[] #[]] ++ lb) W (SeqEnd xs J Jx Jp)
def ownPostP {α : Type} (B : Nat) (Kp : World → World → Prop) (I : List α → World → Prop) (Ix : Code → List α → World → Prop) (Ip : List PanicEntry → List α → World → Prop) (xs : List α) (W : World) : Exit → Act → World → Prop
 | .normal, _, W' => KeepsFrom B W W' ∧ Kp W W' ∧ I xs W'
 | .ret, _, W' => KeepsFrom B W W' ∧ Ix .ret xs W'
 | .exit id, _, W' => KeepsFrom B W W' ∧ Ix (.exit id) xs W'
 | .goto t, _, W' => KeepsFrom B W W' ∧ Ix (.goto t) xs W'
 | .panic ch, a, W' => a.defers = [] ∧ KeepsFrom B W W' ∧ Ip ch xs W'
 | .outgrown, _, _ => False
def Puts {β : Type} (B : Nat) (I : β → World → Prop) : Prop := ∀ s W l (o o' : Obj), B ≤ l → W.heap[l]? = some o → o.isCells = false → I s W → I s (W.putObj l o')
def wpAt (f : FuncId) (P : Program) (c : Code) (Q : Exit → Act → World → Prop) (a : Act) (w : World) : Prop :=
 ∀ (b : Frame) (k : List Item) (cs : List Frame), b.roundOf = none → b.fn = f →
  ∃ e a' w', Q e a' w' ∧ ArrivesIn (Machine.fenced P Fence.wide) P (lone (b.atR a (.code c :: k)) cs w) b k cs e a' w'
theorem wpAt_of {f : FuncId} {c : Code} {Q : Exit → Act → World → Prop} {a : Act} {w : World} (h : c.wpIn Fence.wide n P Q a w) : wpAt f P c Q a w :=
 fun b k cs hro _ => h b k cs hro trivial (room_wide _)
theorem zbc {f : FuncId} {c : Code} {Q : Exit → Act → World → Prop} {a : Act} {w : World} (h : c.wp P Q a w) : wpAt f P c Q a w := wpAt_of (n := 0) (wpIn_wide.2 h)
theorem zbn {f : FuncId} {x y : Code} {Q : Exit → Act → World → Prop} {a : Act} {w : World} (h : wpAt f P x (Exit.then (wpAt f P y Q) Q) a w) : wpAt f P (Code.seq x y) Q a w := by
 intro b k cs hro hb
 have h0 : (lone (b.atR a (.code (.seq x y) :: k)) cs w).fenced P Fence.wide := fenced_wide _ _
 obtain ⟨e, a₁, w₁, hq, harr⟩ := h b (.code y :: k) cs hro hb
 cases e with
 | normal =>
  obtain ⟨e₂, a₂, w₂, hq₂, harr₂⟩ := hq b k cs hro hb
  exact ⟨e₂, a₂, w₂, hq₂, .of_steps (.head h0 stepR_seq harr) harr₂⟩
 | exit id => exact ⟨_, a₁, w₁, hq, .of_steps (.one h0 stepR_seq) (.pass (x := .code y) rfl (fun _ _ => .inl (by simp)) harr)⟩
 | goto l => exact ⟨_, a₁, w₁, hq, .of_steps (.one h0 stepR_seq) (.pass (x := .code y) rfl (fun _ _ => .inl (by simp)) harr)⟩
 | ret => exact ⟨_, a₁, w₁, hq, .of_steps (.one h0 stepR_seq) (.pass (x := .code y) rfl (fun _ _ => .inl (by simp)) harr)⟩
 | panic ch => exact ⟨_, a₁, w₁, hq, .of_steps (.one h0 stepR_seq) (.pass (x := .code y) rfl (fun _ _ => .inl (by simp)) harr)⟩
 | outgrown => exact ⟨_, a₁, w₁, hq, .of_steps (.one h0 stepR_seq) (.pass (x := .code y) rfl (fun _ _ => .inl (by simp)) harr)⟩
theorem wpAt_block {f : FuncId} {id : Nat} {c : Code} {Q : Exit → Act → World → Prop} {a : Act} {w : World} (h : wpAt f P c (Exit.inBlock id Q) a w) : wpAt f P (Code.block id c) Q a w := by
 intro b k cs hro hb
 have h0 : (lone (b.atR a (.code (.block id c) :: k)) cs w).fenced P Fence.wide := fenced_wide _ _
 obtain ⟨e, a₁, w₁, hq, harr⟩ := h b (.inBlock id :: k) cs hro hb
 cases e with
 | normal => exact ⟨.normal, a₁, w₁, hq, .head h0 stepR_block (StepsIn.trans harr (.one (fenced_wide _ _) stepR_inBlock))⟩
 | exit id' =>
  by_cases hid : id' = id
  ·simp only [Exit.inBlock, hid, if_true] at hq
   exact ⟨.normal, a₁, w₁, hq, .head h0 stepR_block (harr.1 k (by simp [exitTo, hid]))⟩
  ·simp only [Exit.inBlock, hid, if_false] at hq
   have this : (id == id') = false := by simp; exact fun h => hid h.symm
   have hx : exitTo id' (.inBlock id :: k) = exitTo id' k := by simp [exitTo, this]
   exact ⟨.exit id', a₁, w₁, hq, fun k' hk => .head h0 stepR_block (harr.1 k' (by rw [hx]; exact hk)),
    fun hr' hk => let ⟨k₁, h1, h2⟩ := harr.2 hr' (by rw [hx]; exact hk); ⟨k₁, h1, .head h0 stepR_block h2⟩⟩
 | goto l =>
  have hx : gotoIn l (.inBlock id :: k) = gotoIn l k := by simp [gotoIn]
  exact ⟨_, a₁, w₁, hq, fun k' hk => .head h0 stepR_block (harr.1 k' (by rw [hx]; exact hk)),
   fun hr' hk => let ⟨k₁, h1, h2⟩ := harr.2 hr' (by rw [hx]; exact hk); ⟨k₁, h1, .head h0 stepR_block h2⟩⟩
 | ret => exact ⟨_, a₁, w₁, hq, .of_steps (.one h0 stepR_block) harr⟩
 | panic ch => exact ⟨_, a₁, w₁, hq, .of_steps (.one h0 stepR_block) harr⟩
 | outgrown => exact ⟨_, a₁, w₁, hq, .of_steps (.one h0 stepR_block) harr⟩
theorem calls_of_wpAt {f : FuncId} {fn : Func} {c : Code} {args : Array Value} {w : World} {R : Ending → World → Prop}
  (hf : P.funcs[f]? = some fn) (hb : fn.body = some c)
  (h : wpAt f P c (bodyPostM Fence.wide 3 P fn R) { tmps := args ++ Array.replicate (fn.ntmps - args.size) undef, defers := [] } w) : Calls P f args w R := by
 refine (callsIn_wide (n := 3)).1 ⟨trivial, fun cs hr => ?_⟩
 let b : Frame := { (default : Frame) with fn := f, kind := .normal, roundOf := none }
 have henter : Frame.enter P f args .normal = b.atR { tmps := args ++ Array.replicate (fn.ntmps - args.size) undef, defers := [] } [.code c] := by
  simp [Frame.enter, Frame.atR, hf, hb, b]
 obtain ⟨e, a', w', hq, harr⟩ := h b [] cs rfl rfl
 rw [← henter] at harr
 cases e with
 | normal =>
  obtain ⟨e', w'', fr', hR, hs, hfn, hl⟩ := leaves_stepsInM a'.defers .returning w' { b.atR a' [] with mode := .returning } cs rfl rfl rfl hf rfl trivial hr hq
  exact ⟨e', w'', fr', hR, ComesIn.of_steps (StepsIn.trans harr (.one (fenced_wide _ _) (stepR_end rfl))) hs, hfn, hl⟩
 | ret =>
  obtain ⟨todo, hs₀⟩ := harr.1 rfl
  obtain ⟨e', w'', fr', hR, hs, hfn, hl⟩ := leaves_stepsInM a'.defers .returning w' { b.atR a' todo with mode := .returning } cs rfl rfl rfl hf rfl trivial hr hq
  exact ⟨e', w'', fr', hR, ComesIn.of_steps hs₀ hs, hfn, hl⟩
 | panic chain =>
  obtain ⟨todo, hs₀⟩ := harr
  obtain ⟨e', w'', fr', hR, hs, hfn, hl⟩ := leaves_stepsInM a'.defers (.panicking chain) w' { b.atR a' todo with mode := .panicking chain } cs rfl rfl rfl hf rfl trivial hr hq
  exact ⟨e', w'', fr', hR, ComesIn.of_steps hs₀ hs, hfn, hl⟩
 | exit id => exact hq.elim
 | goto l => exact hq.elim
 | outgrown => exact ⟨.outgrown, w', b, hq, harr.resolve_left (by simp [b]), rfl, trivial⟩
theorem wpAt_rangeFunc {fn : FuncId} {g : Operand} {ps : Array Tmp} {assign body : Code} {Q : Exit → Act → World → Prop} {a : Act} {w : World}
  {l : Nat} {mark : List Deferred} {w₁ : World} {d : Deferred} {w₁' : World} {f : FuncId} {args : Array Value} {w₂ : World}
  (he : (Instr.enterLoop fn a.tmps ps assign body none).run P w = .ok (l, mark) w₁)
  (hres : (resolve a.eval (rangeCall g l) 0).run P w₁ = .ok d w₁') (hinv : (invoke d.target d.args).run P w₁' = .ok (.enter f args) w₂)
  (hcall : CallsIn Fence.wide 3 P f args w₂ (fun e w₃ => match e with
   | .returned _ => ∃ jump w₄, (Instr.endLoop l).run P w₃ = .ok jump w₄ ∧ (match jump with
     | none => Q .normal { a with defers := mark ++ a.defers } w₄
     | some c => wpAt fn P c Q { a with defers := mark ++ a.defers } w₄)
   | .panicked chain => Q (.panic chain) { a with defers := mark ++ a.defers } w₃
   | .outgrown => False)) :
  wpAt fn P (Code.rangeFunc g ps assign body) Q a w := by
 intro b k cs hro hb
 subst hb
 rw [← hro] at he
 have h0 : (lone (b.atR a (.code (.rangeFunc g ps assign body) :: k)) cs w).fenced P Fence.wide := fenced_wide _ _
 have henter := stepR_rangeFunc (P := P) (b := b) (a := a) (k := k) (cs := cs) (w := w) he hres hinv
 obtain ⟨e, w₃, fr, hR, hsteps, hfn, hleave⟩ := hcall.2 (b.atR { a with defers := mark ++ a.defers } (.inRangeFunc l :: k) :: cs) (room_wide _)
 cases e with
 | outgrown => exact hR.elim
 | returned v =>
  obtain ⟨jump, w₄, hend, hj⟩ := hR
  have sback : StepsIn (Machine.fenced P Fence.wide) P (lone (b.atR a (.code (.rangeFunc g ps assign body) :: k)) cs w) (lone (b.atR { a with defers := mark ++ a.defers } ((jump.map Item.code).toList ++ k)) cs w₄) := by
   refine .head h0 henter (StepsIn.trans hsteps (.head (fenced_wide _ _) ?_ (.one (fenced_wide _ _) (stepR_endRangeFunc hend))))
   rw [← finish_atR_inRangeFunc l v]; exact step_leave_returned hleave
  cases jump with
  | none => exact ⟨.normal, _, w₄, hj, sback⟩
  | some c =>
   obtain ⟨e', a'', w₅, hq, harr⟩ := hj b k cs hro rfl
   exact ⟨e', a'', w₅, hq, .of_steps sback harr⟩
 | panicked chain =>
  refine ⟨.panic chain, _, w₃, hR, .inRangeFunc l :: k, .head h0 henter (StepsIn.trans hsteps (.one (fenced_wide _ _) ?_))⟩
  rw [← Frame.raise_atR]; exact step_leave_panicked hleave
theorem wpAt_range_p {α : Type} {g : Operand} {ps : Array Tmp} {assign body : Code} {Q : Exit → Act → World → Prop} {a : Act} {w : World}
  {fn : FuncId} {fnc : Func} (hfnc : P.funcs[fn]? = some fnc) {gf : Nat} {lb : Array Value} (hg : a.eval g = .func (.func gf) #[] lb) (eg : ∀ args w, (callFunc gf args).run P w = .ok (.enter gf args) w)
  {encs : α → Array Value} {Ab Kp : World → World → Prop} {xs : List α} {ok : World → Prop} (hseq : SeqP Fence.wide 3 P gf lb encs Ab Kp xs ok)
  (hAb : ∀ A B, Ab A B → ∀ k (o : Obj), w.heap.size ≤ k → A.heap[k]? = some o → o.isCells = false → B.heap[k]? = some o)
  (hKt : ∀ {A B C : World}, Kp A B → Kp B C → Kp A C) (hKb : ∀ (W : World) (l : Nat) (o o' : Obj), w.heap.size ≤ l → W.heap[l]? = some o → o.isCells = false → Kp W (W.putObj l o'))
  (hok' : ∀ W, Below w.heap.size w W → ok W) (hps : ∀ x, (encs x).size = ps.size)
  (I : List α → World → Prop) (Ix : Code → List α → World → Prop) (Ip : List PanicEntry → List α → World → Prop)
  (hIa : ∀ s A B, Ab A B → I s A → I s B) (hIxa : ∀ c s A B, Ab A B → Ix c s A → Ix c s B) (hI : Puts w.heap.size I) (hIx : ∀ c, Puts w.heap.size (Ix c)) (h0 : ∀ W, Below w.heap.size w W → I [] W) (a₁ : α → Act)
  (hassign : ∀ (l : Nat) (x : α) (W : World) (K : Act → World → Prop), K (a₁ x) W →
   assign.wpIn (Fence.wide.inRound l) 2 P (Exit.then K (fun _ _ _ => False)) { tmps := (ps.zip (encs x)).foldl (fun t (p, v) => t.setIfInBounds p v) a.tmps, defers := [] } W)
  (hbody : ∀ (l : Nat) (pre : List α) (x : α) (W : World), pre ++ [x] <+: xs → I pre W → body.wpIn (Fence.wide.inRound l) 2 P (ownPostP w.heap.size Kp I Ix Ip (pre ++ [x]) W) (a₁ x) W)
  (hdone : ∀ (D : Nat) (W : World), w.heap.size ≤ D → I xs W → W.heap[D]? = some (.deferred (some [])) → Q .normal { a with defers := { target := .collected D, args := #[] } :: a.defers } W)
  (hstop : ∀ (D : Nat) (c : Code) (pre : List α) (W : World), w.heap.size ≤ D → pre <+: xs → Ix c pre W → W.heap[D]? = some (.deferred (some [])) → wpAt fn P c Q { a with defers := { target := .collected D, args := #[] } :: a.defers } W)
  (hpanic : ∀ (D : Nat) (ch : List PanicEntry) (pre : List α) (W : World), w.heap.size ≤ D → pre <+: xs → Ip ch pre W → W.heap[D]? = some (.deferred (some [])) → Q (.panic ch) { a with defers := { target := .collected D, args := #[] } :: a.defers } W) :
  wpAt fn P (Code.rangeFunc g ps assign body) Q a w := by
 obtain ⟨rec, hrec⟩ : ∃ rec : LoopState → Option Code → Loop, rec = fun st pe => { state := st, pending := pe, fn, tmps := a.tmps, params := ps, assign, body, defers := w.heap.size } := ⟨_, rfl⟩
 obtain ⟨W1, hW1⟩ : ∃ W1, (w.alloc (.deferred (some []))).alloc (.loop (rec .ready none)) = W1 := ⟨_, rfl⟩
 have hL1 : W1.heap[w.heap.size + 1]? = some (.loop (rec .ready none)) := by
  rw [← hW1]; have := World.alloc_heap_new (w.alloc (.deferred (some []))) (.loop (rec .ready none)); rwa [World.size_alloc] at this
 have hK1 : W1.heap[w.heap.size]? = some (.deferred (some [])) := by
  rw [← hW1]; exact (Below.heap_alloc _ _ _ (by simp)).trans (World.alloc_heap_new w _)
 have hb1 : Below w.heap.size w W1 := by
  rw [← hW1]; exact ((Below.refl _ w).alloc (Nat.le_refl _) _).alloc (by simp) _
 refine wpAt_rangeFunc (l := w.heap.size + 1) (mark := [{ target := .collected w.heap.size, args := #[] }]) (w₁ := W1) (d := { target := .fn (.func gf) lb, args := #[.func (.yield (w.heap.size + 1)) #[] #[]] }) (w₁' := W1) (f := gf)
  (args := #[.func (.yield (w.heap.size + 1)) #[] #[]] ++ lb) (w₂ := W1) ?_ ?_ ?_ ?_
 ·rw [← hW1, hrec]; exact run_enterLoop_outer _ _ _ _ _
 ·simp only [resolve, hg]
  simp [go_sem]
 ·simp [invoke, go_sem, eg]
 ·refine (hseq (w.heap.size + 1)
   (fun pre W => I pre W ∧ W.heap[w.heap.size + 1]? = some (.loop (rec .ready none)) ∧ W.heap[w.heap.size]? = some (.deferred (some [])))
   (fun pre W => ∃ c, Ix c pre W ∧ W.heap[w.heap.size + 1]? = some (.loop (rec .done (some c))) ∧ W.heap[w.heap.size]? = some (.deferred (some [])))
   (fun ch pre W => Ip ch pre W ∧ W.heap[w.heap.size]? = some (.deferred (some [])))
   W1 (hok' _ hb1)
   (fun s A B hab ⟨h1, h2, h3⟩ => ⟨hIa _ _ _ hab h1, hAb _ _ hab _ _ (by omega) h2 rfl, hAb _ _ hab _ _ (Nat.le_refl _) h3 rfl⟩)
   (fun s A B hab ⟨c, h1, h2, h3⟩ => ⟨c, hIxa _ _ _ _ hab h1, hAb _ _ hab _ _ (by omega) h2 rfl, hAb _ _ hab _ _ (Nat.le_refl _) h3 rfl⟩)
   ?_ ⟨h0 _ hb1, hL1, hK1⟩).mono ?_
  ·rintro pre x W hpre ⟨hi, hl, hk⟩
   have hlt : w.heap.size + 1 < W.heap.size := (Array.getElem?_eq_some_iff.1 hl).1
   have hy := run_yield (P := P) (args := encs x) hl (by rw [hrec]; exact hps x)
   rw [hrec] at hy
   refine ⟨fn, _, assign, body, hy, roundIn_p (F := Fence.wide) (n := 2) hfnc trivial (hassign _ x W _ ⟨_, run_beginRound hl (by rw [hrec]), ?_⟩)⟩
   have hl2 : (W.putObj (w.heap.size + 1) (.loop { rec .ready none with state := .busy })).heap[w.heap.size + 1]? = some (.loop { rec .ready none with state := .busy }) := World.putObj_heap_same hlt
   have hk2 : (W.putObj (w.heap.size + 1) (.loop { rec .ready none with state := .busy })).heap[w.heap.size]? = some (.deferred (some [])) := (World.putObj_heap_other (by omega)).trans hk
   have hw2 : Kp W (W.putObj (w.heap.size + 1) (.loop { rec .ready none with state := .busy })) := hKb _ _ _ _ (by omega) hl rfl
   refine wpIn_mono (hbody _ pre x _ hpre (hI _ _ _ _ _ (by omega) hl rfl hi)) ?_
   have fin : ∀ (jump : Option Code) (W3 : World), KeepsFrom w.heap.size (W.putObj (w.heap.size + 1) (.loop { rec .ready none with state := .busy })) W3 →
     (Instr.endRound (w.heap.size + 1) jump).run P W3 = .ok (.bool jump.isNone) (W3.putObj (w.heap.size + 1) (.loop (rec (if jump.isNone then .ready else .done) jump))) ∧
     W3.heap[w.heap.size + 1]? = some (.loop { rec .ready none with state := .busy }) ∧
     (W3.putObj (w.heap.size + 1) (.loop (rec (if jump.isNone then .ready else .done) jump))).heap[w.heap.size + 1]? = some (.loop (rec (if jump.isNone then .ready else .done) jump)) ∧
     (W3.putObj (w.heap.size + 1) (.loop (rec (if jump.isNone then .ready else .done) jump))).heap[w.heap.size]? = some (.deferred (some [])) := fun jump W3 hk3 => by
    have hl3 := hk3.same _ _ (by omega) hl2 rfl
    have := run_endRound (P := P) jump hl3
    rw [hrec] at this ⊢
    exact ⟨this, by rw [hrec] at hl3; exact hl3, World.putObj_heap_same (Array.getElem?_eq_some_iff.1 hl3).1, (World.putObj_heap_other (by omega)).trans (hk3.same _ _ (Nat.le_refl _) hk2 rfl)⟩
   rintro e a3 W3 hp
   cases e with
   | normal =>
    obtain ⟨hk3, hkp3, hi3⟩ := hp
    obtain ⟨hr, hl3, hl4, hk4⟩ := fin none W3 hk3
    exact ⟨_, _, hr, .inl ⟨rfl, ⟨hI _ _ _ _ _ (by omega) hl3 rfl hi3, hl4, hk4⟩, hKt (hKt hw2 hkp3) (hKb _ _ _ _ (by omega) hl3 rfl)⟩⟩
   | ret =>
    obtain ⟨hk3, hi3⟩ := hp
    obtain ⟨hr, hl3, hl4, hk4⟩ := fin (some .ret) W3 hk3
    exact ⟨_, _, hr, .inr (.inl ⟨rfl, .ret, hIx _ _ _ _ _ _ (by omega) hl3 rfl hi3, hl4, hk4⟩)⟩
   | exit id =>
    obtain ⟨hk3, hi3⟩ := hp
    obtain ⟨hr, hl3, hl4, hk4⟩ := fin (some (.exit id)) W3 hk3
    exact ⟨_, _, hr, .inr (.inl ⟨rfl, .exit id, hIx _ _ _ _ _ _ (by omega) hl3 rfl hi3, hl4, hk4⟩)⟩
   | goto t =>
    obtain ⟨hk3, hi3⟩ := hp
    obtain ⟨hr, hl3, hl4, hk4⟩ := fin (some (.goto t)) W3 hk3
    exact ⟨_, _, hr, .inr (.inl ⟨rfl, .goto t, hIx _ _ _ _ _ _ (by omega) hl3 rfl hi3, hl4, hk4⟩)⟩
   | panic ch =>
    obtain ⟨hd, hk3, hi3⟩ := hp
    exact ⟨hd, .inr (.inr ⟨ch, rfl, hi3, hk3.same _ _ (Nat.le_refl _) hk2 rfl⟩)⟩
   | outgrown => exact hp.elim
  ·rintro e W2 (⟨v, rfl, (⟨hi, hl, hk⟩ | ⟨pre, hpre, c, hi, hl, hk⟩)⟩ | ⟨ch, rfl, pre, hpre, hi, hk⟩)
   ·exact ⟨none, _, by have := run_endLoop (P := P) hl (by rw [hrec]; simp); rw [hrec] at this; exact this, hdone _ _ (Nat.le_refl _) (hI _ _ _ _ _ (by omega) hl rfl hi) ((World.putObj_heap_other (by omega)).trans hk)⟩
   ·exact ⟨some c, _, by have := run_endLoop (P := P) hl (by rw [hrec]; simp); rw [hrec] at this; exact this, hstop _ c pre _ (Nat.le_refl _) hpre (hIx c _ _ _ _ _ (by omega) hl rfl hi) ((World.putObj_heap_other (by omega)).trans hk)⟩
   ·exact hpanic _ ch pre _ (Nat.le_refl _) hpre hi hk
end Go.Proofs.YteamhfmpogbilaaGreatDoor.X
