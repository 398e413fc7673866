/- tool.read: the nodes of a text by their places, or the line that is none. -/
import Derived.Test.YteamhfmpogbilaaGreatDoorCatch
import Derived.Maps.OwnIn
import Derived.Test.YteamhfmpogbilaaGreatDoorZQ1
set_option linter.unusedVariables false
set_option linter.unusedSimpArgs false
namespace Go.Proofs.YteamhfmpogbilaaGreatDoor.X
open Go.RowKit Go.Shelf Go.Proofs.YteamhfmpogbilaaGreatDoor Go.Proofs.YteamhfmpogbilaaGreatDoorW.PrintWords Go.Proofs.YteamhfmpogbilaaGreatDoorW.PrintLast
attribute [local go_sem] Oper.semAt_some
def heraldB : ByteArray := ⟨#[104, 101, 114, 97, 108, 100]⟩
def treeB : ByteArray := ⟨#[116, 114, 101, 101]⟩
def stepL (bg : Bool) (l : List Full) (s : ByteArray) : Option (Bool × List Full) := match cutL s.data.toList with
 | none => none
 | some [] => some (bg, l)
 | some (u :: ws) =>
  if bg = false then (if u :: ws = [⟨heraldB, false⟩, ⟨treeB, false⟩] then some (true, l) else none)
  else match nodeL (u :: ws) with
   | none => none
   | some n => if (zbg l n.f0).isSome then none else some (true, l ++ [n])
def zbh (xs : List ByteArray) : Option (Bool × List Full) := xs.foldl (fun st x => st.bind fun p => stepL p.1 p.2 x) (some (false, []))
theorem foldSt_snoc (xs : List ByteArray) (x : ByteArray) : zbh (xs ++ [x]) = (zbh xs).bind fun p => stepL p.1 p.2 x := by simp [zbh, List.foldl_append]
theorem wd_eq (a b : Wd) : (!(a.f0.toList == b.f0.toList) || !(a.f1 == b.f1)) = !decide (a = b) := by
 by_cases h : a = b
 ·subst h; simp
 ·have : ¬ (a.f0.toList = b.f0.toList ∧ a.f1 = b.f1) := fun ⟨h1, h2⟩ => h (by cases a; cases b; simp only [] at h1 h2; rw [b_eq.mp h1, h2])
  by_cases h1 : a.f0.toList = b.f0.toList
  ·have h2 : a.f1 ≠ b.f1 := fun h2 => this ⟨h1, h2⟩
   simp [h1, h2, h]
  ·simp [h1, h]
theorem words_told (ws : List Wd) (p q : Wd) : yea.f 5 ws [p, q] = some (decide (ws = [p, q])) := by
 unfold yea.f
 by_cases hl : ws.length = 2
 ·obtain ⟨a, b, rfl⟩ : ∃ a b, ws = [a, b] := by
   match ws, hl with
   | [a, b], _ => exact ⟨a, b, rfl⟩
  rw [if_pos (by simp)]
  have w1 : wrap64 (0 + 1) = 1 := by unfold wrap64; omega
  have w2 : wrap64 (1 + 1) = 2 := by unfold wrap64; omega
  have r0 : ∀ x y : Wd, zcd [x, y] 0 = x := fun _ _ => rfl
  have r1 : ∀ x y : Wd, zcd [x, y] 1 = y := fun _ _ => rfl
  rw [yea.l0.eq_2, if_pos (by simp), if_pos (by decide), if_pos (by simp), if_pos (by simp), r0, r0, wd_eq, w1]
  by_cases h1 : a = p
  ·subst h1
   rw [if_neg (by simp), yea.l0.eq_2, if_pos (by simp), if_pos (by decide), if_pos (by simp), if_pos (by simp), r1, r1, wd_eq, w2]
   by_cases h2 : b = q
   ·subst h2
    rw [if_neg (by simp), yea.l0.eq_2, if_neg (by simp)]; simp
   ·rw [if_pos (by simp [h2])]; simp [h2]
  ·rw [if_pos (by simp [h1])]; simp [h1]
 ·rw [if_neg (by simp; omega)]
  have : ws ≠ [p, q] := fun e => hl (by rw [e]; rfl)
  simp [this]
theorem two_reads (w : World) (b : Nat) (p q : Wd) (h : Holds b #[.string p.f0, .bool p.f1, .string q.f0, .bool q.f1] 122 w) : Kd.C k122 w (some ⟨b, 0, none⟩) 2 [p, q] := by
 refine ⟨rfl, by simp, fun _ => ⟨_, rfl, fun j x hj => ?_⟩⟩
 refine ⟨[.string x.f0, .bool x.f1], rfl, k122_mk w x, fun i u hu => ?_⟩
 have e : Kd.sz k122 = 2 := rfl
 rw [add_plain, e]
 match j, hj, i, hu with
 | 0, hj, 0, hu => simp at hj hu; subst hj; subst hu; exact h.cell 0 _ rfl
 | 0, hj, 1, hu => simp at hj hu; subst hj; subst hu; exact h.cell 1 _ rfl
 | 1, hj, 0, hu => simp at hj hu; subst hj; subst hu; exact h.cell 2 _ rfl
 | 1, hj, 1, hu => simp at hj hu; subst hj; subst hu; exact h.cell 3 _ rfl
theorem words_eq (A : Option Addr) (n c b : Nat) (ws : List Wd) (p q : Wd) (w : World) (hn : ws.length = n) (hC : Kd.C k122 w A n ws) (hc : n ≤ c) (h : Holds b #[.string p.f0, .bool p.f1, .string q.f0, .bool q.f1] 122 w) :
  Calls Tryz.prog 52 #[.slice A n c, .slice (some ⟨b, 0, none⟩) 2 2] w fun e w' => e = .returned (.bool (decide (ws = [p, q]))) ∧ Aside0 (Drawn0 w w') := by
 subst hn
 refine (yea.calls 5 A c ws (some ⟨b, 0, none⟩) 2 [p, q] _ w hC hc (two_reads w b p q h) (Nat.le_refl _) (words_told ws p q)).mono ?_
 rintro e w' ⟨rfl, hd⟩
 exact ⟨rfl, ⟨hd⟩⟩
theorem wpListIn_lookup_full {F : Fence} {n : Nat} (w : World) {ops : Array Oper} {rest : List Oper} {o : Oper} {a : Act} {Q : Exit → Act → World → Prop} (hg : o.guard = none) (m x : Operand) (hop : o.op = Op.lookup 64 m x true)
  (b c : Nat) (l : List Full) (hm : a.eval m = .map (some b)) (hown : w.ownsMap Tryz.prog 9 fullR b c (mapD l)) (up : ByteArray) (hx : a.eval x = .string up) (hs : up.size ≤ maxLen)
  (hK : ∀ (p : Full) (f : Bool), Aside0 (p = (zbg l up).getD z40) → Aside0 (f = (zbg l up).isSome) →
   wpListIn F n Tryz.prog ops Q rest (a.put o.dst (.tuple #[.agg #[.string p.f0, .string p.f1, .int .i64 p.f2, .int .i64 p.f3, .int .i64 p.f4, .int .i64 p.f5, .int .i64 p.f6], .bool f])) w) :
  wpListIn F n Tryz.prog ops Q (o :: rest) a w := by
 refine wpListIn_lookup_own_ok w hg m x _ hop 9 40 keyed Tryz.underlying64 fullR (zeroFull _) (.held z40) [] (fullR_mk _) b c _ hm hown _ (keyL up) hx (WideMaps.keyOf_string_mk Tryz.underlying9 hs) ?_
 intro v ps hv
 obtain ⟨h1, h2⟩ := mapD_look _ l rfl up (.held z40)
 rw [h1]
 obtain ⟨n, rfl, e⟩ := fullR_inv hv
 have e2 : n = (zbg l up).getD z40 := by
  have := congrArg Prod.fst e
  rw [h2] at this
  simp only [] at this
  cases hh : zbg l up with
  | none => rw [hh] at this; injection this with this; exact this.symm
  | some u => rw [hh] at this; injection this with this; exact this.symm
 exact hK n _ ⟨e2⟩ ⟨rfl⟩
def K4 (b : Nat) (W W' : World) : Prop := W.heap.size ≤ W'.heap.size ∧ ∀ k, b ≤ k → k < W.heap.size → W'.heap[k]? = W.heap[k]?
theorem K4.refl (b : Nat) (W : World) : K4 b W W := ⟨Nat.le_refl _, fun _ _ _ => rfl⟩
theorem K4.trans {b : Nat} {A B C : World} (h : K4 b A B) (k : K4 b B C) : K4 b A C := ⟨Nat.le_trans h.1 k.1, fun i hb hi => (k.2 i hb (Nat.lt_of_lt_of_le hi h.1)).trans (h.2 i hb hi)⟩
theorem K4.row {b k : Nat} {A B : World} (hg : A.grownBy B (some k)) (hk : k < b) : K4 b A B := ⟨hg.size, fun i hb hi => hg.block i hi (fun e => by injection e with e; omega)⟩
theorem K4.below {b : Nat} {A B : World} (hb : Below A.heap.size A B) : K4 b A B := ⟨hb.size, fun i _ hi => hb.block i hi⟩
theorem K4.keeps {b B : Nat} {W W' : World} (h : K4 b W W') (hB : b ≤ B) : KeepsFrom B W W' := ⟨h.1, fun k o hk ho _ => (h.2 k (by omega) (Array.getElem?_eq_some_iff.1 ho).1).trans ho⟩
theorem K4.seq {b : Nat} {W W' : World} (h : K4 b W W') (hs : b + 2 < W.heap.size) : SeqKp b W W' := fun k h1 h2 => h.2 k h1 (by omega)
structure RI (w : World) (pre : List ByteArray) (W : World) : Prop where
 st : ∃ bg l, zbh pre = some (bg, l) ∧ Holds (w.heap.size + 1 + 1 + 1) #[.bool bg] 4 W ∧ W.ownsMap Tryz.prog 9 fullR (w.heap.size + 1 + 1) l.length (mapD l) ∧ (∀ n ∈ l, n.f0.size ≤ 102) ∧ l.length ≤ pre.length
 m : Holds w.heap.size #[.map (some (w.heap.size + 1 + 1))] 64 W
 at_ : Holds (w.heap.size + 1) #[.int .i64 pre.length] 3 W
 below : Below w.heap.size w W
 big : w.heap.size + 7 ≤ W.heap.size
theorem RI.row {w W W' : World} {pre : List ByteArray} {k : Nat} (h : RI w pre W) (hg : W.grownBy W' (some k)) (hk : w.heap.size + 4 ≤ k) : RI w pre W' := by
 obtain ⟨⟨bg, l, h1, h2, h3, h4, h5⟩, hm, ha, hb, hs⟩ := h
 exact ⟨⟨bg, l, h1, h2.row hg (by omega), h3.kept hg (fun e => by injection e with e; omega), h4, h5⟩, hm.row hg (by omega), ha.row hg (by omega), zbe hb (by omega) hb.size hg, Nat.le_trans hs hg.size⟩
structure RP (w : World) (ch : List PanicEntry) (pre : List ByteArray) (W : World) : Prop where
 ch : ch = flawC
 st : ∃ p x bg l, pre = p ++ [x] ∧ zbh p = some (bg, l) ∧ zbh pre = none
 m : Holds w.heap.size #[.map (some (w.heap.size + 1 + 1))] 64 W
 at_ : Holds (w.heap.size + 1) #[.int .i64 pre.length] 3 W
 below : Below w.heap.size w W
theorem linesB_len (s : ByteArray) : (zcg s).length ≤ s.size + 1 := by
 have : ∀ l, (zcy l).length ≤ l.length + 1 := by
  intro l
  induction l with
  | nil => simp [zcy]
  | cons c t ih =>
   unfold zcy
   split
   ·simp; omega
   ·split
    ·simp
    ·rename_i h r e; rw [e] at ih; simp at ih ⊢; omega
 unfold zcg
 rw [List.length_map]
 have := this s.data.toList
 rwa [zcu] at this
theorem linesL_size : ∀ l, ∀ x ∈ zcy l, x.length ≤ l.length
 | [], x, hx => by simp [zcy] at hx; subst hx; simp
 | c :: t, x, hx => by
  unfold zcy at hx
  have ih := linesL_size t
  split at hx
  ·rcases List.mem_cons.mp hx with h | h
   ·subst h; simp
   ·have := ih x h; simp; omega
  ·split at hx
   ·simp at hx; subst hx; simp
   ·rename_i h r e
    rcases List.mem_cons.mp hx with h' | h'
    ·subst h'; have := ih h (by rw [e]; simp); simp; omega
    ·have := ih x (by rw [e]; simp [h']); simp; omega
theorem linesB_size (s : ByteArray) : ∀ x ∈ zcg s, x.size ≤ s.size := by
 intro x hx
 unfold zcg at hx
 obtain ⟨y, hy, rfl⟩ := List.mem_map.mp hx
 have := linesL_size _ y hy
 rw [zcu] at this
 unfold mk; rw [mkB_size]; exact this
theorem cutL_short : ∀ (k : Nat) (l : List UInt8), l.length ≤ k → ∀ ws, cutL l = some ws → ∀ u ∈ ws, u.f0.size ≤ l.length
 | 0, l, h, ws, hc, u, hu => by
  obtain rfl := List.length_eq_zero_iff.mp (Nat.le_zero.mp h)
  rw [cutL_nil] at hc; injection hc with hc; subst hc; cases hu
 | k + 1, [], h, ws, hc, u, hu => by rw [cutL_nil] at hc; injection hc with hc; subst hc; cases hu
 | k + 1, c :: t, h, ws, hc, u, hu => by
  simp only [List.length_cons] at h
  by_cases hb : zbk c = true
  ·rw [cutL_blank hb] at hc
   have := cutL_short k t (by omega) ws hc u hu; simp; omega
  have hb' : zbk c = false := by simpa using hb
  by_cases h35 : c = 35
  ·rw [cutL_hash h35] at hc; injection hc with hc; subst hc; cases hu
  by_cases h34 : c = 34
  ·subst h34
   cases hq : unqL t with
   | none => rw [cutL_noquote hq] at hc; cases hc
   | some p =>
    obtain ⟨b, r⟩ := p
    obtain ⟨_, h2, h3⟩ := unqL_suffix _ _ (Nat.le_refl _) b r hq
    rw [cutL_quote hq] at hc
    obtain ⟨ws', h4, rfl⟩ := Option.map_eq_some_iff.mp hc
    rcases List.mem_cons.mp hu with rfl | hu'
    ·unfold mk; rw [mkB_size]; simp; omega
    ·have := cutL_short k r (by omega) ws' h4 u hu'; simp; omega
  ·rw [cutL_word hb' h35 h34] at hc
   obtain ⟨ws', h4, rfl⟩ := Option.map_eq_some_iff.mp hc
   have h5 := (List.dropWhile_suffix zbz (l := t)).length_le
   have h6 := (List.takeWhile_prefix zbz (l := t)).length_le
   rcases List.mem_cons.mp hu with rfl | hu'
   ·unfold mk; rw [mkB_size]; simp; omega
   ·have := cutL_short k _ (by omega) ws' h4 u hu'; simp; omega
theorem fieldsFrom_place : ∀ (j : Nat) (n m : Full) (ws ws' : List Wd), fieldsFrom j n ws = some (m, ws') → m.f0 = n.f0
 | 0, n, m, ws, ws', h => by rw [fieldsFrom.eq_1] at h; injection h with h; injection h with h1 h2; rw [h1]
 | j + 1, n, m, ws, ws', h => by
  rw [fieldsFrom.eq_2] at h
  split at h
  ·cases h
  ·exact fieldsFrom_place j _ _ _ _ h
  ·split at h
   ·cases h
   ·rw [fieldsFrom_place j _ _ _ _ h]
    unfold putNum; split <;> rfl
theorem nodeL_place {ws : List Wd} {n : Full} (h : nodeL ws = some n) : n.f0.size ≤ 102 := by
 unfold nodeL at h
 split at h
 ·rename_i hh
  match ws, h, hh with
  | a :: b :: t, h, hh =>
   simp only [headOk, Bool.and_eq_true, decide_eq_true_eq] at hh
   have hn : n.f0 = b.f0 := by
    unfold dataL at h
    have key : ∀ (m : Full) (t' : List Wd), restL m t' = some n → n.f0 = m.f0 := by
     intro m t' hr
     unfold restL finL at hr
     split at hr
     ·rename_i m' e
      injection hr with hr; subst hr
      exact fieldsFrom_place _ _ _ _ _ e
     ·cases hr
    split at h
    ·cases h
    ·exact key _ _ h
    ·split at h
     ·exact key _ _ h
     ·cases h
   rw [hn]
   have hp := hh.2
   unfold zaw at hp
   split at hp
   ·simp at hp
   ·omega
 ·cases h
def ReadE (w : World) (s : ByteArray) (e : Ending) (w' : World) : Prop :=
 (∃ bg l, zbh (zcg s) = some (bg, l) ∧ e = .returned (.tuple #[.map (some (w.heap.size + 1 + 1)), .int .i64 0]) ∧ w'.ownsMap Tryz.prog 9 fullR (w.heap.size + 1 + 1) l.length (mapD l) ∧ (∀ n ∈ l, n.f0.size ≤ 102) ∧ l.length ≤ s.size + 1) ∨
 (∃ p x bg l, p ++ [x] <+: zcg s ∧ zbh p = some (bg, l) ∧ zbh (p ++ [x]) = none ∧ e = .returned (.tuple #[.map none, .int .i64 (((p ++ [x]).length : Nat) : Int)]))
theorem put_row (W : World) (D : Nat) (o : Obj) : W.grownBy (W.putObj D o) (some D) := ⟨rfl, rfl, rfl, by simp, fun i hi hne => World.putObj_heap_other (fun e => hne (by rw [e]))⟩
set_option maxHeartbeats 1000000 in
set_option maxRecDepth 100000 in
theorem read_results (w W : World) (tmps : Array Value) (mv : Value) (k : Int) (h2 : tmps.getD 2 undef = .pointer (some ⟨w.heap.size, 0, none⟩)) (h3 : tmps.getD 3 undef = .pointer (some ⟨w.heap.size + 1, 0, none⟩))
  (c0 : W.cell? ⟨w.heap.size, 0, none⟩ = some mv) (hmv : ∃ r, mv = .map r) (c1 : W.cell? ⟨w.heap.size + 1, 0, none⟩ = some (.int .i64 k)) :
  (results Tryz.f23 tmps).run Tryz.prog W = .ok (.tuple #[mv, .int .i64 k]) W := by
 obtain ⟨r, rfl⟩ := hmv
 have h2' : tmps[2]?.getD undef = .pointer (some ⟨w.heap.size, 0, none⟩) := by simpa using h2
 have h3' : tmps[3]?.getD undef = .pointer (some ⟨w.heap.size + 1, 0, none⟩) := by simpa using h3
 simp [results, Tryz.results23, go_sem, h2', h3', c0, c1]
set_option maxHeartbeats 8000000 in
set_option maxRecDepth 100000 in
theorem read_told (s : ByteArray) (hs : s.size ≤ 65536) (w : World) (hG : Glob w) :
  Calls Tryz.prog 23 #[.string s] w fun e w' => ReadE w s e w' ∧ Aside0 (Below w.heap.size w w') := by
 have hmf : ∀ (fn : Fn) (first cap : Array Value) (w : World), (Instr.makeFunc fn first cap).run Tryz.prog w = .ok (.func fn first cap) w := fun _ _ _ _ => rfl
 have hmm := fun t w => run_makeMap (P := Tryz.prog) t w
 refine calls_of_wpAt Tryz.func23 rfl ?_
 simp only [Tryz.ntmps23, List.size_toArray, List.length_cons, List.length_nil, Nat.reduceAdd, Nat.reduceSub, Array.replicate_succ, Array.replicate_zero, List.push_toArray, List.append_toArray, List.nil_append, List.cons_append]
 refine zbn (zbc ?_)
 go_wp2
 refine zbn (zbc ?_)
 go_wp2
 refine zbn (zbc ?_)
 go_wp2
 refine zbn (zbc ?_)
 go_wp2
 refine zbn (zbn (zbc ?_))
 go_wp2_with fail
 refine (splitSeq_calls s _).mono ?_
 rintro e w1 ⟨rfl, hbx, hb1, hsz1⟩
 go_wp2_with fail
 refine wpAt_block ?_
 have hsz : w1.heap.size = w.heap.size + 7 := by have := hsz1.out; simpa using this
 have HGz := Aside0.mk hsz
 simp only [World.size_alloc] at hbx
 have HB1 : Aside0 (Below w.heap.size w w1) := ⟨((((((Below.refl w.heap.size w).alloc (Nat.le_refl _) _).alloc (by simp) _).alloc (by simp; omega) _).alloc (by simp; omega) _)).trans (hb1.out.mono (by simp; omega))⟩
 have HI0 : Aside0 (RI w [] w1) := ⟨by
  have a1 := (((Holds.new w #[.map (some (w.heap.size + 1 + 1))] 64).alloc (.cells #[.int .i64 0] 3)).alloc (.map #[] 0)).alloc (.cells #[.bool false] 4)
  have a2 := ((Holds.new (w.alloc (.cells #[.map (some (w.heap.size + 1 + 1))] 64)) #[.int .i64 0] 3).alloc (.map #[] 0)).alloc (.cells #[.bool false] 4)
  have a3 := (World.ownsMap_made ((w.alloc (.cells #[.map (some (w.heap.size + 1 + 1))] 64)).alloc (.cells #[.int .i64 0] 3)) Tryz.prog 9 fullR).alloc (.cells #[.bool false] 4)
  have a4 := Holds.new (((w.alloc (.cells #[.map (some (w.heap.size + 1 + 1))] 64)).alloc (.cells #[.int .i64 0] 3)).alloc (.map #[] 0)) #[.bool false] 4
  simp only [World.size_alloc] at a2 a3 a4
  refine ⟨⟨false, [], rfl, a4.below _ a4.lt hb1.out, a3.kept (row := none) (zce hb1.out _) (by simp), by simp, Nat.le_refl _⟩, a1.below _ a1.lt hb1.out, a2.below _ a2.lt hb1.out, HB1.out, by omega⟩⟩
 have hgiv := splitSeq_gives (w.heap.size + 1 + 1 + 1 + 1) s (by omega)
 have HG := Aside0.mk hG
 clear hG hb1 hsz1 hsz
 refine wpAt_range_p (α := ByteArray) Tryz.func23 rfl (enters_of Tryz.func136 (by kernel_rfl) rfl) hgiv ?_ ?_ ?_ ?_ (fun _ => rfl) (RI w) (fun _ _ _ => False) (RP w) ?_ ?_ ?_ ?_ ?_
  (fun x => { tmps := #[.string s, undef, .pointer (some ⟨w.heap.size, 0, none⟩), .pointer (some ⟨w.heap.size + 1, 0, none⟩), .pointer (some ⟨w.heap.size + 1 + 1 + 1, 0, none⟩), .string x, undef, undef, undef, undef, .func (.func 49) #[] #[.pointer (some ⟨w.heap.size, 0, none⟩)], .map (some (w.heap.size + 1 + 1)), .string s, .func (.func 136) #[] (seqLb (w.heap.size + 1 + 1 + 1 + 1)), .string x, undef, undef, undef, undef, undef,
     undef, undef, undef, undef, undef, undef, undef, undef, undef, undef, undef, undef, undef, undef, undef,
     undef, undef, undef, undef, undef, undef, undef, undef, undef, undef, undef, undef, undef, undef, undef, undef], defers := [] }) ?assign ?body ?done ?stop ?panic
 ·rintro A B ⟨v, rfl⟩ k o hk ho _
  exact (Below.heap_setCell A _ _ k (by have := HGz.out; simp; omega)).trans ho
 ·intro A B C h1 h2 k hk1 hk2
  exact (h2 k hk1 hk2).trans (h1 k hk1 hk2)
 ·intro W l o o' hl _ _ k hk1 hk2
  exact World.putObj_heap_other (by have := HGz.out; omega)
 ·intro W hb
  obtain ⟨x1, x2, x3⟩ := hbx.out
  exact ⟨x1.below _ x1.lt hb, x2.below _ x2.lt hb, x3.below _ x3.lt hb⟩
 ·rintro st A B ⟨v, rfl⟩ h
  exact h.row (zbd _ _ _ _) (by omega)
 ·exact fun _ _ _ _ _ h => h
 ·intro st W l o o' hl ho hc h
  exact h.row (k := l) ⟨rfl, rfl, rfl, by simp, fun i hi hne => World.putObj_heap_other (fun e => hne (by rw [e]))⟩ (by have := HGz.out; omega)
 ·exact fun _ _ _ _ _ _ _ _ _ h => h
 ·intro W hb
  obtain ⟨⟨bg, l, h1, h2, h3, h4, h5⟩, hm, ha, hbb, hs'⟩ := HI0.out
  exact ⟨⟨bg, l, h1, h2.below _ h2.lt hb, h3.kept (row := none) (zce hb _) (by simp), h4, h5⟩, hm.below _ hm.lt hb, ha.below _ ha.lt hb, hbb.trans (hb.mono hbb.size), Nat.le_trans hs' hb.size⟩
 case assign =>
  intro l x W K hK
  gi_wp2
  exact hK
 case body =>
  intro l pre x W hpre hI
  obtain ⟨⟨bg, ls, hfo, hgB, hmap, hf0, hll⟩, hm, hat, hbl, hbig⟩ := hI
  have hplen : pre.length ≤ 65537 := by
   have h1 := hpre.length_le
   have h2 := linesB_len s
   simp at h1; omega
  have hxs := linesB_size s x (hpre.subset (by simp))
  have a0 : W.cell? ⟨w.heap.size + 1, 0, none⟩ = some (.int .i64 pre.length) := hat.cell 0 _ rfl
  have a1 : W.frozen? ⟨w.heap.size + 1, 0, none⟩ = false := Lib.frozen_of_heap hat 0
  have hg1 := zbd W (w.heap.size + 1) 0 (.int .i64 ((pre.length : Int) + 1))
  have HAT1 : Aside0 (Holds (w.heap.size + 1) #[.int .i64 ((pre ++ [x]).length : Int)] 3 (W.setCell ⟨w.heap.size + 1, 0, none⟩ (.int .i64 ((pre.length : Int) + 1)))) := ⟨by
   have := zcf hat 0 (.int .i64 ((pre.length : Int) + 1))
   have e : (((pre ++ [x]).length : Nat) : Int) = (pre.length : Int) + 1 := by simp
   rw [e]; exact this⟩
  have HM1 := Aside0.mk (hm.row hg1 (by omega))
  have HGB1 := Aside0.mk (hgB.row hg1 (by omega))
  have HMP1 := Aside0.mk (hmap.kept hg1 (fun e => by injection e with e; omega))
  have HBL1 := Aside0.mk (zbe hbl (by omega) hbl.size hg1)
  have HK1 := Aside0.mk (K4.row (b := w.heap.size + 4) hg1 (by omega))
  have HBIG := Aside0.mk hbig
  have HFO := Aside0.mk hfo
  have HF0 := Aside0.mk hf0
  have HPR := Aside0.mk hpre
  clear hfo hgB hmap hf0 hm hat hbl hbig hg1 hpre
  gi_wp2_with fail
  generalize (W.setCell ⟨w.heap.size + 1, 0, none⟩ (.int .i64 ((pre.length : Int) + 1))) = W1 at HAT1 HM1 HGB1 HMP1 HBL1 HK1 ⊢
  have hcc := cut_calls x (by omega) W1
  have HSN := Aside0.mk (foldSt_snoc pre x)
  cases hcut : cutL x.data.toList with
  | none =>
   rw [hcut] at hcc
   have HCC := Aside0.mk hcc
   have HNO : Aside0 (zbh (pre ++ [x]) = none) := ⟨by rw [HSN.out, HFO.out]; simp only [Option.bind_some]; unfold stepL; rw [hcut]⟩
   clear a0 a1 hcc hcut
   refine ⟨trivial, ?_⟩
   refine (CallsIn.inRound l (callsIn_wide.2 HCC.out)).mono ?_
   rintro e w2 ⟨he, hb2⟩
   change e = _ at he
   subst he
   gi_wp2_with fail
   exact ⟨rfl, ((HK1.out.trans (K4.below hb2.out)).keeps (by have := HGz.out; omega)), rfl, ⟨pre, x, bg, ls, rfl, HFO.out, HNO.out⟩, HM1.out.below _ HM1.out.lt hb2.out, HAT1.out.below _ HAT1.out.lt hb2.out, HBL1.out.trans (hb2.out.mono HBL1.out.size)⟩
  | some ws =>
   rw [hcut] at hcc
   have HCC := Aside0.mk hcc
   have HSH := Aside0.mk (show Short ws from fun u hu => by have := cutL_short _ _ (Nat.le_refl _) ws hcut u hu; rw [zcu] at this; omega)
   have HCU := Aside0.mk hcut
   clear a0 a1 hcc hcut
   refine ⟨trivial, ?_⟩
   refine (CallsIn.inRound l (callsIn_wide.2 HCC.out)).mono ?_
   rintro e w2 ⟨⟨v, rfl, hR⟩, hb2⟩
   obtain ⟨A, c, rfl, hc, hC⟩ := Kd.R_reads hR
   have HC2 := Aside0.mk hC
   have HAT2 : Aside0 (Holds (w.heap.size + 1) #[.int .i64 ((pre ++ [x]).length : Int)] 3 w2) := ⟨HAT1.out.below _ HAT1.out.lt hb2.out⟩
   have HM2 : Aside0 (Holds w.heap.size #[.map (some (w.heap.size + 1 + 1))] 64 w2) := ⟨HM1.out.below _ HM1.out.lt hb2.out⟩
   have HGB2 : Aside0 (Holds (w.heap.size + 1 + 1 + 1) #[.bool bg] 4 w2) := ⟨HGB1.out.below _ HGB1.out.lt hb2.out⟩
   have HMP2 : Aside0 (w2.ownsMap Tryz.prog 9 fullR (w.heap.size + 1 + 1) ls.length (mapD ls)) := ⟨HMP1.out.kept (row := none) (zce hb2.out _) (by simp)⟩
   have HBL2 : Aside0 (Below w.heap.size w w2) := ⟨HBL1.out.trans (hb2.out.mono HBL1.out.size)⟩
   have HK2 := Aside0.mk (HK1.out.trans (K4.below (b := w.heap.size + 4) hb2.out))
   clear hR hC HAT1 HM1 HGB1 HMP1 HBL1 HK1 hb2 HCC
   obtain ⟨n, hn⟩ : ∃ n, ws.length = n := ⟨_, rfl⟩
   rw [hn] at hc HC2 ⊢
   have HN := Aside0.mk hn
   clear hn
   by_cases h0 : n = 0
   ·have d0 : ((n : Int) == 0) = true := beq_iff_eq.mpr (by omega)
    have HST : Aside0 (zbh (pre ++ [x]) = some (bg, ls)) := ⟨by
     rw [HSN.out, HFO.out]; simp only [Option.bind_some]; unfold stepL; rw [HCU.out]
     have : ws = [] := List.length_eq_zero_iff.mp (by rw [HN.out, h0])
     subst this; rfl⟩
    clear h0
    gi_wp2_with fail
    exact ⟨HK2.out.keeps (by have := HGz.out; omega), HK2.out.seq (by have := HBIG.out; omega), ⟨⟨bg, ls, HST.out, HGB2.out, HMP2.out, HF0.out, by simp; omega⟩, HM2.out, HAT2.out, HBL2.out, Nat.le_trans HBIG.out HK2.out.1⟩⟩
   ·have d0 : ((n : Int) == 0) = false := beq_eq_false_iff_ne.mpr (by omega)
    obtain ⟨u, t, hut⟩ : ∃ u t, ws = u :: t := by
     cases ws with
     | nil => have := HN.out; simp at this; omega
     | cons u t => exact ⟨u, t, rfl⟩
    have HUT := Aside0.mk hut
    have g0 : w2.cell? ⟨w.heap.size + 1 + 1 + 1, 0, none⟩ = some (.bool bg) := HGB2.out.cell 0 _ rfl
    clear h0 hut
    cases bg with
    | false =>
     have hw := words_eq A n c w2.heap.size ws ⟨heraldB, false⟩ ⟨treeB, false⟩ (w2.alloc (.cells #[.string heraldB, .bool false, .string treeB, .bool false] 122)) HN.out (Kd.C_alloc HC2.out _) hc (Holds.new _ _ _)
     have HSTP : Aside0 (zbh (pre ++ [x]) = if ws = [⟨heraldB, false⟩, ⟨treeB, false⟩] then some (true, ls) else none) := ⟨by
      rw [HSN.out, HFO.out]; simp only [Option.bind_some]; unfold stepL; rw [HCU.out, HUT.out]; rfl⟩
     have hbA := (Below.refl w2.heap.size w2).alloc (Nat.le_refl _) (.cells #[.string heraldB, .bool false, .string treeB, .bool false] 122)
     by_cases hq : ws = [⟨heraldB, false⟩, ⟨treeB, false⟩]
     ·rw [if_pos hq] at HSTP
      rw [decide_eq_true hq] at hw
      have HW := Aside0.mk hw
      clear hw hq
      gi_wp2_with fail
      refine ⟨trivial, ?_⟩
      refine (CallsIn.inRound l (callsIn_wide.2 HW.out)).mono ?_
      rintro e w3 ⟨rfl, hd⟩
      have hb3 : Below w2.heap.size w2 w3 := hbA.trans (hd.out.below.mono hbA.size)
      have HGB3 : Aside0 (Holds (w.heap.size + 1 + 1 + 1) #[.bool false] 4 w3) := ⟨HGB2.out.below _ HGB2.out.lt hb3⟩
      have HAT3 : Aside0 (Holds (w.heap.size + 1) #[.int .i64 ((pre ++ [x]).length : Int)] 3 w3) := ⟨HAT2.out.below _ HAT2.out.lt hb3⟩
      have HM3 : Aside0 (Holds w.heap.size #[.map (some (w.heap.size + 1 + 1))] 64 w3) := ⟨HM2.out.below _ HM2.out.lt hb3⟩
      have HMP3 : Aside0 (w3.ownsMap Tryz.prog 9 fullR (w.heap.size + 1 + 1) ls.length (mapD ls)) := ⟨HMP2.out.kept (row := none) (zce hb3 _) (by simp)⟩
      have HBL3 : Aside0 (Below w.heap.size w w3) := ⟨HBL2.out.trans (hb3.mono HBL2.out.size)⟩
      have HK3 := Aside0.mk (HK2.out.trans (K4.below (b := w.heap.size + 4) hb3))
      have g1 : w3.cell? ⟨w.heap.size + 1 + 1 + 1, 0, none⟩ = some (.bool false) := HGB3.out.cell 0 _ rfl
      have g2 : w3.frozen? ⟨w.heap.size + 1 + 1 + 1, 0, none⟩ = false := Lib.frozen_of_heap HGB3.out 0
      have hg := Aside0.mk (zbd w3 (w.heap.size + 1 + 1 + 1) 0 (.bool true))
      have HGB4 : Aside0 (Holds (w.heap.size + 1 + 1 + 1) #[.bool true] 4 (w3.setCell ⟨w.heap.size + 1 + 1 + 1, 0, none⟩ (.bool true))) := ⟨zcf HGB3.out 0 _⟩
      clear hd hb3 HGB2 HAT2 HM2 HMP2 HBL2 HK2 g0 hbA HW
      gi_wp2_with fail
      have HK4 := HK3.out.trans (K4.row (b := w.heap.size + 4) hg.out (by omega))
      exact ⟨HK4.keeps (by have := HGz.out; omega), HK4.seq (by have := HBIG.out; omega), ⟨⟨true, ls, HSTP.out, HGB4.out, HMP3.out.kept hg.out (fun e => by injection e with e; omega), HF0.out, by simp; omega⟩, HM3.out.row hg.out (by omega), HAT3.out.row hg.out (by omega), zbe HBL3.out (by omega) HBL3.out.size hg.out, Nat.le_trans HBIG.out HK4.1⟩⟩
     ·rw [if_neg hq] at HSTP
      rw [decide_eq_false hq] at hw
      have HW := Aside0.mk hw
      clear hw hq
      gi_wp2_with fail
      refine ⟨trivial, ?_⟩
      refine (CallsIn.inRound l (callsIn_wide.2 HW.out)).mono ?_
      rintro e w3 ⟨rfl, hd⟩
      have hb3 := Aside0.mk (show Below w2.heap.size w2 w3 from hbA.trans (hd.out.below.mono hbA.size))
      clear hd HW hbA
      gi_wp2_with fail
      exact ⟨rfl, ((HK2.out.trans (K4.below hb3.out)).keeps (by have := HGz.out; omega)), rfl, ⟨pre, x, _, ls, rfl, HFO.out, HSTP.out⟩, HM2.out.below _ HM2.out.lt hb3.out, HAT2.out.below _ HAT2.out.lt hb3.out, HBL2.out.trans (hb3.out.mono HBL2.out.size)⟩
    | true =>
     have hnd := node_calls A n c ws w2 HN.out HC2.out hc (HG.out.below HBL2.out) HSH.out
     have HSTP : Aside0 (zbh (pre ++ [x]) = match nodeL ws with
       | none => none
       | some n => if (zbg ls n.f0).isSome then none else some (true, ls ++ [n])) := ⟨by
      rw [HSN.out, HFO.out]; simp only [Option.bind_some]; unfold stepL; rw [HCU.out, HUT.out]; rfl⟩
     cases hnl : nodeL ws with
     | none =>
      rw [hnl] at HSTP hnd
      have HND := Aside0.mk hnd
      clear hnd hnl
      gi_wp2_with fail
      refine ⟨trivial, ?_⟩
      refine (CallsIn.inRound l (callsIn_wide.2 HND.out)).mono ?_
      rintro e w3 ⟨he, hb3⟩
      change e = _ at he
      subst he
      clear HND
      gi_wp2_with fail
      exact ⟨rfl, ((HK2.out.trans (K4.below hb3.out)).keeps (by have := HGz.out; omega)), rfl, ⟨pre, x, _, ls, rfl, HFO.out, HSTP.out⟩, HM2.out.below _ HM2.out.lt hb3.out, HAT2.out.below _ HAT2.out.lt hb3.out, HBL2.out.trans (hb3.out.mono HBL2.out.size)⟩
     | some nd =>
      rw [hnl] at HSTP hnd
      have HND := Aside0.mk hnd
      have hplc := nodeL_place hnl
      clear hnd hnl
      gi_wp2_with fail
      refine ⟨trivial, ?_⟩
      refine (CallsIn.inRound l (callsIn_wide.2 HND.out)).mono ?_
      rintro e w3 ⟨he, hb3⟩
      change e = _ at he
      subst he
      clear HND
      have HAT3 : Aside0 (Holds (w.heap.size + 1) #[.int .i64 ((pre ++ [x]).length : Int)] 3 w3) := ⟨HAT2.out.below _ HAT2.out.lt hb3.out⟩
      have HM3 : Aside0 (Holds w.heap.size #[.map (some (w.heap.size + 1 + 1))] 64 w3) := ⟨HM2.out.below _ HM2.out.lt hb3.out⟩
      have HGB3 : Aside0 (Holds (w.heap.size + 1 + 1 + 1) #[.bool true] 4 w3) := ⟨HGB2.out.below _ HGB2.out.lt hb3.out⟩
      have HMP3 : Aside0 (w3.ownsMap Tryz.prog 9 fullR (w.heap.size + 1 + 1) ls.length (mapD ls)) := ⟨HMP2.out.kept (row := none) (zce hb3.out _) (by simp)⟩
      have HBL3 : Aside0 (Below w.heap.size w w3) := ⟨HBL2.out.trans (hb3.out.mono HBL2.out.size)⟩
      have HK3 := Aside0.mk (HK2.out.trans (K4.below (b := w.heap.size + 4) hb3.out))
      clear hb3 HGB2 HAT2 HM2 HMP2 HBL2 HK2 g0 HC2 hc
      have m0 : ∀ o, (w3.alloc o).cell? ⟨w.heap.size, 0, none⟩ = some (.map (some (w.heap.size + 1 + 1))) := fun o => (HM3.out.alloc o).cell 0 _ rfl
      unfold fullV zao
      have HMP4 := Aside0.mk (HMP3.out.alloc (.cells (zao nd) 40))
      unfold zao at HMP4
      have m1 : ∀ o o', ((w3.alloc o).alloc o').cell? ⟨w.heap.size, 0, none⟩ = some (.map (some (w.heap.size + 1 + 1))) := fun o o' => ((HM3.out.alloc o).alloc o').cell 0 _ rfl
      have HND := Aside0.mk (Holds.new w3 (zao nd) 40)
      unfold zao at HND
      have q0 : ∀ o, ((w3.alloc (.cells #[.string nd.f0, .string nd.f1, .int .i64 nd.f2, .int .i64 nd.f3, .int .i64 nd.f4, .int .i64 nd.f5, .int .i64 nd.f6] 40)).alloc o).cell? ⟨w3.heap.size, 0, none⟩ = some (.string nd.f0) := fun o => (HND.out.alloc o).cell 0 _ rfl
      have q1 : ∀ o, ((w3.alloc (.cells #[.string nd.f0, .string nd.f1, .int .i64 nd.f2, .int .i64 nd.f3, .int .i64 nd.f4, .int .i64 nd.f5, .int .i64 nd.f6] 40)).alloc o).cell? ⟨w3.heap.size, 1, none⟩ = some (.string nd.f1) := fun o => (HND.out.alloc o).cell 1 _ rfl
      have q2 : ∀ o, ((w3.alloc (.cells #[.string nd.f0, .string nd.f1, .int .i64 nd.f2, .int .i64 nd.f3, .int .i64 nd.f4, .int .i64 nd.f5, .int .i64 nd.f6] 40)).alloc o).cell? ⟨w3.heap.size, 2, none⟩ = some (.int .i64 nd.f2) := fun o => (HND.out.alloc o).cell 2 _ rfl
      have q3 : ∀ o, ((w3.alloc (.cells #[.string nd.f0, .string nd.f1, .int .i64 nd.f2, .int .i64 nd.f3, .int .i64 nd.f4, .int .i64 nd.f5, .int .i64 nd.f6] 40)).alloc o).cell? ⟨w3.heap.size, 3, none⟩ = some (.int .i64 nd.f3) := fun o => (HND.out.alloc o).cell 3 _ rfl
      have q4 : ∀ o, ((w3.alloc (.cells #[.string nd.f0, .string nd.f1, .int .i64 nd.f2, .int .i64 nd.f3, .int .i64 nd.f4, .int .i64 nd.f5, .int .i64 nd.f6] 40)).alloc o).cell? ⟨w3.heap.size, 4, none⟩ = some (.int .i64 nd.f4) := fun o => (HND.out.alloc o).cell 4 _ rfl
      have q5 : ∀ o, ((w3.alloc (.cells #[.string nd.f0, .string nd.f1, .int .i64 nd.f2, .int .i64 nd.f3, .int .i64 nd.f4, .int .i64 nd.f5, .int .i64 nd.f6] 40)).alloc o).cell? ⟨w3.heap.size, 5, none⟩ = some (.int .i64 nd.f5) := fun o => (HND.out.alloc o).cell 5 _ rfl
      have q6 : ∀ o, ((w3.alloc (.cells #[.string nd.f0, .string nd.f1, .int .i64 nd.f2, .int .i64 nd.f3, .int .i64 nd.f4, .int .i64 nd.f5, .int .i64 nd.f6] 40)).alloc o).cell? ⟨w3.heap.size, 6, none⟩ = some (.int .i64 nd.f6) := fun o => (HND.out.alloc o).cell 6 _ rfl
      have HMP5 : Aside0 (∀ o, ((w3.alloc (.cells #[.string nd.f0, .string nd.f1, .int .i64 nd.f2, .int .i64 nd.f3, .int .i64 nd.f4, .int .i64 nd.f5, .int .i64 nd.f6] 40)).alloc o).ownsMap Tryz.prog 9 fullR (w.heap.size + 1 + 1) ls.length (mapD ls)) := ⟨fun o => HMP4.out.alloc o⟩
      have HBA : Aside0 (∀ o o', Below w3.heap.size w3 ((w3.alloc o).alloc o')) := ⟨fun o o' => ((Below.refl _ _).alloc (Nat.le_refl _) o).alloc (by simp) o'⟩
      gi_wp2_with (first
       | (gi_at_lookup; refine wpListIn_lookup_full _ rfl _ _ rfl (w.heap.size + 1 + 1) _ ls rfl HMP4.out nd.f0 rfl (by unfold maxLen; omega) ?_; intro p f hp hf)
       | (gi_at_mapUpdate; refine wpListIn_mapUpdate_own _ rfl _ _ _ 64 rfl 9 40 keyed Tryz.underlying64 fullR (w.heap.size + 1 + 1) _ (mapD ls) rfl (HMP5.out _) (by unfold maxLen; omega) _ _ (keyL nd.f0) rfl rfl (WideMaps.keyOf_string_mk Tryz.underlying9 (by unfold maxLen; omega)) (.held nd) [] (fullR_mk nd) ?_; intro w6 hown6 hgrow6)
       | fail)
      ·have hft : f = true := by assumption
       have hNO : zbh (pre ++ [x]) = none := by rw [HSTP.out, if_pos (by rw [← hf.out]; exact hft)]
       exact ⟨rfl, ((HK3.out.trans (K4.below (HBA.out _ _))).keeps (by have := HGz.out; omega)), rfl, ⟨pre, x, _, ls, rfl, HFO.out, hNO⟩, (HM3.out.alloc _).alloc _, (HAT3.out.alloc _).alloc _, HBL3.out.trans ((HBA.out _ _).mono HBL3.out.size)⟩
      ·have hft : f = false := by assumption
       have hYES : zbh (pre ++ [x]) = some (true, ls ++ [nd]) := by rw [HSTP.out, if_neg (by rw [← hf.out, hft]; simp)]
       have hK6 := (HK3.out.trans (K4.below (HBA.out _ _))).trans (K4.row (b := w.heap.size + 4) hgrow6 (by omega))
       refine ⟨hK6.keeps (by have := HGz.out; omega), hK6.seq (by have := HBIG.out; omega), ⟨⟨true, ls ++ [nd], hYES, ((HGB3.out.alloc _).alloc _).row hgrow6 (by omega), ?_, ?_, by simp; omega⟩, ((HM3.out.alloc _).alloc _).row hgrow6 (by omega), ((HAT3.out.alloc _).alloc _).row hgrow6 (by omega), ?_, Nat.le_trans HBIG.out hK6.1⟩⟩
       ·rw [mapD_snoc]; simpa using hown6
       ·intro m hm
        rcases List.mem_append.mp hm with h | h
        ·exact HF0.out m h
        ·simp at h; rw [h]; exact hplc
       ·have hb := HBL3.out.trans ((HBA.out (.cells #[.string nd.f0, .string nd.f1, .int .i64 nd.f2, .int .i64 nd.f3, .int .i64 nd.f4, .int .i64 nd.f5, .int .i64 nd.f6] 40) (.cells #[.string p.f0, .string p.f1, .int .i64 p.f2, .int .i64 p.f3, .int .i64 p.f4, .int .i64 p.f5, .int .i64 p.f6] 40)).mono HBL3.out.size)
        exact zbe hb (by omega) hb.size hgrow6
 case stop => intro D c pre W _ _ h; exact h.elim
 case done =>
  intro D W hD hI hK
  obtain ⟨⟨bg, ls, hfo, hgB, hmap, hf0, hll⟩, hm, hat, hbl, hbig⟩ := hI
  have HK := Aside0.mk hK
  have HM := Aside0.mk hm
  have HA := Aside0.mk hat
  have m0 : W.cell? ⟨w.heap.size, 0, none⟩ = some (.map (some (w.heap.size + 1 + 1))) := hm.cell 0 _ rfl
  have m1 : W.frozen? ⟨w.heap.size, 0, none⟩ = false := Lib.frozen_of_heap hm 0
  have n0 : W.cell? ⟨w.heap.size + 1, 0, none⟩ = some (.int .i64 (zcg s).length) := hat.cell 0 _ rfl
  have n1 : W.frozen? ⟨w.heap.size + 1, 0, none⟩ = false := Lib.frozen_of_heap hat 0
  clear hK hm hat
  refine zbc ?_
  go_wp2
  have hg1 := zbd W w.heap.size 0 (.map (some (w.heap.size + 1 + 1)))
  have hg2 := zbd (W.setCell ⟨w.heap.size, 0, none⟩ (.map (some (w.heap.size + 1 + 1)))) (w.heap.size + 1) 0 (.int .i64 0)
  have hz := HGz.out
  have hM2 : Holds w.heap.size #[.map (some (w.heap.size + 1 + 1))] 64 ((W.setCell ⟨w.heap.size, 0, none⟩ (.map (some (w.heap.size + 1 + 1)))).setCell ⟨w.heap.size + 1, 0, none⟩ (.int .i64 0)) := Holds.row (zcf HM.out 0 _) hg2 (by omega)
  have hA2 : Holds (w.heap.size + 1) #[.int .i64 0] 3 ((W.setCell ⟨w.heap.size, 0, none⟩ (.map (some (w.heap.size + 1 + 1)))).setCell ⟨w.heap.size + 1, 0, none⟩ (.int .i64 0)) := zcf (HA.out.row hg1 (by omega)) 0 _
  have hmp2 := (hmap.kept hg1 (fun e => by injection e with e; omega)).kept hg2 (fun e => by injection e with e; omega)
  have hb2 : Below w.heap.size w ((W.setCell ⟨w.heap.size, 0, none⟩ (.map (some (w.heap.size + 1 + 1)))).setCell ⟨w.heap.size + 1, 0, none⟩ (.int .i64 0)) := zbe (zbe hbl (by omega) hbl.size hg1) (by omega) (zbe hbl (by omega) hbl.size hg1).size hg2
  have hk2 : ((W.setCell ⟨w.heap.size, 0, none⟩ (.map (some (w.heap.size + 1 + 1)))).setCell ⟨w.heap.size + 1, 0, none⟩ (.int .i64 0)).heap[D]? = some (.deferred (some [])) :=
   (Below.heap_setCell _ _ _ D (by simp; omega)).trans ((Below.heap_setCell _ _ _ D (by simp; omega)).trans HK.out)
  generalize ((W.setCell ⟨w.heap.size, 0, none⟩ (.map (some (w.heap.size + 1 + 1)))).setCell ⟨w.heap.size + 1, 0, none⟩ (.int .i64 0)) = W2 at hM2 hA2 hmp2 hb2 hk2 ⊢
  have hgD := put_row W2 D (.deferred none)
  have eg := enters_of Tryz.func49 (by kernel_rfl) rfl
  refine ⟨by simp, .inl ⟨D, W2.putObj D (.deferred none), rfl, run_takeDeferred hk2, ?_⟩⟩
  refine ⟨by simp, .inr ⟨fun _ => by omega, .func 49, #[.pointer (some ⟨w.heap.size, 0, none⟩)], 49, #[.pointer (some ⟨w.heap.size, 0, none⟩)], rfl, by simp [invoke, go_sem, eg], fun _ _ => trivial, ?_⟩⟩
  refine (read_idle _ _).mono ?_
  rintro e u' w5 ⟨rfl, rfl, rfl⟩
  refine ⟨_, read_results w _ _ (.map (some (w.heap.size + 1 + 1))) 0 rfl rfl ((hM2.row hgD (by omega)).cell 0 _ rfl) ⟨_, rfl⟩ ((hA2.row hgD (by omega)).cell 0 _ rfl), .inl ⟨bg, ls, hfo, rfl, hmp2.kept hgD (fun e => by injection e with e; omega), hf0, Nat.le_trans hll (linesB_len s)⟩, ⟨zbe hb2 (by omega) hb2.size hgD⟩⟩
 case panic =>
  intro D ch pre W hD hpre hP hK
  obtain ⟨rfl, ⟨p, x, bg, ls, rfl, h1, h2⟩, hm, hat, hbl⟩ := hP
  have hz := HGz.out
  have hgD := put_row W D (.deferred none)
  have eg := enters_of Tryz.func49 (by kernel_rfl) rfl
  have hM2 := hm.row hgD (by omega)
  have hA2 := hat.row hgD (by omega)
  have hb2 := zbe hbl (by omega) hbl.size hgD
  refine ⟨by simp, .inl ⟨D, W.putObj D (.deferred none), rfl, run_takeDeferred hK, ?_⟩⟩
  generalize W.putObj D (.deferred none) = W2 at hM2 hA2 hb2 ⊢
  refine ⟨by simp, .inr ⟨fun _ => by omega, .func 49, #[.pointer (some ⟨w.heap.size, 0, none⟩)], 49, #[.pointer (some ⟨w.heap.size, 0, none⟩)], rfl, by simp [invoke, go_sem, eg], fun _ _ => trivial, ?_⟩⟩
  refine (read_catch w.heap.size _ W2 (hM2.cell 0 _ rfl) (Lib.frozen_of_heap hM2 0)).mono ?_
  rintro e u' w5 ⟨rfl, hu, hg5, hc5⟩
  show LeavesInM _ _ _ _ _ _ _ (settle u') w5
  rw [hu]
  refine ⟨_, read_results w _ _ (.map none) _ rfl rfl hc5.out ⟨_, rfl⟩ ((hA2.row hg5.out (by omega)).cell 0 _ rfl), .inr ⟨p, x, bg, ls, hpre, h1, h2, rfl⟩, ⟨zbe hb2 (Nat.le_refl _) hb2.size hg5.out⟩⟩
end Go.Proofs.YteamhfmpogbilaaGreatDoor.X
