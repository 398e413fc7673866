/- Walk over a disk of less than twenty bytes: nothing is handed on. wholes, Recover there. -/
import Derived.Test.YteamhfmpogbilaaGreatDoorJnl
set_option linter.unusedVariables false
set_option linter.unusedSimpArgs false
namespace Go.Proofs.YteamhfmpogbilaaGreatDoor.X
open Go.RowKit Go.Shelf Go.Proofs.YteamhfmpogbilaaGreatDoor Go.Proofs.YteamhfmpogbilaaGreatDoorW.PrintWords Go.Proofs.YteamhfmpogbilaaGreatDoorW.PrintLast
def Tiny (v : Value) : Prop := v = .slice none 0 0 ∨ ∃ b, v = .slice (some ⟨b, 0, none⟩) 1 1
set_option maxHeartbeats 2000000 in
set_option maxRecDepth 100000 in
theorem walk_calls (A : Option Addr) (n c : Nat) (w : World) :
  Calls Tryz.prog 65 #[.slice A n c] w fun e w' => e = .returned (.func (.func 115) #[] #[.pointer (some ⟨w.heap.size, 0, none⟩)]) ∧ Aside0 (Holds w.heap.size #[.slice A n c] 85 w') ∧ Aside0 (Below w.heap.size w w') ∧ Aside0 (w'.heap.size = w.heap.size + 1) := by
 have hmf : ∀ (fn : Fn) (first cap : Array Value) (w : World), (Instr.makeFunc fn first cap).run Tryz.prog w = .ok (.func fn first cap) w := fun _ _ _ _ => rfl
 go_enter Tryz.func65, Tryz.ntmps65
 go_wp2
 go_ret
 exact ⟨rfl, ⟨Holds.new w _ _⟩, ⟨(Below.refl _ _).alloc (Nat.le_refl _) _⟩, ⟨by simp⟩⟩
set_option maxHeartbeats 4000000 in
set_option maxRecDepth 100000 in
theorem walked_tiny (v y : Value) (hv : Tiny v) (w : World) :
  Calls Tryz.prog 116 #[v, y] w fun e w' => e = .returned (.tuple #[]) ∧ Aside0 (Below w.heap.size w w') := by
 rcases hv with rfl | ⟨b, rfl⟩
 ·go_enter Tryz.func116, Tryz.ntmps116
  go_wp2
  go_loopw [5, 4] (fun i a wr => i = .int .i64 1 ∧ a = .int .i64 0 ∧ wr = w) (fun _ _ _ => 0)
  case atStart => exact ⟨rfl, rfl, rfl⟩
  case round =>
   obtain ⟨rfl, rfl, rfl⟩ := hrel
   go_wp2_with fail
   refine (jread_short _ _ _ (by omega) 1 _).mono ?_
   rintro e w1 ⟨rfl, hb⟩
   go_wp2_with fail
   refine ⟨rfl, .tuple #[], by simp [results, Tryz.results116], ?_⟩
   exact ⟨rfl, ⟨hb.out.alloc hb.out.size _⟩⟩
 ·go_enter Tryz.func116, Tryz.ntmps116
  go_wp2
  go_loopw [5, 4] (fun i a wr => i = .int .i64 1 ∧ a = .int .i64 0 ∧ wr = w) (fun _ _ _ => 0)
  case atStart => exact ⟨rfl, rfl, rfl⟩
  case round =>
   obtain ⟨rfl, rfl, rfl⟩ := hrel
   go_wp2_with fail
   refine (jread_short _ _ _ (by omega) 1 _).mono ?_
   rintro e w1 ⟨rfl, hb⟩
   go_wp2_with fail
   refine ⟨rfl, .tuple #[], by simp [results, Tryz.results116], ?_⟩
   exact ⟨rfl, ⟨hb.out.alloc hb.out.size _⟩⟩
set_option maxHeartbeats 2000000 in
set_option maxRecDepth 100000 in
theorem walk1_tiny (v y : Value) (b : Nat) (hv : Tiny v) (w : World) (hb : Holds b #[v] 85 w) (hy : ∃ f p q, y = .func f p q) :
  Calls Tryz.prog 115 #[y, .pointer (some ⟨b, 0, none⟩)] w fun e w' => (∃ v, e = .returned v) ∧ Aside0 (Below w.heap.size w w') := by
 have hmf : ∀ (fn : Fn) (first cap : Array Value) (w : World), (Instr.makeFunc fn first cap).run Tryz.prog w = .ok (.func fn first cap) w := fun _ _ _ _ => rfl
 obtain ⟨f, p, q, rfl⟩ := hy
 have hW := walked_tiny v
 have c0 : ∀ o, (w.alloc o).cell? ⟨b, 0, none⟩ = some v := fun o => (hb.alloc o).cell 0 v rfl
 rcases hv with rfl | ⟨b1, rfl⟩
 ·go_enter Tryz.func115, Tryz.ntmps115
  go_wp2_with fail
  refine (hW _ (.inl rfl) _).mono ?_
  rintro e w1 ⟨rfl, hb1⟩
  go_wp2_with fail
  refine ⟨rfl, .tuple #[], by simp [results, Tryz.results115], ?_⟩
  exact ⟨⟨_, rfl⟩, ⟨((Below.refl _ _).alloc (Nat.le_refl _) _).trans (hb1.out.mono (by simp))⟩⟩
 ·go_enter Tryz.func115, Tryz.ntmps115
  go_wp2_with fail
  refine (hW _ (.inr ⟨_, rfl⟩) _).mono ?_
  rintro e w1 ⟨rfl, hb1⟩
  go_wp2_with fail
  refine ⟨rfl, .tuple #[], by simp [results, Tryz.results115], ?_⟩
  exact ⟨⟨_, rfl⟩, ⟨((Below.refl _ _).alloc (Nat.le_refl _) _).trans (hb1.out.mono (by simp))⟩⟩
theorem wpAt_range_none {g : Operand} {ps : Array Tmp} {assign body : Code} {Q : Exit → Act → World → Prop} {a : Act} {w : World}
  {fn : FuncId} {fnc : Func} (hfnc : Tryz.prog.funcs[fn]? = some fnc) {gf : Nat} {lb : Array Value} (hg : a.eval g = .func (.func gf) #[] lb) (eg : ∀ args w, (callFunc gf args).run Tryz.prog w = .ok (.enter gf args) w)
  (hcall : ∀ (l : Nat) (W : World), Below w.heap.size w W → Calls Tryz.prog gf (#[.func (.yield l) #[] #[]] ++ lb) W fun e w' => (∃ v, e = .returned v) ∧ Aside0 (Below W.heap.size W w'))
  (hdone : ∀ (D : Nat) (W : World), w.heap.size ≤ D → Below w.heap.size w W → W.heap[D]? = some (.deferred (some [])) → Q .normal { a with defers := { target := .collected D, args := #[] } :: a.defers } W) :
  wpAt fn Tryz.prog (Code.rangeFunc g ps assign body) Q a w := by
 refine wpAt_range_p (α := Empty) (xs := []) (encs := fun x => x.elim) (Ab := fun A B => Below A.heap.size A B) (Kp := fun _ _ => True) (ok := Below w.heap.size w) hfnc hg eg ?_ ?_ ?_ ?_ (fun _ h => h) (fun x => x.elim)
  (fun _ W => Below w.heap.size w W) (fun _ _ _ => False) (fun _ _ _ => False) ?_ ?_ ?_ ?_ (fun _ h => h) (fun x => x.elim) ?_ ?_ ?_ ?_ ?_
 ·intro l J Jx Jp W hok hJ hJx hY h0
  refine (callsIn_wide.2 (hcall l W hok)).mono ?_
  rintro e w' ⟨⟨v, rfl⟩, hb⟩
  exact .inl ⟨v, rfl, .inl (hJ _ _ _ hb.out h0)⟩
 ·intro A B h k o hk ho _
  exact (h.block k (Array.getElem?_eq_some_iff.mp ho).1).trans ho
 ·exact fun _ _ => trivial
 ·exact fun _ _ _ _ _ _ _ => trivial
 ·exact fun _ A B h hA => hA.trans (h.mono hA.size)
 ·exact fun _ _ _ _ _ h => h
 ·intro s W l o o' hl ho hc h
  exact zbe h hl h.size (put_row W l o')
 ·exact fun _ _ _ _ _ _ _ _ _ h => h
 ·exact fun _ x => x.elim
 ·exact fun _ _ x => x.elim
 ·exact fun D W hD h hk => hdone D W hD h hk
 ·exact fun _ _ _ _ _ _ h => h.elim
 ·exact fun _ _ _ _ _ _ h => h.elim
set_option maxHeartbeats 2000000 in
set_option maxRecDepth 100000 in
theorem wholes_tiny (A : Option Addr) (n c : Nat) (hv : Tiny (.slice A n c)) (w : World) :
  Calls Tryz.prog 74 #[.slice A n c] w fun e w' => e = .returned (.int .i64 0) ∧ Aside0 (Below w.heap.size w w') := by
 have hmf : ∀ (fn : Fn) (first cap : Array Value) (w : World), (Instr.makeFunc fn first cap).run Tryz.prog w = .ok (.func fn first cap) w := fun _ _ _ _ => rfl
 refine calls_of_wpAt Tryz.func74 rfl ?_
 simp only [Tryz.ntmps74, List.size_toArray, List.length_cons, List.length_nil, Nat.reduceAdd, Nat.reduceSub, Array.replicate_succ, Array.replicate_zero, List.push_toArray, List.append_toArray, List.nil_append, List.cons_append]
 have eg := enters_of Tryz.func115 (by kernel_rfl) rfl
 refine zbn (zbc ?_)
 go_wp2
 refine zbn (zbc ?_)
 go_wp2
 refine zbn (zbn (zbc ?_))
 go_wp2_with fail
 refine (walk_calls A n c _).mono ?_
 rintro e w1 ⟨rfl, hbx, hb1, hsz1⟩
 go_wp2_with fail
 refine wpAt_block ?_
 have hsz : w1.heap.size = w.heap.size + 2 := by have := hsz1.out; simpa using this
 have hn := ((Holds.new w #[.int .i64 0] 3).below _ (Holds.new w #[.int .i64 0] 3).lt hb1.out)
 simp only [World.size_alloc] at hbx
 refine wpAt_range_none Tryz.func74 rfl eg ?_ ?_
 ·intro l W hb
  have := walk1_tiny (.slice A n c) (.func (.yield l) #[] #[]) _ hv W (hbx.out.below _ hbx.out.lt hb) ⟨_, _, _, rfl⟩
  exact this
 ·intro D W hD hb hk
  have c0 : W.cell? ⟨w.heap.size, 0, none⟩ = some (.int .i64 0) := (hn.below _ hn.lt hb).cell 0 _ rfl
  have HB := Aside0.mk hb
  have HK := Aside0.mk hk
  clear hb hk
  refine zbc ?_
  go_wp2
  have hb2 : Below w.heap.size w W := ((Below.refl w.heap.size w).alloc (Nat.le_refl _) _).trans ((hb1.out.mono (by simp)).trans (HB.out.mono (by omega)))
  refine ⟨by simp, .inl ⟨D, W.putObj D (.deferred none), rfl, run_takeDeferred HK.out, ?_⟩⟩
  refine ⟨_, by simp [results, Tryz.results74], rfl, ⟨zbe hb2 (by omega) hb2.size (put_row W D _)⟩⟩
theorem saved_results (W : World) (tmps : Array Value) (b : Nat) (h2 : tmps.getD 2 undef = .pointer (some ⟨b, 0, none⟩)) (h3 : tmps.getD 3 undef = .int .i64 0) (h4 : tmps.getD 4 undef = .int .i64 0)
  (H4 : Holds b (#[Value.int IntKind.i64 0, Value.int IntKind.i64 0, Value.int IntKind.i64 0, Value.int IntKind.i64 0, Value.int IntKind.i64 0, Value.int IntKind.i64 0, Value.string (ByteArray.mk #[]), Value.slice none 0 0, Value.int IntKind.i64 0] : Array Value) 161 W) :
  (results Tryz.f73 tmps).run Tryz.prog W = .ok (.tuple #[.agg (#[Value.int IntKind.i64 0, Value.int IntKind.i64 0, Value.int IntKind.i64 0, Value.int IntKind.i64 0, Value.int IntKind.i64 0, Value.int IntKind.i64 0, Value.string (ByteArray.mk #[]), Value.slice none 0 0, Value.int IntKind.i64 0] : Array Value), .int .i64 0, .int .i64 0]) W := by
 have h2' : tmps[2]?.getD undef = .pointer (some ⟨b, 0, none⟩) := by simpa using h2
 have h3' : tmps[3]?.getD undef = .int .i64 0 := by simpa using h3
 have h4' : tmps[4]?.getD undef = .int .i64 0 := by simpa using h4
 have c0 := H4.cell 0 _ rfl
 have c1 := H4.cell 1 _ rfl
 have c2 := H4.cell 2 _ rfl
 have c3 := H4.cell 3 _ rfl
 have c4 := H4.cell 4 _ rfl
 have c5 := H4.cell 5 _ rfl
 have c6 := H4.cell 6 _ rfl
 have c7 := H4.cell 7 _ rfl
 have c8 := H4.cell 8 _ rfl
 simp [results, Tryz.results73, go_sem, h2', h3', h4', c0, c1, c2, c3, c4, c5, c6, c7, c8]
def RS (w : World) (D : Nat) (w' : World) : Prop := Holds w.heap.size (#[Value.int IntKind.i64 0, Value.int IntKind.i64 0, Value.int IntKind.i64 0, Value.int IntKind.i64 0, Value.int IntKind.i64 0, Value.int IntKind.i64 0, Value.string (ByteArray.mk #[]), Value.slice none 0 0, Value.int IntKind.i64 0] : Array Value) 161 w' ∧ Holds (w.heap.size + 1) (#[Value.int IntKind.i64 0, Value.int IntKind.i64 0, Value.int IntKind.i64 0, Value.int IntKind.i64 0, Value.int IntKind.i64 0, Value.int IntKind.i64 0, Value.string (ByteArray.mk #[]), Value.slice none 0 0, Value.int IntKind.i64 0] : Array Value) 161 w' ∧ Holds (w.heap.size + 1 + 1) #[.int .i64 0] 3 w' ∧ Holds (w.heap.size + 1 + 1 + 1) #[.int .i64 0] 3 w' ∧
 Below w.heap.size w w' ∧ w'.heap[D]? = some (.deferred (some [])) ∧ w.heap.size + 5 ≤ D
theorem RS.drew {w w' : World} {D : Nat} (h : RS w D w') : RS w D w'.drew := ⟨h.1, h.2.1, h.2.2.1, h.2.2.2.1, h.2.2.2.2.1.drew, h.2.2.2.2.2.1, h.2.2.2.2.2.2⟩
theorem RS.store {w W0 : World} {D : Nat} (h : RS w D W0) : RS w D (((((((((W0.setCell ⟨w.heap.size, 0, none⟩ (.int .i64 0)).setCell ⟨w.heap.size, 1, none⟩ (.int .i64 0)).setCell ⟨w.heap.size, 2, none⟩ (.int .i64 0)).setCell ⟨w.heap.size, 3, none⟩ (.int .i64 0)).setCell ⟨w.heap.size, 4, none⟩ (.int .i64 0)).setCell ⟨w.heap.size, 5, none⟩ (.int .i64 0)).setCell ⟨w.heap.size, 6, none⟩ (.string ⟨#[]⟩)).setCell ⟨w.heap.size, 7, none⟩ (.slice none 0 0)).setCell ⟨w.heap.size, 8, none⟩ (.int .i64 0)) := by
 obtain ⟨h1, h2, h3, h4, h5, h6, h7⟩ := h
 refine ⟨?_, ?_, ?_, ?_, ?_, ?_, h7⟩
 ·iterate 9 refine Holds.set0 ?_ _ (by rfl)
  exact h1
 ·iterate 9 refine Holds.off ?_ _ (by omega)
  exact h2
 ·iterate 9 refine Holds.off ?_ _ (by omega)
  exact h3
 ·iterate 9 refine Holds.off ?_ _ (by omega)
  exact h4
 ·iterate 9 refine Below.setCell ?_ (by simp) _
  exact h5
 ·iterate 9 refine (Below.heap_setCell _ _ _ D (by simp; omega)).trans ?_
  exact h6
set_option maxHeartbeats 4000000 in
set_option maxRecDepth 100000 in
theorem recover_tiny (A : Option Addr) (n c : Nat) (hv : Tiny (.slice A n c)) (w : World) :
  Calls Tryz.prog 73 #[.slice A n c] w fun e w' => e = .returned (.tuple #[.agg (#[Value.int IntKind.i64 0, Value.int IntKind.i64 0, Value.int IntKind.i64 0, Value.int IntKind.i64 0, Value.int IntKind.i64 0, Value.int IntKind.i64 0, Value.string (ByteArray.mk #[]), Value.slice none 0 0, Value.int IntKind.i64 0] : Array Value), .int .i64 0, .int .i64 0]) ∧ Aside0 (Below w.heap.size w w') := by
 have hmf : ∀ (fn : Fn) (first cap : Array Value) (w : World), (Instr.makeFunc fn first cap).run Tryz.prog w = .ok (.func fn first cap) w := fun _ _ _ _ => rfl
 refine calls_of_wpAt Tryz.func73 rfl ?_
 simp only [Tryz.ntmps73, List.size_toArray, List.length_cons, List.length_nil, Nat.reduceAdd, Nat.reduceSub, Array.replicate_succ, Array.replicate_zero, List.push_toArray, List.append_toArray, List.nil_append, List.cons_append]
 have eg := enters_of Tryz.func115 (by kernel_rfl) rfl
 refine zbn (zbc ?_)
 go_wp2
 refine zbn (zbc ?_)
 go_wp2
 refine zbn (zbc ?_)
 go_wp2
 refine zbn (zbn (zbc ?_))
 go_wp2_with fail
 refine (walk_calls A n c _).mono ?_
 rintro e w1 ⟨rfl, hbx, hb1, hsz1⟩
 go_wp2_with fail
 refine wpAt_block ?_
 have hA0 := (((Holds.new w (#[Value.int IntKind.i64 0, Value.int IntKind.i64 0, Value.int IntKind.i64 0, Value.int IntKind.i64 0, Value.int IntKind.i64 0, Value.int IntKind.i64 0, Value.string (ByteArray.mk #[]), Value.slice none 0 0, Value.int IntKind.i64 0] : Array Value) 161).alloc (.cells (#[Value.int IntKind.i64 0, Value.int IntKind.i64 0, Value.int IntKind.i64 0, Value.int IntKind.i64 0, Value.int IntKind.i64 0, Value.int IntKind.i64 0, Value.string (ByteArray.mk #[]), Value.slice none 0 0, Value.int IntKind.i64 0] : Array Value) 161)).alloc (.cells #[.int .i64 0] 3)).alloc (.cells #[.int .i64 0] 3)
 have hA1 := ((Holds.new (w.alloc (.cells (#[Value.int IntKind.i64 0, Value.int IntKind.i64 0, Value.int IntKind.i64 0, Value.int IntKind.i64 0, Value.int IntKind.i64 0, Value.int IntKind.i64 0, Value.string (ByteArray.mk #[]), Value.slice none 0 0, Value.int IntKind.i64 0] : Array Value) 161)) (#[Value.int IntKind.i64 0, Value.int IntKind.i64 0, Value.int IntKind.i64 0, Value.int IntKind.i64 0, Value.int IntKind.i64 0, Value.int IntKind.i64 0, Value.string (ByteArray.mk #[]), Value.slice none 0 0, Value.int IntKind.i64 0] : Array Value) 161).alloc (.cells #[.int .i64 0] 3)).alloc (.cells #[.int .i64 0] 3)
 have hA2 := (Holds.new ((w.alloc (.cells (#[Value.int IntKind.i64 0, Value.int IntKind.i64 0, Value.int IntKind.i64 0, Value.int IntKind.i64 0, Value.int IntKind.i64 0, Value.int IntKind.i64 0, Value.string (ByteArray.mk #[]), Value.slice none 0 0, Value.int IntKind.i64 0] : Array Value) 161)).alloc (.cells (#[Value.int IntKind.i64 0, Value.int IntKind.i64 0, Value.int IntKind.i64 0, Value.int IntKind.i64 0, Value.int IntKind.i64 0, Value.int IntKind.i64 0, Value.string (ByteArray.mk #[]), Value.slice none 0 0, Value.int IntKind.i64 0] : Array Value) 161)) #[.int .i64 0] 3).alloc (.cells #[.int .i64 0] 3)
 have hA3 := Holds.new (((w.alloc (.cells (#[Value.int IntKind.i64 0, Value.int IntKind.i64 0, Value.int IntKind.i64 0, Value.int IntKind.i64 0, Value.int IntKind.i64 0, Value.int IntKind.i64 0, Value.string (ByteArray.mk #[]), Value.slice none 0 0, Value.int IntKind.i64 0] : Array Value) 161)).alloc (.cells (#[Value.int IntKind.i64 0, Value.int IntKind.i64 0, Value.int IntKind.i64 0, Value.int IntKind.i64 0, Value.int IntKind.i64 0, Value.int IntKind.i64 0, Value.string (ByteArray.mk #[]), Value.slice none 0 0, Value.int IntKind.i64 0] : Array Value) 161)).alloc (.cells #[.int .i64 0] 3)) #[.int .i64 0] 3
 have hBB : Below w.heap.size w ((((w.alloc (.cells (#[Value.int IntKind.i64 0, Value.int IntKind.i64 0, Value.int IntKind.i64 0, Value.int IntKind.i64 0, Value.int IntKind.i64 0, Value.int IntKind.i64 0, Value.string (ByteArray.mk #[]), Value.slice none 0 0, Value.int IntKind.i64 0] : Array Value) 161)).alloc (.cells (#[Value.int IntKind.i64 0, Value.int IntKind.i64 0, Value.int IntKind.i64 0, Value.int IntKind.i64 0, Value.int IntKind.i64 0, Value.int IntKind.i64 0, Value.string (ByteArray.mk #[]), Value.slice none 0 0, Value.int IntKind.i64 0] : Array Value) 161)).alloc (.cells #[.int .i64 0] 3)).alloc (.cells #[.int .i64 0] 3)) :=
  ((((Below.refl w.heap.size w).alloc (Nat.le_refl _) _).alloc (by simp) _).alloc (by simp; omega) _).alloc (by simp; omega) _
 have hS0 : ((((w.alloc (.cells (#[Value.int IntKind.i64 0, Value.int IntKind.i64 0, Value.int IntKind.i64 0, Value.int IntKind.i64 0, Value.int IntKind.i64 0, Value.int IntKind.i64 0, Value.string (ByteArray.mk #[]), Value.slice none 0 0, Value.int IntKind.i64 0] : Array Value) 161)).alloc (.cells (#[Value.int IntKind.i64 0, Value.int IntKind.i64 0, Value.int IntKind.i64 0, Value.int IntKind.i64 0, Value.int IntKind.i64 0, Value.int IntKind.i64 0, Value.string (ByteArray.mk #[]), Value.slice none 0 0, Value.int IntKind.i64 0] : Array Value) 161)).alloc (.cells #[.int .i64 0] 3)).alloc (.cells #[.int .i64 0] 3)).heap.size = w.heap.size + 4 := by simp
 simp only [World.size_alloc] at hA1 hA2 hA3
 generalize ((((w.alloc (.cells (#[Value.int IntKind.i64 0, Value.int IntKind.i64 0, Value.int IntKind.i64 0, Value.int IntKind.i64 0, Value.int IntKind.i64 0, Value.int IntKind.i64 0, Value.string (ByteArray.mk #[]), Value.slice none 0 0, Value.int IntKind.i64 0] : Array Value) 161)).alloc (.cells (#[Value.int IntKind.i64 0, Value.int IntKind.i64 0, Value.int IntKind.i64 0, Value.int IntKind.i64 0, Value.int IntKind.i64 0, Value.int IntKind.i64 0, Value.string (ByteArray.mk #[]), Value.slice none 0 0, Value.int IntKind.i64 0] : Array Value) 161)).alloc (.cells #[.int .i64 0] 3)).alloc (.cells #[.int .i64 0] 3)) = W0 at *
 have hX := hbx.out
 rw [hS0] at hX
 have hB1 : Below w.heap.size w w1 := hBB.trans (hb1.out.mono (by omega))
 have hs1 : w1.heap.size = w.heap.size + 5 := by have := hsz1.out; omega
 have h0 := hA0.below _ hA0.lt hb1.out
 have h1 := hA1.below _ hA1.lt hb1.out
 have h2 := hA2.below _ hA2.lt hb1.out
 have h3 := hA3.below _ hA3.lt hb1.out
 clear hA0 hA1 hA2 hA3 hbx hb1 hsz1
 try rw [hS0]
 refine wpAt_range_none (lb := #[.pointer (some ⟨w.heap.size + 4, 0, none⟩)]) Tryz.func73 ?_ eg ?_ ?_
 ·first | rfl | simp [go_sem]
 ·intro l W hb
  exact walk1_tiny (.slice A n c) (.func (.yield l) #[] #[]) _ hv W (hX.below _ hX.lt hb) ⟨_, _, _, rfl⟩
 ·intro D W hD hb hk
  have HL0 : RS w D W := ⟨h0.below _ h0.lt hb, h1.below _ h1.lt hb, h2.below _ h2.lt hb, h3.below _ h3.lt hb, hB1.trans (hb.mono (by omega)), hk, by omega⟩
  clear hb hk h0 h1 h2 h3 hX hB1 hBB hS0 hD hs1 hv eg
  have k0 : ∀ w', RS w D w' → w'.cell? ⟨w.heap.size + 1, 0, none⟩ = some (.int .i64 0) := fun w' h => h.2.1.cell 0 _ rfl
  have k1 : ∀ w', RS w D w' → w'.cell? ⟨w.heap.size + 1, 1, none⟩ = some (.int .i64 0) := fun w' h => h.2.1.cell 1 _ rfl
  have k2 : ∀ w', RS w D w' → w'.cell? ⟨w.heap.size + 1, 2, none⟩ = some (.int .i64 0) := fun w' h => h.2.1.cell 2 _ rfl
  have k3 : ∀ w', RS w D w' → w'.cell? ⟨w.heap.size + 1, 3, none⟩ = some (.int .i64 0) := fun w' h => h.2.1.cell 3 _ rfl
  have k4 : ∀ w', RS w D w' → w'.cell? ⟨w.heap.size + 1, 4, none⟩ = some (.int .i64 0) := fun w' h => h.2.1.cell 4 _ rfl
  have k5 : ∀ w', RS w D w' → w'.cell? ⟨w.heap.size + 1, 5, none⟩ = some (.int .i64 0) := fun w' h => h.2.1.cell 5 _ rfl
  have k6 : ∀ w', RS w D w' → w'.cell? ⟨w.heap.size + 1, 6, none⟩ = some (.string ⟨#[]⟩) := fun w' h => h.2.1.cell 6 _ rfl
  have k7 : ∀ w', RS w D w' → w'.cell? ⟨w.heap.size + 1, 7, none⟩ = some (.slice none 0 0) := fun w' h => h.2.1.cell 7 _ rfl
  have k8 : ∀ w', RS w D w' → w'.cell? ⟨w.heap.size + 1, 8, none⟩ = some (.int .i64 0) := fun w' h => h.2.1.cell 8 _ rfl
  have k9 : ∀ w', RS w D w' → w'.cell? ⟨w.heap.size + 1 + 1, 0, none⟩ = some (.int .i64 0) := fun w' h => h.2.2.1.cell 0 _ rfl
  have kA : ∀ w', RS w D w' → w'.cell? ⟨w.heap.size + 1 + 1 + 1, 0, none⟩ = some (.int .i64 0) := fun w' h => h.2.2.2.1.cell 0 _ rfl
  have t0 : ∀ w', RS w D w' → w'.cell? ⟨w.heap.size, 0, none⟩ = some (.int .i64 0) := fun w' h => h.1.cell 0 _ rfl
  have t1 : ∀ w', RS w D w' → w'.cell? ⟨w.heap.size, 1, none⟩ = some (.int .i64 0) := fun w' h => h.1.cell 1 _ rfl
  have t2 : ∀ w', RS w D w' → w'.cell? ⟨w.heap.size, 2, none⟩ = some (.int .i64 0) := fun w' h => h.1.cell 2 _ rfl
  have t3 : ∀ w', RS w D w' → w'.cell? ⟨w.heap.size, 3, none⟩ = some (.int .i64 0) := fun w' h => h.1.cell 3 _ rfl
  have t4 : ∀ w', RS w D w' → w'.cell? ⟨w.heap.size, 4, none⟩ = some (.int .i64 0) := fun w' h => h.1.cell 4 _ rfl
  have t5 : ∀ w', RS w D w' → w'.cell? ⟨w.heap.size, 5, none⟩ = some (.int .i64 0) := fun w' h => h.1.cell 5 _ rfl
  have t6 : ∀ w', RS w D w' → w'.cell? ⟨w.heap.size, 6, none⟩ = some (.string ⟨#[]⟩) := fun w' h => h.1.cell 6 _ rfl
  have t7 : ∀ w', RS w D w' → w'.cell? ⟨w.heap.size, 7, none⟩ = some (.slice none 0 0) := fun w' h => h.1.cell 7 _ rfl
  have t8 : ∀ w', RS w D w' → w'.cell? ⟨w.heap.size, 8, none⟩ = some (.int .i64 0) := fun w' h => h.1.cell 8 _ rfl
  have kF : ∀ w' (i : Nat), RS w D w' → w'.frozen? ⟨w.heap.size, i, none⟩ = false := fun w' i h => Lib.frozen_of_heap h.1 i
  refine zbc ?_
  go_wp2
  go_region_held3 (fun w' => RS w D w')
   (first
    | with_reducible exact RS.drew (by assumption)
    | with_reducible exact RS.store (by assumption)
    | with_reducible exact RS.drew (RS.store (by assumption))
    | with_reducible exact RS.store (RS.drew (by assumption)))
   (fail)
  go_wp2
  rename_i HH
  clear k0 k1 k2 k3 k4 k5 k6 k7 k8 k9 kA t0 t1 t2 t3 t4 t5 t6 t7 t8 kF HL0
  generalize (World.setCell _ _ _).drew = W5 at HH ⊢
  have hq : w.heap.size + 5 ≤ D := HH.2.2.2.2.2.2
  have hg := put_row W5 D (.deferred none)
  refine ⟨by simp, .inl ⟨D, W5.putObj D (.deferred none), rfl, run_takeDeferred HH.2.2.2.2.2.1, ?_⟩⟩
  refine ⟨_, saved_results _ _ w.heap.size rfl rfl rfl (HH.1.row hg (by omega)), rfl, ⟨zbe HH.2.2.2.2.1 (by omega) HH.2.2.2.2.1.size hg⟩⟩
end Go.Proofs.YteamhfmpogbilaaGreatDoor.X
