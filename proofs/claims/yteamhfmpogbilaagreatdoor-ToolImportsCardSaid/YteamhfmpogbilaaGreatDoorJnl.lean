/- journal.read, walked, Walk where there are less than twenty bytes: no record. -/
import Derived.Test.YteamhfmpogbilaaGreatDoorImport
import Derived.Recover
set_option linter.unusedVariables false
set_option linter.unusedSimpArgs false
namespace Go.Proofs.YteamhfmpogbilaaGreatDoor.X
open Go.RowKit Go.Shelf Go.Proofs.YteamhfmpogbilaaGreatDoor Go.Proofs.YteamhfmpogbilaaGreatDoorW.PrintWords Go.Proofs.YteamhfmpogbilaaGreatDoorW.PrintLast
set_option maxHeartbeats 1000000 in
set_option maxRecDepth 100000 in
theorem jread_idle (a b c : Nat) (w : World) :
  CallsD Tryz.prog 184 #[.pointer (some ⟨a, 0, none⟩), .pointer (some ⟨b, 0, none⟩), .pointer (some ⟨c, 0, none⟩)] .returning w fun e u' w' => e = .returned (.tuple #[]) ∧ u' = .returning ∧ w' = w := by
 refine callsD_of_wpS Tryz.func184 rfl fun c₀ cs hu => ?_
 apply wpS_seq
 apply wpS_region
 simp [wpOpsS, go_sem, recoverD, hu, Tryz.ntmps184, Exit.thenS]
 refine wpS_of_wp ?_
 go_wp2
 refine ⟨rfl, .returning, ?_, .tuple #[], by simp [results, Tryz.results184], rfl, rfl, rfl⟩
 cases c₀; simp_all
theorem Holds.set0 {b t i : Nat} {xs : Array Value} {w : World} (h : Holds b xs t w) (v : Value) (hx : xs[i]? = some v) : Holds b xs t (w.setCell ⟨b, i, none⟩ v) := by
 have h2 := zcf h i v
 have e : xs.setIfInBounds i v = xs := by
  apply Array.ext (by simp)
  intro k h1 h2
  rw [Array.getElem_setIfInBounds h2]
  by_cases e : i = k
  ·subst e
   rw [if_pos rfl]
   rw [Array.getElem?_eq_getElem h2] at hx
   exact (Option.some.inj hx).symm
  ·rw [if_neg e]
 show (w.setCell ⟨b, i, none⟩ v).heap[b]? = _
 rw [← e]; exact h2
theorem Holds.off {b t i m : Nat} {xs : Array Value} {w : World} (h : Holds b xs t w) (v : Value) (hne : b ≠ m) : Holds b xs t (w.setCell ⟨m, i, none⟩ v) := h.row (zbd _ _ _ _) hne
theorem Holds.drawn {b t : Nat} {xs : Array Value} {w : World} (h : Holds b xs t w) (n : Nat) : Holds b xs t (w.drewN n) := h
set_option maxHeartbeats 2000000 in
set_option maxRecDepth 100000 in
theorem jread_results (W : World) (tmps : Array Value) (b : Nat) (h4 : tmps.getD 4 undef = .pointer (some ⟨b, 0, none⟩)) (h5 : tmps.getD 5 undef = .pointer (some ⟨b + 1, 0, none⟩)) (h6 : tmps.getD 6 undef = .pointer (some ⟨b + 1 + 1, 0, none⟩))
  (H4 : Holds b (#[Value.int IntKind.i64 0, Value.int IntKind.i64 0, Value.int IntKind.i64 0, Value.int IntKind.i64 0, Value.int IntKind.i64 0, Value.int IntKind.i64 0, Value.slice none 0 0, Value.int IntKind.i64 0, Value.int IntKind.i64 0, Value.int IntKind.i64 0, Value.int IntKind.i64 0, Value.int IntKind.i64 0, Value.string (ByteArray.mk #[])] : Array Value) 148 W) (H5 : Holds (b + 1) #[.int .i64 0] 3 W) (H6 : Holds (b + 1 + 1) #[.bool false] 4 W) :
  (results Tryz.f157 tmps).run Tryz.prog W = .ok (.tuple #[.agg (#[Value.int IntKind.i64 0, Value.int IntKind.i64 0, Value.int IntKind.i64 0, Value.int IntKind.i64 0, Value.int IntKind.i64 0, Value.int IntKind.i64 0, Value.slice none 0 0, Value.int IntKind.i64 0, Value.int IntKind.i64 0, Value.int IntKind.i64 0, Value.int IntKind.i64 0, Value.int IntKind.i64 0, Value.string (ByteArray.mk #[])] : Array Value), .int .i64 0, .bool false]) W := by
 have h4' : tmps[4]?.getD undef = .pointer (some ⟨b, 0, none⟩) := by simpa using h4
 have h5' : tmps[5]?.getD undef = .pointer (some ⟨b + 1, 0, none⟩) := by simpa using h5
 have h6' : tmps[6]?.getD undef = .pointer (some ⟨b + 1 + 1, 0, none⟩) := by simpa using h6
 have c0 := H4.cell 0 _ rfl
 have c1 := H4.cell 1 _ rfl
 have c2 := H4.cell 2 _ rfl
 have c3 := H4.cell 3 _ rfl
 have c4 := H4.cell 4 _ rfl
 have c5 := H4.cell 5 _ rfl
 have c6 := H4.cell 6 _ rfl
 have c7 := H4.cell 7 _ rfl
 have c8 := H4.cell 8 _ rfl
 have c9 := H4.cell 9 _ rfl
 have c10 := H4.cell 10 _ rfl
 have c11 := H4.cell 11 _ rfl
 have c12 := H4.cell 12 _ rfl
 have d0 := H5.cell 0 _ rfl
 have e0 := H6.cell 0 _ rfl
 simp [results, Tryz.results157, go_sem, h4', h5', h6', c0, c1, c2, c3, c4, c5, c6, c7, c8, c9, c10, c11, c12, d0, e0]
set_option maxHeartbeats 1000000 in
theorem zero_sets (b : Nat) (w W0 : World) (H4 : Holds b (#[Value.int IntKind.i64 0, Value.int IntKind.i64 0, Value.int IntKind.i64 0, Value.int IntKind.i64 0, Value.int IntKind.i64 0, Value.int IntKind.i64 0, Value.slice none 0 0, Value.int IntKind.i64 0, Value.int IntKind.i64 0, Value.int IntKind.i64 0, Value.int IntKind.i64 0, Value.int IntKind.i64 0, Value.string (ByteArray.mk #[])] : Array Value) 148 W0) (H5 : Holds (b + 1) #[.int .i64 0] 3 W0) (H6 : Holds (b + 1 + 1) #[.bool false] 4 W0) (HB : Below b w W0) :
  let W1 := (((((((((((((((W0.setCell ⟨b, 0, none⟩ (.int .i64 0)).setCell ⟨b, 1, none⟩ (.int .i64 0)).setCell ⟨b, 2, none⟩ (.int .i64 0)).setCell ⟨b, 3, none⟩ (.int .i64 0)).setCell ⟨b, 4, none⟩ (.int .i64 0)).setCell ⟨b, 5, none⟩ (.int .i64 0)).setCell ⟨b, 6, none⟩ (.slice none 0 0)).setCell ⟨b, 7, none⟩ (.int .i64 0)).setCell ⟨b, 8, none⟩ (.int .i64 0)).setCell ⟨b, 9, none⟩ (.int .i64 0)).setCell ⟨b, 10, none⟩ (.int .i64 0)).setCell ⟨b, 11, none⟩ (.int .i64 0)).setCell ⟨b, 12, none⟩ (.string ⟨#[]⟩)).setCell ⟨b + 1, 0, none⟩ (.int .i64 0)).setCell ⟨b + 1 + 1, 0, none⟩ (.bool false))
  Holds b (#[Value.int IntKind.i64 0, Value.int IntKind.i64 0, Value.int IntKind.i64 0, Value.int IntKind.i64 0, Value.int IntKind.i64 0, Value.int IntKind.i64 0, Value.slice none 0 0, Value.int IntKind.i64 0, Value.int IntKind.i64 0, Value.int IntKind.i64 0, Value.int IntKind.i64 0, Value.int IntKind.i64 0, Value.string (ByteArray.mk #[])] : Array Value) 148 W1 ∧ Holds (b + 1) #[.int .i64 0] 3 W1 ∧ Holds (b + 1 + 1) #[.bool false] 4 W1 ∧ Below b w W1 := by
 refine ⟨?_, ?_, ?_, ?_⟩
 ·refine Holds.off (Holds.off ?_ _ (by omega)) _ (by omega)
  iterate 13 refine Holds.set0 ?_ _ (by rfl)
  exact H4
 ·refine Holds.off ?_ _ (by omega)
  refine Holds.set0 ?_ _ (by rfl)
  iterate 13 refine Holds.off ?_ _ (by omega)
  exact H5
 ·refine Holds.set0 (Holds.off ?_ _ (by omega)) _ (by rfl)
  iterate 13 refine Holds.off ?_ _ (by omega)
  exact H6
 ·iterate 15 refine Below.setCell ?_ (by simp <;> omega) _
  exact HB
set_option maxHeartbeats 1000000 in
set_option maxRecDepth 100000 in
theorem jread_short (A : Option Addr) (n c : Nat) (hn : n < 20) (seq : Int) (w : World) :
  Calls Tryz.prog 157 #[.slice A n c, .int .i64 seq] w fun e w' => e = .returned (.tuple #[.agg (#[Value.int IntKind.i64 0, Value.int IntKind.i64 0, Value.int IntKind.i64 0, Value.int IntKind.i64 0, Value.int IntKind.i64 0, Value.int IntKind.i64 0, Value.slice none 0 0, Value.int IntKind.i64 0, Value.int IntKind.i64 0, Value.int IntKind.i64 0, Value.int IntKind.i64 0, Value.int IntKind.i64 0, Value.string (ByteArray.mk #[])] : Array Value), .int .i64 0, .bool false]) ∧ Aside0 (Below w.heap.size w w') := by
 have hmf : ∀ (fn : Fn) (first cap : Array Value) (w : World), (Instr.makeFunc fn first cap).run Tryz.prog w = .ok (.func fn first cap) w := fun _ _ _ _ => rfl
 have d0 : decide ((n : Int) < 20) = true := decide_eq_true (by omega)
 go_enter_defers Tryz.func157, Tryz.ntmps157
 go_wp2
 go_quiet (fail)
 go_wp2
 refine leaves_cons (f := 184) (args := #[.pointer (some ⟨w.heap.size, 0, none⟩), .pointer (some ⟨w.heap.size + 1, 0, none⟩), .pointer (some ⟨w.heap.size + 1 + 1, 0, none⟩)]) (by simp) (by simp [go_sem]) ?_
 refine (jread_idle _ _ _ _).mono ?_
 rintro e u w' ⟨rfl, rfl, rfl⟩
 have H4 := ((((Holds.new w (#[Value.int IntKind.i64 0, Value.int IntKind.i64 0, Value.int IntKind.i64 0, Value.int IntKind.i64 0, Value.int IntKind.i64 0, Value.int IntKind.i64 0, Value.slice none 0 0, Value.int IntKind.i64 0, Value.int IntKind.i64 0, Value.int IntKind.i64 0, Value.int IntKind.i64 0, Value.int IntKind.i64 0, Value.string (ByteArray.mk #[])] : Array Value) 148).alloc (.cells #[.int .i64 0] 3)).alloc (.cells #[.bool false] 4)).drawn nq)
 have H5 := ((Holds.new (w.alloc (.cells (#[Value.int IntKind.i64 0, Value.int IntKind.i64 0, Value.int IntKind.i64 0, Value.int IntKind.i64 0, Value.int IntKind.i64 0, Value.int IntKind.i64 0, Value.slice none 0 0, Value.int IntKind.i64 0, Value.int IntKind.i64 0, Value.int IntKind.i64 0, Value.int IntKind.i64 0, Value.int IntKind.i64 0, Value.string (ByteArray.mk #[])] : Array Value) 148)) #[.int .i64 0] 3).alloc (.cells #[.bool false] 4)).drawn nq
 have H6 := (Holds.new ((w.alloc (.cells (#[Value.int IntKind.i64 0, Value.int IntKind.i64 0, Value.int IntKind.i64 0, Value.int IntKind.i64 0, Value.int IntKind.i64 0, Value.int IntKind.i64 0, Value.slice none 0 0, Value.int IntKind.i64 0, Value.int IntKind.i64 0, Value.int IntKind.i64 0, Value.int IntKind.i64 0, Value.int IntKind.i64 0, Value.string (ByteArray.mk #[])] : Array Value) 148)).alloc (.cells #[.int .i64 0] 3)) #[.bool false] 4).drawn nq
 have HB : Below w.heap.size w ((((w.alloc (.cells (#[Value.int IntKind.i64 0, Value.int IntKind.i64 0, Value.int IntKind.i64 0, Value.int IntKind.i64 0, Value.int IntKind.i64 0, Value.int IntKind.i64 0, Value.slice none 0 0, Value.int IntKind.i64 0, Value.int IntKind.i64 0, Value.int IntKind.i64 0, Value.int IntKind.i64 0, Value.int IntKind.i64 0, Value.string (ByteArray.mk #[])] : Array Value) 148)).alloc (.cells #[.int .i64 0] 3)).alloc (.cells #[.bool false] 4)).drewN nq) :=
  below_drewN ((((Below.refl w.heap.size w).alloc (Nat.le_refl _) _).alloc (by simp) _).alloc (by simp; omega) _) nq
 simp only [World.size_alloc] at H5 H6
 have HZ := zero_sets w.heap.size w _ H4 H5 H6 HB
 show Leaves _ _ _ _ [] FrameMode.returning _
 generalize ((((w.alloc (.cells (#[Value.int IntKind.i64 0, Value.int IntKind.i64 0, Value.int IntKind.i64 0, Value.int IntKind.i64 0, Value.int IntKind.i64 0, Value.int IntKind.i64 0, Value.slice none 0 0, Value.int IntKind.i64 0, Value.int IntKind.i64 0, Value.int IntKind.i64 0, Value.int IntKind.i64 0, Value.int IntKind.i64 0, Value.string (ByteArray.mk #[])] : Array Value) 148)).alloc (.cells #[.int .i64 0] 3)).alloc (.cells #[.bool false] 4)).drewN nq) = W0 at HZ ⊢
 dsimp only at HZ
 obtain ⟨z1, z2, z3, z4⟩ := HZ
 clear H4 H5 H6 HB hmf d0
 generalize (World.setCell _ _ (.bool false)) = W1 at z1 z2 z3 z4 ⊢
 refine ⟨_, jread_results _ _ w.heap.size ?_ ?_ ?_ ?_ ?_ ?_, ?_, ⟨?_⟩⟩
 ·simp
 ·simp
 ·simp
 ·exact z1
 ·exact z2
 ·exact z3
 ·rfl
 ·exact z4
end Go.Proofs.YteamhfmpogbilaaGreatDoor.X
