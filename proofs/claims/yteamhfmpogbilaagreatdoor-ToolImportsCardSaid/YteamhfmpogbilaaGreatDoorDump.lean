/- tool.said, tool.Dump of a nil disk. -/
import Derived.Test.YteamhfmpogbilaaGreatDoorCheck
import Derived.Laws.EntriesVeiled
set_option linter.unusedVariables false
set_option linter.unusedSimpArgs false
namespace Go.Proofs.YteamhfmpogbilaaGreatDoor.X
open Go.RowKit Go.Shelf Go.Proofs.YteamhfmpogbilaaGreatDoor Go.Proofs.YteamhfmpogbilaaGreatDoorW.PrintWords Go.Proofs.YteamhfmpogbilaaGreatDoorW.PrintLast
set_option maxHeartbeats 2000000 in
set_option maxRecDepth 100000 in
theorem said_calls (w : World) :
  Calls Tryz.prog 64 #[] w fun e w' => e = .returned (.agg (#[Value.nilFunc, Value.func (Fn.func 108) #[] #[], Value.func (Fn.func 110) #[] #[], Value.func (Fn.func 111) #[] #[], Value.func (Fn.func 112) #[] #[], Value.func (Fn.func 113) #[] #[], Value.func (Fn.func 114) #[] #[]] : Array Value)) ∧ Aside0 (Below w.heap.size w w') := by
 have hmf : ∀ (fn : Fn) (first cap : Array Value) (w : World), (Instr.makeFunc fn first cap).run Tryz.prog w = .ok (.func fn first cap) w := fun _ _ _ _ => rfl
 have hs0 : ∀ (w : World) (a : Addr), (store a .nilFunc).run Tryz.prog w = stored Tryz.prog w a .nilFunc .plain := fun w a => run_store _ w a _ _ rfl
 have hs1 : ∀ (w : World) (a : Addr) (f : Fn) (p q : Array Value), (store a (.func f p q)).run Tryz.prog w = stored Tryz.prog w a (.func f p q) .plain := fun w a f p q => run_store _ w a _ _ rfl
 go_enter Tryz.func64, Tryz.ntmps64
 go_wp2_with fail
 have H := Holds.new w (#[Value.nilFunc, Value.func (Fn.func 108) #[] #[], Value.func (Fn.func 110) #[] #[], Value.func (Fn.func 111) #[] #[], Value.func (Fn.func 112) #[] #[], Value.func (Fn.func 113) #[] #[], Value.func (Fn.func 114) #[] #[]] : Array Value) 138
 have c0 := H.cell 0 _ rfl
 have c1 := H.cell 1 _ rfl
 have c2 := H.cell 2 _ rfl
 have c3 := H.cell 3 _ rfl
 have c4 := H.cell 4 _ rfl
 have c5 := H.cell 5 _ rfl
 have c6 := H.cell 6 _ rfl
 refine ⟨rfl, .agg (#[Value.nilFunc, Value.func (Fn.func 108) #[] #[], Value.func (Fn.func 110) #[] #[], Value.func (Fn.func 111) #[] #[], Value.func (Fn.func 112) #[] #[], Value.func (Fn.func 113) #[] #[], Value.func (Fn.func 114) #[] #[]] : Array Value), ?_, rfl, ⟨(Below.refl _ _).alloc (Nat.le_refl _) _⟩⟩
 simp [results, Tryz.results64, go_sem, c0, c1, c2, c3, c4, c5, c6]
theorem bld_string_k (B b : Nat) (l : List UInt8) (s : ByteArray) (w : World) (h : Bld B b l w) (hlen : l.length + s.size ≤ 140737488355328) (hBw : B ≤ w.heap.size) :
  Calls Tryz.prog 67 #[.pointer (some ⟨b, 0, none⟩), .string s] w fun e w' => e = .returned (.tuple #[.int .i64 s.size, .nilIface]) ∧ Aside0 (Bld B b (l ++ s.data.toList) w') ∧ Aside0 (Below B w w') ∧ Aside0 (Lib.OthersKept 5 (some b) w w') := by
 refine (writeString_k B b _ s w h (by rw [Lib.byteCells_length]; exact hlen) hBw).mono ?_
 rintro e w' ⟨rfl, hb, hw, hk⟩
 refine ⟨rfl, ⟨.inr ?_⟩, ⟨hw⟩, ⟨hk⟩⟩
 rw [Lib.byteCells_append, ← Lib.strCells_eq]; exact hb
theorem bld_end_k (B b : Nat) (l : List UInt8) (w : World) (h : Bld B b l w) (hBw : B ≤ w.heap.size) :
  Calls Tryz.prog 72 #[.pointer (some ⟨b, 0, none⟩)] w fun e w' => e = .returned (.string ⟨l.toArray⟩) ∧ Aside0 (Below B w w') ∧ Aside0 (Lib.OthersKept 5 (some b) w w') := by
 refine (Tryz.Builder_String_any_k B b l w h hBw).mono ?_
 rintro e w' ⟨rfl, _, hw, hk⟩
 exact ⟨rfl, ⟨hw⟩, ⟨hk⟩⟩
def wholeB : ByteArray := ⟨#[119, 104, 111, 108, 101, 10]⟩
set_option maxHeartbeats 4000000 in
set_option maxRecDepth 100000 in
theorem dump_nil (w : World) :
  Calls Tryz.prog 31 #[.slice none 0 0] w fun e w' => e = .returned (.string wholeB) ∧ Aside0 (Below w.heap.size w w') := by
 have hmf : ∀ (fn : Fn) (first cap : Array Value) (w : World), (Instr.makeFunc fn first cap).run Tryz.prog w = .ok (.func fn first cap) w := fun _ _ _ _ => rfl
 refine calls_of_wpAt Tryz.func31 rfl ?_
 simp only [Tryz.ntmps31, List.size_toArray, List.length_cons, List.length_nil, Nat.reduceAdd, Nat.reduceSub, Array.replicate_succ, Array.replicate_zero, List.push_toArray, List.append_toArray, List.nil_append, List.cons_append]
 have eg := enters_of Tryz.func115 (by kernel_rfl) rfl
 refine zbn (zbc ?_)
 go_wp2
 refine zbn (zbc ?_)
 go_wp2_with fail
 refine (check_nil _).mono ?_
 unfold finding
 rintro e w1 ⟨rfl, hb1⟩
 go_wp2_with fail
 refine zbn (zbc ?_)
 go_wp2
 have HF := Aside0.mk (((Holds.new w1 #[.int .i64 0, .int .i64 0, .int .i64 0, .int .i64 0] 83).alloc (.cells #[.pointer none, .slice none 0 0] 134)).alloc (.cells #[.int .i64 0] 3))
 have HU := Aside0.mk ((bld_new (w1.alloc (.cells #[.int .i64 0, .int .i64 0, .int .i64 0, .int .i64 0] 83))).alloc (.cells #[.int .i64 0] 3))
 have hz1 := hb1.out.size
 have HB := Aside0.mk ((((hb1.out).alloc hz1 (.cells #[.int .i64 0, .int .i64 0, .int .i64 0, .int .i64 0] 83)).alloc (by simp; omega) (.cells #[.pointer none, .slice none 0 0] 134)).alloc (by simp; omega) (.cells #[.int .i64 0] 3))
 have HZ : Aside0 (w.heap.size ≤ w1.heap.size) := ⟨hz1⟩
 simp only [World.size_alloc] at HU
 clear hb1 hz1
 refine zbn (zbc ?_)
 go_wp2
 refine zbn (zbc ?_)
 go_wp2_with fail
 refine (said_calls _).mono ?_
 have hzs : (((w1.alloc (.cells #[.int .i64 0, .int .i64 0, .int .i64 0, .int .i64 0] 83)).alloc (.cells #[.pointer none, .slice none 0 0] 134)).alloc (.cells #[.int .i64 0] 3)).heap.size = w1.heap.size + 3 := by simp
 generalize (((w1.alloc (.cells #[.int .i64 0, .int .i64 0, .int .i64 0, .int .i64 0] 83)).alloc (.cells #[.pointer none, .slice none 0 0] 134)).alloc (.cells #[.int .i64 0] 3)) = w2 at HF HU HB hzs ⊢
 rintro e w3 ⟨rfl, hb3⟩
 have HF3 := Aside0.mk ((HF.out.below _ HF.out.lt hb3.out).alloc (.cells (#[Value.nilFunc, Value.func (Fn.func 108) #[] #[], Value.func (Fn.func 110) #[] #[], Value.func (Fn.func 111) #[] #[], Value.func (Fn.func 112) #[] #[], Value.func (Fn.func 113) #[] #[], Value.func (Fn.func 114) #[] #[]] : Array Value) 138))
 have HU3 := Aside0.mk ((HU.out.below hb3.out).alloc (.cells (#[Value.nilFunc, Value.func (Fn.func 108) #[] #[], Value.func (Fn.func 110) #[] #[], Value.func (Fn.func 111) #[] #[], Value.func (Fn.func 112) #[] #[], Value.func (Fn.func 113) #[] #[], Value.func (Fn.func 114) #[] #[]] : Array Value) 138))
 have HB3 := Aside0.mk ((HB.out.trans (hb3.out.mono HB.out.size)).alloc (HB.out.trans (hb3.out.mono HB.out.size)).size (.cells (#[Value.nilFunc, Value.func (Fn.func 108) #[] #[], Value.func (Fn.func 110) #[] #[], Value.func (Fn.func 111) #[] #[], Value.func (Fn.func 112) #[] #[], Value.func (Fn.func 113) #[] #[], Value.func (Fn.func 114) #[] #[]] : Array Value) 138))
 have HZ3 : Aside0 (w1.heap.size + 3 ≤ w3.heap.size) := ⟨by have := hb3.out.size; omega⟩
 clear HF HU HB hb3 hzs
 go_wp2_with fail
 refine zbn (zbn (zbc ?_))
 go_wp2_with fail
 refine (walk_calls none 0 0 _).mono ?_
 have hzs : (w3.alloc (.cells (#[Value.nilFunc, Value.func (Fn.func 108) #[] #[], Value.func (Fn.func 110) #[] #[], Value.func (Fn.func 111) #[] #[], Value.func (Fn.func 112) #[] #[], Value.func (Fn.func 113) #[] #[], Value.func (Fn.func 114) #[] #[]] : Array Value) 138)).heap.size = w3.heap.size + 1 := by simp
 generalize (w3.alloc (.cells (#[Value.nilFunc, Value.func (Fn.func 108) #[] #[], Value.func (Fn.func 110) #[] #[], Value.func (Fn.func 111) #[] #[], Value.func (Fn.func 112) #[] #[], Value.func (Fn.func 113) #[] #[], Value.func (Fn.func 114) #[] #[]] : Array Value) 138)) = w4 at HF3 HU3 HB3 hzs ⊢
 rintro e w5 ⟨rfl, hbx, hb5, hsz5⟩
 have HF5 := Aside0.mk (HF3.out.below _ HF3.out.lt hb5.out)
 have HU5 := Aside0.mk (HU3.out.below hb5.out)
 have HB5 := Aside0.mk (HB3.out.trans (hb5.out.mono HB3.out.size))
 have HZ5 : Aside0 (w1.heap.size + 3 ≤ w5.heap.size) := ⟨by have := HZ3.out; have := hsz5.out; omega⟩
 clear HF3 HU3 HB3 hb5
 go_wp2_with fail
 refine wpAt_block ?_
 refine wpAt_range_none (lb := #[.pointer (some ⟨w4.heap.size, 0, none⟩)]) Tryz.func31 ?_ eg ?_ ?_
 ·first | rfl | simp [go_sem]
 ·intro l W hb
  exact walk1_tiny (.slice none 0 0) (.func (.yield l) #[] #[]) _ (.inl rfl) W (hbx.out.below _ hbx.out.lt hb) ⟨_, _, _, rfl⟩
 ·intro D W hD hb hk
  have HF6 := HF5.out.below _ HF5.out.lt hb
  have c3 : W.cell? ⟨w1.heap.size, 3, none⟩ = some (.int .i64 0) := HF6.cell 3 _ rfl
  have HU6 := Aside0.mk (HU5.out.below hb)
  have HB6 := Aside0.mk (HB5.out.trans (hb.mono HB5.out.size))
  have HK := Aside0.mk hk
  have HD := Aside0.mk hD
  have HW := Aside0.mk hb.size
  clear hb hk hD HF6 HF5 HU5 HB5 hbx hsz5 hzs
  refine zbc ?_
  go_wp2_with fail
  refine (bld_string_k (w1.heap.size + 1) (w1.heap.size + 1) [] wholeB W HU6.out (by simp [wholeB, ByteArray.size]) (by have := HZ5.out; have := HW.out; omega)).mono ?_
  rintro e w7 ⟨rfl, HU7, hb7, ho7⟩
  have HK7 : Aside0 (w7.heap[D]? = some (.deferred (some []))) := ⟨ho7.out D _ HK.out (fun e => by have := HZ5.out; have := HD.out; injection e with e; omega) (fun _ _ => by simp)⟩
  have HB7 : Aside0 (Below w.heap.size w w7) := ⟨HB6.out.trans (hb7.out.mono (by have := HZ.out; omega))⟩
  have HW7 := Aside0.mk hb7.out.size
  clear hb7 ho7 HK HB6 HU6
  go_wp2_with fail
  refine (bld_end_k (w1.heap.size + 1) (w1.heap.size + 1) _ w7 HU7.out (by have := HZ5.out; have := HW.out; have := HW7.out; omega)).mono ?_
  rintro e w8 ⟨rfl, hb8, ho8⟩
  have HK8 : Aside0 (w8.heap[D]? = some (.deferred (some []))) := ⟨ho8.out D _ HK7.out (fun e => by have := HZ5.out; have := HD.out; injection e with e; omega) (fun _ _ => by simp)⟩
  have HB8 : Aside0 (Below w.heap.size w w8) := ⟨HB7.out.trans (hb8.out.mono (by have := HZ.out; omega))⟩
  clear hb8 ho8 HK7 HB7 HU7
  go_wp2_with fail
  refine ⟨by simp, .inl ⟨D, w8.putObj D (.deferred none), rfl, run_takeDeferred HK8.out, ?_⟩⟩
  refine ⟨_, by simp [results, Tryz.results31], rfl, ⟨zbe HB8.out (by have := HZ.out; have := HZ5.out; have := HD.out; omega) HB8.out.size (put_row w8 D _)⟩⟩
end Go.Proofs.YteamhfmpogbilaaGreatDoor.X
