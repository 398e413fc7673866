/- A tree in the world (a struct with one map, keyed by the place): what it reads as; tree.none, tree.Nodes, tree.inOrder. -/
import Derived.Test.YteamhfmpogbilaaGreatDoorWritten
import Derived.Test.YteamhfmpogbilaaGreatDoorZQ1
import Derived.Maps.OwnSet
import Derived.Maps.RangeWalk
import Derived.WalkSpells
set_option linter.unusedVariables false
set_option linter.unusedSimpArgs false
namespace Go.Proofs.YteamhfmpogbilaaGreatDoor.X
open Go.RowKit Go.Proofs.YteamhfmpogbilaaGreatDoor Go.Proofs.YteamhfmpogbilaaGreatDoorW.PrintWords Go.Proofs.YteamhfmpogbilaaGreatDoorW.PrintLast
abbrev Full := S40
def fullV (n : Full) : Value := .agg (zao n)
def fullR : Value → Option (DataW Full × List MemPlace)
 | .agg cs => match cs.toList with
  | [.string a, .string b, .int .i64 c, .int .i64 d, .int .i64 e, .int .i64 f, .int .i64 g] => some (.held ⟨a, b, c, d, e, f, g⟩, [])
  | _ => none
 | _ => none
theorem fullR_mk (n : Full) : fullR (fullV n) = some (.held n, []) := rfl
theorem fullR_inv {v : Value} {z : DataW Full × List MemPlace} (h : fullR v = some z) : ∃ n, v = fullV n ∧ z = (.held n, []) := by
 unfold fullR at h
 split at h
 ·rename_i cs
  split at h
  ·rename_i a b c d e f g hc
   refine ⟨⟨a, b, c, d, e, f, g⟩, ?_, (Option.some.inj h).symm⟩
   unfold fullV zao
   congr 1
   apply Array.toList_inj.mp
   rw [hc]
  ·cases h
 ·cases h
def keyL (s : ByteArray) : Lit := .string s.data.toList
theorem keyL_inj {a b : ByteArray} (h : keyL a = keyL b) : a = b := by
 unfold keyL at h
 injection h with h
 have : a.data = b.data := Array.toList_inj.mp h
 cases a; cases b; simp_all
def mapD (l : List Full) : DataW Full := l.foldl (fun D n => D.put (keyL n.f0) (.held n)) (.map [])
theorem mapD_snoc (l : List Full) (n : Full) : mapD (l ++ [n]) = (mapD l).put (keyL n.f0) (.held n) := by simp [mapD, List.foldl_append]
theorem keyL_key (s : ByteArray) : WideAt.IsKeyLit (keyL s) := by unfold keyL; trivial
theorem mapD_isMap (l : List Full) : Maps.IsMap (mapD l) := by
 have : ∀ (l : List Full) (D : DataW Full), Maps.IsMap D → Maps.IsMap (l.foldl (fun D n => D.put (keyL n.f0) (.held n)) D) := by
  intro l
  induction l with
  | nil => intro D h; exact h
  | cons n l ih => intro D h; exact ih _ (h.put _ _)
 exact this l _ Maps.isMap_empty
def zbg (l : List Full) (p : ByteArray) : Option Full := l.reverse.find? (fun n => decide (n.f0 = p))
theorem nodeAt_snoc (l : List Full) (n : Full) (p : ByteArray) : zbg (l ++ [n]) p = if n.f0 = p then some n else zbg l p := by
 unfold zbg
 rw [List.reverse_append, List.reverse_singleton, List.singleton_append, List.find?_cons]
 by_cases h : n.f0 = p <;> simp [h]
theorem mapD_look : ∀ (k : Nat) (l : List Full), l.length = k → ∀ (p : ByteArray) (z : DataW Full), Maps.has (mapD l) (keyL p) = (zbg l p).isSome ∧ (mapD l).atKey (keyL p) z = match zbg l p with | some n => .held n | none => z
 | 0, l, h, p, z => by
  obtain rfl := List.length_eq_zero_iff.mp h
  exact ⟨rfl, rfl⟩
 | k + 1, l, h, p, z => by
  have hne : l ≠ [] := by intro e; subst e; cases h
  obtain ⟨l', n, rfl⟩ : ∃ l' n, l = l' ++ [n] := ⟨l.dropLast, l.getLast hne, (List.dropLast_concat_getLast hne).symm⟩
  obtain ⟨h1, h2⟩ := mapD_look k l' (by simpa using h) p z
  rw [mapD_snoc, nodeAt_snoc]
  by_cases e : n.f0 = p
  ·subst e
   rw [if_pos rfl]
   exact ⟨Maps.has_put_same (mapD_isMap l') (keyL_key _) _, Maps.atKey_put_same (mapD_isMap l') (keyL_key _) _ _⟩
  ·rw [if_neg e]
   have e' : keyL p ≠ keyL n.f0 := fun h => e (keyL_inj h).symm
   exact ⟨(Maps.has_put_other e' _).trans h1, (Maps.atKey_put_other e' _ _).trans h2⟩
theorem keyed : Maps.Keyed Tryz.prog 9 := Maps.string_keyed Tryz.underlying9
structure TreeAt (w : World) (b m : Nat) (l : List Full) : Prop where
 cell : w.cell? ⟨b, 0, none⟩ = some (.map (some m))
 map : w.ownsMap Tryz.prog 9 fullR m l.length (mapD l)
 ne : b ≠ m
theorem TreeAt.lt {w : World} {b m : Nat} {l : List Full} (h : TreeAt w b m l) : b < w.heap.size := World.block_lt_of_cell? w _ h.cell
theorem TreeAt.below {w w' : World} {b m : Nat} {l : List Full} (h : TreeAt w b m l) (hb : Below w.heap.size w w') : TreeAt w' b m l :=
 ⟨(hb.cell h.lt).trans h.cell, h.map.kept (row := none) ⟨hb.os, hb.tape, hb.output, hb.size, fun k hk _ => hb.block k hk⟩ (by simp), h.ne⟩
set_option maxRecDepth 100000 in
theorem none_some (b m : Nat) (w : World) (h : w.cell? ⟨b, 0, none⟩ = some (.map (some m))) : Calls Tryz.prog 35 #[.pointer (some ⟨b, 0, none⟩)] w fun e w' => e = .returned (.bool false) ∧ w' = w := by
 have qT : ∀ (w : World) (r : Option Nat), (binOp .eql 64 (.map r) (.map none)).run Tryz.prog w = .ok (.bool r.isNone) w := fun w r => run_eql_map_nil w _ _ _ r Tryz.underlying64
 go_enter Tryz.func35, Tryz.ntmps35
 go_wp2
 go_ret
 exact ⟨rfl, rfl⟩
end Go.Proofs.YteamhfmpogbilaaGreatDoor.X
