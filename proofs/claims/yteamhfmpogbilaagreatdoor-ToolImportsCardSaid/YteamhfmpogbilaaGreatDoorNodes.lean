/- tree.Nodes: the tree's nodes in whatever order the map gives them; then sorted. -/
import Derived.Test.YteamhfmpogbilaaGreatDoorTree
set_option linter.unusedVariables false
set_option linter.unusedSimpArgs false
namespace Go.Proofs.YteamhfmpogbilaaGreatDoor.X
open Go.RowKit Go.Proofs.YteamhfmpogbilaaGreatDoor Go.Proofs.YteamhfmpogbilaaGreatDoorW.PrintWords Go.Proofs.YteamhfmpogbilaaGreatDoorW.PrintLast
theorem infoFull : (Tryz.prog.info? 40).map (fun i => (i.zero, i.size, i.bytes)) = some (some (.agg #[(.string ⟨#[]⟩), (.string ⟨#[]⟩), (.int .i64 0), (.int .i64 0), (.int .i64 0), (.int .i64 0), (.int .i64 0)]), 7, 72) := by kernel_rfl
def Apart (l : List Full) : Prop := (l.map (·.f0)).Nodup
theorem nodeAt_mem {l : List Full} {p : ByteArray} {n : Full} (h : zbg l p = some n) : n ∈ l ∧ n.f0 = p := by
 unfold zbg at h
 exact ⟨by simpa using List.mem_of_find?_eq_some h, by simpa using List.find?_some h⟩
theorem nodeAt_of_mem {l : List Full} (hd : Apart l) {n : Full} (h : n ∈ l) : zbg l n.f0 = some n := by
 have h1 : (zbg l n.f0).isSome = true := by
  unfold zbg
  rw [List.find?_isSome]
  exact ⟨n, by simpa using h, by simp⟩
 obtain ⟨m, hm⟩ := Option.isSome_iff_exists.mp h1
 obtain ⟨hm1, hm2⟩ := nodeAt_mem hm
 rw [hm]
 congr 1
 unfold Apart at hd
 have key : ∀ (l : List Full), (l.map (·.f0)).Nodup → ∀ m n, m ∈ l → n ∈ l → m.f0 = n.f0 → m = n := by
  intro l
  induction l with
  | nil => intro _ m n hm; cases hm
  | cons a l ih =>
   intro hd m n hm hn e
   simp only [List.map_cons, List.nodup_cons] at hd
   have no : ∀ x, x ∈ l → x.f0 ≠ a.f0 := fun x hx e => hd.1 (List.mem_map.mpr ⟨x, hx, e⟩)
   rcases List.mem_cons.mp hm with e1 | hm'
   ·rcases List.mem_cons.mp hn with e2 | hn'
    ·rw [e1, e2]
    ·exact absurd (by rw [← e, e1]) (no n hn')
   ·rcases List.mem_cons.mp hn with e2 | hn'
    ·exact absurd (by rw [e, e2]) (no m hm')
    ·exact ih hd.2 m n hm' hn' e
 exact key l hd m n hm1 h hm2
structure Gathered (l acc : List Full) (left : Lit → Bool) : Prop where
 nodup : acc.Nodup
 mem : ∀ n, n ∈ acc ↔ n ∈ l ∧ left (keyL n.f0) = false
theorem Gathered.start (l : List Full) (hd : Apart l) : Gathered l [] (Maps.has (mapD l)) := by
 refine ⟨List.nodup_nil, fun n => ⟨fun h => absurd h (by simp), fun ⟨h, h2⟩ => ?_⟩⟩
 rw [(mapD_look _ l rfl n.f0 .nil).1, nodeAt_of_mem hd h] at h2
 cases h2
theorem Gathered.step {l acc : List Full} {left : Lit → Bool} (h : Gathered l acc left) (hd : Apart l) {c : Full} (hc : zbg l c.f0 = some c) (hl : left (keyL c.f0) = true) : Gathered l (acc ++ [c]) (fun z => left z && !z.sameKey (keyL c.f0)) := by
 have hm := (nodeAt_mem hc).1
 have hn : c ∉ acc := fun hx => by have := ((h.mem c).1 hx).2; rw [hl] at this; cases this
 refine ⟨?_, fun n => ?_⟩
 ·rw [List.nodup_append]
  refine ⟨h.nodup, by simp, ?_⟩
  intro a ha b hb e
  simp at hb; subst hb; subst e; exact hn ha
 ·simp only [List.mem_append, List.mem_singleton, h.mem, Bool.and_eq_false_iff, Bool.not_eq_false']
  constructor
  ·rintro (⟨h1, h2⟩ | rfl)
   ·exact ⟨h1, .inl h2⟩
   ·exact ⟨hm, .inr (WideAt.sameKey_self (keyL_key _))⟩
  ·rintro ⟨h1, h2 | h2⟩
   ·exact .inl ⟨h1, h2⟩
   ·right
    have e : keyL n.f0 = keyL c.f0 := by
     by_cases e : keyL n.f0 = keyL c.f0
     ·exact e
     ·rw [Maps.sameKey_ne e] at h2; cases h2
    have e2 := nodeAt_of_mem hd h1
    rw [keyL_inj e, hc] at e2
    exact (Option.some.inj e2).symm
theorem Apart.nodup {l : List Full} (hd : Apart l) : l.Nodup := List.Pairwise.of_map (S := (· ≠ ·)) (·.f0) (fun a b h e => h (by rw [e])) hd
theorem Gathered.done {l acc : List Full} {left : Lit → Bool} (h : Gathered l acc left) (hd : Apart l) (hl : ∀ k, left k = false) : acc.Perm l := by
 exact (List.perm_ext_iff_of_nodup h.nodup hd.nodup).2 fun n => by rw [h.mem]; simp [hl]
theorem Gathered.len {l acc : List Full} {left : Lit → Bool} (h : Gathered l acc left) (hd : Apart l) : acc.length ≤ l.length := by
 have : acc.Perm (l.filter fun n => !left (keyL n.f0)) := (List.perm_ext_iff_of_nodup h.nodup (List.Pairwise.filter _ hd.nodup)).2 fun n => by rw [h.mem]; simp
 rw [this.length_eq]; exact List.length_filter_le _ _
theorem keyOf_inv {key : Value} {kl : Lit} (h : keyOf Tryz.prog 9 key = some kl) : ∃ x : ByteArray, key = .string x ∧ kl = keyL x := by
 obtain ⟨s, h1, h2, _⟩ := WideMaps.string_of_keyOf Tryz.underlying9 h
 exact ⟨s, h1, h2⟩
end Go.Proofs.YteamhfmpogbilaaGreatDoor.X
