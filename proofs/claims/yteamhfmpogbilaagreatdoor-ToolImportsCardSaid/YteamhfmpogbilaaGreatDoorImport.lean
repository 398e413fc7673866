/- tool.Import: the tree that a text is, or the error and its line. -/
import Derived.Test.YteamhfmpogbilaaGreatDoorTsort
set_option linter.unusedVariables false
set_option linter.unusedSimpArgs false
namespace Go.Proofs.YteamhfmpogbilaaGreatDoor.X
open Go.RowKit Go.Proofs.YteamhfmpogbilaaGreatDoor Go.Proofs.YteamhfmpogbilaaGreatDoorW.PrintWords Go.Proofs.YteamhfmpogbilaaGreatDoorW.PrintLast
theorem nodeAt_none {l : List Full} {p : ByteArray} (h : ¬ (zbg l p).isSome = true) : ∀ n ∈ l, n.f0 ≠ p := by
 intro n hn e
 apply h
 unfold zbg
 rw [List.find?_isSome]
 exact ⟨n, by simpa using hn, by simpa using e⟩
theorem foldSt_apart : ∀ (k : Nat) (xs : List ByteArray), xs.length = k → ∀ bg l, zbh xs = some (bg, l) → Apart l
 | 0, xs, h, bg, l, hf => by
  obtain rfl := List.length_eq_zero_iff.mp h
  simp [zbh] at hf
  obtain ⟨_, rfl⟩ := hf
  exact List.nodup_nil
 | k + 1, xs, h, bg, l, hf => by
  have hne : xs ≠ [] := by intro e; subst e; cases h
  obtain ⟨ys, y, rfl⟩ : ∃ ys y, xs = ys ++ [y] := ⟨xs.dropLast, xs.getLast hne, (List.dropLast_concat_getLast hne).symm⟩
  rw [foldSt_snoc] at hf
  obtain ⟨⟨bg', l'⟩, h1, h2⟩ := Option.bind_eq_some_iff.mp hf
  have ih := foldSt_apart k ys (by simpa using h) bg' l' h1
  simp only [] at h2
  unfold stepL at h2
  split at h2
  ·cases h2
  ·injection h2 with h2; injection h2 with h2 h3; subst h3; exact ih
  ·split at h2
   ·split at h2
    ·injection h2 with h2; injection h2 with h2 h3; subst h3; exact ih
    ·cases h2
   ·split at h2
    ·cases h2
    ·rename_i n hn
     split at h2
     ·cases h2
     ·rename_i hno
      injection h2 with h2; injection h2 with h2 h3; subst h3
      unfold Apart
      rw [List.map_append, List.nodup_append]
      refine ⟨ih, by simp, ?_⟩
      intro a ha b hb
      simp at hb; subst hb
      obtain ⟨m, hm, rfl⟩ := List.mem_map.mp ha
      exact nodeAt_none hno m hm
def ImportE (s : ByteArray) (e : Ending) (w' : World) : Prop :=
 (¬ s.size ≤ 65536 ∧ e = .returned (.tuple #[.pointer none, .int .i64 2, .int .i64 0])) ∨
 (s.size ≤ 65536 ∧ ∃ p x bg l, p ++ [x] <+: zcg s ∧ zbh p = some (bg, l) ∧ zbh (p ++ [x]) = none ∧ e = .returned (.tuple #[.pointer none, .int .i64 220, .int .i64 ((p.length : Int) + 1)])) ∨
 (s.size ≤ 65536 ∧ ∃ bg l d, zbh (zcg s) = some (bg, l) ∧ Apart l ∧ d.Perm l ∧ InOrder d ∧
  ((d.length ≤ 64 ∧ d ≠ [] ∧ rooted d ∧ fitsTo d d.length ∧ ∃ b m, e = .returned (.tuple #[.pointer (some ⟨b, 0, none⟩), .int .i64 0, .int .i64 0]) ∧ TreeAt w' b m d) ∨
   (¬ (d.length ≤ 64 ∧ d ≠ [] ∧ rooted d ∧ fitsTo d d.length) ∧ e = .returned (.tuple #[.pointer none, .int .i64 220, .int .i64 0]))))
set_option maxHeartbeats 4000000 in
set_option maxRecDepth 100000 in
theorem import_calls (s : ByteArray) (w : World) (hG : Glob w) :
  Calls Tryz.prog 9 #[.string s] w fun e w' => ImportE s e w' ∧ Aside0 (Below w.heap.size w w') := by
 have HBr := Aside0.mk (Below.refl w.heap.size w)
 have HG := Aside0.mk hG
 clear hG
 have qT : ∀ (w : World) (r : Option Nat), (binOp .eql 64 (.map r) (.map none)).run Tryz.prog w = .ok (.bool r.isNone) w := fun w r => run_eql_map_nil w _ _ _ r Tryz.underlying64
 by_cases hs : s.size ≤ 65536
 case neg =>
  have d0 : decide (65536 < (s.size : Int)) = true := decide_eq_true (by omega)
  go_enter Tryz.func9, Tryz.ntmps9
  go_wp2
  go_ret3
  exact ⟨.inl ⟨hs, rfl⟩, HBr⟩
 have d0 : decide (65536 < (s.size : Int)) = false := decide_eq_false (by omega)
 have HR := Aside0.mk (read_told s hs w HG.out)
 go_enter Tryz.func9, Tryz.ntmps9
 go_wp2_with fail
 refine HR.out.mono ?_
 rintro e w1 ⟨hre, hb1⟩
 rcases hre with ⟨bg, l, hfo, rfl, hmp, hf0, hll⟩ | ⟨p, x, bg, l, hpx, h1, h2, rfl⟩
 case inr =>
  go_wp2_with fail
  go_ret3
  exact ⟨.inr (.inl ⟨hs, p, x, bg, l, hpx, h1, h2, rfl⟩), hb1⟩
 case inl =>
  have hap := foldSt_apart _ _ rfl bg l hfo
  have HFO := Aside0.mk hfo
  have HAP := Aside0.mk hap
  have HF0 := Aside0.mk hf0
  have HO := Aside0.mk (torder_calls (w.heap.size + 1 + 1) l w1 hmp hap (by omega) (fun n hn => by have := hf0 n hn; omega))
  clear hfo hap hf0 hmp
  go_wp2_with fail
  refine HO.out.mono ?_
  rintro e w2 ⟨A, cap, d, rfl, hcap, hdp, hdo, hC, hb2⟩
  have hdl := hdp.length_eq
  have HB2 := Aside0.mk (hb1.out.trans (hb2.out.mono hb1.out.size))
  rw [← hdl] at hC hcap ⊢
  have HL := Aside0.mk (load_calls total A cap d w2 hC hcap (HG.out.below HB2.out) (fun n hn => by have := HF0.out n (hdp.subset hn); omega))
  have HDP := Aside0.mk hdp
  have HDO := Aside0.mk hdo
  clear hdl hC hcap hdp hdo hb2 HO
  go_wp2_with fail
  refine HL.out.mono ?_
  rintro e w3 ⟨hb3, hcase⟩
  have HB3 := Aside0.mk (HB2.out.trans (hb3.out.mono HB2.out.size))
  rcases hcase with ⟨h64, hne, hrt, hft, rfl, hT⟩ | ⟨h64, rfl⟩ | ⟨h64, hno, rfl⟩
  ·go_wp2_with fail
   go_ret3
   exact ⟨.inr (.inr ⟨hs, bg, l, d, HFO.out, HAP.out, HDP.out, HDO.out, .inl ⟨h64, hne, hrt, hft, _, _, rfl, hT⟩⟩), HB3⟩
  ·go_wp2_with fail
   go_ret3
   exact ⟨.inr (.inr ⟨hs, bg, l, d, HFO.out, HAP.out, HDP.out, HDO.out, .inr ⟨fun h => h64 h.1, rfl⟩⟩), HB3⟩
  ·go_wp2_with fail
   go_ret3
   exact ⟨.inr (.inr ⟨hs, bg, l, d, HFO.out, HAP.out, HDP.out, HDO.out, .inr ⟨fun h => hno h.2, rfl⟩⟩), HB3⟩
end Go.Proofs.YteamhfmpogbilaaGreatDoor.X
