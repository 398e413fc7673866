/- The fixed text that known() reads: what it says. -/
import Derived.Test.YteamhfmpogbilaaGreatDoorImport
import Derived.Test.YteamhfmpogbilaaGreatDoorExport
set_option linter.unusedVariables false
set_option linter.unusedSimpArgs false
namespace Go.Proofs.YteamhfmpogbilaaGreatDoor.X
open Go.RowKit Go.Shelf Go.Proofs.YteamhfmpogbilaaGreatDoor Go.Proofs.YteamhfmpogbilaaGreatDoorW.PrintWords Go.Proofs.YteamhfmpogbilaaGreatDoorW.PrintLast
def fixB : ByteArray := ⟨#[104, 101, 114, 97, 108, 100, 32, 116, 114, 101, 101, 10, 110, 111, 100, 101, 32, 47, 10, 32, 32, 110, 111, 100, 101, 32, 47, 97, 32, 100, 97, 116, 97, 32, 34, 113, 34, 32, 35, 32, 97, 32, 110, 111, 116, 101]⟩
def outB : ByteArray := ⟨#[104, 101, 114, 97, 108, 100, 32, 116, 114, 101, 101, 10, 110, 111, 100, 101, 32, 47, 10, 110, 111, 100, 101, 32, 47, 97, 32, 100, 97, 116, 97, 32, 34, 113, 34, 10]⟩
def ln1 : ByteArray := ⟨#[104, 101, 114, 97, 108, 100, 32, 116, 114, 101, 101]⟩
def ln2 : ByteArray := ⟨#[110, 111, 100, 101, 32, 47]⟩
def ln3 : ByteArray := ⟨#[32, 32, 110, 111, 100, 101, 32, 47, 97, 32, 100, 97, 116, 97, 32, 34, 113, 34, 32, 35, 32, 97, 32, 110, 111, 116, 101]⟩
def nA : Full := { zco with f0 := ⟨#[47, 97]⟩, f1 := ⟨#[113]⟩ }
def nR : Full := { zco with f0 := ⟨#[47]⟩ }
theorem fix_lines : zcg fixB = [ln1, ln2, ln3] := by decide +kernel
theorem cut1 : cutL ln1.data.toList = some [⟨heraldB, false⟩, ⟨treeB, false⟩] := by decide +kernel
theorem cut_2 : cutL ln2.data.toList = some [⟨nodeB, false⟩, ⟨⟨#[47]⟩, false⟩] := by decide +kernel
theorem cut3 : cutL ln3.data.toList = some [⟨nodeB, false⟩, ⟨⟨#[47, 97]⟩, false⟩, ⟨dataB, false⟩, ⟨⟨#[113]⟩, true⟩] := by decide +kernel
theorem node2 : nodeL [⟨nodeB, false⟩, ⟨⟨#[47]⟩, false⟩] = some nR := by kernel_rfl
theorem node3 : nodeL [⟨nodeB, false⟩, ⟨⟨#[47, 97]⟩, false⟩, ⟨dataB, false⟩, ⟨⟨#[113]⟩, true⟩] = some nA := by kernel_rfl
theorem fix_read : zbh (zcg fixB) = some (true, [nR, nA]) := by
 rw [fix_lines]
 unfold zbh
 simp only [List.foldl_cons, List.foldl_nil, Option.bind_some, stepL, cut1, cut_2, cut3]
 simp [node2, node3, zbg, nR, nA, zco]
theorem fix_written : (⟨(zbm [nR, nA]).toArray⟩ : ByteArray) = outB := by decide +kernel
theorem fix_rising : Rising [nR, nA] := by
 unfold Rising
 simp [nR, nA, zco]
 decide +kernel
theorem fix_ok : rooted [nR, nA] ∧ fitsTo [nR, nA] 2 := by
 refine ⟨⟨by decide +kernel, by decide +kernel⟩, ?_⟩
 intro j hj
 have : j = 0 ∨ j = 1 := by omega
 rcases this with rfl | rfl <;> decide +kernel
theorem foldSt_none : ∀ (xs : List ByteArray), xs.foldl (fun st x => st.bind fun p => stepL p.1 p.2 x) (none : Option (Bool × List Full)) = none
 | [] => rfl
 | x :: xs => by rw [List.foldl_cons]; exact foldSt_none xs
theorem foldSt_pre {a b : List ByteArray} (h : a <+: b) (hn : zbh a = none) : zbh b = none := by
 obtain ⟨c, rfl⟩ := h
 unfold zbh at *
 rw [List.foldl_append, hn]
 exact foldSt_none c
theorem fix_import (w : World) (hG : Glob w) :
  Calls Tryz.prog 9 #[.string fixB] w fun e w' => ∃ b m, e = .returned (.tuple #[.pointer (some ⟨b, 0, none⟩), .int .i64 0, .int .i64 0]) ∧ Aside0 (TreeAt w' b m [nR, nA]) ∧ Aside0 (Below w.heap.size w w') := by
 refine (import_calls fixB w hG).mono ?_
 rintro e w' ⟨h, hb⟩
 rcases h with ⟨h1, _⟩ | ⟨_, p, x, bg, l, hpx, h1, h2, _⟩ | ⟨_, bg, l, d, hf, hap, hp, ho, h⟩
 ·exact absurd (by decide) h1
 ·exact absurd (foldSt_pre hpx h2) (by rw [fix_read]; simp)
 ·rw [fix_read] at hf
  injection hf with hf
  injection hf with _ hl
  subst hl
  have hd := rising_unique _ _ fix_rising hp ho
  subst hd
  rcases h with ⟨_, _, _, _, b, m, rfl, hT⟩ | ⟨hn, _⟩
  ·exact ⟨b, m, rfl, ⟨hT⟩, hb⟩
  ·exact absurd ⟨by decide, by simp, fix_ok.1, fix_ok.2⟩ hn
theorem fix_export (b m : Nat) (w : World) (hG : Glob w) (hT : TreeAt w b m [nR, nA]) :
  Calls Tryz.prog 14 #[.pointer (some ⟨b, 0, none⟩)] w fun e w' => e = .returned (.tuple #[.string outB, .int .i64 0]) ∧ Aside0 (Below w.heap.size w w') := by
 have h := export_calls b m [nR, nA] w hG hT fix_rising (by simp) (by simp) (by
  intro n hn k hk
  simp at hn
  rcases hn with rfl | rfl <;> (have : k = 0 ∨ k = 1 ∨ k = 2 ∨ k = 3 ∨ k = 4 := by omega) <;> rcases this with rfl | rfl | rfl | rfl | rfl <;> decide +kernel)
  (by intro n hn; simp at hn; rcases hn with rfl | rfl <;> decide +kernel) (by decide +kernel)
 rw [fix_written] at h
 exact h
end Go.Proofs.YteamhfmpogbilaaGreatDoor.X
