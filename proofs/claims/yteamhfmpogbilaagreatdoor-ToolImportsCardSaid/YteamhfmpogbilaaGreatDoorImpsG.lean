/- What the row's list and the world's shape give: Glob (heraldlaw22.ToolImports). -/
import Derived.Test.YteamhfmpogbilaaGreatDoorKnown
import Derived.Test.YteamhfmpogbilaaGreatDoorRows
import Derived.Stop.LaidErr
import Derived.Lib.LaidTab
import Derived.MakeChecks
set_option linter.unusedVariables false
set_option linter.unusedSimpArgs false
namespace Go.Proofs.YteamhfmpogbilaaGreatDoor.X
open Go.RowKit Go.Shelf Go.Proofs.YteamhfmpogbilaaGreatDoor Go.Proofs.YteamhfmpogbilaaGreatDoorW.PrintWords Go.Proofs.YteamhfmpogbilaaGreatDoorW.PrintLast
def namedZ : List Int := (List.range 128).map fun i => if zbo i then 1 else 0
theorem laid_pow : (Rows.laid_internal_strconv_uint64pow10 : DataW Unit) = Lib.tabData .u64 Lib.pow10Tab := by kernel_rfl
theorem laid_named : (Rows.laid_herald_place_named : DataW Unit) = Lib.tabData .u8 namedZ := by kernel_rfl
theorem starT : "*" ++ "errors.errorString" = "*errors.errorString" := by decide
theorem rowT (u : TypeId) (h : Tryz.prog.typeName? 3 u = some "*errors.errorString") : u = 335 :=
 typeName_ptr_named (nm := "errors.errorString") (by rw [starT]; kernel_rfl) (by kernel_rfl) (by decide) u (by rw [starT]; exact h)
set_option maxRecDepth 100000 in
theorem glob_of {W : World} (h0 : laidMetH Tryz.prog Rows.toolImportsRow.laid W) (hs : W.ShapedOpen Tryz.prog) : Glob W := by
 rw [Go.MakeChecks.laidMetH_plain _ _ _ (by kernel_rfl)] at h0
 have h : laidMet Tryz.prog [("math/bits.deBruijn32tab", Rows.laid_math_bits_deBruijn32tab), ("math/bits.deBruijn64tab", Rows.laid_math_bits_deBruijn64tab), ("internal/strconv.uint64pow10", Lib.tabData .u64 Lib.pow10Tab), ("unicode/utf8.acceptRanges", Rows.laid_unicode_utf8_acceptRanges), ("strconv.ErrRange", Rows.laid_strconv_ErrRange), ("strconv.ErrSyntax", Rows.laid_strconv_ErrSyntax), ("herald/place.named", Lib.tabData .u8 namedZ), ("unicode/utf8.first", Rows.laid_unicode_utf8_first)] W := by
  rw [← laid_pow, ← laid_named]; exact h0
 have gP : Tryz.prog.globalNamed "internal/strconv.uint64pow10" = some 6 := by kernel_rfl
 have gN : Tryz.prog.globalNamed "herald/place.named" = some 0 := by kernel_rfl
 have gR : Tryz.prog.globalNamed "strconv.ErrRange" = some 5 := by kernel_rfl
 have gS : Tryz.prog.globalNamed "strconv.ErrSyntax" = some 4 := by kernel_rfl
 have tN : Lib.TabIs Tryz.prog W "herald/place.named" .u8 namedZ :=
  Lib.tabIs_of_head gN (t := 255) (e := 5) (n := 128) (by kernel_rfl) (by kernel_rfl) (by kernel_rfl) (by kernel_rfl) (by kernel_rfl) h.tail.tail.tail.tail.tail.tail
 refine ⟨?_, ?_, ?_, ?_, ?_⟩
 ·exact Lib.tabIs_of_head gP (t := 332) (e := 235) (n := 20) (by kernel_rfl) (by kernel_rfl) (by kernel_rfl) (by kernel_rfl) (by kernel_rfl) h.tail.tail
 ·exact Go.Proofs.cell_of_shapedOpen_int (zero := #[.int .i64 0]) (t := 3) hs (of_decide_eq_true (by kernel_rfl)) (by kernel_rfl) rfl (by kernel_rfl) (by kernel_rfl) Tryz.underlying3
 ·intro i hi
  have := tN.cell gN i (by simpa [namedZ] using hi)
  rw [this]
  simp [namedZ, hi, List.getD]
 ·obtain ⟨a, s, hv, _, _, _⟩ := laid_sentinel h.tail.tail.tail.tail.tail gS (ti := 152) (tp := 335) (te := 337) (ts := 9) (by kernel_rfl) Tryz.underlying152 rowT (by kernel_rfl) Tryz.underlying337 rfl rfl (by kernel_rfl) (by kernel_rfl) (by kernel_rfl)
  exact ⟨_, _, by simpa using World.var?_cell gS hv 0⟩
 ·obtain ⟨a, s, hv, _, _, _⟩ := laid_sentinel h.tail.tail.tail.tail gR (ti := 152) (tp := 335) (te := 337) (ts := 9) (by kernel_rfl) Tryz.underlying152 rowT (by kernel_rfl) Tryz.underlying337 rfl rfl (by kernel_rfl) (by kernel_rfl) (by kernel_rfl)
  exact ⟨_, _, by simpa using World.var?_cell gR hv 0⟩
end Go.Proofs.YteamhfmpogbilaaGreatDoor.X
