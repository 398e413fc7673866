/- The reference's Line and text. -/
import Derived.Test.YteamhfmpogbilaaGreatDoorRef5
import Derived.Test.YteamhfmpogbilaaGreatDoorZQ1
set_option linter.unusedVariables false
set_option linter.unusedSimpArgs false
namespace Go.Proofs.YteamhfmpogbilaaGreatDoor.X
open Go.RowKit Go.Proofs.YteamhfmpogbilaaGreatDoor Go.Proofs.YteamhfmpogbilaaGreatDoorW.PrintWords Go.Proofs.YteamhfmpogbilaaGreatDoorW.PrintLast

def spB : ByteArray := ⟨#[32]⟩
theorem wd3_app (a b c : ByteArray) : a ++ spB ++ b ++ spB ++ c = wd3 a b c := by
  apply WideShapes.bytes_inj
  rw [data_app, data_app, data_app, data_app]; rfl
theorem refNum_told (v : Int) (h0 : -9223372036854775808 ≤ v) (h1 : v ≤ 9223372036854775807) : heraldref22_num.f v = some (itoaB v) := by
  unfold heraldref22_num.f strconv_Itoa.f; rw [if_pos h0, if_pos h1]; rfl
def valsR (n : Full) : List Int := [0, n.f2, n.f3, n.f4, n.f5, n.f6]
def namesR : List ByteArray := [⟨#[100, 97, 116, 97]⟩, ⟨#[118, 101, 114, 115, 105, 111, 110]⟩, ⟨#[109, 97, 100, 101]⟩, ⟨#[99, 104, 97, 110, 103, 101, 100]⟩, ⟨#[111, 119, 110, 101, 114]⟩, ⟨#[99, 111, 117, 110, 116, 101, 114]⟩]
theorem valsR_at (n : Full) (j : Nat) (h : j < 5) : rd (valsR n) ((j + 1 : Nat) : Int) = fieldVal n j := by
  match j, h with
  | 0, _ => rfl | 1, _ => rfl | 2, _ => rfl | 3, _ => rfl | 4, _ => rfl
theorem namesR_at (j : Nat) (h : j < 5) : rdOf ByteArray.empty namesR ((j + 1 : Nat) : Int) = fieldName j := by
  match j, h with
  | 0, _ => rfl | 1, _ => rfl | 2, _ => rfl | 3, _ => rfl | 4, _ => rfl
theorem refLine_l0 (n : Full) (hr : ranged n) (h0 : n.f0.size ≤ 1000) (h1 : n.f1.size ≤ 1000) : ∀ (d j k : Nat), j + d = 5 → d + 1 ≤ k →
    heraldref22_Line.l0 k (lineB n j) (valsR n) namesR ((j + 1 : Nat) : Int) = some (lineB n 5)
  | d, j, k, hd, hk => by
    obtain ⟨k, rfl⟩ : ∃ k', k = k' + 1 := ⟨k - 1, by omega⟩
    have hsz := lineB_size n hr j (by omega)
    have el : (valsR n).length = 6 := rfl
    have en : namesR.length = 6 := rfl
    rw [heraldref22_Line.l0, el, en]
    cases d with
    | zero =>
      obtain rfl : j = 5 := by omega
      rw [if_neg (by omega)]
    | succ d =>
      have e : wrap64 (((j + 1 : Nat) : Int) + 1) = ((j + 1 + 1 : Nat) : Int) := by unfold wrap64; omega
      have ih := refLine_l0 n hr h0 h1 d (j + 1) k (by omega) (by omega)
      rw [if_pos (by omega), if_pos (by omega), valsR_at n j (by omega), namesR_at j (by omega), e]
      by_cases c : fieldVal n j = 0
      · rw [if_pos c]
        rw [show lineB n (j + 1) = lineB n j from by show (if _ then _ else _) = _; rw [if_pos c]] at ih
        exact ih
      · have hnm := fieldName_size j
        have hin := hr j (by omega)
        have hit := itoaB_size _ hin.1 hin.2
        have s1 : (⟨#[32]⟩ : ByteArray) = spB := rfl
        have s2 : spB.size = 1 := rfl
        rw [if_neg c, s1, if_pos (by omega), if_pos (by omega), refNum_told _ hin.1 hin.2]
        simp only [ByteArray.size_append, s2, Option.bind_some]
        rw [if_pos (by omega), if_pos (by omega), if_pos (by omega), wd3_app]
        rw [show lineB n (j + 1) = wd3 (lineB n j) (fieldName j) (itoaB (fieldVal n j)) from by show (if _ then _ else _) = _; rw [if_neg c]] at ih
        exact ih
theorem refLine_told (k : Nat) (n : Full) (hr : ranged n) (h0 : n.f0.size ≤ 1000) (h1 : n.f1.size ≤ 1000) (hk : 3000 ≤ k) : heraldref22_Line.f k n.f0 n.f1 n.f2 n.f3 n.f4 n.f5 n.f6 = some (lineB n 5) := by
  obtain ⟨k, rfl⟩ : ∃ k', k = k' + 1 := ⟨k - 1, by omega⟩
  have ej : ∀ x, heraldref22_Line.j0 (k + 1) x n.f0 n.f1 n.f2 n.f3 n.f4 n.f5 n.f6 = heraldref22_Line.l0 k x (valsR n) namesR ((0 + 1 : Nat) : Int) := fun x => by rw [heraldref22_Line.j0]; rfl
  have hl := refLine_l0 n hr h0 h1 5 0 k (by omega) (by omega)
  have hq := quoteB_size n.f1
  have e1 : (⟨#[110, 111, 100, 101, 32]⟩ : ByteArray) ++ n.f0 = wd2 nodeB n.f0 := by
    apply WideShapes.bytes_inj
    rw [data_app]; rfl
  have e2 : wd2 nodeB n.f0 ++ (⟨#[32, 100, 97, 116, 97, 32]⟩ : ByteArray) ++ quoteB n.f1 = wd3 (wd2 nodeB n.f0) dataB (quoteB n.f1) := by
    apply WideShapes.bytes_inj
    rw [data_app, data_app]
    show _ = (wd2 nodeB n.f0).data.toList ++ [32] ++ dataB.data.toList ++ [32] ++ (quoteB n.f1).data.toList
    simp [dataB]
  have z1 := wd2_size nodeB n.f0
  have z2 : nodeB.size = 4 := rfl
  have z3 : (⟨#[32, 100, 97, 116, 97, 32]⟩ : ByteArray).size = 6 := rfl
  unfold heraldref22_Line.f
  rw [if_pos (by omega), e1]
  have hnil : n.f1.toList = [] ↔ n.f1.toList = [] := Iff.rfl
  by_cases c : n.f1.toList = []
  · rw [if_pos c, ej]
    rw [show lineB n 0 = wd2 nodeB n.f0 from by unfold lineB; rw [if_pos c]] at hl
    exact hl
  · rw [if_neg c, if_pos (by omega), refQuoted_told _ _ (by omega) (by omega)]
    simp only [Option.bind_some, ByteArray.size_append, z3]
    rw [if_pos (by omega), e2, ej]
    rw [show lineB n 0 = wd3 (wd2 nodeB n.f0) dataB (quoteB n.f1) from by unfold lineB; rw [if_neg c]] at hl
    exact hl
end Go.Proofs.YteamhfmpogbilaaGreatDoor.X
