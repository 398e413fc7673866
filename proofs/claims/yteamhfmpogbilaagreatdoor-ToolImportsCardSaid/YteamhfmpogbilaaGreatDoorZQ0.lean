/- Printed by a tool of the kit for this seat; cut to what the claim uses. -/
import Derived.Test.YteamhfmpogbilaaGreatDoorExt
import Derived.Test.YteamhfmpogbilaaGreatDoorZW
import Derived.Test.YteamhfmpogbilaaGreatDoorProg
import Derived.Below
import Derived.Deep.Draws
import Derived.Deep.AppendLies
import Derived.Maps.AppendAt
import Derived.OwnWalk
import Derived.Laws.BytesArg
import Derived.Laws.MakeOwn
import Derived.Laws.OwnMore
import Derived.Deep.OwnRows
import Derived.Tactics
import Derived.Lib.ConvBytes
import Derived.Laws.Slices
import Derived.WalkKit
import Derived.KernelRfl
import Derived.RowKit3
import Derived.Deep.LoopGhost
import Derived.Deep.QuietTactic
import Derived.BigQuiet
import Derived.WideLaws
import Derived.Deep.DeepCutAuto
import Derived.Deep.CutBlock
import Derived.Deep.RegionHeld3
import Derived.Laws.Rows
import Derived.Lib.AppendStr
import Derived.ArgAppend
import Derived.Laws.IdiomCopy
import Derived.OrdersHeld
import Derived.Laws.BitsLemmas
import Derived.RowKit
import Derived.WalkSmall
set_option linter.unusedVariables false
set_option linter.unusedSimpArgs false
section
namespace Go.Proofs.YteamhfmpogbilaaGreatDoor.X
open Go.RowKit Go.Proofs.YteamhfmpogbilaaGreatDoorW.PrintWords Go.Proofs.YteamhfmpogbilaaGreatDoorW.PrintLast Go.Proofs.YteamhfmpogbilaaGreatDoorW.PrintMore
attribute [local go_sem] zbw zbu zck zcj zbj zbi zbv zbt
def errW : Option Int → Value
 | none => .nilIface
 | some c => .iface 0 (.int .i64 c)
theorem zal : errW none = .nilIface := rfl
theorem zak (c : Int) : errW (some c) = .iface 0 (.int .i64 c) := rfl
theorem info5 : (Tryz.prog.info? 5).map (fun i => (i.zero, i.size, i.bytes)) = some (some (.int .u8 0), 1, 1) := by kernel_rfl
theorem info9 : (Tryz.prog.info? 9).map (fun i => (i.zero, i.size, i.bytes)) = some (some (.string ⟨#[]⟩), 1, 16) := by kernel_rfl
theorem info73 : (Tryz.prog.info? 73).map (fun i => (i.zero, i.size, i.bytes)) = some (some (.agg #[(.string ⟨#[]⟩), (.bool false)]), 2, 24) := by kernel_rfl
theorem info74 : (Tryz.prog.info? 74).map (fun i => (i.zero, i.size, i.bytes)) = some (some (.agg #[(.string ⟨#[]⟩), (.string ⟨#[]⟩), (.int .i64 0), (.int .i64 0), (.int .i64 0), (.int .i64 0), (.int .i64 0)]), 7, 72) := by kernel_rfl
structure S74 where
 f0 : ByteArray
 f1 : ByteArray
 f2 : Int
 f3 : Int
 f4 : Int
 f5 : Int
 f6 : Int
def z74 : S74 := ⟨(⟨#[]⟩ : ByteArray), (⟨#[]⟩ : ByteArray), (0 : Int), (0 : Int), (0 : Int), (0 : Int), (0 : Int)⟩
def k74 : Kd S74 := Kd.iso (Kd.pair Kd.string (Kd.pair Kd.string (Kd.pair (Kd.int .i64) (Kd.pair (Kd.int .i64) (Kd.pair (Kd.int .i64) (Kd.pair (Kd.int .i64) (Kd.int .i64))))))) (fun x : S74 => (x.f0, x.f1, x.f2, x.f3, x.f4, x.f5, x.f6))
theorem k74_open {w : World} {x : S74} {cs : List Value} (h : k74.K w x cs) : cs = [.string x.f0, .string x.f1, .int .i64 x.f2, .int .i64 x.f3, .int .i64 x.f4, .int .i64 x.f5, .int .i64 x.f6] := by
 obtain ⟨_, _, rfl, rfl, ⟨_, _, rfl, rfl, ⟨_, _, rfl, rfl, ⟨_, _, rfl, rfl, ⟨_, _, rfl, rfl, ⟨_, _, rfl, rfl, rfl⟩⟩⟩⟩⟩⟩ := h
 exact rfl
theorem k74_mkM (w : World) (base : Nat) (ok : Nat → Prop) (x : S74)  : k74.M w base ok x [.string x.f0, .string x.f1, .int .i64 x.f2, .int .i64 x.f3, .int .i64 x.f4, .int .i64 x.f5, .int .i64 x.f6] := ⟨[.string x.f0], [.string x.f1, .int .i64 x.f2, .int .i64 x.f3, .int .i64 x.f4, .int .i64 x.f5, .int .i64 x.f6], rfl, rfl, ⟨[.string x.f1], [.int .i64 x.f2, .int .i64 x.f3, .int .i64 x.f4, .int .i64 x.f5, .int .i64 x.f6], rfl, rfl, ⟨[.int .i64 x.f2], [.int .i64 x.f3, .int .i64 x.f4, .int .i64 x.f5, .int .i64 x.f6], rfl, rfl, ⟨[.int .i64 x.f3], [.int .i64 x.f4, .int .i64 x.f5, .int .i64 x.f6], rfl, rfl, ⟨[.int .i64 x.f4], [.int .i64 x.f5, .int .i64 x.f6], rfl, rfl, ⟨[.int .i64 x.f5], [.int .i64 x.f6], rfl, rfl, rfl⟩⟩⟩⟩⟩⟩
def zam (xs : List S74) (i : Int) : S74 := xs.getD i.toNat z74
theorem zda {w : World} {A : Option Addr} {n : Nat} {xs : List S74} (h : Kd.C k74 w A n xs) (i : Int) (h0 : 0 ≤ i) (h1 : i < n) : ∃ ad , A = some ad ∧ w.cell? (ad.add (i.toNat * 7)) = some (.string (zam xs i).f0) ∧ w.cell? ⟨(ad.add (i.toNat * 7)).block, (ad.add (i.toNat * 7)).off + 1, none⟩ = some (.string (zam xs i).f1) ∧ w.cell? ⟨(ad.add (i.toNat * 7)).block, (ad.add (i.toNat * 7)).off + 2, none⟩ = some (.int .i64 (zam xs i).f2) ∧ w.cell? ⟨(ad.add (i.toNat * 7)).block, (ad.add (i.toNat * 7)).off + 3, none⟩ = some (.int .i64 (zam xs i).f3) ∧ w.cell? ⟨(ad.add (i.toNat * 7)).block, (ad.add (i.toNat * 7)).off + 4, none⟩ = some (.int .i64 (zam xs i).f4) ∧ w.cell? ⟨(ad.add (i.toNat * 7)).block, (ad.add (i.toNat * 7)).off + 5, none⟩ = some (.int .i64 (zam xs i).f5) ∧ w.cell? ⟨(ad.add (i.toNat * 7)).block, (ad.add (i.toNat * 7)).off + 6, none⟩ = some (.int .i64 (zam xs i).f6) := by
 obtain ⟨ad, c, e, _, hK, hc0⟩ := Kd.C_get h z74 i h0 h1
 have hc : ∀ j u, c[j]? = some u → w.cell? (ad.add (i.toNat * 7 + j)) = some u := hc0
 obtain rfl := k74_open hK
 exact ⟨ad, e, hc 0 _ rfl, by rw [← zcb _ _ 1 (by omega)]; exact hc 1 _ rfl, by rw [← zcb _ _ 2 (by omega)]; exact hc 2 _ rfl, by rw [← zcb _ _ 3 (by omega)]; exact hc 3 _ rfl, by rw [← zcb _ _ 4 (by omega)]; exact hc 4 _ rfl, by rw [← zcb _ _ 5 (by omega)]; exact hc 5 _ rfl, by rw [← zcb _ _ 6 (by omega)]; exact hc 6 _ rfl⟩
structure S122 where
 f0 : ByteArray
 f1 : Bool
def z122 : S122 := ⟨(⟨#[]⟩ : ByteArray), false⟩
def k122 : Kd S122 := Kd.iso (Kd.pair Kd.string Kd.bool) (fun x : S122 => (x.f0, x.f1))
theorem k122_open {w : World} {x : S122} {cs : List Value} (h : k122.K w x cs) : cs = [.string x.f0, .bool x.f1] := by
 obtain ⟨_, _, rfl, rfl, rfl⟩ := h
 exact rfl
theorem k122_mk (w : World) (x : S122)  : k122.K w x [.string x.f0, .bool x.f1] := ⟨[.string x.f0], [.bool x.f1], rfl, rfl, rfl⟩
theorem k122_mkM (w : World) (base : Nat) (ok : Nat → Prop) (x : S122)  : k122.M w base ok x [.string x.f0, .bool x.f1] := ⟨[.string x.f0], [.bool x.f1], rfl, rfl, rfl⟩
def zcd (xs : List S122) (i : Int) : S122 := xs.getD i.toNat z122
theorem at_T122 {w : World} {A : Option Addr} {n : Nat} {xs : List S122} (h : Kd.C k122 w A n xs) (i : Int) (h0 : 0 ≤ i) (h1 : i < n) : ∃ ad , A = some ad ∧ w.cell? (ad.add (i.toNat * 2)) = some (.string (zcd xs i).f0) ∧ w.cell? ⟨(ad.add (i.toNat * 2)).block, (ad.add (i.toNat * 2)).off + 1, none⟩ = some (.bool (zcd xs i).f1) := by
 obtain ⟨ad, c, e, _, hK, hc0⟩ := Kd.C_get h z122 i h0 h1
 have hc : ∀ j u, c[j]? = some u → w.cell? (ad.add (i.toNat * 2 + j)) = some u := hc0
 obtain rfl := k122_open hK
 exact ⟨ad, e, hc 0 _ rfl, by rw [← zcb _ _ 1 (by omega)]; exact hc 1 _ rfl⟩
structure S73 where
 f0 : ByteArray
 f1 : Bool
def z73 : S73 := ⟨(⟨#[]⟩ : ByteArray), false⟩
def k73 : Kd S73 := Kd.iso (Kd.pair Kd.string Kd.bool) (fun x : S73 => (x.f0, x.f1))
theorem k73_open {w : World} {x : S73} {cs : List Value} (h : k73.K w x cs) : cs = [.string x.f0, .bool x.f1] := by
 obtain ⟨_, _, rfl, rfl, rfl⟩ := h
 exact rfl
theorem k73_mkM (w : World) (base : Nat) (ok : Nat → Prop) (x : S73)  : k73.M w base ok x [.string x.f0, .bool x.f1] := ⟨[.string x.f0], [.bool x.f1], rfl, rfl, rfl⟩
def zay (xs : List S73) (i : Int) : S73 := xs.getD i.toNat z73
theorem zct {w : World} {A : Option Addr} {n : Nat} {xs : List S73} (h : Kd.C k73 w A n xs) (i : Int) (h0 : 0 ≤ i) (h1 : i < n) : ∃ ad , A = some ad ∧ w.cell? (ad.add (i.toNat * 2)) = some (.string (zay xs i).f0) ∧ w.cell? ⟨(ad.add (i.toNat * 2)).block, (ad.add (i.toNat * 2)).off + 1, none⟩ = some (.bool (zay xs i).f1) := by
 obtain ⟨ad, c, e, _, hK, hc0⟩ := Kd.C_get h z73 i h0 h1
 have hc : ∀ j u, c[j]? = some u → w.cell? (ad.add (i.toNat * 2 + j)) = some u := hc0
 obtain rfl := k73_open hK
 exact ⟨ad, e, hc 0 _ rfl, by rw [← zcb _ _ 1 (by omega)]; exact hc 1 _ rfl⟩
end Go.Proofs.YteamhfmpogbilaaGreatDoor.X
end
section
namespace Go.Proofs.YteamhfmpogbilaaGreatDoor.X
open Go.RowKit Go.Proofs.YteamhfmpogbilaaGreatDoorW.PrintWords Go.Proofs.YteamhfmpogbilaaGreatDoorW.PrintLast Go.Proofs.YteamhfmpogbilaaGreatDoorW.PrintMore
attribute [local go_sem] zbw zbu zck zcj zbj zbi zbv zbt
theorem eqA73 (d : Nat) (w : World) (x0 y0 : ByteArray) (x1 y1 : Bool) :
  (Op.equalIn (d + 2) 73 (.agg #[.string x0, .bool x1]) (.agg #[.string y0, .bool y1])).run Tryz.prog w = .ok (x0.toList == y0.toList && (x1 == y1)) w := by
 refine eqA_of Tryz.underlying73 (by kernel_rfl) ?_
 refine eqf_cons (by rfl) (by go_simp; rfl) (by go_simp; rfl) (by go_simp) ?_
 exact eqf_last (by rfl) (by go_simp; rfl) (by go_simp; rfl) (by go_simp)
end Go.Proofs.YteamhfmpogbilaaGreatDoor.X
end
section
namespace Go.Proofs.YteamhfmpogbilaaGreatDoor.X
open Go.RowKit Go.Proofs.YteamhfmpogbilaaGreatDoorW.PrintWords Go.Proofs.YteamhfmpogbilaaGreatDoorW.PrintLast Go.Proofs.YteamhfmpogbilaaGreatDoorW.PrintMore
attribute [local go_sem] zbw zbu zck zcj zbj zbi zbv zbt
theorem eqA122 (d : Nat) (w : World) (x0 y0 : ByteArray) (x1 y1 : Bool) :
  (Op.equalIn (d + 2) 122 (.agg #[.string x0, .bool x1]) (.agg #[.string y0, .bool y1])).run Tryz.prog w = .ok (x0.toList == y0.toList && (x1 == y1)) w := by
 refine eqA_of Tryz.underlying122 (by kernel_rfl) ?_
 refine eqf_cons (by rfl) (by go_simp; rfl) (by go_simp; rfl) (by go_simp) ?_
 exact eqf_last (by rfl) (by go_simp; rfl) (by go_simp; rfl) (by go_simp)
end Go.Proofs.YteamhfmpogbilaaGreatDoor.X
end
section
namespace Go.Proofs.YteamhfmpogbilaaGreatDoor.X
open Go.RowKit Go.Proofs.YteamhfmpogbilaaGreatDoorW.PrintWords Go.Proofs.YteamhfmpogbilaaGreatDoorW.PrintLast Go.Proofs.YteamhfmpogbilaaGreatDoorW.PrintMore
attribute [local go_sem] zbw zbu zck zcj zbj zbi zbv zbt
def yeo.f (a0 : ByteArray) (a1 : ByteArray) : Option (Bool) := if (a0.size : Int) ≥ (a1.size : Int) then (if 0 ≤ (a1.size : Int) then (if (a1.size : Int) ≤ (a0.size : Int) then (some ((a0.extract 0 ((a1.size : Int) : Int).toNat).toList == a1.toList)) else (none)) else (none)) else (some false)
set_option maxHeartbeats 8000000 in
set_option maxRecDepth 100000 in
theorem yeo.calls (a0 : ByteArray) (a1 : ByteArray) (r : Bool) (w : World) (h : yeo.f a0 a1 = some r) :
  Calls Tryz.prog 168 #[.string a0, .string a1] w fun e w' => e = .returned (.bool r) ∧ Drawn0 w w' := by
 have H : (if (a0.size : Int) ≥ (a1.size : Int) then (if 0 ≤ (a1.size : Int) then (if (a1.size : Int) ≤ (a0.size : Int) then (some ((a0.extract 0 ((a1.size : Int) : Int).toNat).toList == a1.toList)) else (none)) else (none)) else (some false)) = some r := h
 clear h
 by_cases c3 : (a0.size : Int) ≥ (a1.size : Int)
 ·rw [if_pos c3] at H
  have c3b0 : decide ((a1.size : Int) ≤ (a0.size : Int)) = true := decide_eq_true c3
  have c3b1 : decide (a1.size ≤ a0.size) = true := decide_eq_true (Int.ofNat_le.mp c3)
  clear c3
  by_cases c4 : 0 ≤ (a1.size : Int)
  ·rw [if_pos c4] at H
   have c4b0 := eq_true c4
   have c4b1 : decide (0 ≤ (a1.size : Int)) = true := decide_eq_true c4
   clear c4
   by_cases c5 : (a1.size : Int) ≤ (a0.size : Int)
   ·rw [if_pos c5] at H
    have c5b0 := eq_true c5
    have c5b1 : decide ((a1.size : Int) ≤ (a0.size : Int)) = true := decide_eq_true c5
    clear c5
    obtain rfl := Option.some.inj H
    go_enter Tryz.func168, Tryz.ntmps168
    go_wp2
    go_ret
    exact ⟨by first | rfl | (simp; done) | (simp [*]; done), by repeat (first | exact Drawn0.refl _ | apply Drawn0.step)⟩
   ·rw [if_neg c5] at H
    exact absurd H (by simp)
  ·rw [if_neg c4] at H
   exact absurd H (by simp)
 ·rw [if_neg c3] at H
  have c3b0 : decide ((a1.size : Int) ≤ (a0.size : Int)) = false := decide_eq_false c3
  have c3b1 : decide (a1.size ≤ a0.size) = false := decide_eq_false (fun h => c3 (Int.ofNat_le.mpr h))
  clear c3
  obtain rfl := Option.some.inj H
  go_enter Tryz.func168, Tryz.ntmps168
  go_wp2
  go_ret
  exact ⟨by first | rfl | (simp; done) | (simp [*]; done), by repeat (first | exact Drawn0.refl _ | apply Drawn0.step)⟩
def yej.f (a0 : ByteArray) (a1 : ByteArray) : Option (Bool) := (yeo.f a0 a1).bind fun t101 => (some t101)
set_option maxHeartbeats 8000000 in
set_option maxRecDepth 100000 in
theorem yej.calls (a0 : ByteArray) (a1 : ByteArray) (r : Bool) (w : World) (h : yej.f a0 a1 = some r) :
  Calls Tryz.prog 130 #[.string a0, .string a1] w fun e w' => e = .returned (.bool r) ∧ Drawn0 w w' := by
 have H : ((yeo.f a0 a1).bind fun t101 => (some t101)) = some r := h
 clear h
 replace H := Option.bind_eq_some_iff.mp H
 obtain ⟨t101, A30, H⟩ := H
 replace H : (some t101) = some r := H
 have A3 := Aside0.mk A30
 clear A30
 obtain rfl := Option.some.inj H
 go_enter Tryz.func130, Tryz.ntmps130
 go_wp2_with (((with_reducible refine zaq (f := 168) rfl ?_); refine zbb (some 7) rfl rfl Tryz.func168 (by kernel_rfl) rfl #[.string a0, .string a1] rfl (by (try simp only [List.map_toArray, List.map_cons, List.map_nil]); first | done | rfl | (simp only [List.length_drop, List.length_take]; rfl)) ?_; (with_reducible refine (yeo.calls a0 a1 t101 _ A3.out).mono ?_); rintro e w' ⟨rfl, ⟨nd, rfl⟩⟩; refine ⟨_, rfl, ?_⟩))
 go_ret
 exact ⟨by first | rfl | (simp; done) | (simp [*]; done), by repeat (first | exact Drawn0.refl _ | apply Drawn0.step)⟩
def ydr.l0 : Nat → List ByteArray → List ByteArray → Int → Int → Option (List ByteArray × Int)
 | 0, _, _, _, _ => none
 | k + 1, x4, x21, x22, x23 => if x23 < x22 then (if 0 ≤ x23 then (if x23 < (x21.length : Int) then ((yel.f (rdOf ByteArray.empty x21 x23)).bind fun t107 => (if t107 = true then (ydr.l0 k x4 x21 x22 (wrap64 (x23 + 1))) else (some (([] : List ByteArray), 10)))) else (none)) else (none)) else (some (x4, 0))
def ydr.f (k : Nat) (a0 : ByteArray) : Option (List ByteArray × Int) := if (a0.size : Int) > 102 then (some (([] : List ByteArray), 2)) else (if a0.toList = ([47] : List UInt8) then (some (([] : List ByteArray), 0)) else ((yej.f a0 (⟨#[47]⟩ : ByteArray)).bind fun t102 => (if t102 = true then (if 1 ≤ (a0.size : Int) then ((yee.f (a0.extract 1 a0.size) (⟨#[47]⟩ : ByteArray)).bind fun t103 => (if (t103.length : Int) > 6 then (some (([] : List ByteArray), 10)) else (ydr.l0 k t103 t103 (t103.length : Int) 0))) else (none)) else (some (([] : List ByteArray), 10)))))
set_option maxHeartbeats 8000000 in
set_option maxRecDepth 100000 in
theorem ydr.calls (k : Nat) (a0 : ByteArray) (r1 : List ByteArray) (r2 : Int) (w : World) (hG : Glob w) (h : ydr.f k a0 = some (r1, r2)) :
  Calls Tryz.prog 84 #[.string a0] w fun e w' => ∃ v0_ : Value, e = .returned (.tuple #[v0_, .int .i64 r2]) ∧ Kd.R Kd.string 9 w' w.heap.size (fun _ => True) v0_ r1 ∧ Below w.heap.size w w' := by
 have HB := Aside0.mk (Below.refl w.heap.size w)
 have HG := Aside0.mk hG
 clear hG
 have H : (if (a0.size : Int) > 102 then (some (([] : List ByteArray), 2)) else (if a0.toList = ([47] : List UInt8) then (some (([] : List ByteArray), 0)) else ((yej.f a0 (⟨#[47]⟩ : ByteArray)).bind fun t102 => (if t102 = true then (if 1 ≤ (a0.size : Int) then ((yee.f (a0.extract 1 a0.size) (⟨#[47]⟩ : ByteArray)).bind fun t103 => (if (t103.length : Int) > 6 then (some (([] : List ByteArray), 10)) else (ydr.l0 k t103 t103 (t103.length : Int) 0))) else (none)) else (some (([] : List ByteArray), 10)))))) = some (r1, r2) := h
 clear h
 by_cases c2 : (a0.size : Int) > 102
 ·rw [if_pos c2] at H
  have c2b0 : decide (102 < (a0.size : Int)) = true := decide_eq_true c2
  have c2b1 : decide (102 < a0.size) = true := decide_eq_true (by omega)
  clear c2
  simp only [Option.some.injEq, Prod.mk.injEq] at H
  obtain ⟨rfl, rfl⟩ := H
  go_enter Tryz.func84, Tryz.ntmps84
  go_wp2
  go_ret2
  exact ⟨_, by first | rfl | (simp [zal, zak] <;> rfl) | (simp [*, zal, zak] <;> rfl), by first | exact Kd.R_nil _ _ _ _ _ | exact Kd.N_nil _ _ _ _ _ | exact Kd.V_nil _ _ _ _ _ | exact Kd.Q_nil _ _ _ _ _ | exact Kd.S_nil _ _ _ _ _, by repeat (first | (with_reducible first | exact HB.out | apply zab | apply zaa | apply zac) | exact HB.out)⟩
 ·rw [if_neg c2] at H
  have c2b0 : decide (102 < (a0.size : Int)) = false := decide_eq_false c2
  have c2b1 : decide (102 < a0.size) = false := decide_eq_false (by omega)
  clear c2
  by_cases c3 : a0.toList = ([47] : List UInt8)
  ·rw [if_pos c3] at H
   have c3b0 : (a0.toList == ([47] : List UInt8)) = true := beq_iff_eq.mpr c3
   have c3b1 : (a0.toList != ([47] : List UInt8)) = false := bne_eq_false_iff_eq.mpr c3
   clear c3
   simp only [Option.some.injEq, Prod.mk.injEq] at H
   obtain ⟨rfl, rfl⟩ := H
   go_enter Tryz.func84, Tryz.ntmps84
   go_wp2
   go_ret2
   exact ⟨_, by first | rfl | (simp [zal, zak] <;> rfl) | (simp [*, zal, zak] <;> rfl), by first | exact Kd.R_nil _ _ _ _ _ | exact Kd.N_nil _ _ _ _ _ | exact Kd.V_nil _ _ _ _ _ | exact Kd.Q_nil _ _ _ _ _ | exact Kd.S_nil _ _ _ _ _, by repeat (first | (with_reducible first | exact HB.out | apply zab | apply zaa | apply zac) | exact HB.out)⟩
  ·rw [if_neg c3] at H
   have c3b0 : (a0.toList == ([47] : List UInt8)) = false := beq_eq_false_iff_ne.mpr c3
   have c3b1 : (a0.toList != ([47] : List UInt8)) = true := bne_iff_ne.mpr c3
   replace H := Option.bind_eq_some_iff.mp H
   obtain ⟨t102, A40, H⟩ := H
   replace H : (if t102 = true then (if 1 ≤ (a0.size : Int) then ((yee.f (a0.extract 1 a0.size) (⟨#[47]⟩ : ByteArray)).bind fun t103 => (if (t103.length : Int) > 6 then (some (([] : List ByteArray), 10)) else (ydr.l0 k t103 t103 (t103.length : Int) 0))) else (none)) else (some (([] : List ByteArray), 10))) = some (r1, r2) := H
   have A4 := Aside0.mk A40
   clear A40
   by_cases c5 : t102 = true
   ·subst c5
    have H1 : (if 1 ≤ (a0.size : Int) then ((yee.f (a0.extract 1 a0.size) (⟨#[47]⟩ : ByteArray)).bind fun t103 => (if (t103.length : Int) > 6 then (some (([] : List ByteArray), 10)) else (ydr.l0 k t103 t103 (t103.length : Int) 0))) else (none)) = some (r1, r2) := by rw [if_pos rfl] at H; exact H
    clear H
    have H := H1
    clear H1
    by_cases c6 : 1 ≤ (a0.size : Int)
    ·rw [if_pos c6] at H
     have c6b0 := eq_true c6
     have c6b1 : decide (1 ≤ (a0.size : Int)) = true := decide_eq_true c6
     clear c6
     replace H := Option.bind_eq_some_iff.mp H
     obtain ⟨t103, A70, H⟩ := H
     replace H : (if (t103.length : Int) > 6 then (some (([] : List ByteArray), 10)) else (ydr.l0 k t103 t103 (t103.length : Int) 0)) = some (r1, r2) := H
     have A7 := Aside0.mk A70
     clear A70
     by_cases c8 : (t103.length : Int) > 6
     ·rw [if_pos c8] at H
      have c8b0 : decide (6 < (t103.length : Int)) = true := decide_eq_true c8
      have c8b1 : decide (6 < t103.length) = true := decide_eq_true (by omega)
      clear c8
      simp only [Option.some.injEq, Prod.mk.injEq] at H
      obtain ⟨rfl, rfl⟩ := H
      go_enter Tryz.func84, Tryz.ntmps84
      go_wp2_with (first | ((with_reducible refine zaq (f := 130) rfl ?_); refine zbb (some 13) rfl rfl Tryz.func130 (by kernel_rfl) rfl #[.string a0, .string (⟨#[47]⟩ : ByteArray)] rfl (by (try simp only [List.map_toArray, List.map_cons, List.map_nil]); first | done | rfl | (simp only [List.length_drop, List.length_take]; rfl)) ?_; (with_reducible refine (yej.calls a0 (⟨#[47]⟩ : ByteArray) true _ A4.out).mono ?_); rintro e w' ⟨rfl, ⟨nd, rfl⟩⟩; refine ⟨_, rfl, ?_⟩) | ((with_reducible refine zaq (f := 131) rfl ?_); refine zbb (some 17) rfl rfl Tryz.func131 (by kernel_rfl) rfl #[.string (a0.extract 1 a0.size), .string (⟨#[47]⟩ : ByteArray)] rfl (by (try simp only [List.map_toArray, List.map_cons, List.map_nil]); first | done | rfl | (simp only [List.length_drop, List.length_take]; rfl)) ?_; (with_reducible refine (yee.calls (a0.extract 1 a0.size) (⟨#[47]⟩ : ByteArray) t103 _ ?side1 A7.out).mono ?_); (case side1 => exact Glob.below HG.out (by repeat (first | (with_reducible first | exact HB.out | apply zab | apply zaa | apply zac) | exact HB.out))); rintro e w9 ⟨v104, rfl, ho0, hb⟩; refine ⟨_, rfl, ?_⟩; have n0_ := Aside0.mk (Kd.R_lower ho0 (zan (by repeat (first | (with_reducible first | exact HB.out | apply zab | apply zaa | apply zac) | exact HB.out)))); have n1_ := Aside0.mk (zap (by repeat (first | (with_reducible first | exact HB.out | apply zab | apply zaa | apply zac) | exact HB.out)) hb); clear HB; have HO105 := n0_; have HB := n1_; clear n0_ n1_; (try clear hb); (try clear hb2); (try clear hk); (try clear hi); (try clear ho0); obtain ⟨Ao10, co10, eo10⟩ := Kd.R_slice HO105.out; subst eo10))
      go_ret2
      exact ⟨_, by first | rfl | (simp [zal, zak] <;> rfl) | (simp [*, zal, zak] <;> rfl), by first | exact Kd.R_nil _ _ _ _ _ | exact Kd.N_nil _ _ _ _ _ | exact Kd.V_nil _ _ _ _ _ | exact Kd.Q_nil _ _ _ _ _ | exact Kd.S_nil _ _ _ _ _, by repeat (first | (with_reducible first | exact HB.out | apply zab | apply zaa | apply zac) | exact HB.out)⟩
     ·rw [if_neg c8] at H
      have c8b0 : decide (6 < (t103.length : Int)) = false := decide_eq_false c8
      have c8b1 : decide (6 < t103.length) = false := decide_eq_false (by omega)
      clear c8
      have H' := Aside0.mk H
      clear H
      go_enter Tryz.func84, Tryz.ntmps84
      go_wp2_with (first | ((with_reducible refine zaq (f := 130) rfl ?_); refine zbb (some 13) rfl rfl Tryz.func130 (by kernel_rfl) rfl #[.string a0, .string (⟨#[47]⟩ : ByteArray)] rfl (by (try simp only [List.map_toArray, List.map_cons, List.map_nil]); first | done | rfl | (simp only [List.length_drop, List.length_take]; rfl)) ?_; (with_reducible refine (yej.calls a0 (⟨#[47]⟩ : ByteArray) true _ A4.out).mono ?_); rintro e w' ⟨rfl, ⟨nd, rfl⟩⟩; refine ⟨_, rfl, ?_⟩) | ((with_reducible refine zaq (f := 131) rfl ?_); refine zbb (some 17) rfl rfl Tryz.func131 (by kernel_rfl) rfl #[.string (a0.extract 1 a0.size), .string (⟨#[47]⟩ : ByteArray)] rfl (by (try simp only [List.map_toArray, List.map_cons, List.map_nil]); first | done | rfl | (simp only [List.length_drop, List.length_take]; rfl)) ?_; (with_reducible refine (yee.calls (a0.extract 1 a0.size) (⟨#[47]⟩ : ByteArray) t103 _ ?side1 A7.out).mono ?_); (case side1 => exact Glob.below HG.out (by repeat (first | (with_reducible first | exact HB.out | apply zab | apply zaa | apply zac) | exact HB.out))); rintro e w11 ⟨v104, rfl, ho0, hb⟩; refine ⟨_, rfl, ?_⟩; have n0_ := Aside0.mk (Kd.R_lower ho0 (zan (by repeat (first | (with_reducible first | exact HB.out | apply zab | apply zaa | apply zac) | exact HB.out)))); have n1_ := Aside0.mk (zap (by repeat (first | (with_reducible first | exact HB.out | apply zab | apply zaa | apply zac) | exact HB.out)) hb); clear HB; have HO105 := n0_; have HB := n1_; clear n0_ n1_; (try clear hb); (try clear hb2); (try clear hk); (try clear hi); (try clear ho0); obtain ⟨Ao12, co12, eo12⟩ := Kd.R_slice HO105.out; subst eo12))
      go_loopg [23] k (fun kq v23 w' => ∃ (x23_1 : Int), v23 = .int .i64 x23_1 ∧ Aside0 (ydr.l0 kq t103 t103 (t103.length : Int) x23_1 = some (r1, r2)) ∧ Aside0 (kq ≤ k) ∧ Aside0 (Kd.R Kd.string 9 w' w.heap.size (fun _ => True) (.slice Ao12 t103.length co12) t103) ∧ Aside0 (Kd.R Kd.string 9 w' w.heap.size (fun _ => True) (.slice Ao12 t103.length co12) t103) ∧ Aside0 (Below w.heap.size w w'))
      case atStart => exact ⟨(0), (by first | rfl | (simp; done) | (simp [*]; done)), H', ⟨Nat.le_refl _⟩, ⟨by (with_reducible repeat (first | apply Kd.R_alloc | apply Kd.R_drewN | apply Kd.R_drew)); exact HO105.out⟩, ⟨by (with_reducible repeat (first | apply Kd.R_alloc | apply Kd.R_drewN | apply Kd.R_drew)); exact HO105.out⟩, ⟨by repeat (first | (with_reducible first | exact HB.out | apply zab | apply zaa | apply zac) | exact HB.out)⟩⟩
      case round =>
       clear H'
       try clear c1; try clear c2; try clear c2b0; try clear c2b1; try clear p2; try clear c3; try clear c3b0; try clear c3b1; try clear c5; try clear c6; try clear c6b0; try clear c6b1; try clear c8; try clear c8b0; try clear c8b1
       obtain ⟨x23_1, rfl, HA, HK1, HO_4, HO_21, HB⟩ := hrel
       cases gk with
       | zero => exact absurd HA.out (by simp [ydr.l0])
       | succ k1 =>
        have H := HA.out
        clear HA
        simp only [ydr.l0] at H
        by_cases c13 : x23_1 < (t103.length : Int)
        ·rw [if_pos c13] at H
         have c13b0 : decide (x23_1 < (t103.length : Int)) = true := decide_eq_true c13
         clear c13
         by_cases c14 : 0 ≤ x23_1
         ·rw [if_pos c14] at H
          have c14b0 : decide (0 ≤ x23_1) = true := decide_eq_true c14
          clear c14
          by_cases c15 : x23_1 < (t103.length : Int)
          ·rw [if_pos c15] at H
           have c15b0 : decide (x23_1 < (t103.length : Int)) = true := decide_eq_true c15
           clear c15
           replace H := Option.bind_eq_some_iff.mp H
           obtain ⟨t107, A160, H⟩ := H
           replace H : (if t107 = true then (ydr.l0 k1 t103 t103 (t103.length : Int) (wrap64 (x23_1 + 1))) else (some (([] : List ByteArray), 10))) = some (r1, r2) := H
           have A16 := Aside0.mk A160
           clear A160
           by_cases c17 : t107 = true
           ·subst c17
            have H1 : (ydr.l0 k1 t103 t103 (t103.length : Int) (wrap64 (x23_1 + 1))) = some (r1, r2) := by rw [if_pos rfl] at H; exact H
            clear H
            have H := H1
            clear H1
            have H' := Aside0.mk H
            clear H
            have p106 : 0 ≤ (x23_1 : Int) := of_decide_eq_true (by assumption)
            have q106 : x23_1 < (t103.length : Int) := of_decide_eq_true (by assumption)
            obtain ⟨ad106, e106, hx106_0⟩ := Kd.at_string (Kd.R_reads' HO_21.out).2.2 x23_1 p106 q106
            cases e106
            replace p106 := eq_true p106
            replace q106 := eq_true q106
            go_wp2_with (((with_reducible refine zaq (f := 132) rfl ?_); refine zbb (some 28) rfl rfl Tryz.func132 (by kernel_rfl) rfl #[.string (rdOf ByteArray.empty t103 x23_1)] rfl (by (try simp only [List.map_toArray, List.map_cons, List.map_nil]); first | done | rfl | (simp only [List.length_drop, List.length_take]; rfl)) ?_; (with_reducible refine (yel.calls (rdOf ByteArray.empty t103 x23_1) true _ ?side1 A16.out).mono ?_); (case side1 => exact Glob.below HG.out (by repeat (first | (with_reducible first | exact HB.out | apply zab | apply zaa | apply zac) | exact HB.out))); rintro e w18 ⟨rfl, hb⟩; refine ⟨_, rfl, ?_⟩; have n0_ := Aside0.mk (Kd.R_below (by (with_reducible repeat (first | apply Kd.R_alloc | apply Kd.R_drewN | apply Kd.R_drew)); exact HO_4.out) hb); have n1_ := Aside0.mk (Kd.R_below (by (with_reducible repeat (first | apply Kd.R_alloc | apply Kd.R_drewN | apply Kd.R_drew)); exact HO_21.out) hb); have n2_ := Aside0.mk (zap (by repeat (first | (with_reducible first | exact HB.out | apply zab | apply zaa | apply zac) | exact HB.out)) hb); clear HO_4; clear HO_21; clear HB; have HO_4 := n0_; have HO_21 := n1_; have HB := n2_; clear n0_ n1_ n2_; (try clear hb); (try clear hb2); (try clear hk); (try clear hi)))
            go_roundg k1
            case measure => have := HK1.out; omega
            case rel => exact ⟨(wrap64 (x23_1 + 1)), (by first | rfl | (simp; done) | (simp [*]; done)), H', ⟨by have := HK1.out; omega⟩, ⟨by (with_reducible repeat (first | apply Kd.R_alloc | apply Kd.R_drewN | apply Kd.R_drew)); exact HO_4.out⟩, ⟨by (with_reducible repeat (first | apply Kd.R_alloc | apply Kd.R_drewN | apply Kd.R_drew)); exact HO_21.out⟩, ⟨by repeat (first | (with_reducible first | exact HB.out | apply zab | apply zaa | apply zac) | exact HB.out)⟩⟩
           ·replace c17 := Bool.eq_false_iff.mpr c17
            subst c17
            have H1 : (some (([] : List ByteArray), 10)) = some (r1, r2) := by rw [if_neg (show ¬ (false = true) by decide)] at H; exact H
            clear H
            have H := H1
            clear H1
            simp only [Option.some.injEq, Prod.mk.injEq] at H
            obtain ⟨rfl, rfl⟩ := H
            have p106 : 0 ≤ (x23_1 : Int) := of_decide_eq_true (by assumption)
            have q106 : x23_1 < (t103.length : Int) := of_decide_eq_true (by assumption)
            obtain ⟨ad106, e106, hx106_0⟩ := Kd.at_string (Kd.R_reads' HO_21.out).2.2 x23_1 p106 q106
            cases e106
            replace p106 := eq_true p106
            replace q106 := eq_true q106
            go_wp2_with (((with_reducible refine zaq (f := 132) rfl ?_); refine zbb (some 28) rfl rfl Tryz.func132 (by kernel_rfl) rfl #[.string (rdOf ByteArray.empty t103 x23_1)] rfl (by (try simp only [List.map_toArray, List.map_cons, List.map_nil]); first | done | rfl | (simp only [List.length_drop, List.length_take]; rfl)) ?_; (with_reducible refine (yel.calls (rdOf ByteArray.empty t103 x23_1) false _ ?side1 A16.out).mono ?_); (case side1 => exact Glob.below HG.out (by repeat (first | (with_reducible first | exact HB.out | apply zab | apply zaa | apply zac) | exact HB.out))); rintro e w19 ⟨rfl, hb⟩; refine ⟨_, rfl, ?_⟩; have n0_ := Aside0.mk (Kd.R_below (by (with_reducible repeat (first | apply Kd.R_alloc | apply Kd.R_drewN | apply Kd.R_drew)); exact HO_4.out) hb); have n1_ := Aside0.mk (Kd.R_below (by (with_reducible repeat (first | apply Kd.R_alloc | apply Kd.R_drewN | apply Kd.R_drew)); exact HO_21.out) hb); have n2_ := Aside0.mk (zap (by repeat (first | (with_reducible first | exact HB.out | apply zab | apply zaa | apply zac) | exact HB.out)) hb); clear HO_4; clear HO_21; clear HB; have HO_4 := n0_; have HO_21 := n1_; have HB := n2_; clear n0_ n1_ n2_; (try clear hb); (try clear hb2); (try clear hk); (try clear hi)))
            go_ret2
            exact ⟨_, by first | rfl | (simp [zal, zak] <;> rfl) | (simp [*, zal, zak] <;> rfl), by first | exact Kd.R_nil _ _ _ _ _ | exact Kd.N_nil _ _ _ _ _ | exact Kd.V_nil _ _ _ _ _ | exact Kd.Q_nil _ _ _ _ _ | exact Kd.S_nil _ _ _ _ _, by repeat (first | (with_reducible first | exact HB.out | apply zab | apply zaa | apply zac) | exact HB.out)⟩
          ·rw [if_neg c15] at H
           exact absurd H (by simp)
         ·rw [if_neg c14] at H
          exact absurd H (by simp)
        ·rw [if_neg c13] at H
         have c13b0 : decide (x23_1 < (t103.length : Int)) = false := decide_eq_false c13
         clear c13
         simp only [Option.some.injEq, Prod.mk.injEq] at H
         obtain ⟨rfl, rfl⟩ := H
         go_wp2
         go_ret2
         exact ⟨_, by first | rfl | (simp [zal, zak] <;> rfl) | (simp [*, zal, zak] <;> rfl), by (with_reducible repeat (first | apply Kd.R_alloc | apply Kd.R_drewN | apply Kd.R_drew)); exact HO_4.out, by repeat (first | (with_reducible first | exact HB.out | apply zab | apply zaa | apply zac) | exact HB.out)⟩
    ·rw [if_neg c6] at H
     exact absurd H (by simp)
   ·replace c5 := Bool.eq_false_iff.mpr c5
    subst c5
    have H1 : (some (([] : List ByteArray), 10)) = some (r1, r2) := by rw [if_neg (show ¬ (false = true) by decide)] at H; exact H
    clear H
    have H := H1
    clear H1
    simp only [Option.some.injEq, Prod.mk.injEq] at H
    obtain ⟨rfl, rfl⟩ := H
    go_enter Tryz.func84, Tryz.ntmps84
    go_wp2_with (((with_reducible refine zaq (f := 130) rfl ?_); refine zbb (some 13) rfl rfl Tryz.func130 (by kernel_rfl) rfl #[.string a0, .string (⟨#[47]⟩ : ByteArray)] rfl (by (try simp only [List.map_toArray, List.map_cons, List.map_nil]); first | done | rfl | (simp only [List.length_drop, List.length_take]; rfl)) ?_; (with_reducible refine (yej.calls a0 (⟨#[47]⟩ : ByteArray) false _ A4.out).mono ?_); rintro e w' ⟨rfl, ⟨nd, rfl⟩⟩; refine ⟨_, rfl, ?_⟩))
    go_ret2
    exact ⟨_, by first | rfl | (simp [zal, zak] <;> rfl) | (simp [*, zal, zak] <;> rfl), by first | exact Kd.R_nil _ _ _ _ _ | exact Kd.N_nil _ _ _ _ _ | exact Kd.V_nil _ _ _ _ _ | exact Kd.Q_nil _ _ _ _ _ | exact Kd.S_nil _ _ _ _ _, by repeat (first | (with_reducible first | exact HB.out | apply zab | apply zaa | apply zac) | exact HB.out)⟩
def yef.f (l0 : List ByteArray) : Option (ByteArray) := (yec.f l0 (⟨#[47]⟩ : ByteArray)).bind fun t108 => (if 1 + t108.size ≤ 9223372036854775807 then (some ((⟨#[47]⟩ : ByteArray) ++ t108)) else (none))
set_option maxHeartbeats 8000000 in
set_option maxRecDepth 100000 in
theorem yef.calls (A0 : Option Addr) (c0 : Nat) (l0 : List ByteArray) (r : ByteArray) (w : World) (hr0 : Kd.C Kd.string w A0 l0.length l0) (hc0 : l0.length ≤ c0) (h : yef.f l0 = some r) :
  Calls Tryz.prog 85 #[.slice A0 l0.length c0] w fun e w' => e = .returned (.string r) ∧ Below w.heap.size w w' := by
 have HR0 := Aside0.mk hr0
 have HC0 := Aside0.mk hc0
 clear hr0 hc0
 have HB := Aside0.mk (Below.refl w.heap.size w)
 have H : ((yec.f l0 (⟨#[47]⟩ : ByteArray)).bind fun t108 => (if 1 + t108.size ≤ 9223372036854775807 then (some ((⟨#[47]⟩ : ByteArray) ++ t108)) else (none))) = some r := h
 clear h
 replace H := Option.bind_eq_some_iff.mp H
 obtain ⟨t108, A20, H⟩ := H
 replace H : (if 1 + t108.size ≤ 9223372036854775807 then (some ((⟨#[47]⟩ : ByteArray) ++ t108)) else (none)) = some r := H
 have A2 := Aside0.mk A20
 clear A20
 by_cases c3 : 1 + t108.size ≤ 9223372036854775807
 ·rw [if_pos c3] at H
  have c3b0 := eq_true c3
  have c3b1 : decide (1 + t108.size ≤ 9223372036854775807) = true := decide_eq_true c3
  try have c3b2 : (9223372036854775807 < 1 + t108.size) = False := eq_false (Nat.not_lt.2 c3)
  obtain rfl := Option.some.inj H
  go_enter Tryz.func85, Tryz.ntmps85
  go_wp2_with (((with_reducible refine zaq (f := 122) rfl ?_); refine zbb (some 4) rfl rfl Tryz.func122 (by kernel_rfl) rfl #[.slice A0 l0.length c0, .string (⟨#[47]⟩ : ByteArray)] rfl (by (try simp only [List.map_toArray, List.map_cons, List.map_nil]); first | done | rfl | (simp only [List.length_drop, List.length_take]; rfl)) ?_; (with_reducible refine (yec.calls _ _ l0 (⟨#[47]⟩ : ByteArray) t108 _ ?side1 ?side2 A2.out).mono ?_); (case side1 => repeat (first | exact HR0.out | (with_reducible refine Kd.C_alloc ?_ _) | (with_reducible refine Kd.C_drewN ?_ _) | (with_reducible refine Kd.C_drew ?_))); (case side2 => exact HC0.out); rintro e w4 ⟨rfl, hb⟩; refine ⟨_, rfl, ?_⟩; have n0_ := Aside0.mk (zap (by repeat (first | (with_reducible first | exact HB.out | apply zab | apply zaa | apply zac) | exact HB.out)) hb); clear HB; have HB := n0_; clear n0_; (try clear hb); (try clear hb2); (try clear hk); (try clear hi)))
  go_ret
  exact ⟨by first | rfl | (simp [zal, zak] <;> rfl) | (simp [*, zal, zak] <;> rfl), by repeat (first | (with_reducible first | exact HB.out | apply zab | apply zaa | apply zac) | exact HB.out)⟩
 ·rw [if_neg c3] at H
  exact absurd H (by simp)
def yen.f (k : Nat) (a0 : ByteArray) : Option (ByteArray × Int) := (ydr.f k a0).bind fun bt109 => (if bt109.2 = 0 then (if (bt109.1.length : Int) = 0 then (some ((⟨#[]⟩ : ByteArray), 47)) else (if 0 ≤ (wrap64 ((bt109.1.length : Int) - 1)) then (if (wrap64 ((bt109.1.length : Int) - 1)) ≤ (bt109.1.length : Int) then ((yef.f (bt109.1.take ((wrap64 ((bt109.1.length : Int) - 1)) : Int).toNat)).bind fun t117 => (some (t117, 0))) else (none)) else (none))) else (some ((⟨#[]⟩ : ByteArray), bt109.2)))
set_option maxHeartbeats 8000000 in
set_option maxRecDepth 100000 in
theorem yen.calls (k : Nat) (a0 : ByteArray) (r1 : ByteArray) (r2 : Int) (w : World) (hG : Glob w) (h : yen.f k a0 = some (r1, r2)) :
  Calls Tryz.prog 43 #[.string a0] w fun e w' => e = .returned (.tuple #[.string r1, .int .i64 r2]) ∧ Below w.heap.size w w' := by
 have HB := Aside0.mk (Below.refl w.heap.size w)
 have HG := Aside0.mk hG
 clear hG
 have H : ((ydr.f k a0).bind fun bt109 => (if bt109.2 = 0 then (if (bt109.1.length : Int) = 0 then (some ((⟨#[]⟩ : ByteArray), 47)) else (if 0 ≤ (wrap64 ((bt109.1.length : Int) - 1)) then (if (wrap64 ((bt109.1.length : Int) - 1)) ≤ (bt109.1.length : Int) then ((yef.f (bt109.1.take ((wrap64 ((bt109.1.length : Int) - 1)) : Int).toNat)).bind fun t117 => (some (t117, 0))) else (none)) else (none))) else (some ((⟨#[]⟩ : ByteArray), bt109.2)))) = some (r1, r2) := h
 clear h
 replace H := Option.bind_eq_some_iff.mp H
 obtain ⟨⟨t109, t110⟩, A20, H⟩ := H
 replace H : (if t110 = 0 then (if (t109.length : Int) = 0 then (some ((⟨#[]⟩ : ByteArray), 47)) else (if 0 ≤ (wrap64 ((t109.length : Int) - 1)) then (if (wrap64 ((t109.length : Int) - 1)) ≤ (t109.length : Int) then ((yef.f (t109.take ((wrap64 ((t109.length : Int) - 1)) : Int).toNat)).bind fun t117 => (some (t117, 0))) else (none)) else (none))) else (some ((⟨#[]⟩ : ByteArray), t110))) = some (r1, r2) := H
 have A2 := Aside0.mk A20
 clear A20
 by_cases c3 : t110 = 0
 ·rw [if_pos c3] at H
  have c3b0 : (t110 == 0) = true := beq_iff_eq.mpr c3
  have c3b1 : (t110 != 0) = false := bne_eq_false_iff_eq.mpr c3
  clear c3
  by_cases c4 : (t109.length : Int) = 0
  ·rw [if_pos c4] at H
   have c4b0 : ((t109.length : Int) == 0) = true := beq_iff_eq.mpr c4
   have c4b1 : ((t109.length : Int) != 0) = false := bne_eq_false_iff_eq.mpr c4
   clear c4
   simp only [Option.some.injEq, Prod.mk.injEq] at H
   obtain ⟨rfl, rfl⟩ := H
   go_enter Tryz.func43, Tryz.ntmps43
   go_wp2_with (((with_reducible refine zaq (f := 84) rfl ?_); refine zbb (some 8) rfl rfl Tryz.func84 (by kernel_rfl) rfl #[.string a0] rfl (by (try simp only [List.map_toArray, List.map_cons, List.map_nil]); first | done | rfl | (simp only [List.length_drop, List.length_take]; rfl)) ?_; (with_reducible refine (ydr.calls k a0 t109 t110 _ ?side1 A2.out).mono ?_); (case side1 => exact Glob.below HG.out (by repeat (first | (with_reducible first | exact HB.out | apply zab | apply zaa | apply zac) | exact HB.out))); rintro e w5 ⟨v111, rfl, ho0, hb⟩; refine ⟨_, rfl, ?_⟩; have n0_ := Aside0.mk (Kd.R_lower ho0 (zan (by repeat (first | (with_reducible first | exact HB.out | apply zab | apply zaa | apply zac) | exact HB.out)))); have n1_ := Aside0.mk (zap (by repeat (first | (with_reducible first | exact HB.out | apply zab | apply zaa | apply zac) | exact HB.out)) hb); clear HB; have HO112 := n0_; have HB := n1_; clear n0_ n1_; (try clear hb); (try clear hb2); (try clear hk); (try clear hi); (try clear ho0); obtain ⟨Ao6, co6, eo6⟩ := Kd.R_slice HO112.out; subst eo6))
   go_ret2
   exact ⟨by first | rfl | (simp [zal, zak] <;> rfl) | (simp [*, zal, zak] <;> rfl), by repeat (first | (with_reducible first | exact HB.out | apply zab | apply zaa | apply zac) | exact HB.out)⟩
  ·rw [if_neg c4] at H
   have c4b0 : ((t109.length : Int) == 0) = false := beq_eq_false_iff_ne.mpr c4
   have c4b1 : ((t109.length : Int) != 0) = true := bne_iff_ne.mpr c4
   have c4b2 : ¬ (t109 = []) := fun h_ => c4 (by rw [h_]; rfl)
   obtain ⟨ji7, hji7⟩ : ∃ j_ : Int, (wrap64 ((t109.length : Int) - 1)) = j_ := ⟨_, rfl⟩
   replace H : (if 0 ≤ (ji7) then (if (ji7) ≤ (t109.length : Int) then ((yef.f (t109.take ((ji7) : Int).toNat)).bind fun t117 => (some (t117, 0))) else (none)) else (none)) = some (r1, r2) := by first | (rw [hji7] at H; exact H) | (simp only [hji7] at H ⊢; exact H)
   (try rw [hji7] at A2)
   have hji7w : (IntKind.i64.wrap ((t109.length : Int) - 1)) = ji7 := (zbp _).trans hji7
   by_cases c8 : 0 ≤ (ji7)
   ·rw [if_pos c8] at H
    have c8b0 := eq_true c8
    have c8b1 : decide (0 ≤ (ji7)) = true := decide_eq_true c8
    clear c8
    by_cases c9 : (ji7) ≤ (t109.length : Int)
    ·rw [if_pos c9] at H
     have c9b0 := eq_true c9
     have c9b1 : decide ((ji7) ≤ (t109.length : Int)) = true := decide_eq_true c9
     clear c9
     obtain ⟨y113, hy113⟩ : ∃ y_ : List ByteArray, y_ = (t109.take ((ji7) : Int).toNat) := ⟨_, rfl⟩
     replace H : ((yef.f y113).bind fun t117 => (some (t117, 0))) = some (r1, r2) := by first | (rw [hy113]; with_reducible exact H) | (have H2_ := (Option.bind_some _ _).symm.trans H; rw [hy113]; with_reducible exact H2_) | (have H2_ := (Option.bind_some _ _).symm.trans H; with_reducible exact H2_) | with_reducible exact H | (rw [hy113]; exact H) | exact H
     have Ny113 := Aside0.mk hy113
     clear hy113
     replace H := Option.bind_eq_some_iff.mp H
     obtain ⟨t117, A100, H⟩ := H
     replace H : (some (t117, 0)) = some (r1, r2) := H
     have A10 := Aside0.mk A100
     clear A100
     simp only [Option.some.injEq, Prod.mk.injEq] at H
     obtain ⟨rfl, rfl⟩ := H
     go_enter Tryz.func43, Tryz.ntmps43
     go_wp2_with (first | ((with_reducible refine zaq (f := 84) rfl ?_); refine zbb (some 8) rfl rfl Tryz.func84 (by kernel_rfl) rfl #[.string a0] rfl (by (try simp only [List.map_toArray, List.map_cons, List.map_nil]); first | done | rfl | (simp only [List.length_drop, List.length_take]; rfl)) ?_; (with_reducible refine (ydr.calls k a0 t109 t110 _ ?side1 A2.out).mono ?_); (case side1 => exact Glob.below HG.out (by repeat (first | (with_reducible first | exact HB.out | apply zab | apply zaa | apply zac) | exact HB.out))); rintro e w11 ⟨v111, rfl, ho0, hb⟩; refine ⟨_, rfl, ?_⟩; have n0_ := Aside0.mk (Kd.R_lower ho0 (zan (by repeat (first | (with_reducible first | exact HB.out | apply zab | apply zaa | apply zac) | exact HB.out)))); have n1_ := Aside0.mk (zap (by repeat (first | (with_reducible first | exact HB.out | apply zab | apply zaa | apply zac) | exact HB.out)) hb); clear HB; have HO112 := n0_; have HB := n1_; clear n0_ n1_; (try clear hb); (try clear hb2); (try clear hk); (try clear hi); (try clear ho0); obtain ⟨Ao12, co12, eo12⟩ := Kd.R_slice HO112.out; subst eo12; have q13 : ((ji7) : Int) ≤ ((t109.length : Int) : Int) := of_decide_eq_true (by assumption); obtain ⟨i013, hi013, _, hsz13, _⟩ := info_parts info9; have hroom13 : t109.length ≤ co12 := (Kd.R_reads' HO112.out).2.1; have hC13 : Kd.C Kd.string _ Ao12 t109.length t109 := (Kd.R_reads' HO112.out).2.2; have hcut13 := cut_to (P := Tryz.prog) 41 9 .i64 Tryz.underlying41 hi013 Ao12 t109.length co12 (ji7) (of_decide_eq_true (by assumption)) q13 hroom13; have hr13 := Kd.C_take (m := ((ji7) : Int).toNat) hC13 (by omega); have hy13 : y113.length = ((ji7) : Int).toNat := (by rw [Ny113.out, List.length_take]; omega); rw [← Ny113.out] at hr13; rw [← hy13] at hcut13; have HR116 := Aside0.mk hr13; have HC116 := Aside0.mk (show y113.length ≤ co12 from by omega); clear hr13 hC13 hroom13 hi013 hsz13; have KY13 := Aside0.mk hy13; clear hy13; have KL13 := Aside0.mk (show ((ji7) : Int).toNat ≤ t109.length from by omega); replace q13 := eq_true q13) | ((with_reducible refine zaq (f := 85) rfl ?_); refine zbb (some 22) rfl rfl Tryz.func85 (by kernel_rfl) rfl #[.slice Ao12 y113.length co12] rfl (by (try simp only [List.map_toArray, List.map_cons, List.map_nil]); first | done | rfl | (simp only [List.length_drop, List.length_take]; rfl)) ?_; (with_reducible refine (yef.calls _ _ y113 t117 _ ?side1 ?side2 A10.out).mono ?_); (case side1 => repeat (first | exact (by repeat (first | (with_reducible exact HR116.out) | (with_reducible refine Kd.C_alloc ?_ _) | (with_reducible refine Kd.C_drewN ?_ _) | (with_reducible refine Kd.C_drew ?_) | exact HR116.out)) | (with_reducible refine Kd.C_alloc ?_ _) | (with_reducible refine Kd.C_drewN ?_ _) | (with_reducible refine Kd.C_drew ?_))); (case side2 => exact HC116.out); rintro e w14 ⟨rfl, hb⟩; refine ⟨_, rfl, ?_⟩; have n0_ := Aside0.mk (Kd.R_below (by (with_reducible repeat (first | apply Kd.R_alloc | apply Kd.R_drewN | apply Kd.R_drew)); exact HO112.out) hb); have n1_ := Aside0.mk (Kd.C_below (by repeat (first | (with_reducible exact HR116.out) | (with_reducible refine Kd.C_alloc ?_ _) | (with_reducible refine Kd.C_drewN ?_ _) | (with_reducible refine Kd.C_drew ?_) | exact HR116.out)) hb); have n2_ := Aside0.mk (zap (by repeat (first | (with_reducible first | exact HB.out | apply zab | apply zaa | apply zac) | exact HB.out)) hb); clear HO112; clear HR116; clear HB; have HO112 := n0_; have HR116 := n1_; have HB := n2_; clear n0_ n1_ n2_; (try clear hb); (try clear hb2); (try clear hk); (try clear hi)))
     go_ret2
     exact ⟨by first | rfl | (simp [zal, zak] <;> rfl) | (simp only [← hji7]; first | rfl | (simp [zal, zak] <;> rfl)) | (simp [*, zal, zak] <;> rfl), by repeat (first | (with_reducible first | exact HB.out | apply zab | apply zaa | apply zac) | exact HB.out)⟩
    ·rw [if_neg c9] at H
     exact absurd H (by simp)
   ·rw [if_neg c8] at H
    exact absurd H (by simp)
 ·rw [if_neg c3] at H
  have c3b0 : (t110 == 0) = false := beq_eq_false_iff_ne.mpr c3
  have c3b1 : (t110 != 0) = true := bne_iff_ne.mpr c3
  simp only [Option.some.injEq, Prod.mk.injEq] at H
  obtain ⟨rfl, rfl⟩ := H
  go_enter Tryz.func43, Tryz.ntmps43
  go_wp2_with (((with_reducible refine zaq (f := 84) rfl ?_); refine zbb (some 8) rfl rfl Tryz.func84 (by kernel_rfl) rfl #[.string a0] rfl (by (try simp only [List.map_toArray, List.map_cons, List.map_nil]); first | done | rfl | (simp only [List.length_drop, List.length_take]; rfl)) ?_; (with_reducible refine (ydr.calls k a0 t109 t110 _ ?side1 A2.out).mono ?_); (case side1 => exact Glob.below HG.out (by repeat (first | (with_reducible first | exact HB.out | apply zab | apply zaa | apply zac) | exact HB.out))); rintro e w15 ⟨v111, rfl, ho0, hb⟩; refine ⟨_, rfl, ?_⟩; have n0_ := Aside0.mk (Kd.R_lower ho0 (zan (by repeat (first | (with_reducible first | exact HB.out | apply zab | apply zaa | apply zac) | exact HB.out)))); have n1_ := Aside0.mk (zap (by repeat (first | (with_reducible first | exact HB.out | apply zab | apply zaa | apply zac) | exact HB.out)) hb); clear HB; have HO112 := n0_; have HB := n1_; clear n0_ n1_; (try clear hb); (try clear hb2); (try clear hk); (try clear hi); (try clear ho0)))
  go_ret2
  exact ⟨by first | rfl | (simp [zal, zak] <;> rfl) | (simp [*, zal, zak] <;> rfl), by repeat (first | (with_reducible first | exact HB.out | apply zab | apply zaa | apply zac) | exact HB.out)⟩
def yem.f (l0 : List ByteArray) : Option (ByteArray) := (yec.f l0 (⟨#[32]⟩ : ByteArray)).bind fun t118 => (some t118)
set_option maxHeartbeats 8000000 in
set_option maxRecDepth 100000 in
theorem yem.calls (A0 : Option Addr) (c0 : Nat) (l0 : List ByteArray) (r : ByteArray) (w : World) (hr0 : Kd.C Kd.string w A0 l0.length l0) (hc0 : l0.length ≤ c0) (h : yem.f l0 = some r) :
  Calls Tryz.prog 68 #[.slice A0 l0.length c0] w fun e w' => e = .returned (.string r) ∧ Below w.heap.size w w' := by
 have HR0 := Aside0.mk hr0
 have HC0 := Aside0.mk hc0
 clear hr0 hc0
 have HB := Aside0.mk (Below.refl w.heap.size w)
 have H : ((yec.f l0 (⟨#[32]⟩ : ByteArray)).bind fun t118 => (some t118)) = some r := h
 clear h
 replace H := Option.bind_eq_some_iff.mp H
 obtain ⟨t118, A20, H⟩ := H
 replace H : (some t118) = some r := H
 have A2 := Aside0.mk A20
 clear A20
 obtain rfl := Option.some.inj H
 go_enter Tryz.func68, Tryz.ntmps68
 go_wp2_with (((with_reducible refine zaq (f := 122) rfl ?_); refine zbb (some 4) rfl rfl Tryz.func122 (by kernel_rfl) rfl #[.slice A0 l0.length c0, .string (⟨#[32]⟩ : ByteArray)] rfl (by (try simp only [List.map_toArray, List.map_cons, List.map_nil]); first | done | rfl | (simp only [List.length_drop, List.length_take]; rfl)) ?_; (with_reducible refine (yec.calls _ _ l0 (⟨#[32]⟩ : ByteArray) t118 _ ?side1 ?side2 A2.out).mono ?_); (case side1 => repeat (first | exact HR0.out | (with_reducible refine Kd.C_alloc ?_ _) | (with_reducible refine Kd.C_drewN ?_ _) | (with_reducible refine Kd.C_drew ?_))); (case side2 => exact HC0.out); rintro e w3 ⟨rfl, hb⟩; refine ⟨_, rfl, ?_⟩; have n0_ := Aside0.mk (zap (by repeat (first | (with_reducible first | exact HB.out | apply zab | apply zaa | apply zac) | exact HB.out)) hb); clear HB; have HB := n0_; clear n0_; (try clear hb); (try clear hb2); (try clear hk); (try clear hi)))
 go_ret
 exact ⟨by first | rfl | (simp [zal, zak] <;> rfl) | (simp [*, zal, zak] <;> rfl), by repeat (first | (with_reducible first | exact HB.out | apply zab | apply zaa | apply zac) | exact HB.out)⟩
def tool_number.f (a0 : Int) : Option (ByteArray) := (yei.f a0).bind fun t119 => (some t119)
set_option maxHeartbeats 8000000 in
set_option maxRecDepth 100000 in
theorem tool_number.calls (a0 : Int) (r : ByteArray) (w : World) (hG : Glob w) (h : tool_number.f a0 = some r) :
  Calls Tryz.prog 69 #[.int .i64 a0] w fun e w' => e = .returned (.string r) ∧ Below w.heap.size w w' := by
 have HB := Aside0.mk (Below.refl w.heap.size w)
 have HG := Aside0.mk hG
 clear hG
 have H : ((yei.f a0).bind fun t119 => (some t119)) = some r := h
 clear h
 replace H := Option.bind_eq_some_iff.mp H
 obtain ⟨t119, A20, H⟩ := H
 replace H : (some t119) = some r := H
 have A2 := Aside0.mk A20
 clear A20
 obtain rfl := Option.some.inj H
 go_enter Tryz.func69, Tryz.ntmps69
 go_wp2_with (((with_reducible refine zaq (f := 123) rfl ?_); refine zbb (some 4) rfl rfl Tryz.func123 (by kernel_rfl) rfl #[.int .i64 a0] rfl (by (try simp only [List.map_toArray, List.map_cons, List.map_nil]); first | done | rfl | (simp only [List.length_drop, List.length_take]; rfl)) ?_; (with_reducible refine (yei.calls a0 t119 _ ?side1 A2.out).mono ?_); (case side1 => exact Glob.below HG.out (by repeat (first | (with_reducible first | exact HB.out | apply zab | apply zaa | apply zac) | exact HB.out))); rintro e w3 ⟨rfl, hb⟩; refine ⟨_, rfl, ?_⟩; have n0_ := Aside0.mk (zap (by repeat (first | (with_reducible first | exact HB.out | apply zab | apply zaa | apply zac) | exact HB.out)) hb); clear HB; have HB := n0_; clear n0_; (try clear hb); (try clear hb2); (try clear hk); (try clear hi)))
 go_ret
 exact ⟨by first | rfl | (simp [zal, zak] <;> rfl) | (simp [*, zal, zak] <;> rfl), by repeat (first | (with_reducible first | exact HB.out | apply zab | apply zaa | apply zac) | exact HB.out)⟩
def ydz.l0 : Nat → List (S74) → Int → List (S74) → Option ((List (S74)))
 | 0, _, _, _ => none
 | k + 1, x3, x4, x121000 => if x4 < (x121000.length : Int) then (if 0 ≤ x4 then (if x3.length < 1954687338268 then (ydz.l0 k (x3 ++ [(⟨(zam x121000 x4).f0, (zam x121000 x4).f1, (zam x121000 x4).f2, (zam x121000 x4).f3, (zam x121000 x4).f4, (zam x121000 x4).f5, (zam x121000 x4).f6⟩ : S74)]) (wrap64 (x4 + 1)) x121000) else (none)) else (none)) else (some x3)
def ydz.f (k : Nat) (l0_0 : List (S74)) : Option ((List (S74))) := ydz.l0 k ([] : List (S74)) 0 l0_0
set_option maxHeartbeats 8000000 in
set_option maxRecDepth 100000 in
theorem ydz.calls (k : Nat) (A0_0 : Option Addr) (c0_0 : Nat) (l0_0 : List (S74)) (r : List (S74)) (w : World) (hr0_0 : Kd.C k74 w A0_0 l0_0.length l0_0) (hc0_0 : l0_0.length ≤ c0_0) (h : ydz.f k l0_0 = some r) :
  Calls Tryz.prog 33 #[.agg #[.slice A0_0 l0_0.length c0_0]] w fun e w' => ∃ v0_ : Value, e = .returned (v0_) ∧ Kd.R k74 74 w' w.heap.size (fun _ => True) v0_ r ∧ Below w.heap.size w w' := by
 have hu28 := Tryz.underlying28
 have hu74 := Tryz.underlying74
 have HR0_0 := Aside0.mk hr0_0
 have HC0_0 := Aside0.mk hc0_0
 clear hr0_0 hc0_0
 have HB := Aside0.mk (Below.refl w.heap.size w)
 have H : (ydz.l0 k ([] : List (S74)) 0 l0_0) = some r := h
 clear h
 have H' := Aside0.mk H
 clear H
 go_enter Tryz.func33, Tryz.ntmps33
 go_wp2_with (((with_reducible refine zby (N := 1) rfl ?_); refine zbr ?hg (N := 1) ?hd (cs := #[.slice A0_0 l0_0.length c0_0]) (t := 28) ?hr ?_; (case hd => rfl); (case hg => rfl); (case hr => first | (go_simp; done) | (go_simp; rfl)); intro gb120 hg w2 hbox hb; have n0_ := Aside0.mk (zap (by repeat (first | (with_reducible first | exact HB.out | apply zab | apply zaa | apply zac) | exact HB.out)) hb); have n1_ := Aside0.mk (hbox); have n2_ := Aside0.mk ((by rw [hg]; exact (zan (by repeat (first | (with_reducible first | exact HB.out | apply zab | apply zaa | apply zac) | exact HB.out))) : w.heap.size ≤ gb120)); have n3_ := Aside0.mk ((by rw [hg]; exact (zan (by repeat (first | (with_reducible first | exact HB.out | apply zab | apply zaa | apply zac) | exact HB.out))) : w.heap.size ≤ gb120)); clear HB; have HB := n0_; have BK120 := n1_; have GW120 := n2_; have GE120 := n3_; clear n0_ n1_ n2_ n3_; clear hb hbox hg))
 go_loopg [3, 4] k (fun kq v3 v4 w' => ∃ (x3_1 : List (S74)) (x4_1 : Int), v4 = .int .i64 x4_1 ∧ Aside0 (ydz.l0 kq x3_1 x4_1 l0_0 = some r) ∧ Aside0 (kq ≤ k) ∧ Aside0 (Kd.R k74 74 w' w.heap.size (fun _ => True) v3 x3_1) ∧ Aside0 (w'.heap[gb120]? = some (.cells #[(.slice A0_0 l0_0.length c0_0)] 28 (0, 0))) ∧ Aside0 (Below w.heap.size w w'))
 case atStart => exact ⟨(([] : List (S74))), (0), (by first | rfl | (simp; done) | (simp [*]; done)), H', ⟨Nat.le_refl _⟩, ⟨by first | exact Kd.R_nil _ _ _ _ _ | exact Kd.N_nil _ _ _ _ _ | exact Kd.V_nil _ _ _ _ _ | exact Kd.Q_nil _ _ _ _ _ | exact Kd.S_nil _ _ _ _ _⟩, ⟨by (with_reducible repeat (first | refine zae ?_ _ | refine zag ?_ | refine zaf ?_ _)); exact BK120.out⟩, ⟨by repeat (first | (with_reducible first | exact HB.out | apply zab | apply zaa | apply zac | refine zai ?_ GE120.out) | exact HB.out)⟩⟩
 case round =>
  clear H'
  try clear p2
  obtain ⟨x3_1, x4_1, rfl, HA, HK1, HO_3, BK120, HB⟩ := hrel
  cases gk with
  | zero => exact absurd HA.out (by simp [ydz.l0])
  | succ k1 =>
   have H := HA.out
   clear HA
   simp only [ydz.l0] at H
   by_cases c3 : x4_1 < (l0_0.length : Int)
   ·rw [if_pos c3] at H
    have c3b0 : decide (x4_1 < (l0_0.length : Int)) = true := decide_eq_true c3
    clear c3
    by_cases c4 : 0 ≤ x4_1
    ·rw [if_pos c4] at H
     have c4b0 : decide (0 ≤ x4_1) = true := decide_eq_true c4
     clear c4
     by_cases c5 : x3_1.length < 1954687338268
     ·rw [if_pos c5] at H
      have LMc5 := Aside0.mk c5
      clear c5
      obtain ⟨y122, hy122⟩ : ∃ y_ : List (S74), y_ = (x3_1 ++ [(⟨(zam l0_0 x4_1).f0, (zam l0_0 x4_1).f1, (zam l0_0 x4_1).f2, (zam l0_0 x4_1).f3, (zam l0_0 x4_1).f4, (zam l0_0 x4_1).f5, (zam l0_0 x4_1).f6⟩ : S74)]) := ⟨_, rfl⟩
      replace H : (ydz.l0 k1 y122 (wrap64 (x4_1 + 1)) l0_0) = some r := by first | (rw [hy122]; with_reducible exact H) | (have H2_ := (Option.bind_some _ _).symm.trans H; rw [hy122]; with_reducible exact H2_) | (have H2_ := (Option.bind_some _ _).symm.trans H; with_reducible exact H2_) | with_reducible exact H | (rw [hy122]; exact H) | exact H
      have Ny122 := Aside0.mk hy122
      clear hy122
      have H' := Aside0.mk H
      clear H
      have hcz6_0 : wr.cell? ⟨gb120, 0, none⟩ = some (.slice A0_0 l0_0.length c0_0) := (zah BK120.out 0).trans rfl
      have hfz6_0 := zad BK120.out 0
      have p121 : 0 ≤ (x4_1 : Int) := of_decide_eq_true (by assumption)
      have q121 : x4_1 < (l0_0.length : Int) := of_decide_eq_true (by assumption)
      obtain ⟨ad121, e121, hx121_0, hx121_1, hx121_2, hx121_3, hx121_4, hx121_5, hx121_6⟩ := zda HR0_0.out x4_1 p121 q121
      cases e121
      replace hx121_0 := (HB.out.cell (World.block_lt_of_cell? w _ hx121_0)).trans hx121_0
      replace hx121_1 := (HB.out.cell (World.block_lt_of_cell? w _ hx121_1)).trans hx121_1
      replace hx121_2 := (HB.out.cell (World.block_lt_of_cell? w _ hx121_2)).trans hx121_2
      replace hx121_3 := (HB.out.cell (World.block_lt_of_cell? w _ hx121_3)).trans hx121_3
      replace hx121_4 := (HB.out.cell (World.block_lt_of_cell? w _ hx121_4)).trans hx121_4
      replace hx121_5 := (HB.out.cell (World.block_lt_of_cell? w _ hx121_5)).trans hx121_5
      replace hx121_6 := (HB.out.cell (World.block_lt_of_cell? w _ hx121_6)).trans hx121_6
      replace p121 := eq_true p121
      replace q121 := eq_true q121
      go_wp2_with (((with_reducible refine zax (b := .append) (xs := #[.tmp 12, .tmp 18]) rfl ?_); at_builtin; refine Kd.R_append k74 (w0 := w) w.heap.size rfl (.tmp 12) (.tmp 18) 26 74 (.agg #[(.string ⟨#[]⟩), (.string ⟨#[]⟩), (.int .i64 0), (.int .i64 0), (.int .i64 0), (.int .i64 0), (.int .i64 0)]) 72 rfl Tryz.underlying26 info74 rfl (by decide) (by omega) u3 x3_1 (⟨(zam l0_0 x4_1).f0, (zam l0_0 x4_1).f1, (zam l0_0 x4_1).f2, (zam l0_0 x4_1).f3, (zam l0_0 x4_1).f4, (zam l0_0 x4_1).f5, (zam l0_0 x4_1).f6⟩ : S74) [.string ((zam l0_0 x4_1).f0), .string ((zam l0_0 x4_1).f1), .int .i64 ((zam l0_0 x4_1).f2), .int .i64 ((zam l0_0 x4_1).f3), .int .i64 ((zam l0_0 x4_1).f4), .int .i64 ((zam l0_0 x4_1).f5), .int .i64 ((zam l0_0 x4_1).f6)] (fun _ => True) (fun _ => False) rfl rfl ?aP (fun _ hk => hk.elim) ?aF ?aO ?aB ?aS ?aL ?_; (case aP => exact k74_mkM _ _ _ (⟨(zam l0_0 x4_1).f0, (zam l0_0 x4_1).f1, (zam l0_0 x4_1).f2, (zam l0_0 x4_1).f3, (zam l0_0 x4_1).f4, (zam l0_0 x4_1).f5, (zam l0_0 x4_1).f6⟩ : S74)); (case aB => exact (by repeat (first | (with_reducible first | exact HB.out | apply zab | apply zaa | apply zac | refine zai ?_ GE120.out) | exact HB.out))); (case aF => exact (fun _ _ => trivial)); (case aO => exact (by (with_reducible repeat (first | apply Kd.R_alloc | apply Kd.R_drewN | apply Kd.R_drew)); exact HO_3.out)); (case aS => exact (zan (by repeat (first | (with_reducible first | exact HB.out | apply zab | apply zaa | apply zac | refine zai ?_ GE120.out) | exact HB.out)))); (case aL => have := LMc5.out; omega); intro v123 w7 ho hb hg hat; rw [← Ny122.out] at ho; have n0_ := Aside0.mk (blk_grown (g := gb120) (o := .cells #[.slice (some ad121) l0_0.length c0_0] 28 (0, 0)) (by (with_reducible repeat (first | refine zae ?_ _ | refine zag ?_ | refine zaf ?_ _)); exact BK120.out) hg (Kd.R_ne HO_3.out BK120.out (by decide))); have n1_ := Aside0.mk (hb); have n2_ := Aside0.mk (ho); clear BK120; clear HB; clear HO_3; have BK120 := n0_; have HB := n1_; have HO124 := n2_; clear n0_ n1_ n2_; clear ho hb hg hat))
      go_roundg k1
      case measure => have := HK1.out; omega
      case rel => exact ⟨(y122), (wrap64 (x4_1 + 1)), (by first | rfl | (simp; done) | (simp [*]; done)), H', ⟨by have := HK1.out; omega⟩, ⟨by (with_reducible repeat (first | apply Kd.R_alloc | apply Kd.R_drewN | apply Kd.R_drew)); exact HO124.out⟩, ⟨by (with_reducible repeat (first | refine zae ?_ _ | refine zag ?_ | refine zaf ?_ _)); exact BK120.out⟩, ⟨by repeat (first | (with_reducible first | exact HB.out | apply zab | apply zaa | apply zac | refine zai ?_ GE120.out) | exact HB.out)⟩⟩
     ·rw [if_neg c5] at H
      exact absurd H (by simp)
    ·rw [if_neg c4] at H
     exact absurd H (by simp)
   ·rw [if_neg c3] at H
    have c3b0 : decide (x4_1 < (l0_0.length : Int)) = false := decide_eq_false c3
    clear c3
    obtain rfl := Option.some.inj H
    have hcz8_0 : wr.cell? ⟨gb120, 0, none⟩ = some (.slice A0_0 l0_0.length c0_0) := (zah BK120.out 0).trans rfl
    have hfz8_0 := zad BK120.out 0
    go_wp2
    go_ret
    exact ⟨_, by first | rfl | (simp [zal, zak] <;> rfl) | (simp [*, zal, zak] <;> rfl), by (with_reducible repeat (first | apply Kd.R_alloc | apply Kd.R_drewN | apply Kd.R_drew)); exact HO_3.out, by repeat (first | (with_reducible first | exact HB.out | apply zab | apply zaa | apply zac | refine zai ?_ GE120.out) | exact HB.out)⟩
def yep.f  : Option (List ByteArray) := some (([(⟨#[100, 97, 116, 97]⟩ : ByteArray), (⟨#[118, 101, 114, 115, 105, 111, 110]⟩ : ByteArray), (⟨#[109, 97, 100, 101]⟩ : ByteArray), (⟨#[99, 104, 97, 110, 103, 101, 100]⟩ : ByteArray), (⟨#[111, 119, 110, 101, 114]⟩ : ByteArray), (⟨#[99, 111, 117, 110, 116, 101, 114]⟩ : ByteArray)] : List ByteArray))
set_option maxHeartbeats 8000000 in
set_option maxRecDepth 100000 in
theorem yep.calls  (r : List ByteArray) (w : World) (h : yep.f  = some r) :
  Calls Tryz.prog 59 #[] w fun e w' => ∃ v0_ : Value, e = .returned (v0_) ∧ Kd.R Kd.string 9 w' w.heap.size (fun _ => True) v0_ r ∧ Below w.heap.size w w' := by
 have HB := Aside0.mk (Below.refl w.heap.size w)
 have H : (some (([(⟨#[100, 97, 116, 97]⟩ : ByteArray), (⟨#[118, 101, 114, 115, 105, 111, 110]⟩ : ByteArray), (⟨#[109, 97, 100, 101]⟩ : ByteArray), (⟨#[99, 104, 97, 110, 103, 101, 100]⟩ : ByteArray), (⟨#[111, 119, 110, 101, 114]⟩ : ByteArray), (⟨#[99, 111, 117, 110, 116, 101, 114]⟩ : ByteArray)] : List ByteArray))) = some r := h
 clear h
 obtain ⟨y125, hy125⟩ : ∃ y_ : List ByteArray, y_ = (([(⟨#[100, 97, 116, 97]⟩ : ByteArray), (⟨#[118, 101, 114, 115, 105, 111, 110]⟩ : ByteArray), (⟨#[109, 97, 100, 101]⟩ : ByteArray), (⟨#[99, 104, 97, 110, 103, 101, 100]⟩ : ByteArray), (⟨#[111, 119, 110, 101, 114]⟩ : ByteArray), (⟨#[99, 111, 117, 110, 116, 101, 114]⟩ : ByteArray)] : List ByteArray)) := ⟨_, rfl⟩
 replace H : (some y125) = some r := by first | (rw [hy125]; with_reducible exact H) | (have H2_ := (Option.bind_some _ _).symm.trans H; rw [hy125]; with_reducible exact H2_) | (have H2_ := (Option.bind_some _ _).symm.trans H; with_reducible exact H2_) | with_reducible exact H | (rw [hy125]; exact H) | exact H
 have Ny125 := Aside0.mk hy125
 clear hy125
 obtain rfl := Option.some.inj H
 go_enter Tryz.func59, Tryz.ntmps59
 go_wp2_with (((with_reducible refine zby (N := 1) rfl ?_); refine Kd.R_lit Kd.string _ 9 ?hg (N := 1) ?hd (xs := ([(⟨#[100, 97, 116, 97]⟩ : ByteArray), (⟨#[118, 101, 114, 115, 105, 111, 110]⟩ : ByteArray), (⟨#[109, 97, 100, 101]⟩ : ByteArray), (⟨#[99, 104, 97, 110, 103, 101, 100]⟩ : ByteArray), (⟨#[111, 119, 110, 101, 114]⟩ : ByteArray), (⟨#[99, 111, 117, 110, 116, 101, 114]⟩ : ByteArray)] : List ByteArray)) (inner := [.string (⟨#[100, 97, 116, 97]⟩ : ByteArray), .string (⟨#[118, 101, 114, 115, 105, 111, 110]⟩ : ByteArray), .string (⟨#[109, 97, 100, 101]⟩ : ByteArray), .string (⟨#[99, 104, 97, 110, 103, 101, 100]⟩ : ByteArray), .string (⟨#[111, 119, 110, 101, 114]⟩ : ByteArray), .string (⟨#[99, 111, 117, 110, 116, 101, 114]⟩ : ByteArray)]) (ok := fun _ => True) (okp := fun _ => True) ?hr ?hp (fun _ hk => hk) trivial (Below.refl _ _) (Nat.le_refl _) (by simp) ?_; (case hd => rfl); (case hg => rfl); (case hr => first | (go_simp; done) | (go_simp; rfl)); (case hp => exact (Reps.one (show Kd.M Kd.string _ _ _ (⟨#[100, 97, 116, 97]⟩ : ByteArray) [.string (⟨#[100, 97, 116, 97]⟩ : ByteArray)] from rfl) (Reps.one (show Kd.M Kd.string _ _ _ (⟨#[118, 101, 114, 115, 105, 111, 110]⟩ : ByteArray) [.string (⟨#[118, 101, 114, 115, 105, 111, 110]⟩ : ByteArray)] from rfl) (Reps.one (show Kd.M Kd.string _ _ _ (⟨#[109, 97, 100, 101]⟩ : ByteArray) [.string (⟨#[109, 97, 100, 101]⟩ : ByteArray)] from rfl) (Reps.one (show Kd.M Kd.string _ _ _ (⟨#[99, 104, 97, 110, 103, 101, 100]⟩ : ByteArray) [.string (⟨#[99, 104, 97, 110, 103, 101, 100]⟩ : ByteArray)] from rfl) (Reps.one (show Kd.M Kd.string _ _ _ (⟨#[111, 119, 110, 101, 114]⟩ : ByteArray) [.string (⟨#[111, 119, 110, 101, 114]⟩ : ByteArray)] from rfl) (Reps.one (show Kd.M Kd.string _ _ _ (⟨#[99, 111, 117, 110, 116, 101, 114]⟩ : ByteArray) [.string (⟨#[99, 111, 117, 110, 116, 101, 114]⟩ : ByteArray)] from rfl) (Reps.none _ _)))))))); intro v126 w1 ho2 hb hg_ hnew_; clear hg_ hnew_; (first | rw [← Ny125.out] at ho2 | (simp only [Int.reduceToNat] at ho2; rw [← Ny125.out] at ho2)); have n0_ := Aside0.mk (Kd.R_lower ho2 (zan (by repeat (first | (with_reducible first | exact HB.out | apply zab | apply zaa | apply zac) | exact HB.out)))); have n1_ := Aside0.mk (zap (by repeat (first | (with_reducible first | exact HB.out | apply zab | apply zaa | apply zac) | exact HB.out)) hb); clear HB; have HO127 := n0_; have HB := n1_; clear n0_ n1_; clear hb ho2))
 go_ret
 exact ⟨_, by first | rfl | (simp [zal, zak] <;> rfl) | (simp [*, zal, zak] <;> rfl), by (with_reducible repeat (first | apply Kd.R_alloc | apply Kd.R_drewN | apply Kd.R_drew)); exact HO127.out, by repeat (first | (with_reducible first | exact HB.out | apply zab | apply zaa | apply zac) | exact HB.out)⟩
end Go.Proofs.YteamhfmpogbilaaGreatDoor.X
end
section
namespace Go.Proofs.YteamhfmpogbilaaGreatDoor.X
open Go.RowKit Go.Proofs.YteamhfmpogbilaaGreatDoorW.PrintWords Go.Proofs.YteamhfmpogbilaaGreatDoorW.PrintLast Go.Proofs.YteamhfmpogbilaaGreatDoorW.PrintMore
attribute [local go_sem] zbw zbu zck zcj zbj zbi zbv zbt
end Go.Proofs.YteamhfmpogbilaaGreatDoor.X
end
section
namespace Go.Proofs.YteamhfmpogbilaaGreatDoor.X
open Go.RowKit Go.Proofs.YteamhfmpogbilaaGreatDoorW.PrintWords Go.Proofs.YteamhfmpogbilaaGreatDoorW.PrintLast Go.Proofs.YteamhfmpogbilaaGreatDoorW.PrintMore
attribute [local go_sem] zbw zbu zck zcj zbj zbi zbv zbt
end Go.Proofs.YteamhfmpogbilaaGreatDoor.X
end
section
namespace Go.Proofs.YteamhfmpogbilaaGreatDoor.X
open Go.RowKit Go.Proofs.YteamhfmpogbilaaGreatDoorW.PrintWords Go.Proofs.YteamhfmpogbilaaGreatDoorW.PrintLast Go.Proofs.YteamhfmpogbilaaGreatDoorW.PrintMore
attribute [local go_sem] zbw zbu zck zcj zbj zbi zbv zbt
def yds.l0 : Nat → ByteArray → List ByteArray → Int → Int → Option (List ByteArray)
 | 0, _, _, _, _ => none
 | k + 1, x0, x3, x4, x5 => if x5 ≤ (x0.size : Int) then (if x5 = (x0.size : Int) then (if 0 ≤ x4 then (if x4 ≤ x5 then (if x3.length < 8796093022208 then (yds.l0 k x0 (x3 ++ [x0.extract (x4 : Int).toNat (x5 : Int).toNat]) (wrap64 (x5 + 1)) (wrap64 (x5 + 1))) else (none)) else (none)) else (none)) else (if 0 ≤ x5 then (if x5 < (x0.size : Int) then (if (bt x0 x5) = 47 then (if 0 ≤ x4 then (if x4 ≤ x5 then (if x3.length < 8796093022208 then (yds.l0 k x0 (x3 ++ [x0.extract (x4 : Int).toNat (x5 : Int).toNat]) (wrap64 (x5 + 1)) (wrap64 (x5 + 1))) else (none)) else (none)) else (none)) else (yds.l0 k x0 x3 x4 (wrap64 (x5 + 1)))) else (none)) else (none))) else (some x3)
def yds.f (k : Nat) (a0 : ByteArray) : Option (List ByteArray) := yds.l0 k a0 ([] : List ByteArray) 1 1
set_option maxHeartbeats 8000000 in
set_option maxRecDepth 100000 in
theorem yds.calls (k : Nat) (a0 : ByteArray) (r : List ByteArray) (w : World) (h : yds.f k a0 = some r) :
  Calls Tryz.prog 151 #[.string a0] w fun e w' => ∃ v0_ : Value, e = .returned (v0_) ∧ Kd.R Kd.string 9 w' w.heap.size (fun _ => True) v0_ r ∧ Below w.heap.size w w' := by
 have HB := Aside0.mk (Below.refl w.heap.size w)
 have H : (yds.l0 k a0 ([] : List ByteArray) 1 1) = some r := h
 clear h
 have H' := Aside0.mk H
 clear H
 go_enter Tryz.func151, Tryz.ntmps151
 go_wp2
 go_loopg [3, 4, 5] k (fun kq v3 v4 v5 w' => ∃ (x3_1 : List ByteArray) (x4_1 : Int) (x5_1 : Int), v4 = .int .i64 x4_1 ∧ v5 = .int .i64 x5_1 ∧ Aside0 (yds.l0 kq a0 x3_1 x4_1 x5_1 = some r) ∧ Aside0 (kq ≤ k) ∧ Aside0 (Kd.R Kd.string 9 w' w.heap.size (fun _ => True) v3 x3_1) ∧ Aside0 (Below w.heap.size w w'))
 case atStart => exact ⟨(([] : List ByteArray)), (1), (1), (by first | rfl | (simp; done) | (simp [*]; done)), (by first | rfl | (simp; done) | (simp [*]; done)), H', ⟨Nat.le_refl _⟩, ⟨by first | exact Kd.R_nil _ _ _ _ _ | exact Kd.N_nil _ _ _ _ _ | exact Kd.V_nil _ _ _ _ _ | exact Kd.Q_nil _ _ _ _ _ | exact Kd.S_nil _ _ _ _ _⟩, ⟨by repeat (first | (with_reducible first | exact HB.out | apply zab | apply zaa | apply zac) | exact HB.out)⟩⟩
 case round =>
  clear H'
  try clear c1
  obtain ⟨x3_1, x4_1, x5_1, rfl, rfl, HA, HK1, HO_3, HB⟩ := hrel
  cases gk with
  | zero => exact absurd HA.out (by simp [yds.l0])
  | succ k1 =>
   have H := HA.out
   clear HA
   simp only [yds.l0] at H
   by_cases c2 : x5_1 ≤ (a0.size : Int)
   ·rw [if_pos c2] at H
    have c2b0 : decide (x5_1 ≤ (a0.size : Int)) = true := decide_eq_true c2
    clear c2
    by_cases c3 : x5_1 = (a0.size : Int)
    ·rw [if_pos c3] at H
     have c3b0 : (x5_1 == (a0.size : Int)) = true := beq_iff_eq.mpr c3
     have c3b1 : (x5_1 != (a0.size : Int)) = false := bne_eq_false_iff_eq.mpr c3
     clear c3
     by_cases c4 : 0 ≤ x4_1
     ·rw [if_pos c4] at H
      have c4b0 := eq_true c4
      have c4b1 : decide (0 ≤ x4_1) = true := decide_eq_true c4
      clear c4
      by_cases c5 : x4_1 ≤ x5_1
      ·rw [if_pos c5] at H
       have c5b0 := eq_true c5
       have c5b1 : decide (x4_1 ≤ x5_1) = true := decide_eq_true c5
       clear c5
       have c6b0 := eq_true (of_decide_eq_true (by assumption) : x5_1 ≤ (a0.size : Int))
       by_cases c7 : x3_1.length < 8796093022208
       ·rw [if_pos c7] at H
        have LMc7 := Aside0.mk c7
        clear c7
        obtain ⟨y175, hy175⟩ : ∃ y_ : List ByteArray, y_ = (x3_1 ++ [a0.extract (x4_1 : Int).toNat (x5_1 : Int).toNat]) := ⟨_, rfl⟩
        replace H : (yds.l0 k1 a0 y175 (wrap64 (x5_1 + 1)) (wrap64 (x5_1 + 1))) = some r := by first | (rw [hy175]; with_reducible exact H) | (have H2_ := (Option.bind_some _ _).symm.trans H; rw [hy175]; with_reducible exact H2_) | (have H2_ := (Option.bind_some _ _).symm.trans H; with_reducible exact H2_) | with_reducible exact H | (rw [hy175]; exact H) | exact H
        have Ny175 := Aside0.mk hy175
        clear hy175
        have H' := Aside0.mk H
        clear H
        go_wp2_with (((with_reducible refine zax (b := .append) (xs := #[.tmp 22, .tmp 27]) rfl ?_); at_builtin; refine Kd.R_append Kd.string (w0 := w) w.heap.size rfl (.tmp 22) (.tmp 27) 41 9 (.string ⟨#[]⟩) 16 rfl Tryz.underlying41 info9 rfl (by decide) (by omega) u3 x3_1 (a0.extract (x4_1 : Int).toNat (x5_1 : Int).toNat) [.string (a0.extract (x4_1 : Int).toNat (x5_1 : Int).toNat)] (fun _ => True) (fun _ => False) rfl rfl ?aP (fun _ hk => hk.elim) ?aF ?aO ?aB ?aS ?aL ?_; (case aP => exact rfl); (case aB => exact (by repeat (first | (with_reducible first | exact HB.out | apply zab | apply zaa | apply zac) | exact HB.out))); (case aF => exact (fun _ _ => trivial)); (case aO => exact (by (with_reducible repeat (first | apply Kd.R_alloc | apply Kd.R_drewN | apply Kd.R_drew)); exact HO_3.out)); (case aS => exact (zan (by repeat (first | (with_reducible first | exact HB.out | apply zab | apply zaa | apply zac) | exact HB.out)))); (case aL => have := LMc7.out; omega); intro v176 w8 ho hb hg hat; rw [← Ny175.out] at ho; have n0_ := Aside0.mk (hb); have n1_ := Aside0.mk (ho); clear HB; clear HO_3; have HB := n0_; have HO177 := n1_; clear n0_ n1_; clear ho hb hg hat))
        go_roundg k1
        case measure => have := HK1.out; omega
        case rel => exact ⟨(y175), (wrap64 (x5_1 + 1)), (wrap64 (x5_1 + 1)), (by first | rfl | (simp; done) | (simp [*]; done)), (by first | rfl | (simp; done) | (simp [*]; done)), H', ⟨by have := HK1.out; omega⟩, ⟨by (with_reducible repeat (first | apply Kd.R_alloc | apply Kd.R_drewN | apply Kd.R_drew)); exact HO177.out⟩, ⟨by repeat (first | (with_reducible first | exact HB.out | apply zab | apply zaa | apply zac) | exact HB.out)⟩⟩
       ·rw [if_neg c7] at H
        exact absurd H (by simp)
      ·rw [if_neg c5] at H
       exact absurd H (by simp)
     ·rw [if_neg c4] at H
      exact absurd H (by simp)
    ·rw [if_neg c3] at H
     have c3b0 : (x5_1 == (a0.size : Int)) = false := beq_eq_false_iff_ne.mpr c3
     have c3b1 : (x5_1 != (a0.size : Int)) = true := bne_iff_ne.mpr c3
     by_cases c9 : 0 ≤ x5_1
     ·rw [if_pos c9] at H
      have c9b0 : decide (0 ≤ x5_1) = true := decide_eq_true c9
      clear c9
      by_cases c10 : x5_1 < (a0.size : Int)
      ·rw [if_pos c10] at H
       have c10b0 : decide (x5_1 < (a0.size : Int)) = true := decide_eq_true c10
       clear c10
       by_cases c12 : (bt a0 x5_1) = 47
       ·rw [if_pos c12] at H
        have c12b0 : ((bt a0 x5_1) == 47) = true := beq_iff_eq.mpr c12
        have c12b1 : ((bt a0 x5_1) != 47) = false := bne_eq_false_iff_eq.mpr c12
        clear c12
        by_cases c13 : 0 ≤ x4_1
        ·rw [if_pos c13] at H
         have c13b0 := eq_true c13
         have c13b1 : decide (0 ≤ x4_1) = true := decide_eq_true c13
         clear c13
         by_cases c14 : x4_1 ≤ x5_1
         ·rw [if_pos c14] at H
          have c14b0 := eq_true c14
          have c14b1 : decide (x4_1 ≤ x5_1) = true := decide_eq_true c14
          clear c14
          have c15b0 := eq_true (of_decide_eq_true (by assumption) : x5_1 ≤ (a0.size : Int))
          by_cases c16 : x3_1.length < 8796093022208
          ·rw [if_pos c16] at H
           have LMc16 := Aside0.mk c16
           clear c16
           obtain ⟨y178, hy178⟩ : ∃ y_ : List ByteArray, y_ = (x3_1 ++ [a0.extract (x4_1 : Int).toNat (x5_1 : Int).toNat]) := ⟨_, rfl⟩
           replace H : (yds.l0 k1 a0 y178 (wrap64 (x5_1 + 1)) (wrap64 (x5_1 + 1))) = some r := by first | (rw [hy178]; with_reducible exact H) | (have H2_ := (Option.bind_some _ _).symm.trans H; rw [hy178]; with_reducible exact H2_) | (have H2_ := (Option.bind_some _ _).symm.trans H; with_reducible exact H2_) | with_reducible exact H | (rw [hy178]; exact H) | exact H
           have Ny178 := Aside0.mk hy178
           clear hy178
           have H' := Aside0.mk H
           clear H
           have p11 : 0 ≤ (x5_1 : Int) := of_decide_eq_true (by assumption)
           have q11 : x5_1 < (a0.size : Int) := of_decide_eq_true (by assumption)
           have hx11 := zbq a0 x5_1
           replace p11 := eq_true p11
           replace q11 := eq_true q11
           go_wp2_with (((with_reducible refine zax (b := .append) (xs := #[.tmp 22, .tmp 27]) rfl ?_); at_builtin; refine Kd.R_append Kd.string (w0 := w) w.heap.size rfl (.tmp 22) (.tmp 27) 41 9 (.string ⟨#[]⟩) 16 rfl Tryz.underlying41 info9 rfl (by decide) (by omega) u3 x3_1 (a0.extract (x4_1 : Int).toNat (x5_1 : Int).toNat) [.string (a0.extract (x4_1 : Int).toNat (x5_1 : Int).toNat)] (fun _ => True) (fun _ => False) rfl rfl ?aP (fun _ hk => hk.elim) ?aF ?aO ?aB ?aS ?aL ?_; (case aP => exact rfl); (case aB => exact (by repeat (first | (with_reducible first | exact HB.out | apply zab | apply zaa | apply zac) | exact HB.out))); (case aF => exact (fun _ _ => trivial)); (case aO => exact (by (with_reducible repeat (first | apply Kd.R_alloc | apply Kd.R_drewN | apply Kd.R_drew)); exact HO_3.out)); (case aS => exact (zan (by repeat (first | (with_reducible first | exact HB.out | apply zab | apply zaa | apply zac) | exact HB.out)))); (case aL => have := LMc16.out; omega); intro v179 w17 ho hb hg hat; rw [← Ny178.out] at ho; have n0_ := Aside0.mk (hb); have n1_ := Aside0.mk (ho); clear HB; clear HO_3; have HB := n0_; have HO180 := n1_; clear n0_ n1_; clear ho hb hg hat))
           go_roundg k1
           case measure => have := HK1.out; omega
           case rel => exact ⟨(y178), (wrap64 (x5_1 + 1)), (wrap64 (x5_1 + 1)), (by first | rfl | (simp; done) | (simp [*]; done)), (by first | rfl | (simp; done) | (simp [*]; done)), H', ⟨by have := HK1.out; omega⟩, ⟨by (with_reducible repeat (first | apply Kd.R_alloc | apply Kd.R_drewN | apply Kd.R_drew)); exact HO180.out⟩, ⟨by repeat (first | (with_reducible first | exact HB.out | apply zab | apply zaa | apply zac) | exact HB.out)⟩⟩
          ·rw [if_neg c16] at H
           exact absurd H (by simp)
         ·rw [if_neg c14] at H
          exact absurd H (by simp)
        ·rw [if_neg c13] at H
         exact absurd H (by simp)
       ·rw [if_neg c12] at H
        have c12b0 : ((bt a0 x5_1) == 47) = false := beq_eq_false_iff_ne.mpr c12
        have c12b1 : ((bt a0 x5_1) != 47) = true := bne_iff_ne.mpr c12
        have H' := Aside0.mk H
        clear H
        have p11 : 0 ≤ (x5_1 : Int) := of_decide_eq_true (by assumption)
        have q11 : x5_1 < (a0.size : Int) := of_decide_eq_true (by assumption)
        have hx11 := zbq a0 x5_1
        replace p11 := eq_true p11
        replace q11 := eq_true q11
        go_wp2
        go_roundg k1
        case measure => have := HK1.out; omega
        case rel => exact ⟨(x3_1), (x4_1), (wrap64 (x5_1 + 1)), (by first | rfl | (simp; done) | (simp [*]; done)), (by first | rfl | (simp; done) | (simp [*]; done)), H', ⟨by have := HK1.out; omega⟩, ⟨by (with_reducible repeat (first | apply Kd.R_alloc | apply Kd.R_drewN | apply Kd.R_drew)); exact HO_3.out⟩, ⟨by repeat (first | (with_reducible first | exact HB.out | apply zab | apply zaa | apply zac) | exact HB.out)⟩⟩
      ·rw [if_neg c10] at H
       exact absurd H (by simp)
     ·rw [if_neg c9] at H
      exact absurd H (by simp)
   ·rw [if_neg c2] at H
    have c2b0 : decide (x5_1 ≤ (a0.size : Int)) = false := decide_eq_false c2
    clear c2
    obtain rfl := Option.some.inj H
    go_wp2
    go_ret
    exact ⟨_, by first | rfl | (simp [zal, zak] <;> rfl) | (simp [*, zal, zak] <;> rfl), by (with_reducible repeat (first | apply Kd.R_alloc | apply Kd.R_drewN | apply Kd.R_drew)); exact HO_3.out, by repeat (first | (with_reducible first | exact HB.out | apply zab | apply zaa | apply zac) | exact HB.out)⟩
end Go.Proofs.YteamhfmpogbilaaGreatDoor.X
end
section
namespace Go.Proofs.YteamhfmpogbilaaGreatDoor.X
open Go.RowKit Go.Proofs.YteamhfmpogbilaaGreatDoorW.PrintWords Go.Proofs.YteamhfmpogbilaaGreatDoorW.PrintLast Go.Proofs.YteamhfmpogbilaaGreatDoorW.PrintMore
attribute [local go_sem] zbw zbu zck zcj zbj zbi zbv zbt
mutual
def ydi.j0 : Nat → ByteArray → Bool → Option (Bool)
 | 0, _, _ => none
 | k + 1, x0, x21 => if x21 = true then (some false) else (ydi.l0 k x0 0)
def ydi.l0 : Nat → ByteArray → Int → Option (Bool)
 | 0, _, _ => none
 | k + 1, x0, x3 => if x3 < (x0.size : Int) then (if 0 ≤ x3 then (if (bt x0 x3) ≥ 97 then (if (bt x0 x3) ≤ 122 then (ydi.l0 k x0 (wrap64 (x3 + 1))) else (if (bt x0 x3) ≥ 65 then (if ((bt x0 x3) ≤ 90) then (ydi.l0 k x0 (wrap64 (x3 + 1))) else (if (bt x0 x3) < 48 then (if (bt x0 x3) = 95 then (ydi.l0 k x0 (wrap64 (x3 + 1))) else (if (bt x0 x3) = 45 then (ydi.l0 k x0 (wrap64 (x3 + 1))) else (if (bt x0 x3) = 46 then (ydi.l0 k x0 (wrap64 (x3 + 1))) else (some false)))) else (if (bt x0 x3) > 57 then (if (bt x0 x3) = 95 then (ydi.l0 k x0 (wrap64 (x3 + 1))) else (if (bt x0 x3) = 45 then (ydi.l0 k x0 (wrap64 (x3 + 1))) else (if (bt x0 x3) = 46 then (ydi.l0 k x0 (wrap64 (x3 + 1))) else (some false)))) else (ydi.l0 k x0 (wrap64 (x3 + 1)))))) else (if (bt x0 x3) < 48 then (if (bt x0 x3) = 95 then (ydi.l0 k x0 (wrap64 (x3 + 1))) else (if (bt x0 x3) = 45 then (ydi.l0 k x0 (wrap64 (x3 + 1))) else (if (bt x0 x3) = 46 then (ydi.l0 k x0 (wrap64 (x3 + 1))) else (some false)))) else (if (bt x0 x3) > 57 then (if (bt x0 x3) = 95 then (ydi.l0 k x0 (wrap64 (x3 + 1))) else (if (bt x0 x3) = 45 then (ydi.l0 k x0 (wrap64 (x3 + 1))) else (if (bt x0 x3) = 46 then (ydi.l0 k x0 (wrap64 (x3 + 1))) else (some false)))) else (ydi.l0 k x0 (wrap64 (x3 + 1))))))) else (if (bt x0 x3) ≥ 65 then (if ((bt x0 x3) ≤ 90) then (ydi.l0 k x0 (wrap64 (x3 + 1))) else (if (bt x0 x3) < 48 then (if (bt x0 x3) = 95 then (ydi.l0 k x0 (wrap64 (x3 + 1))) else (if (bt x0 x3) = 45 then (ydi.l0 k x0 (wrap64 (x3 + 1))) else (if (bt x0 x3) = 46 then (ydi.l0 k x0 (wrap64 (x3 + 1))) else (some false)))) else (if (bt x0 x3) > 57 then (if (bt x0 x3) = 95 then (ydi.l0 k x0 (wrap64 (x3 + 1))) else (if (bt x0 x3) = 45 then (ydi.l0 k x0 (wrap64 (x3 + 1))) else (if (bt x0 x3) = 46 then (ydi.l0 k x0 (wrap64 (x3 + 1))) else (some false)))) else (ydi.l0 k x0 (wrap64 (x3 + 1)))))) else (if (bt x0 x3) < 48 then (if (bt x0 x3) = 95 then (ydi.l0 k x0 (wrap64 (x3 + 1))) else (if (bt x0 x3) = 45 then (ydi.l0 k x0 (wrap64 (x3 + 1))) else (if (bt x0 x3) = 46 then (ydi.l0 k x0 (wrap64 (x3 + 1))) else (some false)))) else (if (bt x0 x3) > 57 then (if (bt x0 x3) = 95 then (ydi.l0 k x0 (wrap64 (x3 + 1))) else (if (bt x0 x3) = 45 then (ydi.l0 k x0 (wrap64 (x3 + 1))) else (if (bt x0 x3) = 46 then (ydi.l0 k x0 (wrap64 (x3 + 1))) else (some false)))) else (ydi.l0 k x0 (wrap64 (x3 + 1))))))) else (none)) else (some true)
end
def ydi.f (k : Nat) (a0 : ByteArray) : Option (Bool) := if (a0.size : Int) < 1 then (ydi.j0 k a0 true) else (if (a0.size : Int) > 16 then (ydi.j0 k a0 true) else (if a0.toList = ([46] : List UInt8) then (ydi.j0 k a0 true) else (ydi.j0 k a0 (a0.toList == ([46, 46] : List UInt8)))))
theorem btn (s : ByteArray) (i : Nat) (h : i < s.size) : bt s (i : Int) = (s[i].toNat : Int) := by unfold bt; simp [h]
theorem nameB_iff (v : Nat) : zbo v = true ↔ (65 ≤ v ∧ v ≤ 90) ∨ (97 ≤ v ∧ v ≤ 122) ∨ (48 ≤ v ∧ v ≤ 57) ∨ v = 95 ∨ v = 45 ∨ v = 46 := by
 unfold zbo
 simp only [Bool.or_eq_true, Bool.and_eq_true, decide_eq_true_eq, beq_iff_eq]
 omega
set_option maxHeartbeats 1000000 in
theorem name_step (k : Nat) (s : ByteArray) (i : Nat) (h : i < s.size) (hs : s.size ≤ 1000000) :
  ydi.l0 (k + 1) s (i : Int) = if zbo s[i].toNat = true then ydi.l0 k s ((i + 1 : Nat) : Int) else some false := by
 have e : wrap64 ((i : Int) + 1) = ((i + 1 : Nat) : Int) := by unfold wrap64; omega
 simp only [ydi.l0]
 rw [if_pos (by omega), if_pos (by omega), btn s i h, e]
 generalize ydi.l0 k s ((i + 1 : Nat) : Int) = R
 have hb := nameB_iff s[i].toNat
 generalize s[i].toNat = v at hb ⊢
 by_cases c : zbo v = true
 ·rw [if_pos c]
  have c := hb.1 c
  clear hb
  repeat' split
  all_goals first | rfl | (exfalso; omega)
 ·rw [if_neg c]
  have c : ¬ ((65 ≤ v ∧ v ≤ 90) ∨ (97 ≤ v ∧ v ≤ 122) ∨ (48 ≤ v ∧ v ≤ 57) ∨ v = 95 ∨ v = 45 ∨ v = 46) := fun e => c (hb.2 e)
  clear hb
  repeat' split
  all_goals first | rfl | (exfalso; omega)
set_option maxHeartbeats 8000000 in
set_option maxRecDepth 100000 in
theorem ydi.calls (k : Nat) (a0 : ByteArray) (r : Bool) (w : World) (h : ydi.f k a0 = some r) :
  Calls Tryz.prog 152 #[.string a0] w fun e w' => e = .returned (.bool r) ∧ Drawn0 w w' := by
 have ej : ∀ b, ydi.j0 k a0 b = some r → (b = true ∧ r = false) ∨ (b = false ∧ ∃ k', ydi.l0 k' a0 0 = some r) := by
  intro b hb
  cases k with
  | zero => simp [ydi.j0] at hb
  | succ k =>
   simp only [ydi.j0] at hb
   cases b with
   | true => rw [if_pos rfl] at hb; exact .inl ⟨rfl, (Option.some.inj hb).symm⟩
   | false => rw [if_neg (by simp)] at hb; exact .inr ⟨rfl, k, hb⟩
 unfold ydi.f at h
 have fin : ∀ (w' : World), Drawn0 w w' → Drawn0 w w' := fun _ h => h
 by_cases c1 : (a0.size : Int) < 1
 ·rw [if_pos c1] at h
  obtain ⟨_, rfl⟩ | ⟨e, _⟩ := ej _ h
  ·have d1 : decide ((a0.size : Int) < 1) = true := decide_eq_true c1
   have d2 : decide (a0.size < 1) = true := decide_eq_true (by omega)
   clear ej h c1
   go_enter Tryz.func152, Tryz.ntmps152
   go_wp2
   go_ret
   exact ⟨rfl, Drawn0.refl _⟩
  ·cases e
 rw [if_neg c1] at h
 have d1 : decide ((a0.size : Int) < 1) = false := decide_eq_false c1
 have d1' : decide (a0.size < 1) = false := decide_eq_false (by omega)
 by_cases c2 : (a0.size : Int) > 16
 ·rw [if_pos c2] at h
  obtain ⟨_, rfl⟩ | ⟨e, _⟩ := ej _ h
  ·have d2 : decide (16 < (a0.size : Int)) = true := decide_eq_true c2
   have d3 : decide (16 < a0.size) = true := decide_eq_true (by omega)
   clear ej h c1 c2
   go_enter Tryz.func152, Tryz.ntmps152
   go_wp2
   go_ret
   exact ⟨rfl, Drawn0.refl _⟩
  ·cases e
 rw [if_neg c2] at h
 have d2 : decide (16 < (a0.size : Int)) = false := decide_eq_false c2
 have d2' : decide (16 < a0.size) = false := decide_eq_false (by omega)
 by_cases c3 : a0.toList = [46]
 ·rw [if_pos c3] at h
  obtain ⟨_, rfl⟩ | ⟨e, _⟩ := ej _ h
  ·have d3 : (a0.toList == [46]) = true := beq_iff_eq.mpr c3
   clear ej h c1 c2 c3
   go_enter Tryz.func152, Tryz.ntmps152
   go_wp2
   go_ret
   exact ⟨rfl, Drawn0.refl _⟩
  ·cases e
 rw [if_neg c3] at h
 have d3 : (a0.toList == [46]) = false := beq_eq_false_iff_ne.mpr c3
 by_cases c4 : a0.toList = [46, 46]
 ·have d4 : (a0.toList == [46, 46]) = true := beq_iff_eq.mpr c4
  rw [d4] at h
  obtain ⟨_, rfl⟩ | ⟨e, _⟩ := ej _ h
  ·clear ej h c1 c2 c3 c4
   go_enter Tryz.func152, Tryz.ntmps152
   go_wp2
   go_ret
   exact ⟨rfl, Drawn0.refl _⟩
  ·cases e
 have d4 : (a0.toList == [46, 46]) = false := beq_eq_false_iff_ne.mpr c4
 rw [d4] at h
 obtain ⟨e, _⟩ | ⟨_, k', hk⟩ := ej _ h
 ·cases e
 have HK := Aside0.mk hk
 have hs16 : a0.size ≤ 16 := by omega
 clear ej h c1 c2 c3 c4 hk
 go_enter Tryz.func152, Tryz.ntmps152
 go_wp2
 go_loopw [3, 4, 5] (fun i _ _ wr => ∃ (n kq : Nat), n ≤ a0.size ∧ i = .int .i64 n ∧ Aside0 (ydi.l0 kq a0 (n : Int) = some r) ∧ Aside0 (Drawn0 w wr)) (fun i _ _ _ => a0.size - (intOf i).toNat)
 case atStart => exact ⟨0, k', Nat.zero_le _, rfl, HK, ⟨Drawn0.refl _⟩⟩
 case round =>
  clear HK
  obtain ⟨n, kq, hn, rfl, HK, hdr⟩ := hrel
  by_cases hlt : n < a0.size
  ·cases kq with
   | zero => exact absurd HK.out (by simp [ydi.l0])
   | succ k1 =>
    have H := HK.out
    rw [name_step k1 a0 n hlt (by omega)] at H
    have hnb := nameB_iff a0[n].toNat
    have e0 : decide ((n : Int) < (a0.size : Int)) = true := decide_eq_true (by omega)
    have e0' : decide (n < a0.size) = true := decide_eq_true hlt
    clear HK
    by_cases hc : zbo a0[n].toNat = true
    ·rw [if_pos hc] at H
     have HK := Aside0.mk H
     replace hc := hnb.mp hc
     clear H hnb
     rcases hc with hc | hc | hc | hc | hc | hc
     all_goals
      (first | have f1 : decide (97 ≤ (a0[n].toNat : Int)) = true := decide_eq_true (by omega) | have f1 : decide (97 ≤ (a0[n].toNat : Int)) = false := decide_eq_false (by omega))
      (first | have f2 : decide ((a0[n].toNat : Int) ≤ 122) = true := decide_eq_true (by omega) | have f2 : decide ((a0[n].toNat : Int) ≤ 122) = false := decide_eq_false (by omega))
      (first | have f3 : decide (65 ≤ (a0[n].toNat : Int)) = true := decide_eq_true (by omega) | have f3 : decide (65 ≤ (a0[n].toNat : Int)) = false := decide_eq_false (by omega))
      (first | have f4 : decide ((a0[n].toNat : Int) ≤ 90) = true := decide_eq_true (by omega) | have f4 : decide ((a0[n].toNat : Int) ≤ 90) = false := decide_eq_false (by omega))
      (first | have f5 : decide ((a0[n].toNat : Int) < 48) = true := decide_eq_true (by omega) | have f5 : decide ((a0[n].toNat : Int) < 48) = false := decide_eq_false (by omega))
      (first | have f6 : decide (57 < (a0[n].toNat : Int)) = true := decide_eq_true (by omega) | have f6 : decide (57 < (a0[n].toNat : Int)) = false := decide_eq_false (by omega))
      (first | have f7 : ((a0[n].toNat : Int) != 95) = true := bne_iff_ne.mpr (by omega) | have f7 : ((a0[n].toNat : Int) != 95) = false := bne_eq_false_iff_eq.mpr (by omega))
      (first | have f8 : ((a0[n].toNat : Int) != 45) = true := bne_iff_ne.mpr (by omega) | have f8 : ((a0[n].toNat : Int) != 45) = false := bne_eq_false_iff_eq.mpr (by omega))
      (first | have f9 : ((a0[n].toNat : Int) != 46) = true := bne_iff_ne.mpr (by omega) | have f9 : ((a0[n].toNat : Int) != 46) = false := bne_eq_false_iff_eq.mpr (by omega))
      clear hc
      go_wp2
      go_roundw
      case rel => exact ⟨n + 1, k1, by omega, by go_num, HK, hdr⟩
      case measure => (have e1 : wrap64 ((n : Int) + 1) = ((n + 1 : Nat) : Int) := by unfold wrap64; omega); simp [intOf, e1]; omega
    ·rw [if_neg hc] at H
     obtain rfl := Option.some.inj H
     replace hc : a0[n].toNat < 45 ∨ a0[n].toNat = 47 ∨ (58 ≤ a0[n].toNat ∧ a0[n].toNat ≤ 64) ∨ (91 ≤ a0[n].toNat ∧ a0[n].toNat ≤ 94) ∨ a0[n].toNat = 96 ∨ 122 < a0[n].toNat := by
      have hcn : ¬ ((65 ≤ a0[n].toNat ∧ a0[n].toNat ≤ 90) ∨ (97 ≤ a0[n].toNat ∧ a0[n].toNat ≤ 122) ∨ (48 ≤ a0[n].toNat ∧ a0[n].toNat ≤ 57) ∨ a0[n].toNat = 95 ∨ a0[n].toNat = 45 ∨ a0[n].toNat = 46) := fun h => hc (hnb.mpr h)
      omega
     clear H hnb
     rcases hc with hc | hc | hc | hc | hc | hc
     all_goals
      (first | have f1 : decide (97 ≤ (a0[n].toNat : Int)) = true := decide_eq_true (by omega) | have f1 : decide (97 ≤ (a0[n].toNat : Int)) = false := decide_eq_false (by omega))
      (first | have f2 : decide ((a0[n].toNat : Int) ≤ 122) = true := decide_eq_true (by omega) | have f2 : decide ((a0[n].toNat : Int) ≤ 122) = false := decide_eq_false (by omega))
      (first | have f3 : decide (65 ≤ (a0[n].toNat : Int)) = true := decide_eq_true (by omega) | have f3 : decide (65 ≤ (a0[n].toNat : Int)) = false := decide_eq_false (by omega))
      (first | have f4 : decide ((a0[n].toNat : Int) ≤ 90) = true := decide_eq_true (by omega) | have f4 : decide ((a0[n].toNat : Int) ≤ 90) = false := decide_eq_false (by omega))
      (first | have f5 : decide ((a0[n].toNat : Int) < 48) = true := decide_eq_true (by omega) | have f5 : decide ((a0[n].toNat : Int) < 48) = false := decide_eq_false (by omega))
      (first | have f6 : decide (57 < (a0[n].toNat : Int)) = true := decide_eq_true (by omega) | have f6 : decide (57 < (a0[n].toNat : Int)) = false := decide_eq_false (by omega))
      (first | have f7 : ((a0[n].toNat : Int) != 95) = true := bne_iff_ne.mpr (by omega) | have f7 : ((a0[n].toNat : Int) != 95) = false := bne_eq_false_iff_eq.mpr (by omega))
      (first | have f8 : ((a0[n].toNat : Int) != 45) = true := bne_iff_ne.mpr (by omega) | have f8 : ((a0[n].toNat : Int) != 45) = false := bne_eq_false_iff_eq.mpr (by omega))
      (first | have f9 : ((a0[n].toNat : Int) != 46) = true := bne_iff_ne.mpr (by omega) | have f9 : ((a0[n].toNat : Int) != 46) = false := bne_eq_false_iff_eq.mpr (by omega))
      clear hc
      go_wp2
      go_ret
      exact ⟨rfl, hdr.out⟩
  ·cases kq with
   | zero => exact absurd HK.out (by simp [ydi.l0])
   | succ k1 =>
    have H := HK.out
    simp only [ydi.l0] at H
    rw [if_neg (by omega)] at H
    obtain rfl := Option.some.inj H
    have e0 : decide ((n : Int) < (a0.size : Int)) = false := decide_eq_false (by omega)
    have e0' : decide (n < a0.size) = false := decide_eq_false hlt
    go_wp2
    go_ret
    exact ⟨rfl, hdr.out⟩
end Go.Proofs.YteamhfmpogbilaaGreatDoor.X
end
section
namespace Go.Proofs.YteamhfmpogbilaaGreatDoor.X
open Go.RowKit Go.Proofs.YteamhfmpogbilaaGreatDoorW.PrintWords Go.Proofs.YteamhfmpogbilaaGreatDoorW.PrintLast Go.Proofs.YteamhfmpogbilaaGreatDoorW.PrintMore
attribute [local go_sem] zbw zbu zck zcj zbj zbi zbv zbt
mutual
def ydo.j0 : Nat → ByteArray → Bool → Option (List ByteArray × Int)
 | 0, _, _ => none
 | k + 1, x0, x18 => if x18 = true then (some (([] : List ByteArray), 10)) else ((yds.f k x0).bind fun t181 => (if (t181.length : Int) > 6 then (some (([] : List ByteArray), 10)) else (ydo.l0 k t181 0)))
def ydo.l0 : Nat → List ByteArray → Int → Option (List ByteArray × Int)
 | 0, _, _ => none
 | k + 1, x4, x5 => if x5 < (x4.length : Int) then (if 0 ≤ x5 then ((ydi.f k (rdOf ByteArray.empty x4 x5)).bind fun t185 => (if t185 = true then (ydo.l0 k x4 (wrap64 (x5 + 1))) else (some (([] : List ByteArray), 10)))) else (none)) else (some (x4, 0))
end
def ydo.f (k : Nat) (a0 : ByteArray) : Option (List ByteArray × Int) := if (a0.size : Int) > 102 then (some (([] : List ByteArray), 2)) else (if a0.toList = ([47] : List UInt8) then (some (([] : List ByteArray), 0)) else (if a0.toList = ([] : List UInt8) then (ydo.j0 k a0 true) else (if 0 < (a0.size : Int) then (ydo.j0 k a0 ((bt a0 0) != 47)) else (none))))
set_option maxHeartbeats 8000000 in
set_option maxRecDepth 100000 in
theorem ydo.calls (k : Nat) (a0 : ByteArray) (r1 : List ByteArray) (r2 : Int) (w : World) (h : ydo.f k a0 = some (r1, r2)) :
  Calls Tryz.prog 103 #[.string a0] w fun e w' => ∃ v0_ : Value, e = .returned (.tuple #[v0_, .int .i64 r2]) ∧ Kd.R Kd.string 9 w' w.heap.size (fun _ => True) v0_ r1 ∧ Below w.heap.size w w' := by
 have HB := Aside0.mk (Below.refl w.heap.size w)
 have H : (if (a0.size : Int) > 102 then (some (([] : List ByteArray), 2)) else (if a0.toList = ([47] : List UInt8) then (some (([] : List ByteArray), 0)) else (if a0.toList = ([] : List UInt8) then (ydo.j0 k a0 true) else (if 0 < (a0.size : Int) then (ydo.j0 k a0 ((bt a0 0) != 47)) else (none))))) = some (r1, r2) := h
 clear h
 by_cases c2 : (a0.size : Int) > 102
 ·rw [if_pos c2] at H
  have c2b0 : decide (102 < (a0.size : Int)) = true := decide_eq_true c2
  have c2b1 : decide (102 < a0.size) = true := decide_eq_true (by omega)
  clear c2
  simp only [Option.some.injEq, Prod.mk.injEq] at H
  obtain ⟨rfl, rfl⟩ := H
  go_enter Tryz.func103, Tryz.ntmps103
  go_wp2
  go_ret2
  exact ⟨_, by first | rfl | (simp [zal, zak] <;> rfl) | (simp [*, zal, zak] <;> rfl), by first | exact Kd.R_nil _ _ _ _ _ | exact Kd.N_nil _ _ _ _ _ | exact Kd.V_nil _ _ _ _ _ | exact Kd.Q_nil _ _ _ _ _ | exact Kd.S_nil _ _ _ _ _, by repeat (first | (with_reducible first | exact HB.out | apply zab | apply zaa | apply zac) | exact HB.out)⟩
 ·rw [if_neg c2] at H
  have c2b0 : decide (102 < (a0.size : Int)) = false := decide_eq_false c2
  have c2b1 : decide (102 < a0.size) = false := decide_eq_false (by omega)
  clear c2
  by_cases c3 : a0.toList = ([47] : List UInt8)
  ·rw [if_pos c3] at H
   have c3b0 : (a0.toList == ([47] : List UInt8)) = true := beq_iff_eq.mpr c3
   have c3b1 : (a0.toList != ([47] : List UInt8)) = false := bne_eq_false_iff_eq.mpr c3
   clear c3
   simp only [Option.some.injEq, Prod.mk.injEq] at H
   obtain ⟨rfl, rfl⟩ := H
   go_enter Tryz.func103, Tryz.ntmps103
   go_wp2
   go_ret2
   exact ⟨_, by first | rfl | (simp [zal, zak] <;> rfl) | (simp [*, zal, zak] <;> rfl), by first | exact Kd.R_nil _ _ _ _ _ | exact Kd.N_nil _ _ _ _ _ | exact Kd.V_nil _ _ _ _ _ | exact Kd.Q_nil _ _ _ _ _ | exact Kd.S_nil _ _ _ _ _, by repeat (first | (with_reducible first | exact HB.out | apply zab | apply zaa | apply zac) | exact HB.out)⟩
  ·rw [if_neg c3] at H
   have c3b0 : (a0.toList == ([47] : List UInt8)) = false := beq_eq_false_iff_ne.mpr c3
   have c3b1 : (a0.toList != ([47] : List UInt8)) = true := bne_iff_ne.mpr c3
   have HC4 := Aside0.mk H
   clear H
   go_enter Tryz.func103, Tryz.ntmps103
   go_upto_region 5 with (fail)
   go_cut [18] (fun v18 wc => ∃ (kq : Nat) (x18_3 : Bool), v18 = .bool x18_3 ∧ Aside0 (ydo.j0 kq a0 x18_3 = some (r1, r2)) ∧ Aside0 (kq ≤ k) ∧ Aside0 (Below w.heap.size w wc))
   case first =>
    have H := HC4.out
    clear HC4
    by_cases c5 : a0.toList = ([] : List UInt8)
    ·rw [if_pos c5] at H
     have c5b0 : (a0.toList == ([] : List UInt8)) = true := beq_iff_eq.mpr c5
     try have c5b9 : a0.toList.isEmpty = true := by have z_ := c5b0; simpa using z_
     have c5b1 : (a0.toList != ([] : List UInt8)) = false := bne_eq_false_iff_eq.mpr c5
     clear c5
     (first | rw [c5b0] | (simp only [zbp, zch]; rw [c5b0]) | rw [c5b9] | skip)
     have H' := Aside0.mk H
     clear H
     go_wp2
     go_meet
     case rel => exact ⟨_, (true), (by first | rfl | (simp; done) | (simp [*]; done)), H', ⟨by first | omega | exact Nat.le_refl _⟩, ⟨by repeat (first | (with_reducible first | exact HB.out | apply zab | apply zaa | apply zac) | exact HB.out)⟩⟩
    ·rw [if_neg c5] at H
     have c5b0 : (a0.toList == ([] : List UInt8)) = false := beq_eq_false_iff_ne.mpr c5
     try have c5b9 : a0.toList.isEmpty = false := by have z_ := c5b0; simpa using z_
     have c5b1 : (a0.toList != ([] : List UInt8)) = true := bne_iff_ne.mpr c5
     (first | rw [c5b0] | (simp only [zbp, zch]; rw [c5b0]) | rw [c5b9] | skip)
     by_cases c6 : 0 < (a0.size : Int)
     ·rw [if_pos c6] at H
      have c6b0 : decide (0 < (a0.size : Int)) = true := decide_eq_true c6
      have c6b1 : decide (0 < a0.size) = true := decide_eq_true (by omega)
      clear c6
      have H' := Aside0.mk H
      clear H
      have p7 : 0 ≤ (0 : Int) := (by omega)
      have q7 : 0 < a0.size := (by have : (0 : Int) < (a0.size : Int) := of_decide_eq_true (by assumption); omega)
      have hx7 : ∀ h : 0 < a0.size, ((a0[0]'h).toNat : Int) = bt a0 0 := zbq a0 0
      clear p7
      have qi7 : (0 < (a0.size : Int)) = True := eq_true (of_decide_eq_true (by assumption))
      replace q7 := eq_true q7
      go_wp2
      go_meet
      case rel => exact ⟨_, (((bt a0 0) != 47)), (by first | rfl | (simp; done) | (simp [*]; done)), H', ⟨by first | omega | exact Nat.le_refl _⟩, ⟨by repeat (first | (with_reducible first | exact HB.out | apply zab | apply zaa | apply zac) | exact HB.out)⟩⟩
     ·rw [if_neg c6] at H
      exact absurd H (by simp)
   case rest =>
    clear HC4
    try clear c1; try clear c2; try clear c2b0; try clear c2b1; try clear p2; try clear c3; try clear c3b0; try clear c3b1; try clear c5; try clear c5b0; try clear c5b1; try clear c6; try clear c6b0; try clear c6b1; try clear p7; try clear q7; try clear hx7; try clear qi7; try clear p7; try clear q7
    obtain ⟨kq, x18_3, rfl, HA, HJ3, HB⟩ := hcut
    cases kq with
    | zero => exact absurd HA.out (by simp [ydo.j0])
    | succ kj3 =>
     have H := HA.out
     clear HA
     simp only [ydo.j0] at H
     by_cases c8 : x18_3 = true
     ·subst c8
      have H1 : (some (([] : List ByteArray), 10)) = some (r1, r2) := by rw [if_pos rfl] at H; exact H
      clear H
      have H := H1
      clear H1
      simp only [Option.some.injEq, Prod.mk.injEq] at H
      obtain ⟨rfl, rfl⟩ := H
      go_wp2
      go_ret2
      exact ⟨_, by first | rfl | (simp [zal, zak] <;> rfl) | (simp [*, zal, zak] <;> rfl), by first | exact Kd.R_nil _ _ _ _ _ | exact Kd.N_nil _ _ _ _ _ | exact Kd.V_nil _ _ _ _ _ | exact Kd.Q_nil _ _ _ _ _ | exact Kd.S_nil _ _ _ _ _, by repeat (first | (with_reducible first | exact HB.out | apply zab | apply zaa | apply zac) | exact HB.out)⟩
     ·replace c8 := Bool.eq_false_iff.mpr c8
      subst c8
      have H1 : ((yds.f kj3 a0).bind fun t181 => (if (t181.length : Int) > 6 then (some (([] : List ByteArray), 10)) else (ydo.l0 kj3 t181 0))) = some (r1, r2) := by rw [if_neg (show ¬ (false = true) by decide)] at H; exact H
      clear H
      have H := H1
      clear H1
      replace H := Option.bind_eq_some_iff.mp H
      obtain ⟨t181, A90, H⟩ := H
      replace H : (if (t181.length : Int) > 6 then (some (([] : List ByteArray), 10)) else (ydo.l0 kj3 t181 0)) = some (r1, r2) := H
      have A9 := Aside0.mk A90
      clear A90
      by_cases c10 : (t181.length : Int) > 6
      ·rw [if_pos c10] at H
       have c10b0 : decide (6 < (t181.length : Int)) = true := decide_eq_true c10
       have c10b1 : decide (6 < t181.length) = true := decide_eq_true (by omega)
       clear c10
       simp only [Option.some.injEq, Prod.mk.injEq] at H
       obtain ⟨rfl, rfl⟩ := H
       go_wp2_with (((with_reducible refine zaq (f := 151) rfl ?_); refine zbb (some 20) rfl rfl Tryz.func151 (by kernel_rfl) rfl #[.string a0] rfl (by (try simp only [List.map_toArray, List.map_cons, List.map_nil]); first | done | rfl | (simp only [List.length_drop, List.length_take]; rfl)) ?_; (with_reducible refine (yds.calls kj3 a0 t181 _ A9.out).mono ?_); rintro e w11 ⟨v182, rfl, ho0, hb⟩; refine ⟨_, rfl, ?_⟩; have n0_ := Aside0.mk (Kd.R_lower ho0 (zan (by repeat (first | (with_reducible first | exact HB.out | apply zab | apply zaa | apply zac) | exact HB.out)))); have n1_ := Aside0.mk (zap (by repeat (first | (with_reducible first | exact HB.out | apply zab | apply zaa | apply zac) | exact HB.out)) hb); clear HB; have HO183 := n0_; have HB := n1_; clear n0_ n1_; (try clear hb); (try clear hb2); (try clear hk); (try clear hi); (try clear ho0); obtain ⟨Ao12, co12, eo12⟩ := Kd.R_slice HO183.out; subst eo12))
       go_ret2
       exact ⟨_, by first | rfl | (simp [zal, zak] <;> rfl) | (simp [*, zal, zak] <;> rfl), by first | exact Kd.R_nil _ _ _ _ _ | exact Kd.N_nil _ _ _ _ _ | exact Kd.V_nil _ _ _ _ _ | exact Kd.Q_nil _ _ _ _ _ | exact Kd.S_nil _ _ _ _ _, by repeat (first | (with_reducible first | exact HB.out | apply zab | apply zaa | apply zac) | exact HB.out)⟩
      ·rw [if_neg c10] at H
       have c10b0 : decide (6 < (t181.length : Int)) = false := decide_eq_false c10
       have c10b1 : decide (6 < t181.length) = false := decide_eq_false (by omega)
       clear c10
       have H' := Aside0.mk H
       clear H
       go_wp2_with (((with_reducible refine zaq (f := 151) rfl ?_); refine zbb (some 20) rfl rfl Tryz.func151 (by kernel_rfl) rfl #[.string a0] rfl (by (try simp only [List.map_toArray, List.map_cons, List.map_nil]); first | done | rfl | (simp only [List.length_drop, List.length_take]; rfl)) ?_; (with_reducible refine (yds.calls kj3 a0 t181 _ A9.out).mono ?_); rintro e w13 ⟨v182, rfl, ho0, hb⟩; refine ⟨_, rfl, ?_⟩; have n0_ := Aside0.mk (Kd.R_lower ho0 (zan (by repeat (first | (with_reducible first | exact HB.out | apply zab | apply zaa | apply zac) | exact HB.out)))); have n1_ := Aside0.mk (zap (by repeat (first | (with_reducible first | exact HB.out | apply zab | apply zaa | apply zac) | exact HB.out)) hb); clear HB; have HO183 := n0_; have HB := n1_; clear n0_ n1_; (try clear hb); (try clear hb2); (try clear hk); (try clear hi); (try clear ho0); obtain ⟨Ao14, co14, eo14⟩ := Kd.R_slice HO183.out; subst eo14))
       go_loopg [5] kj3 (fun kq v5 w' => ∃ (x5_2 : Int), v5 = .int .i64 x5_2 ∧ Aside0 (ydo.l0 kq t181 x5_2 = some (r1, r2)) ∧ Aside0 (kq ≤ kj3) ∧ Aside0 (Kd.R Kd.string 9 w' w.heap.size (fun _ => True) (.slice Ao14 t181.length co14) t181) ∧ Aside0 (Below w.heap.size w w'))
       case atStart => exact ⟨(0), (by first | rfl | (simp; done) | (simp [*]; done)), H', ⟨Nat.le_refl _⟩, ⟨by (with_reducible repeat (first | apply Kd.R_alloc | apply Kd.R_drewN | apply Kd.R_drew)); exact HO183.out⟩, ⟨by repeat (first | (with_reducible first | exact HB.out | apply zab | apply zaa | apply zac) | exact HB.out)⟩⟩
       case round =>
        clear H'
        try clear c1; try clear c2; try clear c2b0; try clear c2b1; try clear p2; try clear c3; try clear c3b0; try clear c3b1; try clear c5; try clear c5b0; try clear c5b1; try clear c6; try clear c6b0; try clear c6b1; try clear p7; try clear q7; try clear hx7; try clear qi7; try clear c8; try clear c10; try clear c10b0; try clear c10b1; try clear p2; try clear p7; try clear q7
        obtain ⟨x5_2, rfl, HA, HK2, HO_4, HB⟩ := hrel
        cases gk with
        | zero => exact absurd HA.out (by simp [ydo.l0])
        | succ k2 =>
         have H := HA.out
         clear HA
         simp only [ydo.l0] at H
         by_cases c15 : x5_2 < (t181.length : Int)
         ·rw [if_pos c15] at H
          have c15b0 : decide (x5_2 < (t181.length : Int)) = true := decide_eq_true c15
          clear c15
          by_cases c16 : 0 ≤ x5_2
          ·rw [if_pos c16] at H
           have c16b0 : decide (0 ≤ x5_2) = true := decide_eq_true c16
           clear c16
           replace H := Option.bind_eq_some_iff.mp H
           obtain ⟨t185, A170, H⟩ := H
           replace H : (if t185 = true then (ydo.l0 k2 t181 (wrap64 (x5_2 + 1))) else (some (([] : List ByteArray), 10))) = some (r1, r2) := H
           have A17 := Aside0.mk A170
           clear A170
           by_cases c18 : t185 = true
           ·subst c18
            have H1 : (ydo.l0 k2 t181 (wrap64 (x5_2 + 1))) = some (r1, r2) := by rw [if_pos rfl] at H; exact H
            clear H
            have H := H1
            clear H1
            have H' := Aside0.mk H
            clear H
            have p184 : 0 ≤ (x5_2 : Int) := of_decide_eq_true (by assumption)
            have q184 : x5_2 < (t181.length : Int) := of_decide_eq_true (by assumption)
            obtain ⟨ad184, e184, hx184_0⟩ := Kd.at_string (Kd.R_reads' HO_4.out).2.2 x5_2 p184 q184
            cases e184
            replace p184 := eq_true p184
            replace q184 := eq_true q184
            go_wp2_with (((with_reducible refine zaq (f := 152) rfl ?_); refine zbb (some 34) rfl rfl Tryz.func152 (by kernel_rfl) rfl #[.string (rdOf ByteArray.empty t181 x5_2)] rfl (by (try simp only [List.map_toArray, List.map_cons, List.map_nil]); first | done | rfl | (simp only [List.length_drop, List.length_take]; rfl)) ?_; (with_reducible refine (ydi.calls k2 (rdOf ByteArray.empty t181 x5_2) true _ A17.out).mono ?_); rintro e w' ⟨rfl, ⟨nd, rfl⟩⟩; refine ⟨_, rfl, ?_⟩))
            go_roundg k2
            case measure => have := HJ3.out; have := HK2.out; omega
            case rel => exact ⟨(wrap64 (x5_2 + 1)), (by first | rfl | (simp; done) | (simp [*]; done)), H', ⟨by have := HJ3.out; have := HK2.out; omega⟩, ⟨by (with_reducible repeat (first | apply Kd.R_alloc | apply Kd.R_drewN | apply Kd.R_drew)); exact HO_4.out⟩, ⟨by repeat (first | (with_reducible first | exact HB.out | apply zab | apply zaa | apply zac) | exact HB.out)⟩⟩
           ·replace c18 := Bool.eq_false_iff.mpr c18
            subst c18
            have H1 : (some (([] : List ByteArray), 10)) = some (r1, r2) := by rw [if_neg (show ¬ (false = true) by decide)] at H; exact H
            clear H
            have H := H1
            clear H1
            simp only [Option.some.injEq, Prod.mk.injEq] at H
            obtain ⟨rfl, rfl⟩ := H
            have p184 : 0 ≤ (x5_2 : Int) := of_decide_eq_true (by assumption)
            have q184 : x5_2 < (t181.length : Int) := of_decide_eq_true (by assumption)
            obtain ⟨ad184, e184, hx184_0⟩ := Kd.at_string (Kd.R_reads' HO_4.out).2.2 x5_2 p184 q184
            cases e184
            replace p184 := eq_true p184
            replace q184 := eq_true q184
            go_wp2_with (((with_reducible refine zaq (f := 152) rfl ?_); refine zbb (some 34) rfl rfl Tryz.func152 (by kernel_rfl) rfl #[.string (rdOf ByteArray.empty t181 x5_2)] rfl (by (try simp only [List.map_toArray, List.map_cons, List.map_nil]); first | done | rfl | (simp only [List.length_drop, List.length_take]; rfl)) ?_; (with_reducible refine (ydi.calls k2 (rdOf ByteArray.empty t181 x5_2) false _ A17.out).mono ?_); rintro e w' ⟨rfl, ⟨nd, rfl⟩⟩; refine ⟨_, rfl, ?_⟩))
            go_ret2
            exact ⟨_, by first | rfl | (simp [zal, zak] <;> rfl) | (simp [*, zal, zak] <;> rfl), by first | exact Kd.R_nil _ _ _ _ _ | exact Kd.N_nil _ _ _ _ _ | exact Kd.V_nil _ _ _ _ _ | exact Kd.Q_nil _ _ _ _ _ | exact Kd.S_nil _ _ _ _ _, by repeat (first | (with_reducible first | exact HB.out | apply zab | apply zaa | apply zac) | exact HB.out)⟩
          ·rw [if_neg c16] at H
           exact absurd H (by simp)
         ·rw [if_neg c15] at H
          have c15b0 : decide (x5_2 < (t181.length : Int)) = false := decide_eq_false c15
          clear c15
          simp only [Option.some.injEq, Prod.mk.injEq] at H
          obtain ⟨rfl, rfl⟩ := H
          go_wp2
          go_ret2
          exact ⟨_, by first | rfl | (simp [zal, zak] <;> rfl) | (simp [*, zal, zak] <;> rfl), by (with_reducible repeat (first | apply Kd.R_alloc | apply Kd.R_drewN | apply Kd.R_drew)); exact HO_4.out, by repeat (first | (with_reducible first | exact HB.out | apply zab | apply zaa | apply zac) | exact HB.out)⟩
def yed.f (k : Nat) (a0 : ByteArray) : Option (Bool) := (ydo.f k a0).bind fun bt186 => (some (bt186.2 == 0))
set_option maxHeartbeats 8000000 in
set_option maxRecDepth 100000 in
theorem yed.calls (k : Nat) (a0 : ByteArray) (r : Bool) (w : World) (h : yed.f k a0 = some r) :
  Calls Tryz.prog 58 #[.string a0] w fun e w' => e = .returned (.bool r) ∧ Below w.heap.size w w' := by
 have HB := Aside0.mk (Below.refl w.heap.size w)
 have H : ((ydo.f k a0).bind fun bt186 => (some (bt186.2 == 0))) = some r := h
 clear h
 replace H := Option.bind_eq_some_iff.mp H
 obtain ⟨⟨t186, t187⟩, A20, H⟩ := H
 replace H : (some (t187 == 0)) = some r := H
 have A2 := Aside0.mk A20
 clear A20
 obtain rfl := Option.some.inj H
 go_enter Tryz.func58, Tryz.ntmps58
 go_wp2_with (((with_reducible refine zaq (f := 103) rfl ?_); refine zbb (some 7) rfl rfl Tryz.func103 (by kernel_rfl) rfl #[.string a0] rfl (by (try simp only [List.map_toArray, List.map_cons, List.map_nil]); first | done | rfl | (simp only [List.length_drop, List.length_take]; rfl)) ?_; (with_reducible refine (ydo.calls k a0 t186 t187 _ A2.out).mono ?_); rintro e w3 ⟨v188, rfl, ho0, hb⟩; refine ⟨_, rfl, ?_⟩; have n0_ := Aside0.mk (Kd.R_lower ho0 (zan (by repeat (first | (with_reducible first | exact HB.out | apply zab | apply zaa | apply zac) | exact HB.out)))); have n1_ := Aside0.mk (zap (by repeat (first | (with_reducible first | exact HB.out | apply zab | apply zaa | apply zac) | exact HB.out)) hb); clear HB; have HO189 := n0_; have HB := n1_; clear n0_ n1_; (try clear hb); (try clear hb2); (try clear hk); (try clear hi); (try clear ho0)))
 go_ret
 exact ⟨by first | rfl | (simp [zal, zak] <;> rfl) | (simp [*, zal, zak] <;> rfl), by repeat (first | (with_reducible first | exact HB.out | apply zab | apply zaa | apply zac) | exact HB.out)⟩
def yeb.f (a0 : Int) : Option (Int) := if a0 = 47 then (some (-1)) else (some (wrap64 (a0)))
set_option maxHeartbeats 8000000 in
set_option maxRecDepth 100000 in
theorem yeb.calls (a0 : Int) (r : Int) (w : World) (h : yeb.f a0 = some r) :
  Calls Tryz.prog 107 #[.int .u8 a0] w fun e w' => e = .returned (.int .i64 r) ∧ Drawn0 w w' := by
 have H : (if a0 = 47 then (some (-1)) else (some (wrap64 (a0)))) = some r := h
 clear h
 by_cases c2 : a0 = 47
 ·rw [if_pos c2] at H
  have c2b0 : (a0 == 47) = true := beq_iff_eq.mpr c2
  have c2b1 : (a0 != 47) = false := bne_eq_false_iff_eq.mpr c2
  clear c2
  obtain rfl := Option.some.inj H
  go_enter Tryz.func107, Tryz.ntmps107
  go_wp2
  go_ret
  exact ⟨by first | rfl | (simp; done) | (simp [*]; done), by repeat (first | exact Drawn0.refl _ | apply Drawn0.step)⟩
 ·rw [if_neg c2] at H
  have c2b0 : (a0 == 47) = false := beq_eq_false_iff_ne.mpr c2
  have c2b1 : (a0 != 47) = true := bne_iff_ne.mpr c2
  obtain rfl := Option.some.inj H
  go_enter Tryz.func107, Tryz.ntmps107
  go_wp2
  go_ret
  exact ⟨by first | rfl | (simp; done) | (simp [*]; done), by repeat (first | exact Drawn0.refl _ | apply Drawn0.step)⟩
mutual
def ydn.l0 : Nat → ByteArray → ByteArray → Int → Option (Int)
 | 0, _, _, _ => none
 | k + 1, x0, x1, x5 => if x5 < (x0.size : Int) then (ydn.j1 k x0 x1 x5 (decide (x5 < (x1.size : Int)))) else (ydn.j1 k x0 x1 x5 false)
def ydn.j1 : Nat → ByteArray → ByteArray → Int → Bool → Option (Int)
 | 0, _, _, _, _ => none
 | k + 1, x0, x1, x5, x17 => if x17 = true then (if 0 ≤ x5 then (if x5 < (x0.size : Int) then ((yeb.f (bt x0 x5)).bind fun t190 => (if x5 < (x1.size : Int) then ((yeb.f (bt x1 x5)).bind fun t191 => (if t190 < t191 then (some (-1)) else (if t190 > t191 then (some 1) else (ydn.l0 k x0 x1 (wrap64 (x5 + 1)))))) else (none))) else (none)) else (none)) else (if (x0.size : Int) < (x1.size : Int) then (some (-1)) else (if (x0.size : Int) > (x1.size : Int) then (some 1) else (some 0)))
end
def ydn.f (k : Nat) (a0 : ByteArray) (a1 : ByteArray) : Option (Int) := ydn.l0 k a0 a1 0
set_option maxHeartbeats 8000000 in
set_option maxRecDepth 100000 in
theorem ydn.calls (k : Nat) (a0 : ByteArray) (a1 : ByteArray) (r : Int) (w : World) (h : ydn.f k a0 a1 = some r) :
  Calls Tryz.prog 63 #[.string a0, .string a1] w fun e w' => e = .returned (.int .i64 r) ∧ Drawn0 w w' := by
 have H : (ydn.l0 k a0 a1 0) = some r := h
 clear h
 have H' := Aside0.mk H
 clear H
 go_enter Tryz.func63, Tryz.ntmps63
 go_wp2
 go_loopg [5] k (fun kq v5 w' => ∃ (x5_1 : Int), v5 = .int .i64 x5_1 ∧ Aside0 (ydn.l0 kq a0 a1 x5_1 = some r) ∧ Aside0 (kq ≤ k) ∧ Drawn0 w w')
 case atStart => exact ⟨(0), (by first | rfl | (simp; done) | (simp [*]; done)), H', ⟨Nat.le_refl _⟩, by repeat (first | exact Drawn0.refl _ | apply Drawn0.step)⟩
 case round =>
  clear H'
  try clear p2
  obtain ⟨x5_1, rfl, HA, HK1, ⟨m1, rfl⟩⟩ := hrel
  cases gk with
  | zero => exact absurd HA.out (by simp [ydn.l0])
  | succ k1 =>
   have H := HA.out
   clear HA
   simp only [ydn.l0] at H
   have HC3 := Aside0.mk H
   clear H
   go_upto_region 2 with (fail)
   go_cut [17] (fun v17 wc => ∃ (kq : Nat) (x17_2 : Bool), v17 = .bool x17_2 ∧ Aside0 (ydn.j1 kq a0 a1 x5_1 x17_2 = some r) ∧ Aside0 (kq ≤ k1) ∧ Drawn0 w wc)
   case first =>
    have H := HC3.out
    clear HC3
    by_cases c4 : x5_1 < (a0.size : Int)
    ·rw [if_pos c4] at H
     have c4b0 : decide (x5_1 < (a0.size : Int)) = true := decide_eq_true c4
     clear c4
     (first | rw [c4b0] | (simp only [zbp, zch]; rw [c4b0]) | rw [c4b9] | skip)
     have H' := Aside0.mk H
     clear H
     go_wp2
     go_meet
     case rel => exact ⟨_, (decide (x5_1 < (a1.size : Int))), (by first | rfl | (simp; done) | (simp [*]; done)), H', ⟨by have := HK1.out; first | omega | exact Nat.le_refl _⟩, by repeat (first | exact Drawn0.refl _ | apply Drawn0.step)⟩
    ·rw [if_neg c4] at H
     have c4b0 : decide (x5_1 < (a0.size : Int)) = false := decide_eq_false c4
     clear c4
     (first | rw [c4b0] | (simp only [zbp, zch]; rw [c4b0]) | rw [c4b9] | skip)
     have H' := Aside0.mk H
     clear H
     go_wp2
     go_meet
     case rel => exact ⟨_, (false), (by first | rfl | (simp; done) | (simp [*]; done)), H', ⟨by have := HK1.out; first | omega | exact Nat.le_refl _⟩, by repeat (first | exact Drawn0.refl _ | apply Drawn0.step)⟩
   case rest =>
    clear HC3
    try clear p2; try clear c4; try clear c4b0; try clear p2
    obtain ⟨kq, x17_2, rfl, HA, HJ2, ⟨mc2, rfl⟩⟩ := hcut
    cases kq with
    | zero => exact absurd HA.out (by simp [ydn.j1])
    | succ kj2 =>
     have H := HA.out
     clear HA
     simp only [ydn.j1] at H
     by_cases c5 : x17_2 = true
     ·subst c5
      have H1 : (if 0 ≤ x5_1 then (if x5_1 < (a0.size : Int) then ((yeb.f (bt a0 x5_1)).bind fun t190 => (if x5_1 < (a1.size : Int) then ((yeb.f (bt a1 x5_1)).bind fun t191 => (if t190 < t191 then (some (-1)) else (if t190 > t191 then (some 1) else (ydn.l0 kj2 a0 a1 (wrap64 (x5_1 + 1)))))) else (none))) else (none)) else (none)) = some r := by rw [if_pos rfl] at H; exact H
      clear H
      have H := H1
      clear H1
      by_cases c6 : 0 ≤ x5_1
      ·rw [if_pos c6] at H
       have c6b0 : decide (0 ≤ x5_1) = true := decide_eq_true c6
       clear c6
       by_cases c7 : x5_1 < (a0.size : Int)
       ·rw [if_pos c7] at H
        have c7b0 : decide (x5_1 < (a0.size : Int)) = true := decide_eq_true c7
        clear c7
        replace H := Option.bind_eq_some_iff.mp H
        obtain ⟨t190, A90, H⟩ := H
        replace H : (if x5_1 < (a1.size : Int) then ((yeb.f (bt a1 x5_1)).bind fun t191 => (if t190 < t191 then (some (-1)) else (if t190 > t191 then (some 1) else (ydn.l0 kj2 a0 a1 (wrap64 (x5_1 + 1)))))) else (none)) = some r := H
        have A9 := Aside0.mk A90
        clear A90
        by_cases c10 : x5_1 < (a1.size : Int)
        ·rw [if_pos c10] at H
         have c10b0 : decide (x5_1 < (a1.size : Int)) = true := decide_eq_true c10
         clear c10
         replace H := Option.bind_eq_some_iff.mp H
         obtain ⟨t191, A120, H⟩ := H
         replace H : (if t190 < t191 then (some (-1)) else (if t190 > t191 then (some 1) else (ydn.l0 kj2 a0 a1 (wrap64 (x5_1 + 1))))) = some r := H
         have A12 := Aside0.mk A120
         clear A120
         by_cases c13 : t190 < t191
         ·rw [if_pos c13] at H
          have c13b0 : decide (t190 < t191) = true := decide_eq_true c13
          clear c13
          obtain rfl := Option.some.inj H
          have p8 : 0 ≤ (x5_1 : Int) := of_decide_eq_true (by assumption)
          have q8 : x5_1 < (a0.size : Int) := of_decide_eq_true (by assumption)
          have hx8 := zbq a0 x5_1
          replace p8 := eq_true p8
          replace q8 := eq_true q8
          go_wp2_with (first | ((with_reducible refine zaq (f := 107) rfl ?_); refine zbb (some 23) rfl rfl Tryz.func107 (by kernel_rfl) rfl #[.int .u8 (bt a0 x5_1)] rfl (by (try simp only [List.map_toArray, List.map_cons, List.map_nil]); first | done | rfl | (simp only [List.length_drop, List.length_take]; rfl)) ?_; (with_reducible refine (yeb.calls (bt a0 x5_1) t190 _ A9.out).mono ?_); rintro e w' ⟨rfl, ⟨nd, rfl⟩⟩; refine ⟨_, rfl, ?_⟩; have p11 : 0 ≤ (x5_1 : Int) := of_decide_eq_true (by assumption); have q11 : x5_1 < (a1.size : Int) := of_decide_eq_true (by assumption); have hx11 := zbq a1 x5_1; replace p11 := eq_true p11; replace q11 := eq_true q11) | ((with_reducible refine zaq (f := 107) rfl ?_); refine zbb (some 27) rfl rfl Tryz.func107 (by kernel_rfl) rfl #[.int .u8 (bt a1 x5_1)] rfl (by (try simp only [List.map_toArray, List.map_cons, List.map_nil]); first | done | rfl | (simp only [List.length_drop, List.length_take]; rfl)) ?_; (with_reducible refine (yeb.calls (bt a1 x5_1) t191 _ A12.out).mono ?_); rintro e w' ⟨rfl, ⟨nd, rfl⟩⟩; refine ⟨_, rfl, ?_⟩))
          go_ret
          exact ⟨by first | rfl | (simp; done) | (simp [*]; done), by repeat (first | exact Drawn0.refl _ | apply Drawn0.step)⟩
         ·rw [if_neg c13] at H
          have c13b0 : decide (t190 < t191) = false := decide_eq_false c13
          clear c13
          by_cases c14 : t190 > t191
          ·rw [if_pos c14] at H
           have c14b0 : decide (t191 < t190) = true := decide_eq_true c14
           clear c14
           obtain rfl := Option.some.inj H
           have p8 : 0 ≤ (x5_1 : Int) := of_decide_eq_true (by assumption)
           have q8 : x5_1 < (a0.size : Int) := of_decide_eq_true (by assumption)
           have hx8 := zbq a0 x5_1
           replace p8 := eq_true p8
           replace q8 := eq_true q8
           go_wp2_with (first | ((with_reducible refine zaq (f := 107) rfl ?_); refine zbb (some 23) rfl rfl Tryz.func107 (by kernel_rfl) rfl #[.int .u8 (bt a0 x5_1)] rfl (by (try simp only [List.map_toArray, List.map_cons, List.map_nil]); first | done | rfl | (simp only [List.length_drop, List.length_take]; rfl)) ?_; (with_reducible refine (yeb.calls (bt a0 x5_1) t190 _ A9.out).mono ?_); rintro e w' ⟨rfl, ⟨nd, rfl⟩⟩; refine ⟨_, rfl, ?_⟩; have p11 : 0 ≤ (x5_1 : Int) := of_decide_eq_true (by assumption); have q11 : x5_1 < (a1.size : Int) := of_decide_eq_true (by assumption); have hx11 := zbq a1 x5_1; replace p11 := eq_true p11; replace q11 := eq_true q11) | ((with_reducible refine zaq (f := 107) rfl ?_); refine zbb (some 27) rfl rfl Tryz.func107 (by kernel_rfl) rfl #[.int .u8 (bt a1 x5_1)] rfl (by (try simp only [List.map_toArray, List.map_cons, List.map_nil]); first | done | rfl | (simp only [List.length_drop, List.length_take]; rfl)) ?_; (with_reducible refine (yeb.calls (bt a1 x5_1) t191 _ A12.out).mono ?_); rintro e w' ⟨rfl, ⟨nd, rfl⟩⟩; refine ⟨_, rfl, ?_⟩))
           go_ret
           exact ⟨by first | rfl | (simp; done) | (simp [*]; done), by repeat (first | exact Drawn0.refl _ | apply Drawn0.step)⟩
          ·rw [if_neg c14] at H
           have c14b0 : decide (t191 < t190) = false := decide_eq_false c14
           clear c14
           have H' := Aside0.mk H
           clear H
           have p8 : 0 ≤ (x5_1 : Int) := of_decide_eq_true (by assumption)
           have q8 : x5_1 < (a0.size : Int) := of_decide_eq_true (by assumption)
           have hx8 := zbq a0 x5_1
           replace p8 := eq_true p8
           replace q8 := eq_true q8
           go_wp2_with (first | ((with_reducible refine zaq (f := 107) rfl ?_); refine zbb (some 23) rfl rfl Tryz.func107 (by kernel_rfl) rfl #[.int .u8 (bt a0 x5_1)] rfl (by (try simp only [List.map_toArray, List.map_cons, List.map_nil]); first | done | rfl | (simp only [List.length_drop, List.length_take]; rfl)) ?_; (with_reducible refine (yeb.calls (bt a0 x5_1) t190 _ A9.out).mono ?_); rintro e w' ⟨rfl, ⟨nd, rfl⟩⟩; refine ⟨_, rfl, ?_⟩; have p11 : 0 ≤ (x5_1 : Int) := of_decide_eq_true (by assumption); have q11 : x5_1 < (a1.size : Int) := of_decide_eq_true (by assumption); have hx11 := zbq a1 x5_1; replace p11 := eq_true p11; replace q11 := eq_true q11) | ((with_reducible refine zaq (f := 107) rfl ?_); refine zbb (some 27) rfl rfl Tryz.func107 (by kernel_rfl) rfl #[.int .u8 (bt a1 x5_1)] rfl (by (try simp only [List.map_toArray, List.map_cons, List.map_nil]); first | done | rfl | (simp only [List.length_drop, List.length_take]; rfl)) ?_; (with_reducible refine (yeb.calls (bt a1 x5_1) t191 _ A12.out).mono ?_); rintro e w' ⟨rfl, ⟨nd, rfl⟩⟩; refine ⟨_, rfl, ?_⟩))
           go_roundg kj2
           case measure => have := HK1.out; have := HJ2.out; omega
           case rel => exact ⟨(wrap64 (x5_1 + 1)), (by first | rfl | (simp; done) | (simp [*]; done)), H', ⟨by have := HK1.out; have := HJ2.out; omega⟩, by repeat (first | exact Drawn0.refl _ | apply Drawn0.step)⟩
        ·rw [if_neg c10] at H
         exact absurd H (by simp)
       ·rw [if_neg c7] at H
        exact absurd H (by simp)
      ·rw [if_neg c6] at H
       exact absurd H (by simp)
     ·replace c5 := Bool.eq_false_iff.mpr c5
      subst c5
      have H1 : (if (a0.size : Int) < (a1.size : Int) then (some (-1)) else (if (a0.size : Int) > (a1.size : Int) then (some 1) else (some 0))) = some r := by rw [if_neg (show ¬ (false = true) by decide)] at H; exact H
      clear H
      have H := H1
      clear H1
      by_cases c15 : (a0.size : Int) < (a1.size : Int)
      ·rw [if_pos c15] at H
       have c15b0 : decide ((a0.size : Int) < (a1.size : Int)) = true := decide_eq_true c15
       have c15b1 : decide (a0.size < a1.size) = true := decide_eq_true (Int.ofNat_lt.mp c15)
       clear c15
       obtain rfl := Option.some.inj H
       go_wp2
       go_ret
       exact ⟨by first | rfl | (simp; done) | (simp [*]; done), by repeat (first | exact Drawn0.refl _ | apply Drawn0.step)⟩
      ·rw [if_neg c15] at H
       have c15b0 : decide ((a0.size : Int) < (a1.size : Int)) = false := decide_eq_false c15
       have c15b1 : decide (a0.size < a1.size) = false := decide_eq_false (fun h => c15 (Int.ofNat_lt.mpr h))
       clear c15
       by_cases c16 : (a0.size : Int) > (a1.size : Int)
       ·rw [if_pos c16] at H
        have c16b0 : decide ((a1.size : Int) < (a0.size : Int)) = true := decide_eq_true c16
        have c16b1 : decide (a1.size < a0.size) = true := decide_eq_true (Int.ofNat_lt.mp c16)
        clear c16
        obtain rfl := Option.some.inj H
        go_wp2
        go_ret
        exact ⟨by first | rfl | (simp; done) | (simp [*]; done), by repeat (first | exact Drawn0.refl _ | apply Drawn0.step)⟩
       ·rw [if_neg c16] at H
        have c16b0 : decide ((a1.size : Int) < (a0.size : Int)) = false := decide_eq_false c16
        have c16b1 : decide (a1.size < a0.size) = false := decide_eq_false (fun h => c16 (Int.ofNat_lt.mpr h))
        clear c16
        obtain rfl := Option.some.inj H
        go_wp2
        go_ret
        exact ⟨by first | rfl | (simp; done) | (simp [*]; done), by repeat (first | exact Drawn0.refl _ | apply Drawn0.step)⟩
def ydm.f (a0 : Int) (a1 : Int) : Option (Bool) := if a0 ≥ 0 then (some (decide (a0 ≤ a1))) else (some false)
set_option maxHeartbeats 8000000 in
set_option maxRecDepth 100000 in
theorem ydm.calls (a0 : Int) (a1 : Int) (r : Bool) (w : World) (h : ydm.f a0 a1 = some r) :
  Calls Tryz.prog 104 #[.int .i64 a0, .int .i64 a1] w fun e w' => e = .returned (.bool r) ∧ Drawn0 w w' := by
 have H : (if a0 ≥ 0 then (some (decide (a0 ≤ a1))) else (some false)) = some r := h
 clear h
 by_cases c3 : a0 ≥ 0
 ·rw [if_pos c3] at H
  have c3b0 : decide (0 ≤ a0) = true := decide_eq_true c3
  clear c3
  obtain rfl := Option.some.inj H
  go_enter Tryz.func104, Tryz.ntmps104
  go_wp2
  go_ret
  exact ⟨by first | rfl | (simp; done) | (simp [*]; done), by repeat (first | exact Drawn0.refl _ | apply Drawn0.step)⟩
 ·rw [if_neg c3] at H
  have c3b0 : decide (0 ≤ a0) = false := decide_eq_false c3
  clear c3
  obtain rfl := Option.some.inj H
  go_enter Tryz.func104, Tryz.ntmps104
  go_wp2
  go_ret
  exact ⟨by first | rfl | (simp; done) | (simp [*]; done), by repeat (first | exact Drawn0.refl _ | apply Drawn0.step)⟩
def ydx.l0 : Nat → List ByteArray → ByteArray → Int → Option (ByteArray)
 | 0, _, _, _ => none
 | k + 1, x0, x3, x4 => if x4 < (x0.length : Int) then (if x3.size + 1 ≤ 9223372036854775807 then (if 0 ≤ x4 then (if (x3 ++ (⟨#[47]⟩ : ByteArray)).size + (rdOf ByteArray.empty x0 x4).size ≤ 9223372036854775807 then (ydx.l0 k x0 ((x3 ++ (⟨#[47]⟩ : ByteArray)) ++ (rdOf ByteArray.empty x0 x4)) (wrap64 (x4 + 1))) else (none)) else (none)) else (none)) else (if x3.toList = ([] : List UInt8) then (some (⟨#[47]⟩ : ByteArray)) else (some x3))
def ydx.f (k : Nat) (l0 : List ByteArray) : Option (ByteArray) := ydx.l0 k l0 (⟨#[]⟩ : ByteArray) 0
set_option maxHeartbeats 8000000 in
set_option maxRecDepth 100000 in
theorem ydx.calls (k : Nat) (A0 : Option Addr) (c0 : Nat) (l0 : List ByteArray) (r : ByteArray) (w : World) (hr0 : Kd.C Kd.string w A0 l0.length l0) (hc0 : l0.length ≤ c0) (h : ydx.f k l0 = some r) :
  Calls Tryz.prog 153 #[.slice A0 l0.length c0] w fun e w' => e = .returned (.string r) ∧ Drawn0 w w' := by
 have HR0 := Aside0.mk hr0
 have HC0 := Aside0.mk hc0
 clear hr0 hc0
 have H : (ydx.l0 k l0 (⟨#[]⟩ : ByteArray) 0) = some r := h
 clear h
 have H' := Aside0.mk H
 clear H
 go_enter Tryz.func153, Tryz.ntmps153
 go_wp2
 go_loopg [3, 4] k (fun kq v3 v4 w' => ∃ (x3_1 : ByteArray) (x4_1 : Int), v3 = .string x3_1 ∧ v4 = .int .i64 x4_1 ∧ Aside0 (ydx.l0 kq l0 x3_1 x4_1 = some r) ∧ Aside0 (kq ≤ k) ∧ Drawn0 w w')
 case atStart => exact ⟨((⟨#[]⟩ : ByteArray)), (0), (by first | rfl | (simp; done) | (simp [*]; done)), (by first | rfl | (simp; done) | (simp [*]; done)), H', ⟨Nat.le_refl _⟩, by repeat (first | exact Drawn0.refl _ | apply Drawn0.step)⟩
 case round =>
  clear H'
  try clear c1
  obtain ⟨x3_1, x4_1, rfl, rfl, HA, HK1, ⟨m1, rfl⟩⟩ := hrel
  cases gk with
  | zero => exact absurd HA.out (by simp [ydx.l0])
  | succ k1 =>
   have H := HA.out
   clear HA
   simp only [ydx.l0] at H
   by_cases c2 : x4_1 < (l0.length : Int)
   ·rw [if_pos c2] at H
    have c2b0 : decide (x4_1 < (l0.length : Int)) = true := decide_eq_true c2
    clear c2
    by_cases c3 : x3_1.size + 1 ≤ 9223372036854775807
    ·rw [if_pos c3] at H
     have c3b0 := eq_true c3
     have c3b1 : decide (x3_1.size + 1 ≤ 9223372036854775807) = true := decide_eq_true c3
     try have c3b2 : (9223372036854775807 < x3_1.size + 1) = False := eq_false (Nat.not_lt.2 c3)
     by_cases c4 : 0 ≤ x4_1
     ·rw [if_pos c4] at H
      have c4b0 : decide (0 ≤ x4_1) = true := decide_eq_true c4
      clear c4
      by_cases c5 : (x3_1 ++ (⟨#[47]⟩ : ByteArray)).size + (rdOf ByteArray.empty l0 x4_1).size ≤ 9223372036854775807
      ·rw [if_pos c5] at H
       have c5b0 := eq_true c5
       have c5b1 : decide ((x3_1 ++ (⟨#[47]⟩ : ByteArray)).size + (rdOf ByteArray.empty l0 x4_1).size ≤ 9223372036854775807) = true := decide_eq_true c5
       try have c5b2 : (9223372036854775807 < (x3_1 ++ (⟨#[47]⟩ : ByteArray)).size + (rdOf ByteArray.empty l0 x4_1).size) = False := eq_false (Nat.not_lt.2 c5)
       try have c5b3 : (9223372036854775807 < x3_1.size + 1 + (rdOf ByteArray.empty l0 x4_1).size) = False := by have z_ := c5b2; have e_ : ((x3_1 ++ (⟨#[47]⟩ : ByteArray)).size + (rdOf ByteArray.empty l0 x4_1).size) = (x3_1.size + 1 + (rdOf ByteArray.empty l0 x4_1).size) := (by simp only [ByteArray.size_append'] <;> rfl); rw [e_] at z_; exact z_
       try have c5b4 : x3_1.size + 1 + (rdOf ByteArray.empty l0 x4_1).size ≤ 9223372036854775807 := Nat.not_lt.1 (of_eq_false c5b3)
       have H' := Aside0.mk H
       clear H
       have p192 : 0 ≤ (x4_1 : Int) := of_decide_eq_true (by assumption)
       have q192 : x4_1 < (l0.length : Int) := of_decide_eq_true (by assumption)
       obtain ⟨ad192, e192, hx192_0⟩ := Kd.at_string HR0.out x4_1 p192 q192
       cases e192
       replace p192 := eq_true p192
       replace q192 := eq_true q192
       go_wp2
       go_roundg k1
       case measure => have := HK1.out; omega
       case rel => exact ⟨((x3_1 ++ (⟨#[47]⟩ : ByteArray)) ++ (rdOf ByteArray.empty l0 x4_1)), (wrap64 (x4_1 + 1)), (by first | rfl | (simp; done) | (simp [*]; done)), (by first | rfl | (simp; done) | (simp [*]; done)), H', ⟨by have := HK1.out; omega⟩, by repeat (first | exact Drawn0.refl _ | apply Drawn0.step)⟩
      ·rw [if_neg c5] at H
       exact absurd H (by simp)
     ·rw [if_neg c4] at H
      exact absurd H (by simp)
    ·rw [if_neg c3] at H
     exact absurd H (by simp)
   ·rw [if_neg c2] at H
    have c2b0 : decide (x4_1 < (l0.length : Int)) = false := decide_eq_false c2
    clear c2
    by_cases c6 : x3_1.toList = ([] : List UInt8)
    ·rw [if_pos c6] at H
     have c6b0 : (x3_1.toList == ([] : List UInt8)) = true := beq_iff_eq.mpr c6
     try have c6b9 : x3_1.toList.isEmpty = true := by have z_ := c6b0; simpa using z_
     have c6b1 : (x3_1.toList != ([] : List UInt8)) = false := bne_eq_false_iff_eq.mpr c6
     clear c6
     obtain rfl := Option.some.inj H
     go_wp2
     go_ret
     exact ⟨by first | rfl | (simp; done) | (simp [*]; done), by repeat (first | exact Drawn0.refl _ | apply Drawn0.step)⟩
    ·rw [if_neg c6] at H
     have c6b0 : (x3_1.toList == ([] : List UInt8)) = false := beq_eq_false_iff_ne.mpr c6
     try have c6b9 : x3_1.toList.isEmpty = false := by have z_ := c6b0; simpa using z_
     have c6b1 : (x3_1.toList != ([] : List UInt8)) = true := bne_iff_ne.mpr c6
     obtain rfl := Option.some.inj H
     go_wp2
     go_ret
     exact ⟨by first | rfl | (simp; done) | (simp [*]; done), by repeat (first | exact Drawn0.refl _ | apply Drawn0.step)⟩
def yeh.f (k : Nat) (a0 : ByteArray) : Option (ByteArray × Int) := (ydo.f k a0).bind fun bt193 => (if bt193.2 = 0 then (if (bt193.1.length : Int) = 0 then (some ((⟨#[]⟩ : ByteArray), 47)) else (if 0 ≤ (wrap64 ((bt193.1.length : Int) - 1)) then (if (wrap64 ((bt193.1.length : Int) - 1)) ≤ (bt193.1.length : Int) then ((ydx.f k (bt193.1.take ((wrap64 ((bt193.1.length : Int) - 1)) : Int).toNat)).bind fun t201 => (some (t201, 0))) else (none)) else (none))) else (some ((⟨#[]⟩ : ByteArray), bt193.2)))
set_option maxHeartbeats 8000000 in
set_option maxRecDepth 100000 in
theorem yeh.calls (k : Nat) (a0 : ByteArray) (r1 : ByteArray) (r2 : Int) (w : World) (h : yeh.f k a0 = some (r1, r2)) :
  Calls Tryz.prog 105 #[.string a0] w fun e w' => e = .returned (.tuple #[.string r1, .int .i64 r2]) ∧ Below w.heap.size w w' := by
 have HB := Aside0.mk (Below.refl w.heap.size w)
 have H : ((ydo.f k a0).bind fun bt193 => (if bt193.2 = 0 then (if (bt193.1.length : Int) = 0 then (some ((⟨#[]⟩ : ByteArray), 47)) else (if 0 ≤ (wrap64 ((bt193.1.length : Int) - 1)) then (if (wrap64 ((bt193.1.length : Int) - 1)) ≤ (bt193.1.length : Int) then ((ydx.f k (bt193.1.take ((wrap64 ((bt193.1.length : Int) - 1)) : Int).toNat)).bind fun t201 => (some (t201, 0))) else (none)) else (none))) else (some ((⟨#[]⟩ : ByteArray), bt193.2)))) = some (r1, r2) := h
 clear h
 replace H := Option.bind_eq_some_iff.mp H
 obtain ⟨⟨t193, t194⟩, A20, H⟩ := H
 replace H : (if t194 = 0 then (if (t193.length : Int) = 0 then (some ((⟨#[]⟩ : ByteArray), 47)) else (if 0 ≤ (wrap64 ((t193.length : Int) - 1)) then (if (wrap64 ((t193.length : Int) - 1)) ≤ (t193.length : Int) then ((ydx.f k (t193.take ((wrap64 ((t193.length : Int) - 1)) : Int).toNat)).bind fun t201 => (some (t201, 0))) else (none)) else (none))) else (some ((⟨#[]⟩ : ByteArray), t194))) = some (r1, r2) := H
 have A2 := Aside0.mk A20
 clear A20
 by_cases c3 : t194 = 0
 ·rw [if_pos c3] at H
  have c3b0 : (t194 == 0) = true := beq_iff_eq.mpr c3
  have c3b1 : (t194 != 0) = false := bne_eq_false_iff_eq.mpr c3
  clear c3
  by_cases c4 : (t193.length : Int) = 0
  ·rw [if_pos c4] at H
   have c4b0 : ((t193.length : Int) == 0) = true := beq_iff_eq.mpr c4
   have c4b1 : ((t193.length : Int) != 0) = false := bne_eq_false_iff_eq.mpr c4
   clear c4
   simp only [Option.some.injEq, Prod.mk.injEq] at H
   obtain ⟨rfl, rfl⟩ := H
   go_enter Tryz.func105, Tryz.ntmps105
   go_wp2_with (((with_reducible refine zaq (f := 103) rfl ?_); refine zbb (some 8) rfl rfl Tryz.func103 (by kernel_rfl) rfl #[.string a0] rfl (by (try simp only [List.map_toArray, List.map_cons, List.map_nil]); first | done | rfl | (simp only [List.length_drop, List.length_take]; rfl)) ?_; (with_reducible refine (ydo.calls k a0 t193 t194 _ A2.out).mono ?_); rintro e w5 ⟨v195, rfl, ho0, hb⟩; refine ⟨_, rfl, ?_⟩; have n0_ := Aside0.mk (Kd.R_lower ho0 (zan (by repeat (first | (with_reducible first | exact HB.out | apply zab | apply zaa | apply zac) | exact HB.out)))); have n1_ := Aside0.mk (zap (by repeat (first | (with_reducible first | exact HB.out | apply zab | apply zaa | apply zac) | exact HB.out)) hb); clear HB; have HO196 := n0_; have HB := n1_; clear n0_ n1_; (try clear hb); (try clear hb2); (try clear hk); (try clear hi); (try clear ho0); obtain ⟨Ao6, co6, eo6⟩ := Kd.R_slice HO196.out; subst eo6))
   go_ret2
   exact ⟨by first | rfl | (simp [zal, zak] <;> rfl) | (simp [*, zal, zak] <;> rfl), by repeat (first | (with_reducible first | exact HB.out | apply zab | apply zaa | apply zac) | exact HB.out)⟩
  ·rw [if_neg c4] at H
   have c4b0 : ((t193.length : Int) == 0) = false := beq_eq_false_iff_ne.mpr c4
   have c4b1 : ((t193.length : Int) != 0) = true := bne_iff_ne.mpr c4
   have c4b2 : ¬ (t193 = []) := fun h_ => c4 (by rw [h_]; rfl)
   obtain ⟨ji7, hji7⟩ : ∃ j_ : Int, (wrap64 ((t193.length : Int) - 1)) = j_ := ⟨_, rfl⟩
   replace H : (if 0 ≤ (ji7) then (if (ji7) ≤ (t193.length : Int) then ((ydx.f k (t193.take ((ji7) : Int).toNat)).bind fun t201 => (some (t201, 0))) else (none)) else (none)) = some (r1, r2) := by first | (rw [hji7] at H; exact H) | (simp only [hji7] at H ⊢; exact H)
   (try rw [hji7] at A2)
   have hji7w : (IntKind.i64.wrap ((t193.length : Int) - 1)) = ji7 := (zbp _).trans hji7
   by_cases c8 : 0 ≤ (ji7)
   ·rw [if_pos c8] at H
    have c8b0 := eq_true c8
    have c8b1 : decide (0 ≤ (ji7)) = true := decide_eq_true c8
    clear c8
    by_cases c9 : (ji7) ≤ (t193.length : Int)
    ·rw [if_pos c9] at H
     have c9b0 := eq_true c9
     have c9b1 : decide ((ji7) ≤ (t193.length : Int)) = true := decide_eq_true c9
     clear c9
     obtain ⟨y197, hy197⟩ : ∃ y_ : List ByteArray, y_ = (t193.take ((ji7) : Int).toNat) := ⟨_, rfl⟩
     replace H : ((ydx.f k y197).bind fun t201 => (some (t201, 0))) = some (r1, r2) := by first | (rw [hy197]; with_reducible exact H) | (have H2_ := (Option.bind_some _ _).symm.trans H; rw [hy197]; with_reducible exact H2_) | (have H2_ := (Option.bind_some _ _).symm.trans H; with_reducible exact H2_) | with_reducible exact H | (rw [hy197]; exact H) | exact H
     have Ny197 := Aside0.mk hy197
     clear hy197
     replace H := Option.bind_eq_some_iff.mp H
     obtain ⟨t201, A100, H⟩ := H
     replace H : (some (t201, 0)) = some (r1, r2) := H
     have A10 := Aside0.mk A100
     clear A100
     simp only [Option.some.injEq, Prod.mk.injEq] at H
     obtain ⟨rfl, rfl⟩ := H
     go_enter Tryz.func105, Tryz.ntmps105
     go_wp2_with (first | ((with_reducible refine zaq (f := 103) rfl ?_); refine zbb (some 8) rfl rfl Tryz.func103 (by kernel_rfl) rfl #[.string a0] rfl (by (try simp only [List.map_toArray, List.map_cons, List.map_nil]); first | done | rfl | (simp only [List.length_drop, List.length_take]; rfl)) ?_; (with_reducible refine (ydo.calls k a0 t193 t194 _ A2.out).mono ?_); rintro e w11 ⟨v195, rfl, ho0, hb⟩; refine ⟨_, rfl, ?_⟩; have n0_ := Aside0.mk (Kd.R_lower ho0 (zan (by repeat (first | (with_reducible first | exact HB.out | apply zab | apply zaa | apply zac) | exact HB.out)))); have n1_ := Aside0.mk (zap (by repeat (first | (with_reducible first | exact HB.out | apply zab | apply zaa | apply zac) | exact HB.out)) hb); clear HB; have HO196 := n0_; have HB := n1_; clear n0_ n1_; (try clear hb); (try clear hb2); (try clear hk); (try clear hi); (try clear ho0); obtain ⟨Ao12, co12, eo12⟩ := Kd.R_slice HO196.out; subst eo12; have q13 : ((ji7) : Int) ≤ ((t193.length : Int) : Int) := of_decide_eq_true (by assumption); obtain ⟨i013, hi013, _, hsz13, _⟩ := info_parts info9; have hroom13 : t193.length ≤ co12 := (Kd.R_reads' HO196.out).2.1; have hC13 : Kd.C Kd.string _ Ao12 t193.length t193 := (Kd.R_reads' HO196.out).2.2; have hcut13 := cut_to (P := Tryz.prog) 41 9 .i64 Tryz.underlying41 hi013 Ao12 t193.length co12 (ji7) (of_decide_eq_true (by assumption)) q13 hroom13; have hr13 := Kd.C_take (m := ((ji7) : Int).toNat) hC13 (by omega); have hy13 : y197.length = ((ji7) : Int).toNat := (by rw [Ny197.out, List.length_take]; omega); rw [← Ny197.out] at hr13; rw [← hy13] at hcut13; have HR200 := Aside0.mk hr13; have HC200 := Aside0.mk (show y197.length ≤ co12 from by omega); clear hr13 hC13 hroom13 hi013 hsz13; have KY13 := Aside0.mk hy13; clear hy13; have KL13 := Aside0.mk (show ((ji7) : Int).toNat ≤ t193.length from by omega); replace q13 := eq_true q13) | ((with_reducible refine zaq (f := 153) rfl ?_); refine zbb (some 22) rfl rfl Tryz.func153 (by kernel_rfl) rfl #[.slice Ao12 y197.length co12] rfl (by (try simp only [List.map_toArray, List.map_cons, List.map_nil]); first | done | rfl | (simp only [List.length_drop, List.length_take]; rfl)) ?_; (with_reducible refine (ydx.calls k _ _ y197 t201 _ ?side1 ?side2 A10.out).mono ?_); (case side1 => repeat (first | exact (by repeat (first | (with_reducible exact HR200.out) | (with_reducible refine Kd.C_alloc ?_ _) | (with_reducible refine Kd.C_drewN ?_ _) | (with_reducible refine Kd.C_drew ?_) | exact HR200.out)) | (with_reducible refine Kd.C_alloc ?_ _) | (with_reducible refine Kd.C_drewN ?_ _) | (with_reducible refine Kd.C_drew ?_))); (case side2 => exact HC200.out); rintro e w' ⟨rfl, ⟨nd, rfl⟩⟩; refine ⟨_, rfl, ?_⟩))
     go_ret2
     exact ⟨by first | rfl | (simp [zal, zak] <;> rfl) | (simp only [← hji7]; first | rfl | (simp [zal, zak] <;> rfl)) | (simp [*, zal, zak] <;> rfl), by repeat (first | (with_reducible first | exact HB.out | apply zab | apply zaa | apply zac) | exact HB.out)⟩
    ·rw [if_neg c9] at H
     exact absurd H (by simp)
   ·rw [if_neg c8] at H
    exact absurd H (by simp)
 ·rw [if_neg c3] at H
  have c3b0 : (t194 == 0) = false := beq_eq_false_iff_ne.mpr c3
  have c3b1 : (t194 != 0) = true := bne_iff_ne.mpr c3
  simp only [Option.some.injEq, Prod.mk.injEq] at H
  obtain ⟨rfl, rfl⟩ := H
  go_enter Tryz.func105, Tryz.ntmps105
  go_wp2_with (((with_reducible refine zaq (f := 103) rfl ?_); refine zbb (some 8) rfl rfl Tryz.func103 (by kernel_rfl) rfl #[.string a0] rfl (by (try simp only [List.map_toArray, List.map_cons, List.map_nil]); first | done | rfl | (simp only [List.length_drop, List.length_take]; rfl)) ?_; (with_reducible refine (ydo.calls k a0 t193 t194 _ A2.out).mono ?_); rintro e w14 ⟨v195, rfl, ho0, hb⟩; refine ⟨_, rfl, ?_⟩; have n0_ := Aside0.mk (Kd.R_lower ho0 (zan (by repeat (first | (with_reducible first | exact HB.out | apply zab | apply zaa | apply zac) | exact HB.out)))); have n1_ := Aside0.mk (zap (by repeat (first | (with_reducible first | exact HB.out | apply zab | apply zaa | apply zac) | exact HB.out)) hb); clear HB; have HO196 := n0_; have HB := n1_; clear n0_ n1_; (try clear hb); (try clear hb2); (try clear hk); (try clear hi); (try clear ho0)))
  go_ret2
  exact ⟨by first | rfl | (simp [zal, zak] <;> rfl) | (simp [*, zal, zak] <;> rfl), by repeat (first | (with_reducible first | exact HB.out | apply zab | apply zaa | apply zac) | exact HB.out)⟩
end Go.Proofs.YteamhfmpogbilaaGreatDoor.X
end
section
namespace Go.Proofs.YteamhfmpogbilaaGreatDoor.X
open Go.RowKit Go.Proofs.YteamhfmpogbilaaGreatDoorW.PrintWords Go.Proofs.YteamhfmpogbilaaGreatDoorW.PrintLast Go.Proofs.YteamhfmpogbilaaGreatDoorW.PrintMore
attribute [local go_sem] zbw zbu zck zcj zbj zbi zbv zbt
def ydy.l0 : Nat → List (S74) → ByteArray → Int → Option (Int)
 | 0, _, _, _ => none
 | k + 1, x0, x1, x5 => if x5 < (x0.length : Int) then (if 0 ≤ x5 then (if ((zam x0 x5).f0).toList = x1.toList then (some x5) else (ydy.l0 k x0 x1 (wrap64 (x5 + 1)))) else (none)) else (some (-1))
def ydy.f (k : Nat) (l0 : List (S74)) (a1 : ByteArray) : Option (Int) := ydy.l0 k l0 a1 0
set_option maxHeartbeats 8000000 in
set_option maxRecDepth 100000 in
theorem ydy.calls (k : Nat) (A0 : Option Addr) (c0 : Nat) (l0 : List (S74)) (a1 : ByteArray) (r : Int) (w : World) (hr0 : Kd.C k74 w A0 l0.length l0) (hc0 : l0.length ≤ c0) (h : ydy.f k l0 a1 = some r) :
  Calls Tryz.prog 106 #[.slice A0 l0.length c0, .string a1] w fun e w' => e = .returned (.int .i64 r) ∧ Drawn0 w w' := by
 have HR0 := Aside0.mk hr0
 have HC0 := Aside0.mk hc0
 clear hr0 hc0
 have H : (ydy.l0 k l0 a1 0) = some r := h
 clear h
 have H' := Aside0.mk H
 clear H
 go_enter Tryz.func106, Tryz.ntmps106
 go_wp2
 go_loopg [5] k (fun kq v5 w' => ∃ (x5_1 : Int), v5 = .int .i64 x5_1 ∧ Aside0 (ydy.l0 kq l0 a1 x5_1 = some r) ∧ Aside0 (kq ≤ k) ∧ Drawn0 w w')
 case atStart => exact ⟨(0), (by first | rfl | (simp; done) | (simp [*]; done)), H', ⟨Nat.le_refl _⟩, by repeat (first | exact Drawn0.refl _ | apply Drawn0.step)⟩
 case round =>
  clear H'
  try clear c1; try clear p2
  obtain ⟨x5_1, rfl, HA, HK1, ⟨m1, rfl⟩⟩ := hrel
  cases gk with
  | zero => exact absurd HA.out (by simp [ydy.l0])
  | succ k1 =>
   have H := HA.out
   clear HA
   simp only [ydy.l0] at H
   by_cases c3 : x5_1 < (l0.length : Int)
   ·rw [if_pos c3] at H
    have c3b0 : decide (x5_1 < (l0.length : Int)) = true := decide_eq_true c3
    clear c3
    by_cases c4 : 0 ≤ x5_1
    ·rw [if_pos c4] at H
     have c4b0 : decide (0 ≤ x5_1) = true := decide_eq_true c4
     clear c4
     by_cases c5 : ((zam l0 x5_1).f0).toList = a1.toList
     ·rw [if_pos c5] at H
      have c5b0 : (((zam l0 x5_1).f0).toList == a1.toList) = true := beq_iff_eq.mpr c5
      have c5b1 : (((zam l0 x5_1).f0).toList != a1.toList) = false := bne_eq_false_iff_eq.mpr c5
      clear c5
      obtain rfl := Option.some.inj H
      have p202 : 0 ≤ (x5_1 : Int) := of_decide_eq_true (by assumption)
      have q202 : x5_1 < (l0.length : Int) := of_decide_eq_true (by assumption)
      obtain ⟨ad202, e202, hx202_0, hx202_1, hx202_2, hx202_3, hx202_4, hx202_5, hx202_6⟩ := zda HR0.out x5_1 p202 q202
      cases e202
      replace p202 := eq_true p202
      replace q202 := eq_true q202
      go_wp2
      go_ret
      exact ⟨by first | rfl | (simp; done) | (simp [*]; done), by repeat (first | exact Drawn0.refl _ | apply Drawn0.step)⟩
     ·rw [if_neg c5] at H
      have c5b0 : (((zam l0 x5_1).f0).toList == a1.toList) = false := beq_eq_false_iff_ne.mpr c5
      have c5b1 : (((zam l0 x5_1).f0).toList != a1.toList) = true := bne_iff_ne.mpr c5
      have H' := Aside0.mk H
      clear H
      have p202 : 0 ≤ (x5_1 : Int) := of_decide_eq_true (by assumption)
      have q202 : x5_1 < (l0.length : Int) := of_decide_eq_true (by assumption)
      obtain ⟨ad202, e202, hx202_0, hx202_1, hx202_2, hx202_3, hx202_4, hx202_5, hx202_6⟩ := zda HR0.out x5_1 p202 q202
      cases e202
      replace p202 := eq_true p202
      replace q202 := eq_true q202
      go_wp2
      go_roundg k1
      case measure => have := HK1.out; omega
      case rel => exact ⟨(wrap64 (x5_1 + 1)), (by first | rfl | (simp; done) | (simp [*]; done)), H', ⟨by have := HK1.out; omega⟩, by repeat (first | exact Drawn0.refl _ | apply Drawn0.step)⟩
    ·rw [if_neg c4] at H
     exact absurd H (by simp)
   ·rw [if_neg c3] at H
    have c3b0 : decide (x5_1 < (l0.length : Int)) = false := decide_eq_false c3
    clear c3
    obtain rfl := Option.some.inj H
    go_wp2
    go_ret
    exact ⟨by first | rfl | (simp; done) | (simp [*]; done), by repeat (first | exact Drawn0.refl _ | apply Drawn0.step)⟩
end Go.Proofs.YteamhfmpogbilaaGreatDoor.X
end
section
namespace Go.Proofs.YteamhfmpogbilaaGreatDoor.X
open Go.RowKit Go.Proofs.YteamhfmpogbilaaGreatDoorW.PrintWords Go.Proofs.YteamhfmpogbilaaGreatDoorW.PrintLast Go.Proofs.YteamhfmpogbilaaGreatDoorW.PrintMore
attribute [local go_sem] zbw zbu zck zcj zbj zbi zbv zbt
mutual
def ydh.j0 : Nat → List (S74) → Bool → ByteArray → ByteArray → Int → Int → Int → Int → Int → Option (Bool)
 | 0, _, _, _, _, _, _, _, _, _ => none
 | k + 1, x0, x38, x204000, x204001, x204002, x204003, x204004, x204005, x204006 => if x38 = true then (some false) else ((ydm.f x204005 2147483647).bind fun t208 => (if t208 = true then ((ydm.f x204006 100000).bind fun t209 => (if t209 = true then (if x204005 > 0 then (ydh.j1 k x0 (decide (x204006 > 0)) x204000 x204001 x204002 x204003 x204004 x204005 x204006) else (ydh.j1 k x0 false x204000 x204001 x204002 x204003 x204004 x204005 x204006)) else (ydh.j1 k x0 true x204000 x204001 x204002 x204003 x204004 x204005 x204006))) else (ydh.j1 k x0 true x204000 x204001 x204002 x204003 x204004 x204005 x204006)))
def ydh.j1 : Nat → List (S74) → Bool → ByteArray → ByteArray → Int → Int → Int → Int → Int → Option (Bool)
 | 0, _, _, _, _, _, _, _, _, _ => none
 | k + 1, x0, x58, x204000, x204001, x204002, x204003, x204004, x204005, x204006 => if x58 = true then (some false) else (if (x0.length : Int) = 0 then (if x204000.toList = ([47] : List UInt8) then (some (x204005 == 0)) else (some false)) else ((yeh.f k x204000).bind fun bt210 => (if 0 ≤ (wrap64 ((x0.length : Int) - 1)) then (if (wrap64 ((x0.length : Int) - 1)) < (x0.length : Int) then ((ydn.f k ((zam x0 (wrap64 ((x0.length : Int) - 1))).f0) x204000).bind fun t213 => (if bt210.2 = 0 then (if t213 ≥ 0 then (some false) else ((ydy.f k x0 bt210.1).bind fun t214 => (if t214 ≥ 0 then (if 0 ≤ t214 then (if t214 < (x0.length : Int) then (some (((zam x0 t214).f5) == 0)) else (none)) else (none)) else (some false)))) else (some false))) else (none)) else (none))))
end
def ydh.f (k : Nat) (l0 : List (S74)) (a1_0 : ByteArray) (a1_1 : ByteArray) (a1_2 : Int) (a1_3 : Int) (a1_4 : Int) (a1_5 : Int) (a1_6 : Int) : Option (Bool) := (yed.f k a1_0).bind fun t204 => (if t204 = true then (if (a1_1.size : Int) > 64 then (ydh.j0 k l0 true a1_0 a1_1 a1_2 a1_3 a1_4 a1_5 a1_6) else ((ydm.f a1_2 2147483647).bind fun t205 => (if t205 = true then ((ydm.f a1_3 2147483647).bind fun t206 => (if t206 = true then ((ydm.f a1_4 2147483647).bind fun t207 => (ydh.j0 k l0 (!t207) a1_0 a1_1 a1_2 a1_3 a1_4 a1_5 a1_6)) else (ydh.j0 k l0 true a1_0 a1_1 a1_2 a1_3 a1_4 a1_5 a1_6))) else (ydh.j0 k l0 true a1_0 a1_1 a1_2 a1_3 a1_4 a1_5 a1_6)))) else (ydh.j0 k l0 true a1_0 a1_1 a1_2 a1_3 a1_4 a1_5 a1_6))
set_option maxHeartbeats 8000000 in
set_option maxRecDepth 100000 in
theorem ydh.calls (k : Nat) (A0 : Option Addr) (c0 : Nat) (l0 : List (S74)) (a1_0 : ByteArray) (a1_1 : ByteArray) (a1_2 : Int) (a1_3 : Int) (a1_4 : Int) (a1_5 : Int) (a1_6 : Int) (r : Bool) (w : World) (hr0 : Kd.C k74 w A0 l0.length l0) (hc0 : l0.length ≤ c0) (h : ydh.f k l0 a1_0 a1_1 a1_2 a1_3 a1_4 a1_5 a1_6 = some r) :
  Calls Tryz.prog 62 #[.slice A0 l0.length c0, .agg #[.string a1_0, .string a1_1, .int .i64 a1_2, .int .i64 a1_3, .int .i64 a1_4, .int .i64 a1_5, .int .i64 a1_6]] w fun e w' => e = .returned (.bool r) ∧ Below w.heap.size w w' := by
 have hu74 := Tryz.underlying74
 have HR0 := Aside0.mk hr0
 have HC0 := Aside0.mk hc0
 clear hr0 hc0
 have HB := Aside0.mk (Below.refl w.heap.size w)
 have H : ((yed.f k a1_0).bind fun t204 => (if t204 = true then (if (a1_1.size : Int) > 64 then (ydh.j0 k l0 true a1_0 a1_1 a1_2 a1_3 a1_4 a1_5 a1_6) else ((ydm.f a1_2 2147483647).bind fun t205 => (if t205 = true then ((ydm.f a1_3 2147483647).bind fun t206 => (if t206 = true then ((ydm.f a1_4 2147483647).bind fun t207 => (ydh.j0 k l0 (!t207) a1_0 a1_1 a1_2 a1_3 a1_4 a1_5 a1_6)) else (ydh.j0 k l0 true a1_0 a1_1 a1_2 a1_3 a1_4 a1_5 a1_6))) else (ydh.j0 k l0 true a1_0 a1_1 a1_2 a1_3 a1_4 a1_5 a1_6)))) else (ydh.j0 k l0 true a1_0 a1_1 a1_2 a1_3 a1_4 a1_5 a1_6))) = some r := h
 clear h
 replace H := Option.bind_eq_some_iff.mp H
 obtain ⟨t204, A30, H⟩ := H
 replace H : (if t204 = true then (if (a1_1.size : Int) > 64 then (ydh.j0 k l0 true a1_0 a1_1 a1_2 a1_3 a1_4 a1_5 a1_6) else ((ydm.f a1_2 2147483647).bind fun t205 => (if t205 = true then ((ydm.f a1_3 2147483647).bind fun t206 => (if t206 = true then ((ydm.f a1_4 2147483647).bind fun t207 => (ydh.j0 k l0 (!t207) a1_0 a1_1 a1_2 a1_3 a1_4 a1_5 a1_6)) else (ydh.j0 k l0 true a1_0 a1_1 a1_2 a1_3 a1_4 a1_5 a1_6))) else (ydh.j0 k l0 true a1_0 a1_1 a1_2 a1_3 a1_4 a1_5 a1_6)))) else (ydh.j0 k l0 true a1_0 a1_1 a1_2 a1_3 a1_4 a1_5 a1_6)) = some r := H
 have A3 := Aside0.mk A30
 clear A30
 have HC4 := Aside0.mk H
 clear H
 go_enter Tryz.func62, Tryz.ntmps62
 go_upto_region 2 with (first | ((with_reducible refine zby (N := 3) rfl ?_); (try (refine zcz (by rfl) ?_; dsimp only)); refine zbr ?hg (N := 3) ?hd (cs := #[.string a1_0, .string a1_1, .int .i64 a1_2, .int .i64 a1_3, .int .i64 a1_4, .int .i64 a1_5, .int .i64 a1_6]) (t := 74) ?hr ?_; (case hd => rfl); (case hg => rfl); (case hr => first | (go_simp; done) | (go_simp; rfl)); intro gb203 hg w5 hbox hb; have n0_ := Aside0.mk (zap (by repeat (first | (with_reducible first | exact HB.out | apply zab | apply zaa | apply zac) | exact HB.out)) hb); have n1_ := Aside0.mk (hbox); have n2_ := Aside0.mk ((by rw [hg]; exact (zan (by repeat (first | (with_reducible first | exact HB.out | apply zab | apply zaa | apply zac) | exact HB.out))) : w.heap.size ≤ gb203)); have n3_ := Aside0.mk ((by rw [hg]; exact (zan (by repeat (first | (with_reducible first | exact HB.out | apply zab | apply zaa | apply zac) | exact HB.out))) : w.heap.size ≤ gb203)); clear HB; have HB := n0_; have BK203 := n1_; have GW203 := n2_; have GE203 := n3_; clear n0_ n1_ n2_ n3_; clear hb hbox hg; have hcz6_0 : w5.cell? ⟨gb203, 0, none⟩ = some (.string a1_0) := (zah BK203.out 0).trans rfl; have hcz6_1 : w5.cell? ⟨gb203, 1, none⟩ = some (.string a1_1) := (zah BK203.out 1).trans rfl; have hcz6_2 : w5.cell? ⟨gb203, 2, none⟩ = some (.int .i64 a1_2) := (zah BK203.out 2).trans rfl; have hcz6_3 : w5.cell? ⟨gb203, 3, none⟩ = some (.int .i64 a1_3) := (zah BK203.out 3).trans rfl; have hcz6_4 : w5.cell? ⟨gb203, 4, none⟩ = some (.int .i64 a1_4) := (zah BK203.out 4).trans rfl; have hcz6_5 : w5.cell? ⟨gb203, 5, none⟩ = some (.int .i64 a1_5) := (zah BK203.out 5).trans rfl; have hcz6_6 : w5.cell? ⟨gb203, 6, none⟩ = some (.int .i64 a1_6) := (zah BK203.out 6).trans rfl; have hfz6_0 := zad BK203.out 0; have hfz6_1 := zad BK203.out 1; have hfz6_2 := zad BK203.out 2; have hfz6_3 := zad BK203.out 3; have hfz6_4 := zad BK203.out 4; have hfz6_5 := zad BK203.out 5; have hfz6_6 := zad BK203.out 6) | (go_at_call 58; (with_reducible refine (yed.calls k a1_0 t204 _ A3.out).mono ?_); rintro e w7 ⟨rfl, hb⟩; have n0_ := Aside0.mk (zau (g := gb203) (o := .cells #[.string a1_0, .string a1_1, .int .i64 a1_2, .int .i64 a1_3, .int .i64 a1_4, .int .i64 a1_5, .int .i64 a1_6] 74 (0, 0)) (by (with_reducible repeat (first | refine zae ?_ _ | refine zag ?_ | refine zaf ?_ _)); exact BK203.out) hb); have n1_ := Aside0.mk (zap (by repeat (first | (with_reducible first | exact HB.out | apply zab | apply zaa | apply zac | refine zai ?_ GE203.out) | exact HB.out)) hb); clear BK203; clear HB; have BK203 := n0_; have HB := n1_; clear n0_ n1_; (try clear hb); (try clear hb2); (try clear hk); (try clear hi)))
 repeat (go_quiet (fail); go_upto_region 2 with (fail))
 (try simp only [Act.put, List.setIfInBounds_toArray, List.set_cons_zero, List.set_cons_succ])
 go_cut [38] (fun v38 wc => ∃ (kq : Nat) (x38_3 : Bool), v38 = .bool x38_3 ∧ Aside0 (ydh.j0 kq l0 x38_3 a1_0 a1_1 a1_2 a1_3 a1_4 a1_5 a1_6 = some r) ∧ Aside0 (kq ≤ k) ∧ Aside0 (wc.heap[gb203]? = some (.cells #[.string a1_0, .string a1_1, .int .i64 a1_2, .int .i64 a1_3, .int .i64 a1_4, .int .i64 a1_5, .int .i64 a1_6] 74 (0, 0))) ∧ Aside0 (Below w.heap.size w wc))
 case first =>
  have H := HC4.out
  clear HC4
  by_cases c8 : t204 = true
  ·subst c8
   have H1 : (if (a1_1.size : Int) > 64 then (ydh.j0 k l0 true a1_0 a1_1 a1_2 a1_3 a1_4 a1_5 a1_6) else ((ydm.f a1_2 2147483647).bind fun t205 => (if t205 = true then ((ydm.f a1_3 2147483647).bind fun t206 => (if t206 = true then ((ydm.f a1_4 2147483647).bind fun t207 => (ydh.j0 k l0 (!t207) a1_0 a1_1 a1_2 a1_3 a1_4 a1_5 a1_6)) else (ydh.j0 k l0 true a1_0 a1_1 a1_2 a1_3 a1_4 a1_5 a1_6))) else (ydh.j0 k l0 true a1_0 a1_1 a1_2 a1_3 a1_4 a1_5 a1_6)))) = some r := by rw [if_pos rfl] at H; exact H
   clear H
   have H := H1
   clear H1
   by_cases c9 : (a1_1.size : Int) > 64
   ·rw [if_pos c9] at H
    have c9b0 : decide (64 < (a1_1.size : Int)) = true := decide_eq_true c9
    have c9b1 : decide (64 < a1_1.size) = true := decide_eq_true (by omega)
    clear c9
    (first | rw [c9b0] | (simp only [zbp, zch]; rw [c9b0]) | rw [c9b9] | skip)
    have H' := Aside0.mk H
    clear H
    have hcz10_0 : w7.cell? ⟨gb203, 0, none⟩ = some (.string a1_0) := (zah BK203.out 0).trans rfl
    have hcz10_1 : w7.cell? ⟨gb203, 1, none⟩ = some (.string a1_1) := (zah BK203.out 1).trans rfl
    have hcz10_2 : w7.cell? ⟨gb203, 2, none⟩ = some (.int .i64 a1_2) := (zah BK203.out 2).trans rfl
    have hcz10_3 : w7.cell? ⟨gb203, 3, none⟩ = some (.int .i64 a1_3) := (zah BK203.out 3).trans rfl
    have hcz10_4 : w7.cell? ⟨gb203, 4, none⟩ = some (.int .i64 a1_4) := (zah BK203.out 4).trans rfl
    have hcz10_5 : w7.cell? ⟨gb203, 5, none⟩ = some (.int .i64 a1_5) := (zah BK203.out 5).trans rfl
    have hcz10_6 : w7.cell? ⟨gb203, 6, none⟩ = some (.int .i64 a1_6) := (zah BK203.out 6).trans rfl
    have hfz10_0 := zad BK203.out 0
    have hfz10_1 := zad BK203.out 1
    have hfz10_2 := zad BK203.out 2
    have hfz10_3 := zad BK203.out 3
    have hfz10_4 := zad BK203.out 4
    have hfz10_5 := zad BK203.out 5
    have hfz10_6 := zad BK203.out 6
    go_wp2
    repeat (go_quiet (fail); try go_wp2)
    go_meet
    case rel => exact ⟨_, (true), (by first | rfl | (simp; done) | (simp [*]; done)), H', ⟨by first | omega | exact Nat.le_refl _⟩, ⟨by (with_reducible repeat (first | refine zae ?_ _ | refine zag ?_ | refine zaf ?_ _)); exact BK203.out⟩, ⟨by repeat (first | (with_reducible first | exact HB.out | apply zab | apply zaa | apply zac | refine zai ?_ GE203.out) | exact HB.out)⟩⟩
   ·rw [if_neg c9] at H
    have c9b0 : decide (64 < (a1_1.size : Int)) = false := decide_eq_false c9
    have c9b1 : decide (64 < a1_1.size) = false := decide_eq_false (by omega)
    clear c9
    (first | rw [c9b0] | (simp only [zbp, zch]; rw [c9b0]) | rw [c9b9] | skip)
    replace H := Option.bind_eq_some_iff.mp H
    obtain ⟨t205, A110, H⟩ := H
    replace H : (if t205 = true then ((ydm.f a1_3 2147483647).bind fun t206 => (if t206 = true then ((ydm.f a1_4 2147483647).bind fun t207 => (ydh.j0 k l0 (!t207) a1_0 a1_1 a1_2 a1_3 a1_4 a1_5 a1_6)) else (ydh.j0 k l0 true a1_0 a1_1 a1_2 a1_3 a1_4 a1_5 a1_6))) else (ydh.j0 k l0 true a1_0 a1_1 a1_2 a1_3 a1_4 a1_5 a1_6)) = some r := H
    have A11 := Aside0.mk A110
    clear A110
    by_cases c12 : t205 = true
    ·subst c12
     have H1 : ((ydm.f a1_3 2147483647).bind fun t206 => (if t206 = true then ((ydm.f a1_4 2147483647).bind fun t207 => (ydh.j0 k l0 (!t207) a1_0 a1_1 a1_2 a1_3 a1_4 a1_5 a1_6)) else (ydh.j0 k l0 true a1_0 a1_1 a1_2 a1_3 a1_4 a1_5 a1_6))) = some r := by rw [if_pos rfl] at H; exact H
     clear H
     have H := H1
     clear H1
     replace H := Option.bind_eq_some_iff.mp H
     obtain ⟨t206, A130, H⟩ := H
     replace H : (if t206 = true then ((ydm.f a1_4 2147483647).bind fun t207 => (ydh.j0 k l0 (!t207) a1_0 a1_1 a1_2 a1_3 a1_4 a1_5 a1_6)) else (ydh.j0 k l0 true a1_0 a1_1 a1_2 a1_3 a1_4 a1_5 a1_6)) = some r := H
     have A13 := Aside0.mk A130
     clear A130
     by_cases c14 : t206 = true
     ·subst c14
      have H1 : ((ydm.f a1_4 2147483647).bind fun t207 => (ydh.j0 k l0 (!t207) a1_0 a1_1 a1_2 a1_3 a1_4 a1_5 a1_6)) = some r := by rw [if_pos rfl] at H; exact H
      clear H
      have H := H1
      clear H1
      replace H := Option.bind_eq_some_iff.mp H
      obtain ⟨t207, A150, H⟩ := H
      replace H : (ydh.j0 k l0 (!t207) a1_0 a1_1 a1_2 a1_3 a1_4 a1_5 a1_6) = some r := H
      have A15 := Aside0.mk A150
      clear A150
      have H' := Aside0.mk H
      clear H
      have hcz16_0 : w7.cell? ⟨gb203, 0, none⟩ = some (.string a1_0) := (zah BK203.out 0).trans rfl
      have hcz16_1 : w7.cell? ⟨gb203, 1, none⟩ = some (.string a1_1) := (zah BK203.out 1).trans rfl
      have hcz16_2 : w7.cell? ⟨gb203, 2, none⟩ = some (.int .i64 a1_2) := (zah BK203.out 2).trans rfl
      have hcz16_3 : w7.cell? ⟨gb203, 3, none⟩ = some (.int .i64 a1_3) := (zah BK203.out 3).trans rfl
      have hcz16_4 : w7.cell? ⟨gb203, 4, none⟩ = some (.int .i64 a1_4) := (zah BK203.out 4).trans rfl
      have hcz16_5 : w7.cell? ⟨gb203, 5, none⟩ = some (.int .i64 a1_5) := (zah BK203.out 5).trans rfl
      have hcz16_6 : w7.cell? ⟨gb203, 6, none⟩ = some (.int .i64 a1_6) := (zah BK203.out 6).trans rfl
      have hfz16_0 := zad BK203.out 0
      have hfz16_1 := zad BK203.out 1
      have hfz16_2 := zad BK203.out 2
      have hfz16_3 := zad BK203.out 3
      have hfz16_4 := zad BK203.out 4
      have hfz16_5 := zad BK203.out 5
      have hfz16_6 := zad BK203.out 6
      go_wp2_with (first | (go_at_call 104; (with_reducible refine (ydm.calls a1_2 2147483647 true _ A11.out).mono ?_); rintro e w' ⟨rfl, ⟨nd, rfl⟩⟩; (try first | exact ⟨rfl, _, World.drewN_drewN _ _ _⟩ | exact ⟨rfl, _, Eq.trans (World.drewN_drewN _ _ _) (congrArg (World.drewN _) (Nat.add_assoc _ _ _))⟩)) | (go_at_call 104; (with_reducible refine (ydm.calls a1_3 2147483647 true _ A13.out).mono ?_); rintro e w' ⟨rfl, ⟨nd, rfl⟩⟩; (try first | exact ⟨rfl, _, World.drewN_drewN _ _ _⟩ | exact ⟨rfl, _, Eq.trans (World.drewN_drewN _ _ _) (congrArg (World.drewN _) (Nat.add_assoc _ _ _))⟩)) | (go_at_call 104; (with_reducible refine (ydm.calls a1_4 2147483647 t207 _ A15.out).mono ?_); rintro e w' ⟨rfl, ⟨nd, rfl⟩⟩; (try first | exact ⟨rfl, _, World.drewN_drewN _ _ _⟩ | exact ⟨rfl, _, Eq.trans (World.drewN_drewN _ _ _) (congrArg (World.drewN _) (Nat.add_assoc _ _ _))⟩)))
      repeat (go_quiet (fail); try go_wp2_with (fail))
      go_meet
      case rel => exact ⟨_, (!t207), (by first | rfl | (simp; done) | (simp [*]; done)), H', ⟨by first | omega | exact Nat.le_refl _⟩, ⟨by (with_reducible repeat (first | refine zae ?_ _ | refine zag ?_ | refine zaf ?_ _)); exact BK203.out⟩, ⟨by repeat (first | (with_reducible first | exact HB.out | apply zab | apply zaa | apply zac | refine zai ?_ GE203.out) | exact HB.out)⟩⟩
     ·replace c14 := Bool.eq_false_iff.mpr c14
      subst c14
      have H1 : (ydh.j0 k l0 true a1_0 a1_1 a1_2 a1_3 a1_4 a1_5 a1_6) = some r := by rw [if_neg (show ¬ (false = true) by decide)] at H; exact H
      clear H
      have H := H1
      clear H1
      have H' := Aside0.mk H
      clear H
      have hcz17_0 : w7.cell? ⟨gb203, 0, none⟩ = some (.string a1_0) := (zah BK203.out 0).trans rfl
      have hcz17_1 : w7.cell? ⟨gb203, 1, none⟩ = some (.string a1_1) := (zah BK203.out 1).trans rfl
      have hcz17_2 : w7.cell? ⟨gb203, 2, none⟩ = some (.int .i64 a1_2) := (zah BK203.out 2).trans rfl
      have hcz17_3 : w7.cell? ⟨gb203, 3, none⟩ = some (.int .i64 a1_3) := (zah BK203.out 3).trans rfl
      have hcz17_4 : w7.cell? ⟨gb203, 4, none⟩ = some (.int .i64 a1_4) := (zah BK203.out 4).trans rfl
      have hcz17_5 : w7.cell? ⟨gb203, 5, none⟩ = some (.int .i64 a1_5) := (zah BK203.out 5).trans rfl
      have hcz17_6 : w7.cell? ⟨gb203, 6, none⟩ = some (.int .i64 a1_6) := (zah BK203.out 6).trans rfl
      have hfz17_0 := zad BK203.out 0
      have hfz17_1 := zad BK203.out 1
      have hfz17_2 := zad BK203.out 2
      have hfz17_3 := zad BK203.out 3
      have hfz17_4 := zad BK203.out 4
      have hfz17_5 := zad BK203.out 5
      have hfz17_6 := zad BK203.out 6
      go_wp2_with (first | (go_at_call 104; (with_reducible refine (ydm.calls a1_2 2147483647 true _ A11.out).mono ?_); rintro e w' ⟨rfl, ⟨nd, rfl⟩⟩; (try first | exact ⟨rfl, _, World.drewN_drewN _ _ _⟩ | exact ⟨rfl, _, Eq.trans (World.drewN_drewN _ _ _) (congrArg (World.drewN _) (Nat.add_assoc _ _ _))⟩)) | (go_at_call 104; (with_reducible refine (ydm.calls a1_3 2147483647 false _ A13.out).mono ?_); rintro e w' ⟨rfl, ⟨nd, rfl⟩⟩; (try first | exact ⟨rfl, _, World.drewN_drewN _ _ _⟩ | exact ⟨rfl, _, Eq.trans (World.drewN_drewN _ _ _) (congrArg (World.drewN _) (Nat.add_assoc _ _ _))⟩)))
      repeat (go_quiet (fail); try go_wp2_with (fail))
      go_meet
      case rel => exact ⟨_, (true), (by first | rfl | (simp; done) | (simp [*]; done)), H', ⟨by first | omega | exact Nat.le_refl _⟩, ⟨by (with_reducible repeat (first | refine zae ?_ _ | refine zag ?_ | refine zaf ?_ _)); exact BK203.out⟩, ⟨by repeat (first | (with_reducible first | exact HB.out | apply zab | apply zaa | apply zac | refine zai ?_ GE203.out) | exact HB.out)⟩⟩
    ·replace c12 := Bool.eq_false_iff.mpr c12
     subst c12
     have H1 : (ydh.j0 k l0 true a1_0 a1_1 a1_2 a1_3 a1_4 a1_5 a1_6) = some r := by rw [if_neg (show ¬ (false = true) by decide)] at H; exact H
     clear H
     have H := H1
     clear H1
     have H' := Aside0.mk H
     clear H
     have hcz18_0 : w7.cell? ⟨gb203, 0, none⟩ = some (.string a1_0) := (zah BK203.out 0).trans rfl
     have hcz18_1 : w7.cell? ⟨gb203, 1, none⟩ = some (.string a1_1) := (zah BK203.out 1).trans rfl
     have hcz18_2 : w7.cell? ⟨gb203, 2, none⟩ = some (.int .i64 a1_2) := (zah BK203.out 2).trans rfl
     have hcz18_3 : w7.cell? ⟨gb203, 3, none⟩ = some (.int .i64 a1_3) := (zah BK203.out 3).trans rfl
     have hcz18_4 : w7.cell? ⟨gb203, 4, none⟩ = some (.int .i64 a1_4) := (zah BK203.out 4).trans rfl
     have hcz18_5 : w7.cell? ⟨gb203, 5, none⟩ = some (.int .i64 a1_5) := (zah BK203.out 5).trans rfl
     have hcz18_6 : w7.cell? ⟨gb203, 6, none⟩ = some (.int .i64 a1_6) := (zah BK203.out 6).trans rfl
     have hfz18_0 := zad BK203.out 0
     have hfz18_1 := zad BK203.out 1
     have hfz18_2 := zad BK203.out 2
     have hfz18_3 := zad BK203.out 3
     have hfz18_4 := zad BK203.out 4
     have hfz18_5 := zad BK203.out 5
     have hfz18_6 := zad BK203.out 6
     go_wp2_with ((go_at_call 104; (with_reducible refine (ydm.calls a1_2 2147483647 false _ A11.out).mono ?_); rintro e w' ⟨rfl, ⟨nd, rfl⟩⟩; (try first | exact ⟨rfl, _, World.drewN_drewN _ _ _⟩ | exact ⟨rfl, _, Eq.trans (World.drewN_drewN _ _ _) (congrArg (World.drewN _) (Nat.add_assoc _ _ _))⟩)))
     repeat (go_quiet (fail); try go_wp2_with (fail))
     go_meet
     case rel => exact ⟨_, (true), (by first | rfl | (simp; done) | (simp [*]; done)), H', ⟨by first | omega | exact Nat.le_refl _⟩, ⟨by (with_reducible repeat (first | refine zae ?_ _ | refine zag ?_ | refine zaf ?_ _)); exact BK203.out⟩, ⟨by repeat (first | (with_reducible first | exact HB.out | apply zab | apply zaa | apply zac | refine zai ?_ GE203.out) | exact HB.out)⟩⟩
  ·replace c8 := Bool.eq_false_iff.mpr c8
   subst c8
   have H1 : (ydh.j0 k l0 true a1_0 a1_1 a1_2 a1_3 a1_4 a1_5 a1_6) = some r := by rw [if_neg (show ¬ (false = true) by decide)] at H; exact H
   clear H
   have H := H1
   clear H1
   have H' := Aside0.mk H
   clear H
   go_wp2
   repeat (go_quiet (fail); try go_wp2)
   go_meet
   case rel => exact ⟨_, (true), (by first | rfl | (simp; done) | (simp [*]; done)), H', ⟨by first | omega | exact Nat.le_refl _⟩, ⟨by (with_reducible repeat (first | refine zae ?_ _ | refine zag ?_ | refine zaf ?_ _)); exact BK203.out⟩, ⟨by repeat (first | (with_reducible first | exact HB.out | apply zab | apply zaa | apply zac | refine zai ?_ GE203.out) | exact HB.out)⟩⟩
 case rest =>
  clear HC4
  try clear c1; try clear p2; try clear c6; try clear c8; try clear c9; try clear c9b0; try clear c9b1; try clear c12; try clear c14; try clear hcz10_0; try clear hcz10_1; try clear hcz10_2; try clear hcz10_3; try clear hcz10_4; try clear hcz10_5; try clear hcz10_6; try clear hcz16_0; try clear hcz16_1; try clear hcz16_2; try clear hcz16_3; try clear hcz16_4; try clear hcz16_5; try clear hcz16_6; try clear hcz17_0
  try clear hcz17_1; try clear hcz17_2; try clear hcz17_3; try clear hcz17_4; try clear hcz17_5; try clear hcz17_6; try clear hcz18_0; try clear hcz18_1; try clear hcz18_2; try clear hcz18_3; try clear hcz18_4; try clear hcz18_5; try clear hcz18_6; try clear hcz6_0; try clear hcz6_1; try clear hcz6_2; try clear hcz6_3; try clear hcz6_4; try clear hcz6_5; try clear hcz6_6; try clear hfz10_0; try clear hfz10_1
  try clear hfz10_2; try clear hfz10_3; try clear hfz10_4; try clear hfz10_5; try clear hfz10_6; try clear hfz16_0; try clear hfz16_1; try clear hfz16_2; try clear hfz16_3; try clear hfz16_4; try clear hfz16_5; try clear hfz16_6; try clear hfz17_0; try clear hfz17_1; try clear hfz17_2; try clear hfz17_3; try clear hfz17_4; try clear hfz17_5; try clear hfz17_6; try clear hfz18_0; try clear hfz18_1; try clear hfz18_2
  try clear hfz18_3; try clear hfz18_4; try clear hfz18_5; try clear hfz18_6; try clear hfz6_0; try clear hfz6_1; try clear hfz6_2; try clear hfz6_3; try clear hfz6_4; try clear hfz6_5; try clear hfz6_6
  obtain ⟨kq, x38_3, rfl, HA, HJ3, BK203, HB⟩ := hcut
  cases kq with
  | zero => exact absurd HA.out (by simp [ydh.j0])
  | succ kj3 =>
   have H := HA.out
   clear HA
   simp only [ydh.j0] at H
   by_cases c19 : x38_3 = true
   ·subst c19
    have H1 : (some false) = some r := by rw [if_pos rfl] at H; exact H
    clear H
    have H := H1
    clear H1
    obtain rfl := Option.some.inj H
    go_wp2
    repeat (go_quiet (fail); try go_wp2)
    go_ret
    exact ⟨by first | rfl | (simp [zal, zak] <;> rfl) | (simp [*, zal, zak] <;> rfl), by repeat (first | (with_reducible first | exact HB.out | apply zab | apply zaa | apply zac | refine zai ?_ GE203.out) | exact HB.out)⟩
   ·replace c19 := Bool.eq_false_iff.mpr c19
    subst c19
    have H1 : ((ydm.f a1_5 2147483647).bind fun t208 => (if t208 = true then ((ydm.f a1_6 100000).bind fun t209 => (if t209 = true then (if a1_5 > 0 then (ydh.j1 kj3 l0 (decide (a1_6 > 0)) a1_0 a1_1 a1_2 a1_3 a1_4 a1_5 a1_6) else (ydh.j1 kj3 l0 false a1_0 a1_1 a1_2 a1_3 a1_4 a1_5 a1_6)) else (ydh.j1 kj3 l0 true a1_0 a1_1 a1_2 a1_3 a1_4 a1_5 a1_6))) else (ydh.j1 kj3 l0 true a1_0 a1_1 a1_2 a1_3 a1_4 a1_5 a1_6))) = some r := by rw [if_neg (show ¬ (false = true) by decide)] at H; exact H
    clear H
    have H := H1
    clear H1
    have HC20 := Aside0.mk H
    clear H
    go_upto_region 4 with (fail)
    repeat (go_quiet (fail); go_upto_region 4 with (fail))
    go_cut [58] (fun v58 wc => ∃ (kq : Nat) (x58_19 : Bool), v58 = .bool x58_19 ∧ Aside0 (ydh.j1 kq l0 x58_19 a1_0 a1_1 a1_2 a1_3 a1_4 a1_5 a1_6 = some r) ∧ Aside0 (kq ≤ kj3) ∧ Aside0 (wc.heap[gb203]? = some (.cells #[.string a1_0, .string a1_1, .int .i64 a1_2, .int .i64 a1_3, .int .i64 a1_4, .int .i64 a1_5, .int .i64 a1_6] 74 (0, 0))) ∧ Aside0 (Below w.heap.size w wc))
    case first =>
     have H := HC20.out
     clear HC20
     replace H := Option.bind_eq_some_iff.mp H
     obtain ⟨t208, A210, H⟩ := H
     replace H : (if t208 = true then ((ydm.f a1_6 100000).bind fun t209 => (if t209 = true then (if a1_5 > 0 then (ydh.j1 kj3 l0 (decide (a1_6 > 0)) a1_0 a1_1 a1_2 a1_3 a1_4 a1_5 a1_6) else (ydh.j1 kj3 l0 false a1_0 a1_1 a1_2 a1_3 a1_4 a1_5 a1_6)) else (ydh.j1 kj3 l0 true a1_0 a1_1 a1_2 a1_3 a1_4 a1_5 a1_6))) else (ydh.j1 kj3 l0 true a1_0 a1_1 a1_2 a1_3 a1_4 a1_5 a1_6)) = some r := H
     have A21 := Aside0.mk A210
     clear A210
     by_cases c22 : t208 = true
     ·subst c22
      have H1 : ((ydm.f a1_6 100000).bind fun t209 => (if t209 = true then (if a1_5 > 0 then (ydh.j1 kj3 l0 (decide (a1_6 > 0)) a1_0 a1_1 a1_2 a1_3 a1_4 a1_5 a1_6) else (ydh.j1 kj3 l0 false a1_0 a1_1 a1_2 a1_3 a1_4 a1_5 a1_6)) else (ydh.j1 kj3 l0 true a1_0 a1_1 a1_2 a1_3 a1_4 a1_5 a1_6))) = some r := by rw [if_pos rfl] at H; exact H
      clear H
      have H := H1
      clear H1
      replace H := Option.bind_eq_some_iff.mp H
      obtain ⟨t209, A230, H⟩ := H
      replace H : (if t209 = true then (if a1_5 > 0 then (ydh.j1 kj3 l0 (decide (a1_6 > 0)) a1_0 a1_1 a1_2 a1_3 a1_4 a1_5 a1_6) else (ydh.j1 kj3 l0 false a1_0 a1_1 a1_2 a1_3 a1_4 a1_5 a1_6)) else (ydh.j1 kj3 l0 true a1_0 a1_1 a1_2 a1_3 a1_4 a1_5 a1_6)) = some r := H
      have A23 := Aside0.mk A230
      clear A230
      by_cases c24 : t209 = true
      ·subst c24
       have H1 : (if a1_5 > 0 then (ydh.j1 kj3 l0 (decide (a1_6 > 0)) a1_0 a1_1 a1_2 a1_3 a1_4 a1_5 a1_6) else (ydh.j1 kj3 l0 false a1_0 a1_1 a1_2 a1_3 a1_4 a1_5 a1_6)) = some r := by rw [if_pos rfl] at H; exact H
       clear H
       have H := H1
       clear H1
       by_cases c25 : a1_5 > 0
       ·rw [if_pos c25] at H
        have c25b0 : decide (0 < a1_5) = true := decide_eq_true c25
        clear c25
        (first | rw [c25b0] | (simp only [zbp, zch]; rw [c25b0]) | rw [c25b9] | skip)
        have H' := Aside0.mk H
        clear H
        have hcz26_0 : wc.cell? ⟨gb203, 0, none⟩ = some (.string a1_0) := (zah BK203.out 0).trans rfl
        have hcz26_1 : wc.cell? ⟨gb203, 1, none⟩ = some (.string a1_1) := (zah BK203.out 1).trans rfl
        have hcz26_2 : wc.cell? ⟨gb203, 2, none⟩ = some (.int .i64 a1_2) := (zah BK203.out 2).trans rfl
        have hcz26_3 : wc.cell? ⟨gb203, 3, none⟩ = some (.int .i64 a1_3) := (zah BK203.out 3).trans rfl
        have hcz26_4 : wc.cell? ⟨gb203, 4, none⟩ = some (.int .i64 a1_4) := (zah BK203.out 4).trans rfl
        have hcz26_5 : wc.cell? ⟨gb203, 5, none⟩ = some (.int .i64 a1_5) := (zah BK203.out 5).trans rfl
        have hcz26_6 : wc.cell? ⟨gb203, 6, none⟩ = some (.int .i64 a1_6) := (zah BK203.out 6).trans rfl
        have hfz26_0 := zad BK203.out 0
        have hfz26_1 := zad BK203.out 1
        have hfz26_2 := zad BK203.out 2
        have hfz26_3 := zad BK203.out 3
        have hfz26_4 := zad BK203.out 4
        have hfz26_5 := zad BK203.out 5
        have hfz26_6 := zad BK203.out 6
        go_wp2_with (first | (go_at_call 104; (with_reducible refine (ydm.calls a1_5 2147483647 true _ A21.out).mono ?_); rintro e w' ⟨rfl, ⟨nd, rfl⟩⟩; (try first | exact ⟨rfl, _, World.drewN_drewN _ _ _⟩ | exact ⟨rfl, _, Eq.trans (World.drewN_drewN _ _ _) (congrArg (World.drewN _) (Nat.add_assoc _ _ _))⟩)) | (go_at_call 104; (with_reducible refine (ydm.calls a1_6 100000 true _ A23.out).mono ?_); rintro e w' ⟨rfl, ⟨nd, rfl⟩⟩; (try first | exact ⟨rfl, _, World.drewN_drewN _ _ _⟩ | exact ⟨rfl, _, Eq.trans (World.drewN_drewN _ _ _) (congrArg (World.drewN _) (Nat.add_assoc _ _ _))⟩)))
        repeat (go_quiet (fail); try go_wp2_with (fail))
        go_meet
        case rel => exact ⟨_, (decide (a1_6 > 0)), (by first | rfl | (simp; done) | (simp [*]; done)), H', ⟨by have := HJ3.out; first | omega | exact Nat.le_refl _⟩, ⟨by (with_reducible repeat (first | refine zae ?_ _ | refine zag ?_ | refine zaf ?_ _)); exact BK203.out⟩, ⟨by repeat (first | (with_reducible first | exact HB.out | apply zab | apply zaa | apply zac | refine zai ?_ GE203.out) | exact HB.out)⟩⟩
       ·rw [if_neg c25] at H
        have c25b0 : decide (0 < a1_5) = false := decide_eq_false c25
        clear c25
        (first | rw [c25b0] | (simp only [zbp, zch]; rw [c25b0]) | rw [c25b9] | skip)
        have H' := Aside0.mk H
        clear H
        have hcz27_0 : wc.cell? ⟨gb203, 0, none⟩ = some (.string a1_0) := (zah BK203.out 0).trans rfl
        have hcz27_1 : wc.cell? ⟨gb203, 1, none⟩ = some (.string a1_1) := (zah BK203.out 1).trans rfl
        have hcz27_2 : wc.cell? ⟨gb203, 2, none⟩ = some (.int .i64 a1_2) := (zah BK203.out 2).trans rfl
        have hcz27_3 : wc.cell? ⟨gb203, 3, none⟩ = some (.int .i64 a1_3) := (zah BK203.out 3).trans rfl
        have hcz27_4 : wc.cell? ⟨gb203, 4, none⟩ = some (.int .i64 a1_4) := (zah BK203.out 4).trans rfl
        have hcz27_5 : wc.cell? ⟨gb203, 5, none⟩ = some (.int .i64 a1_5) := (zah BK203.out 5).trans rfl
        have hcz27_6 : wc.cell? ⟨gb203, 6, none⟩ = some (.int .i64 a1_6) := (zah BK203.out 6).trans rfl
        have hfz27_0 := zad BK203.out 0
        have hfz27_1 := zad BK203.out 1
        have hfz27_2 := zad BK203.out 2
        have hfz27_3 := zad BK203.out 3
        have hfz27_4 := zad BK203.out 4
        have hfz27_5 := zad BK203.out 5
        have hfz27_6 := zad BK203.out 6
        go_wp2_with (first | (go_at_call 104; (with_reducible refine (ydm.calls a1_5 2147483647 true _ A21.out).mono ?_); rintro e w' ⟨rfl, ⟨nd, rfl⟩⟩; (try first | exact ⟨rfl, _, World.drewN_drewN _ _ _⟩ | exact ⟨rfl, _, Eq.trans (World.drewN_drewN _ _ _) (congrArg (World.drewN _) (Nat.add_assoc _ _ _))⟩)) | (go_at_call 104; (with_reducible refine (ydm.calls a1_6 100000 true _ A23.out).mono ?_); rintro e w' ⟨rfl, ⟨nd, rfl⟩⟩; (try first | exact ⟨rfl, _, World.drewN_drewN _ _ _⟩ | exact ⟨rfl, _, Eq.trans (World.drewN_drewN _ _ _) (congrArg (World.drewN _) (Nat.add_assoc _ _ _))⟩)))
        repeat (go_quiet (fail); try go_wp2_with (fail))
        go_meet
        case rel => exact ⟨_, (false), (by first | rfl | (simp; done) | (simp [*]; done)), H', ⟨by have := HJ3.out; first | omega | exact Nat.le_refl _⟩, ⟨by (with_reducible repeat (first | refine zae ?_ _ | refine zag ?_ | refine zaf ?_ _)); exact BK203.out⟩, ⟨by repeat (first | (with_reducible first | exact HB.out | apply zab | apply zaa | apply zac | refine zai ?_ GE203.out) | exact HB.out)⟩⟩
      ·replace c24 := Bool.eq_false_iff.mpr c24
       subst c24
       have H1 : (ydh.j1 kj3 l0 true a1_0 a1_1 a1_2 a1_3 a1_4 a1_5 a1_6) = some r := by rw [if_neg (show ¬ (false = true) by decide)] at H; exact H
       clear H
       have H := H1
       clear H1
       have H' := Aside0.mk H
       clear H
       have hcz28_0 : wc.cell? ⟨gb203, 0, none⟩ = some (.string a1_0) := (zah BK203.out 0).trans rfl
       have hcz28_1 : wc.cell? ⟨gb203, 1, none⟩ = some (.string a1_1) := (zah BK203.out 1).trans rfl
       have hcz28_2 : wc.cell? ⟨gb203, 2, none⟩ = some (.int .i64 a1_2) := (zah BK203.out 2).trans rfl
       have hcz28_3 : wc.cell? ⟨gb203, 3, none⟩ = some (.int .i64 a1_3) := (zah BK203.out 3).trans rfl
       have hcz28_4 : wc.cell? ⟨gb203, 4, none⟩ = some (.int .i64 a1_4) := (zah BK203.out 4).trans rfl
       have hcz28_5 : wc.cell? ⟨gb203, 5, none⟩ = some (.int .i64 a1_5) := (zah BK203.out 5).trans rfl
       have hcz28_6 : wc.cell? ⟨gb203, 6, none⟩ = some (.int .i64 a1_6) := (zah BK203.out 6).trans rfl
       have hfz28_0 := zad BK203.out 0
       have hfz28_1 := zad BK203.out 1
       have hfz28_2 := zad BK203.out 2
       have hfz28_3 := zad BK203.out 3
       have hfz28_4 := zad BK203.out 4
       have hfz28_5 := zad BK203.out 5
       have hfz28_6 := zad BK203.out 6
       go_wp2_with (first | (go_at_call 104; (with_reducible refine (ydm.calls a1_5 2147483647 true _ A21.out).mono ?_); rintro e w' ⟨rfl, ⟨nd, rfl⟩⟩; (try first | exact ⟨rfl, _, World.drewN_drewN _ _ _⟩ | exact ⟨rfl, _, Eq.trans (World.drewN_drewN _ _ _) (congrArg (World.drewN _) (Nat.add_assoc _ _ _))⟩)) | (go_at_call 104; (with_reducible refine (ydm.calls a1_6 100000 false _ A23.out).mono ?_); rintro e w' ⟨rfl, ⟨nd, rfl⟩⟩; (try first | exact ⟨rfl, _, World.drewN_drewN _ _ _⟩ | exact ⟨rfl, _, Eq.trans (World.drewN_drewN _ _ _) (congrArg (World.drewN _) (Nat.add_assoc _ _ _))⟩)))
       repeat (go_quiet (fail); try go_wp2_with (fail))
       go_meet
       case rel => exact ⟨_, (true), (by first | rfl | (simp; done) | (simp [*]; done)), H', ⟨by have := HJ3.out; first | omega | exact Nat.le_refl _⟩, ⟨by (with_reducible repeat (first | refine zae ?_ _ | refine zag ?_ | refine zaf ?_ _)); exact BK203.out⟩, ⟨by repeat (first | (with_reducible first | exact HB.out | apply zab | apply zaa | apply zac | refine zai ?_ GE203.out) | exact HB.out)⟩⟩
     ·replace c22 := Bool.eq_false_iff.mpr c22
      subst c22
      have H1 : (ydh.j1 kj3 l0 true a1_0 a1_1 a1_2 a1_3 a1_4 a1_5 a1_6) = some r := by rw [if_neg (show ¬ (false = true) by decide)] at H; exact H
      clear H
      have H := H1
      clear H1
      have H' := Aside0.mk H
      clear H
      have hcz29_0 : wc.cell? ⟨gb203, 0, none⟩ = some (.string a1_0) := (zah BK203.out 0).trans rfl
      have hcz29_1 : wc.cell? ⟨gb203, 1, none⟩ = some (.string a1_1) := (zah BK203.out 1).trans rfl
      have hcz29_2 : wc.cell? ⟨gb203, 2, none⟩ = some (.int .i64 a1_2) := (zah BK203.out 2).trans rfl
      have hcz29_3 : wc.cell? ⟨gb203, 3, none⟩ = some (.int .i64 a1_3) := (zah BK203.out 3).trans rfl
      have hcz29_4 : wc.cell? ⟨gb203, 4, none⟩ = some (.int .i64 a1_4) := (zah BK203.out 4).trans rfl
      have hcz29_5 : wc.cell? ⟨gb203, 5, none⟩ = some (.int .i64 a1_5) := (zah BK203.out 5).trans rfl
      have hcz29_6 : wc.cell? ⟨gb203, 6, none⟩ = some (.int .i64 a1_6) := (zah BK203.out 6).trans rfl
      have hfz29_0 := zad BK203.out 0
      have hfz29_1 := zad BK203.out 1
      have hfz29_2 := zad BK203.out 2
      have hfz29_3 := zad BK203.out 3
      have hfz29_4 := zad BK203.out 4
      have hfz29_5 := zad BK203.out 5
      have hfz29_6 := zad BK203.out 6
      go_wp2_with ((go_at_call 104; (with_reducible refine (ydm.calls a1_5 2147483647 false _ A21.out).mono ?_); rintro e w' ⟨rfl, ⟨nd, rfl⟩⟩; (try first | exact ⟨rfl, _, World.drewN_drewN _ _ _⟩ | exact ⟨rfl, _, Eq.trans (World.drewN_drewN _ _ _) (congrArg (World.drewN _) (Nat.add_assoc _ _ _))⟩)))
      repeat (go_quiet (fail); try go_wp2_with (fail))
      go_meet
      case rel => exact ⟨_, (true), (by first | rfl | (simp; done) | (simp [*]; done)), H', ⟨by have := HJ3.out; first | omega | exact Nat.le_refl _⟩, ⟨by (with_reducible repeat (first | refine zae ?_ _ | refine zag ?_ | refine zaf ?_ _)); exact BK203.out⟩, ⟨by repeat (first | (with_reducible first | exact HB.out | apply zab | apply zaa | apply zac | refine zai ?_ GE203.out) | exact HB.out)⟩⟩
    case rest =>
     clear HC20
     try clear c1; try clear c2; try clear p2; try clear c6; try clear c8; try clear c9; try clear c9b0; try clear c9b1; try clear c12; try clear c14; try clear c19; try clear c22; try clear c24; try clear c25; try clear c25b0; try clear hcz10_0; try clear hcz10_1; try clear hcz10_2; try clear hcz10_3; try clear hcz10_4; try clear hcz10_5; try clear hcz10_6; try clear hcz16_0; try clear hcz16_1; try clear hcz16_2
     try clear hcz16_3; try clear hcz16_4; try clear hcz16_5; try clear hcz16_6; try clear hcz17_0; try clear hcz17_1; try clear hcz17_2; try clear hcz17_3; try clear hcz17_4; try clear hcz17_5; try clear hcz17_6; try clear hcz18_0; try clear hcz18_1; try clear hcz18_2; try clear hcz18_3; try clear hcz18_4; try clear hcz18_5; try clear hcz18_6; try clear hcz26_0; try clear hcz26_1; try clear hcz26_2
     try clear hcz26_3; try clear hcz26_4; try clear hcz26_5; try clear hcz26_6; try clear hcz27_0; try clear hcz27_1; try clear hcz27_2; try clear hcz27_3; try clear hcz27_4; try clear hcz27_5; try clear hcz27_6; try clear hcz28_0; try clear hcz28_1; try clear hcz28_2; try clear hcz28_3; try clear hcz28_4; try clear hcz28_5; try clear hcz28_6; try clear hcz29_0; try clear hcz29_1; try clear hcz29_2
     try clear hcz29_3; try clear hcz29_4; try clear hcz29_5; try clear hcz29_6; try clear hcz6_0; try clear hcz6_1; try clear hcz6_2; try clear hcz6_3; try clear hcz6_4; try clear hcz6_5; try clear hcz6_6; try clear hfz10_0; try clear hfz10_1; try clear hfz10_2; try clear hfz10_3; try clear hfz10_4; try clear hfz10_5; try clear hfz10_6; try clear hfz16_0; try clear hfz16_1; try clear hfz16_2; try clear hfz16_3
     try clear hfz16_4; try clear hfz16_5; try clear hfz16_6; try clear hfz17_0; try clear hfz17_1; try clear hfz17_2; try clear hfz17_3; try clear hfz17_4; try clear hfz17_5; try clear hfz17_6; try clear hfz18_0; try clear hfz18_1; try clear hfz18_2; try clear hfz18_3; try clear hfz18_4; try clear hfz18_5; try clear hfz18_6; try clear hfz26_0; try clear hfz26_1; try clear hfz26_2; try clear hfz26_3
     try clear hfz26_4; try clear hfz26_5; try clear hfz26_6; try clear hfz27_0; try clear hfz27_1; try clear hfz27_2; try clear hfz27_3; try clear hfz27_4; try clear hfz27_5; try clear hfz27_6; try clear hfz28_0; try clear hfz28_1; try clear hfz28_2; try clear hfz28_3; try clear hfz28_4; try clear hfz28_5; try clear hfz28_6; try clear hfz29_0; try clear hfz29_1; try clear hfz29_2; try clear hfz29_3
     try clear hfz29_4; try clear hfz29_5; try clear hfz29_6; try clear hfz6_0; try clear hfz6_1; try clear hfz6_2; try clear hfz6_3; try clear hfz6_4; try clear hfz6_5; try clear hfz6_6; try clear p2
     obtain ⟨kq, x58_19, rfl, HA, HJ19, BK203, HB⟩ := hcut
     cases kq with
     | zero => exact absurd HA.out (by simp [ydh.j1])
     | succ kj19 =>
      have H := HA.out
      clear HA
      simp only [ydh.j1] at H
      by_cases c30 : x58_19 = true
      ·subst c30
       have H1 : (some false) = some r := by rw [if_pos rfl] at H; exact H
       clear H
       have H := H1
       clear H1
       obtain rfl := Option.some.inj H
       go_wp2
       repeat (go_quiet (fail); try go_wp2)
       go_ret
       exact ⟨by first | rfl | (simp [zal, zak] <;> rfl) | (simp [*, zal, zak] <;> rfl), by repeat (first | (with_reducible first | exact HB.out | apply zab | apply zaa | apply zac | refine zai ?_ GE203.out) | exact HB.out)⟩
      ·replace c30 := Bool.eq_false_iff.mpr c30
       subst c30
       have H1 : (if (l0.length : Int) = 0 then (if a1_0.toList = ([47] : List UInt8) then (some (a1_5 == 0)) else (some false)) else ((yeh.f kj19 a1_0).bind fun bt210 => (if 0 ≤ (wrap64 ((l0.length : Int) - 1)) then (if (wrap64 ((l0.length : Int) - 1)) < (l0.length : Int) then ((ydn.f kj19 ((zam l0 (wrap64 ((l0.length : Int) - 1))).f0) a1_0).bind fun t213 => (if bt210.2 = 0 then (if t213 ≥ 0 then (some false) else ((ydy.f kj19 l0 bt210.1).bind fun t214 => (if t214 ≥ 0 then (if 0 ≤ t214 then (if t214 < (l0.length : Int) then (some (((zam l0 t214).f5) == 0)) else (none)) else (none)) else (some false)))) else (some false))) else (none)) else (none)))) = some r := by rw [if_neg (show ¬ (false = true) by decide)] at H; exact H
       clear H
       have H := H1
       clear H1
       by_cases c31 : (l0.length : Int) = 0
       ·rw [if_pos c31] at H
        have c31b0 : ((l0.length : Int) == 0) = true := beq_iff_eq.mpr c31
        have c31b1 : ((l0.length : Int) != 0) = false := bne_eq_false_iff_eq.mpr c31
        clear c31
        by_cases c32 : a1_0.toList = ([47] : List UInt8)
        ·rw [if_pos c32] at H
         have c32b0 : (a1_0.toList == ([47] : List UInt8)) = true := beq_iff_eq.mpr c32
         have c32b1 : (a1_0.toList != ([47] : List UInt8)) = false := bne_eq_false_iff_eq.mpr c32
         clear c32
         obtain rfl := Option.some.inj H
         have hcz33_0 : wc.cell? ⟨gb203, 0, none⟩ = some (.string a1_0) := (zah BK203.out 0).trans rfl
         have hcz33_1 : wc.cell? ⟨gb203, 1, none⟩ = some (.string a1_1) := (zah BK203.out 1).trans rfl
         have hcz33_2 : wc.cell? ⟨gb203, 2, none⟩ = some (.int .i64 a1_2) := (zah BK203.out 2).trans rfl
         have hcz33_3 : wc.cell? ⟨gb203, 3, none⟩ = some (.int .i64 a1_3) := (zah BK203.out 3).trans rfl
         have hcz33_4 : wc.cell? ⟨gb203, 4, none⟩ = some (.int .i64 a1_4) := (zah BK203.out 4).trans rfl
         have hcz33_5 : wc.cell? ⟨gb203, 5, none⟩ = some (.int .i64 a1_5) := (zah BK203.out 5).trans rfl
         have hcz33_6 : wc.cell? ⟨gb203, 6, none⟩ = some (.int .i64 a1_6) := (zah BK203.out 6).trans rfl
         have hfz33_0 := zad BK203.out 0
         have hfz33_1 := zad BK203.out 1
         have hfz33_2 := zad BK203.out 2
         have hfz33_3 := zad BK203.out 3
         have hfz33_4 := zad BK203.out 4
         have hfz33_5 := zad BK203.out 5
         have hfz33_6 := zad BK203.out 6
         go_wp2
         repeat (go_quiet (fail); try go_wp2)
         go_ret
         exact ⟨by first | rfl | (simp [zal, zak] <;> rfl) | (simp [*, zal, zak] <;> rfl), by repeat (first | (with_reducible first | exact HB.out | apply zab | apply zaa | apply zac | refine zai ?_ GE203.out) | exact HB.out)⟩
        ·rw [if_neg c32] at H
         have c32b0 : (a1_0.toList == ([47] : List UInt8)) = false := beq_eq_false_iff_ne.mpr c32
         have c32b1 : (a1_0.toList != ([47] : List UInt8)) = true := bne_iff_ne.mpr c32
         obtain rfl := Option.some.inj H
         have hcz34_0 : wc.cell? ⟨gb203, 0, none⟩ = some (.string a1_0) := (zah BK203.out 0).trans rfl
         have hcz34_1 : wc.cell? ⟨gb203, 1, none⟩ = some (.string a1_1) := (zah BK203.out 1).trans rfl
         have hcz34_2 : wc.cell? ⟨gb203, 2, none⟩ = some (.int .i64 a1_2) := (zah BK203.out 2).trans rfl
         have hcz34_3 : wc.cell? ⟨gb203, 3, none⟩ = some (.int .i64 a1_3) := (zah BK203.out 3).trans rfl
         have hcz34_4 : wc.cell? ⟨gb203, 4, none⟩ = some (.int .i64 a1_4) := (zah BK203.out 4).trans rfl
         have hcz34_5 : wc.cell? ⟨gb203, 5, none⟩ = some (.int .i64 a1_5) := (zah BK203.out 5).trans rfl
         have hcz34_6 : wc.cell? ⟨gb203, 6, none⟩ = some (.int .i64 a1_6) := (zah BK203.out 6).trans rfl
         have hfz34_0 := zad BK203.out 0
         have hfz34_1 := zad BK203.out 1
         have hfz34_2 := zad BK203.out 2
         have hfz34_3 := zad BK203.out 3
         have hfz34_4 := zad BK203.out 4
         have hfz34_5 := zad BK203.out 5
         have hfz34_6 := zad BK203.out 6
         go_wp2
         repeat (go_quiet (fail); try go_wp2)
         go_ret
         exact ⟨by first | rfl | (simp [zal, zak] <;> rfl) | (simp [*, zal, zak] <;> rfl), by repeat (first | (with_reducible first | exact HB.out | apply zab | apply zaa | apply zac | refine zai ?_ GE203.out) | exact HB.out)⟩
       ·rw [if_neg c31] at H
        have c31b0 : ((l0.length : Int) == 0) = false := beq_eq_false_iff_ne.mpr c31
        have c31b1 : ((l0.length : Int) != 0) = true := bne_iff_ne.mpr c31
        have c31b2 : ¬ (l0 = []) := fun h_ => c31 (by rw [h_]; rfl)
        replace H := Option.bind_eq_some_iff.mp H
        obtain ⟨⟨t210, t211⟩, A350, H⟩ := H
        replace H : (if 0 ≤ (wrap64 ((l0.length : Int) - 1)) then (if (wrap64 ((l0.length : Int) - 1)) < (l0.length : Int) then ((ydn.f kj19 ((zam l0 (wrap64 ((l0.length : Int) - 1))).f0) a1_0).bind fun t213 => (if t211 = 0 then (if t213 ≥ 0 then (some false) else ((ydy.f kj19 l0 t210).bind fun t214 => (if t214 ≥ 0 then (if 0 ≤ t214 then (if t214 < (l0.length : Int) then (some (((zam l0 t214).f5) == 0)) else (none)) else (none)) else (some false)))) else (some false))) else (none)) else (none)) = some r := H
        have A35 := Aside0.mk A350
        clear A350
        obtain ⟨ji36, hji36⟩ : ∃ j_ : Int, (wrap64 ((l0.length : Int) - 1)) = j_ := ⟨_, rfl⟩
        replace H : (if 0 ≤ (ji36) then (if (ji36) < (l0.length : Int) then ((ydn.f kj19 ((zam l0 (ji36)).f0) a1_0).bind fun t213 => (if t211 = 0 then (if t213 ≥ 0 then (some false) else ((ydy.f kj19 l0 t210).bind fun t214 => (if t214 ≥ 0 then (if 0 ≤ t214 then (if t214 < (l0.length : Int) then (some (((zam l0 t214).f5) == 0)) else (none)) else (none)) else (some false)))) else (some false))) else (none)) else (none)) = some r := by first | (rw [hji36] at H; exact H) | (simp only [hji36] at H ⊢; exact H)
        (try rw [hji36] at A35)
        have hji36w : (IntKind.i64.wrap ((l0.length : Int) - 1)) = ji36 := (zbp _).trans hji36
        by_cases c37 : 0 ≤ (ji36)
        ·rw [if_pos c37] at H
         have c37b0 : decide (0 ≤ (ji36)) = true := decide_eq_true c37
         clear c37
         by_cases c38 : (ji36) < (l0.length : Int)
         ·rw [if_pos c38] at H
          have c38b0 : decide ((ji36) < (l0.length : Int)) = true := decide_eq_true c38
          clear c38
          replace H := Option.bind_eq_some_iff.mp H
          obtain ⟨t213, A390, H⟩ := H
          replace H : (if t211 = 0 then (if t213 ≥ 0 then (some false) else ((ydy.f kj19 l0 t210).bind fun t214 => (if t214 ≥ 0 then (if 0 ≤ t214 then (if t214 < (l0.length : Int) then (some (((zam l0 t214).f5) == 0)) else (none)) else (none)) else (some false)))) else (some false)) = some r := H
          have A39 := Aside0.mk A390
          clear A390
          by_cases c40 : t211 = 0
          ·rw [if_pos c40] at H
           have c40b0 : (t211 == 0) = true := beq_iff_eq.mpr c40
           have c40b1 : (t211 != 0) = false := bne_eq_false_iff_eq.mpr c40
           clear c40
           by_cases c41 : t213 ≥ 0
           ·rw [if_pos c41] at H
            have c41b0 : decide (0 ≤ t213) = true := decide_eq_true c41
            clear c41
            obtain rfl := Option.some.inj H
            have hcz42_0 : wc.cell? ⟨gb203, 0, none⟩ = some (.string a1_0) := (zah BK203.out 0).trans rfl
            have hcz42_1 : wc.cell? ⟨gb203, 1, none⟩ = some (.string a1_1) := (zah BK203.out 1).trans rfl
            have hcz42_2 : wc.cell? ⟨gb203, 2, none⟩ = some (.int .i64 a1_2) := (zah BK203.out 2).trans rfl
            have hcz42_3 : wc.cell? ⟨gb203, 3, none⟩ = some (.int .i64 a1_3) := (zah BK203.out 3).trans rfl
            have hcz42_4 : wc.cell? ⟨gb203, 4, none⟩ = some (.int .i64 a1_4) := (zah BK203.out 4).trans rfl
            have hcz42_5 : wc.cell? ⟨gb203, 5, none⟩ = some (.int .i64 a1_5) := (zah BK203.out 5).trans rfl
            have hcz42_6 : wc.cell? ⟨gb203, 6, none⟩ = some (.int .i64 a1_6) := (zah BK203.out 6).trans rfl
            have hfz42_0 := zad BK203.out 0
            have hfz42_1 := zad BK203.out 1
            have hfz42_2 := zad BK203.out 2
            have hfz42_3 := zad BK203.out 3
            have hfz42_4 := zad BK203.out 4
            have hfz42_5 := zad BK203.out 5
            have hfz42_6 := zad BK203.out 6
            go_wp2_with ((go_at_call 105; (with_reducible refine (yeh.calls kj19 a1_0 t210 t211 _ A35.out).mono ?_); rintro e w43 ⟨rfl, hb⟩; have n0_ := Aside0.mk (zau (g := gb203) (o := .cells #[.string a1_0, .string a1_1, .int .i64 a1_2, .int .i64 a1_3, .int .i64 a1_4, .int .i64 a1_5, .int .i64 a1_6] 74 (0, 0)) (by (with_reducible repeat (first | refine zae ?_ _ | refine zag ?_ | refine zaf ?_ _)); exact BK203.out) hb); have n1_ := Aside0.mk (zap (by repeat (first | (with_reducible first | exact HB.out | apply zab | apply zaa | apply zac | refine zai ?_ GE203.out) | exact HB.out)) hb); clear BK203; clear HB; have BK203 := n0_; have HB := n1_; clear n0_ n1_; (try clear hb); (try clear hb2); (try clear hk); (try clear hi); have p212 : 0 ≤ ((ji36) : Int) := of_decide_eq_true (by assumption); have q212 : (ji36) < (l0.length : Int) := of_decide_eq_true (by assumption); obtain ⟨ad212, e212, hx212_0, hx212_1, hx212_2, hx212_3, hx212_4, hx212_5, hx212_6⟩ := zda HR0.out (ji36) p212 q212; cases e212; replace hx212_0 := (HB.out.cell (World.block_lt_of_cell? w _ hx212_0)).trans hx212_0; replace hx212_1 := (HB.out.cell (World.block_lt_of_cell? w _ hx212_1)).trans hx212_1; replace hx212_2 := (HB.out.cell (World.block_lt_of_cell? w _ hx212_2)).trans hx212_2; replace hx212_3 := (HB.out.cell (World.block_lt_of_cell? w _ hx212_3)).trans hx212_3; replace hx212_4 := (HB.out.cell (World.block_lt_of_cell? w _ hx212_4)).trans hx212_4; replace hx212_5 := (HB.out.cell (World.block_lt_of_cell? w _ hx212_5)).trans hx212_5; replace hx212_6 := (HB.out.cell (World.block_lt_of_cell? w _ hx212_6)).trans hx212_6; replace p212 := eq_true p212; replace q212 := eq_true q212; have hcz44_0 : w43.cell? ⟨gb203, 0, none⟩ = some (.string a1_0) := (zah BK203.out 0).trans rfl; have hcz44_1 : w43.cell? ⟨gb203, 1, none⟩ = some (.string a1_1) := (zah BK203.out 1).trans rfl; have hcz44_2 : w43.cell? ⟨gb203, 2, none⟩ = some (.int .i64 a1_2) := (zah BK203.out 2).trans rfl; have hcz44_3 : w43.cell? ⟨gb203, 3, none⟩ = some (.int .i64 a1_3) := (zah BK203.out 3).trans rfl; have hcz44_4 : w43.cell? ⟨gb203, 4, none⟩ = some (.int .i64 a1_4) := (zah BK203.out 4).trans rfl; have hcz44_5 : w43.cell? ⟨gb203, 5, none⟩ = some (.int .i64 a1_5) := (zah BK203.out 5).trans rfl; have hcz44_6 : w43.cell? ⟨gb203, 6, none⟩ = some (.int .i64 a1_6) := (zah BK203.out 6).trans rfl; have hfz44_0 := zad BK203.out 0; have hfz44_1 := zad BK203.out 1; have hfz44_2 := zad BK203.out 2; have hfz44_3 := zad BK203.out 3; have hfz44_4 := zad BK203.out 4; have hfz44_5 := zad BK203.out 5; have hfz44_6 := zad BK203.out 6))
            repeat (go_quiet ((go_at_call 63; (with_reducible refine (ydn.calls kj19 ((zam l0 (ji36)).f0) a1_0 t213 _ A39.out).mono ?_); rintro e w' ⟨rfl, ⟨nd, rfl⟩⟩; (try first | exact ⟨rfl, _, World.drewN_drewN _ _ _⟩ | exact ⟨rfl, _, Eq.trans (World.drewN_drewN _ _ _) (congrArg (World.drewN _) (Nat.add_assoc _ _ _))⟩))); try go_wp2_with (fail))
            go_ret
            exact ⟨by first | rfl | (simp [zal, zak] <;> rfl) | (simp only [← hji36]; first | rfl | (simp [zal, zak] <;> rfl)) | (simp [*, zal, zak] <;> rfl), by repeat (first | (with_reducible first | exact HB.out | apply zab | apply zaa | apply zac | refine zai ?_ GE203.out) | exact HB.out)⟩
           ·rw [if_neg c41] at H
            have c41b0 : decide (0 ≤ t213) = false := decide_eq_false c41
            clear c41
            replace H := Option.bind_eq_some_iff.mp H
            obtain ⟨t214, A450, H⟩ := H
            replace H : (if t214 ≥ 0 then (if 0 ≤ t214 then (if t214 < (l0.length : Int) then (some (((zam l0 t214).f5) == 0)) else (none)) else (none)) else (some false)) = some r := H
            have A45 := Aside0.mk A450
            clear A450
            by_cases c46 : t214 ≥ 0
            ·rw [if_pos c46] at H
             have c46b0 : decide (0 ≤ t214) = true := decide_eq_true c46
             clear c46
             by_cases c47 : 0 ≤ t214
             ·rw [if_pos c47] at H
              have c47b0 : decide (0 ≤ t214) = true := decide_eq_true c47
              clear c47
              by_cases c48 : t214 < (l0.length : Int)
              ·rw [if_pos c48] at H
               have c48b0 : decide (t214 < (l0.length : Int)) = true := decide_eq_true c48
               clear c48
               obtain rfl := Option.some.inj H
               have hcz49_0 : wc.cell? ⟨gb203, 0, none⟩ = some (.string a1_0) := (zah BK203.out 0).trans rfl
               have hcz49_1 : wc.cell? ⟨gb203, 1, none⟩ = some (.string a1_1) := (zah BK203.out 1).trans rfl
               have hcz49_2 : wc.cell? ⟨gb203, 2, none⟩ = some (.int .i64 a1_2) := (zah BK203.out 2).trans rfl
               have hcz49_3 : wc.cell? ⟨gb203, 3, none⟩ = some (.int .i64 a1_3) := (zah BK203.out 3).trans rfl
               have hcz49_4 : wc.cell? ⟨gb203, 4, none⟩ = some (.int .i64 a1_4) := (zah BK203.out 4).trans rfl
               have hcz49_5 : wc.cell? ⟨gb203, 5, none⟩ = some (.int .i64 a1_5) := (zah BK203.out 5).trans rfl
               have hcz49_6 : wc.cell? ⟨gb203, 6, none⟩ = some (.int .i64 a1_6) := (zah BK203.out 6).trans rfl
               have hfz49_0 := zad BK203.out 0
               have hfz49_1 := zad BK203.out 1
               have hfz49_2 := zad BK203.out 2
               have hfz49_3 := zad BK203.out 3
               have hfz49_4 := zad BK203.out 4
               have hfz49_5 := zad BK203.out 5
               have hfz49_6 := zad BK203.out 6
               go_wp2_with ((go_at_call 105; (with_reducible refine (yeh.calls kj19 a1_0 t210 t211 _ A35.out).mono ?_); rintro e w50 ⟨rfl, hb⟩; have n0_ := Aside0.mk (zau (g := gb203) (o := .cells #[.string a1_0, .string a1_1, .int .i64 a1_2, .int .i64 a1_3, .int .i64 a1_4, .int .i64 a1_5, .int .i64 a1_6] 74 (0, 0)) (by (with_reducible repeat (first | refine zae ?_ _ | refine zag ?_ | refine zaf ?_ _)); exact BK203.out) hb); have n1_ := Aside0.mk (zap (by repeat (first | (with_reducible first | exact HB.out | apply zab | apply zaa | apply zac | refine zai ?_ GE203.out) | exact HB.out)) hb); clear BK203; clear HB; have BK203 := n0_; have HB := n1_; clear n0_ n1_; (try clear hb); (try clear hb2); (try clear hk); (try clear hi); have p212 : 0 ≤ ((ji36) : Int) := of_decide_eq_true (by assumption); have q212 : (ji36) < (l0.length : Int) := of_decide_eq_true (by assumption); obtain ⟨ad212, e212, hx212_0, hx212_1, hx212_2, hx212_3, hx212_4, hx212_5, hx212_6⟩ := zda HR0.out (ji36) p212 q212; cases e212; replace hx212_0 := (HB.out.cell (World.block_lt_of_cell? w _ hx212_0)).trans hx212_0; replace hx212_1 := (HB.out.cell (World.block_lt_of_cell? w _ hx212_1)).trans hx212_1; replace hx212_2 := (HB.out.cell (World.block_lt_of_cell? w _ hx212_2)).trans hx212_2; replace hx212_3 := (HB.out.cell (World.block_lt_of_cell? w _ hx212_3)).trans hx212_3; replace hx212_4 := (HB.out.cell (World.block_lt_of_cell? w _ hx212_4)).trans hx212_4; replace hx212_5 := (HB.out.cell (World.block_lt_of_cell? w _ hx212_5)).trans hx212_5; replace hx212_6 := (HB.out.cell (World.block_lt_of_cell? w _ hx212_6)).trans hx212_6; replace p212 := eq_true p212; replace q212 := eq_true q212; have hcz51_0 : w50.cell? ⟨gb203, 0, none⟩ = some (.string a1_0) := (zah BK203.out 0).trans rfl; have hcz51_1 : w50.cell? ⟨gb203, 1, none⟩ = some (.string a1_1) := (zah BK203.out 1).trans rfl; have hcz51_2 : w50.cell? ⟨gb203, 2, none⟩ = some (.int .i64 a1_2) := (zah BK203.out 2).trans rfl; have hcz51_3 : w50.cell? ⟨gb203, 3, none⟩ = some (.int .i64 a1_3) := (zah BK203.out 3).trans rfl; have hcz51_4 : w50.cell? ⟨gb203, 4, none⟩ = some (.int .i64 a1_4) := (zah BK203.out 4).trans rfl; have hcz51_5 : w50.cell? ⟨gb203, 5, none⟩ = some (.int .i64 a1_5) := (zah BK203.out 5).trans rfl; have hcz51_6 : w50.cell? ⟨gb203, 6, none⟩ = some (.int .i64 a1_6) := (zah BK203.out 6).trans rfl; have hfz51_0 := zad BK203.out 0; have hfz51_1 := zad BK203.out 1; have hfz51_2 := zad BK203.out 2; have hfz51_3 := zad BK203.out 3; have hfz51_4 := zad BK203.out 4; have hfz51_5 := zad BK203.out 5; have hfz51_6 := zad BK203.out 6))
               repeat (go_quiet ((go_at_call 63; (with_reducible refine (ydn.calls kj19 ((zam l0 (ji36)).f0) a1_0 t213 _ A39.out).mono ?_); rintro e w' ⟨rfl, ⟨nd, rfl⟩⟩; (try first | exact ⟨rfl, _, World.drewN_drewN _ _ _⟩ | exact ⟨rfl, _, Eq.trans (World.drewN_drewN _ _ _) (congrArg (World.drewN _) (Nat.add_assoc _ _ _))⟩))); try go_wp2_with ((go_at_call 106; (with_reducible refine (ydy.calls kj19 _ _ l0 t210 t214 _ ?side1 ?side2 A45.out).mono ?_); (case side1 => repeat (first | exact (Kd.C_below HR0.out (by repeat (first | (with_reducible first | exact HB.out | apply zab | apply zaa | apply zac | refine zai ?_ GE203.out) | exact HB.out))) | (with_reducible refine Kd.C_alloc ?_ _) | (with_reducible refine Kd.C_drewN ?_ _) | (with_reducible refine Kd.C_drew ?_))); (case side2 => exact HC0.out); rintro e w' ⟨rfl, ⟨nd, rfl⟩⟩; (try first | exact ⟨rfl, _, World.drewN_drewN _ _ _⟩ | exact ⟨rfl, _, Eq.trans (World.drewN_drewN _ _ _) (congrArg (World.drewN _) (Nat.add_assoc _ _ _))⟩); have p215 : 0 ≤ (t214 : Int) := of_decide_eq_true (by assumption); have q215 : t214 < (l0.length : Int) := of_decide_eq_true (by assumption); obtain ⟨ad215, e215, hx215_0, hx215_1, hx215_2, hx215_3, hx215_4, hx215_5, hx215_6⟩ := zda HR0.out t214 p215 q215; obtain rfl : ad212 = ad215 := (by injection e215); replace hx215_0 := (HB.out.cell (World.block_lt_of_cell? w _ hx215_0)).trans hx215_0; replace hx215_1 := (HB.out.cell (World.block_lt_of_cell? w _ hx215_1)).trans hx215_1; replace hx215_2 := (HB.out.cell (World.block_lt_of_cell? w _ hx215_2)).trans hx215_2; replace hx215_3 := (HB.out.cell (World.block_lt_of_cell? w _ hx215_3)).trans hx215_3; replace hx215_4 := (HB.out.cell (World.block_lt_of_cell? w _ hx215_4)).trans hx215_4; replace hx215_5 := (HB.out.cell (World.block_lt_of_cell? w _ hx215_5)).trans hx215_5; replace hx215_6 := (HB.out.cell (World.block_lt_of_cell? w _ hx215_6)).trans hx215_6; replace p215 := eq_true p215; replace q215 := eq_true q215)))
               go_ret
               exact ⟨by first | rfl | (simp [zal, zak] <;> rfl) | (simp only [← hji36]; first | rfl | (simp [zal, zak] <;> rfl)) | (simp [*, zal, zak] <;> rfl), by repeat (first | (with_reducible first | exact HB.out | apply zab | apply zaa | apply zac | refine zai ?_ GE203.out) | exact HB.out)⟩
              ·rw [if_neg c48] at H
               exact absurd H (by simp)
             ·rw [if_neg c47] at H
              exact absurd H (by simp)
            ·rw [if_neg c46] at H
             have c46b0 : decide (0 ≤ t214) = false := decide_eq_false c46
             clear c46
             obtain rfl := Option.some.inj H
             have hcz52_0 : wc.cell? ⟨gb203, 0, none⟩ = some (.string a1_0) := (zah BK203.out 0).trans rfl
             have hcz52_1 : wc.cell? ⟨gb203, 1, none⟩ = some (.string a1_1) := (zah BK203.out 1).trans rfl
             have hcz52_2 : wc.cell? ⟨gb203, 2, none⟩ = some (.int .i64 a1_2) := (zah BK203.out 2).trans rfl
             have hcz52_3 : wc.cell? ⟨gb203, 3, none⟩ = some (.int .i64 a1_3) := (zah BK203.out 3).trans rfl
             have hcz52_4 : wc.cell? ⟨gb203, 4, none⟩ = some (.int .i64 a1_4) := (zah BK203.out 4).trans rfl
             have hcz52_5 : wc.cell? ⟨gb203, 5, none⟩ = some (.int .i64 a1_5) := (zah BK203.out 5).trans rfl
             have hcz52_6 : wc.cell? ⟨gb203, 6, none⟩ = some (.int .i64 a1_6) := (zah BK203.out 6).trans rfl
             have hfz52_0 := zad BK203.out 0
             have hfz52_1 := zad BK203.out 1
             have hfz52_2 := zad BK203.out 2
             have hfz52_3 := zad BK203.out 3
             have hfz52_4 := zad BK203.out 4
             have hfz52_5 := zad BK203.out 5
             have hfz52_6 := zad BK203.out 6
             go_wp2_with ((go_at_call 105; (with_reducible refine (yeh.calls kj19 a1_0 t210 t211 _ A35.out).mono ?_); rintro e w53 ⟨rfl, hb⟩; have n0_ := Aside0.mk (zau (g := gb203) (o := .cells #[.string a1_0, .string a1_1, .int .i64 a1_2, .int .i64 a1_3, .int .i64 a1_4, .int .i64 a1_5, .int .i64 a1_6] 74 (0, 0)) (by (with_reducible repeat (first | refine zae ?_ _ | refine zag ?_ | refine zaf ?_ _)); exact BK203.out) hb); have n1_ := Aside0.mk (zap (by repeat (first | (with_reducible first | exact HB.out | apply zab | apply zaa | apply zac | refine zai ?_ GE203.out) | exact HB.out)) hb); clear BK203; clear HB; have BK203 := n0_; have HB := n1_; clear n0_ n1_; (try clear hb); (try clear hb2); (try clear hk); (try clear hi); have p212 : 0 ≤ ((ji36) : Int) := of_decide_eq_true (by assumption); have q212 : (ji36) < (l0.length : Int) := of_decide_eq_true (by assumption); obtain ⟨ad212, e212, hx212_0, hx212_1, hx212_2, hx212_3, hx212_4, hx212_5, hx212_6⟩ := zda HR0.out (ji36) p212 q212; cases e212; replace hx212_0 := (HB.out.cell (World.block_lt_of_cell? w _ hx212_0)).trans hx212_0; replace hx212_1 := (HB.out.cell (World.block_lt_of_cell? w _ hx212_1)).trans hx212_1; replace hx212_2 := (HB.out.cell (World.block_lt_of_cell? w _ hx212_2)).trans hx212_2; replace hx212_3 := (HB.out.cell (World.block_lt_of_cell? w _ hx212_3)).trans hx212_3; replace hx212_4 := (HB.out.cell (World.block_lt_of_cell? w _ hx212_4)).trans hx212_4; replace hx212_5 := (HB.out.cell (World.block_lt_of_cell? w _ hx212_5)).trans hx212_5; replace hx212_6 := (HB.out.cell (World.block_lt_of_cell? w _ hx212_6)).trans hx212_6; replace p212 := eq_true p212; replace q212 := eq_true q212; have hcz54_0 : w53.cell? ⟨gb203, 0, none⟩ = some (.string a1_0) := (zah BK203.out 0).trans rfl; have hcz54_1 : w53.cell? ⟨gb203, 1, none⟩ = some (.string a1_1) := (zah BK203.out 1).trans rfl; have hcz54_2 : w53.cell? ⟨gb203, 2, none⟩ = some (.int .i64 a1_2) := (zah BK203.out 2).trans rfl; have hcz54_3 : w53.cell? ⟨gb203, 3, none⟩ = some (.int .i64 a1_3) := (zah BK203.out 3).trans rfl; have hcz54_4 : w53.cell? ⟨gb203, 4, none⟩ = some (.int .i64 a1_4) := (zah BK203.out 4).trans rfl; have hcz54_5 : w53.cell? ⟨gb203, 5, none⟩ = some (.int .i64 a1_5) := (zah BK203.out 5).trans rfl; have hcz54_6 : w53.cell? ⟨gb203, 6, none⟩ = some (.int .i64 a1_6) := (zah BK203.out 6).trans rfl; have hfz54_0 := zad BK203.out 0; have hfz54_1 := zad BK203.out 1; have hfz54_2 := zad BK203.out 2; have hfz54_3 := zad BK203.out 3; have hfz54_4 := zad BK203.out 4; have hfz54_5 := zad BK203.out 5; have hfz54_6 := zad BK203.out 6))
             repeat (go_quiet ((go_at_call 63; (with_reducible refine (ydn.calls kj19 ((zam l0 (ji36)).f0) a1_0 t213 _ A39.out).mono ?_); rintro e w' ⟨rfl, ⟨nd, rfl⟩⟩; (try first | exact ⟨rfl, _, World.drewN_drewN _ _ _⟩ | exact ⟨rfl, _, Eq.trans (World.drewN_drewN _ _ _) (congrArg (World.drewN _) (Nat.add_assoc _ _ _))⟩))); try go_wp2_with ((go_at_call 106; (with_reducible refine (ydy.calls kj19 _ _ l0 t210 t214 _ ?side1 ?side2 A45.out).mono ?_); (case side1 => repeat (first | exact (Kd.C_below HR0.out (by repeat (first | (with_reducible first | exact HB.out | apply zab | apply zaa | apply zac | refine zai ?_ GE203.out) | exact HB.out))) | (with_reducible refine Kd.C_alloc ?_ _) | (with_reducible refine Kd.C_drewN ?_ _) | (with_reducible refine Kd.C_drew ?_))); (case side2 => exact HC0.out); rintro e w' ⟨rfl, ⟨nd, rfl⟩⟩; (try first | exact ⟨rfl, _, World.drewN_drewN _ _ _⟩ | exact ⟨rfl, _, Eq.trans (World.drewN_drewN _ _ _) (congrArg (World.drewN _) (Nat.add_assoc _ _ _))⟩))))
             go_ret
             exact ⟨by first | rfl | (simp [zal, zak] <;> rfl) | (simp only [← hji36]; first | rfl | (simp [zal, zak] <;> rfl)) | (simp [*, zal, zak] <;> rfl), by repeat (first | (with_reducible first | exact HB.out | apply zab | apply zaa | apply zac | refine zai ?_ GE203.out) | exact HB.out)⟩
          ·rw [if_neg c40] at H
           have c40b0 : (t211 == 0) = false := beq_eq_false_iff_ne.mpr c40
           have c40b1 : (t211 != 0) = true := bne_iff_ne.mpr c40
           obtain rfl := Option.some.inj H
           have hcz55_0 : wc.cell? ⟨gb203, 0, none⟩ = some (.string a1_0) := (zah BK203.out 0).trans rfl
           have hcz55_1 : wc.cell? ⟨gb203, 1, none⟩ = some (.string a1_1) := (zah BK203.out 1).trans rfl
           have hcz55_2 : wc.cell? ⟨gb203, 2, none⟩ = some (.int .i64 a1_2) := (zah BK203.out 2).trans rfl
           have hcz55_3 : wc.cell? ⟨gb203, 3, none⟩ = some (.int .i64 a1_3) := (zah BK203.out 3).trans rfl
           have hcz55_4 : wc.cell? ⟨gb203, 4, none⟩ = some (.int .i64 a1_4) := (zah BK203.out 4).trans rfl
           have hcz55_5 : wc.cell? ⟨gb203, 5, none⟩ = some (.int .i64 a1_5) := (zah BK203.out 5).trans rfl
           have hcz55_6 : wc.cell? ⟨gb203, 6, none⟩ = some (.int .i64 a1_6) := (zah BK203.out 6).trans rfl
           have hfz55_0 := zad BK203.out 0
           have hfz55_1 := zad BK203.out 1
           have hfz55_2 := zad BK203.out 2
           have hfz55_3 := zad BK203.out 3
           have hfz55_4 := zad BK203.out 4
           have hfz55_5 := zad BK203.out 5
           have hfz55_6 := zad BK203.out 6
           go_wp2_with ((go_at_call 105; (with_reducible refine (yeh.calls kj19 a1_0 t210 t211 _ A35.out).mono ?_); rintro e w56 ⟨rfl, hb⟩; have n0_ := Aside0.mk (zau (g := gb203) (o := .cells #[.string a1_0, .string a1_1, .int .i64 a1_2, .int .i64 a1_3, .int .i64 a1_4, .int .i64 a1_5, .int .i64 a1_6] 74 (0, 0)) (by (with_reducible repeat (first | refine zae ?_ _ | refine zag ?_ | refine zaf ?_ _)); exact BK203.out) hb); have n1_ := Aside0.mk (zap (by repeat (first | (with_reducible first | exact HB.out | apply zab | apply zaa | apply zac | refine zai ?_ GE203.out) | exact HB.out)) hb); clear BK203; clear HB; have BK203 := n0_; have HB := n1_; clear n0_ n1_; (try clear hb); (try clear hb2); (try clear hk); (try clear hi); have p212 : 0 ≤ ((ji36) : Int) := of_decide_eq_true (by assumption); have q212 : (ji36) < (l0.length : Int) := of_decide_eq_true (by assumption); obtain ⟨ad212, e212, hx212_0, hx212_1, hx212_2, hx212_3, hx212_4, hx212_5, hx212_6⟩ := zda HR0.out (ji36) p212 q212; cases e212; replace hx212_0 := (HB.out.cell (World.block_lt_of_cell? w _ hx212_0)).trans hx212_0; replace hx212_1 := (HB.out.cell (World.block_lt_of_cell? w _ hx212_1)).trans hx212_1; replace hx212_2 := (HB.out.cell (World.block_lt_of_cell? w _ hx212_2)).trans hx212_2; replace hx212_3 := (HB.out.cell (World.block_lt_of_cell? w _ hx212_3)).trans hx212_3; replace hx212_4 := (HB.out.cell (World.block_lt_of_cell? w _ hx212_4)).trans hx212_4; replace hx212_5 := (HB.out.cell (World.block_lt_of_cell? w _ hx212_5)).trans hx212_5; replace hx212_6 := (HB.out.cell (World.block_lt_of_cell? w _ hx212_6)).trans hx212_6; replace p212 := eq_true p212; replace q212 := eq_true q212; have hcz57_0 : w56.cell? ⟨gb203, 0, none⟩ = some (.string a1_0) := (zah BK203.out 0).trans rfl; have hcz57_1 : w56.cell? ⟨gb203, 1, none⟩ = some (.string a1_1) := (zah BK203.out 1).trans rfl; have hcz57_2 : w56.cell? ⟨gb203, 2, none⟩ = some (.int .i64 a1_2) := (zah BK203.out 2).trans rfl; have hcz57_3 : w56.cell? ⟨gb203, 3, none⟩ = some (.int .i64 a1_3) := (zah BK203.out 3).trans rfl; have hcz57_4 : w56.cell? ⟨gb203, 4, none⟩ = some (.int .i64 a1_4) := (zah BK203.out 4).trans rfl; have hcz57_5 : w56.cell? ⟨gb203, 5, none⟩ = some (.int .i64 a1_5) := (zah BK203.out 5).trans rfl; have hcz57_6 : w56.cell? ⟨gb203, 6, none⟩ = some (.int .i64 a1_6) := (zah BK203.out 6).trans rfl; have hfz57_0 := zad BK203.out 0; have hfz57_1 := zad BK203.out 1; have hfz57_2 := zad BK203.out 2; have hfz57_3 := zad BK203.out 3; have hfz57_4 := zad BK203.out 4; have hfz57_5 := zad BK203.out 5; have hfz57_6 := zad BK203.out 6))
           repeat (go_quiet ((go_at_call 63; (with_reducible refine (ydn.calls kj19 ((zam l0 (ji36)).f0) a1_0 t213 _ A39.out).mono ?_); rintro e w' ⟨rfl, ⟨nd, rfl⟩⟩; (try first | exact ⟨rfl, _, World.drewN_drewN _ _ _⟩ | exact ⟨rfl, _, Eq.trans (World.drewN_drewN _ _ _) (congrArg (World.drewN _) (Nat.add_assoc _ _ _))⟩))); try go_wp2_with (fail))
           go_ret
           exact ⟨by first | rfl | (simp [zal, zak] <;> rfl) | (simp only [← hji36]; first | rfl | (simp [zal, zak] <;> rfl)) | (simp [*, zal, zak] <;> rfl), by repeat (first | (with_reducible first | exact HB.out | apply zab | apply zaa | apply zac | refine zai ?_ GE203.out) | exact HB.out)⟩
         ·rw [if_neg c38] at H
          exact absurd H (by simp)
        ·rw [if_neg c37] at H
         exact absurd H (by simp)
end Go.Proofs.YteamhfmpogbilaaGreatDoor.X
end
