/- The law's functions, printed by a program of ours, each with its contract. They hold without condition. -/
import Derived.Test.YtkokikbdndegkaaGreatDoorProg
import Derived.Test.YtkokikbdndegkaaGreatDoorTreeShelf
import Derived.Test.YtkokikbdndegkaaGreatDoorTvC
set_option linter.unusedVariables false
set_option linter.unusedSectionVars false
set_option linter.unusedSimpArgs false
set_option linter.unnecessarySimpa false
set_option maxRecDepth 100000
set_option autoImplicit false
namespace Go.Tv.F
open Go Go.Tv
open Go.Proofs
noncomputable abbrev Pg := Go.Proofs.Tryz.prog
noncomputable instance envI : Env := envTab Pg []
noncomputable abbrev e_0 : List Ct := [.int .i64, .int .i64]
noncomputable abbrev e_1 : List Ct := [.int .i64, .int .i64, .int .i64, .int .i64, .int .i64, .int .i64, .ints .i64]
noncomputable def Γ0 : List (Nat × TI) := [(2, ⟨false, [.int .i64], []⟩),
 (3, ⟨false, [.int .i64], []⟩),
 (4, ⟨false, [.bool], []⟩),
 (5, ⟨false, [.int .u8], []⟩),
 (6, ⟨false, [.int .u8], []⟩),
 (9, ⟨false, [.str], []⟩),
 (10, ⟨false, [.str], []⟩),
 (11, ⟨false, [.str], []⟩),
 (12, ⟨false, [.int .u64], []⟩),
 (21, ⟨false, [.int .i32], []⟩),
 (22, ⟨false, [.sl [.int .u8] 1], []⟩),
 (24, ⟨false, [.sl e_1 72], []⟩),
 (26, ⟨true, [.sl e_1 72], [(0, 1, false)]⟩),
 (30, ⟨false, [.sl e_0 16], []⟩),
 (38, ⟨false, [.ptr], []⟩),
 (45, ⟨true, [.int .i64, .int .i64, .int .i64], [(0, 1, false), (1, 1, false), (2, 1, false)]⟩),
 (46, ⟨false, [.sl [.int .i64] 8], []⟩),
 (48, ⟨true, [.int .i64, .int .i64, .int .i64, .int .i64, .int .i64, .int .i64, .sl [.int .i64] 8], [(0, 1, false), (1, 1, false), (2, 1, false), (3, 3, true), (6, 1, false)]⟩),
 (49, ⟨false, [.fn], []⟩),
 (55, ⟨true, [.int .i64, .int .i64], [(0, 1, false), (1, 1, false)]⟩),
 (59, ⟨false, [.ptr], []⟩),
 (61, ⟨true, [.sl e_0 16, .int .i64, .sl e_1 72, .bool], [(0, 1, false), (1, 1, false), (2, 1, false), (3, 1, false)]⟩),
 (66, ⟨false, [.ptr], []⟩),
 (68, ⟨true, [.sl e_0 16, .int .i64, .sl e_1 72], [(0, 1, false), (1, 1, false), (2, 1, false)]⟩),
 (72, ⟨true, [.sl [.int .u8] 1, .int .i64, .int .i64], [(0, 1, false), (1, 1, false), (2, 1, false)]⟩),
 (73, ⟨false, [.sl [.str] 16], []⟩),
 (84, ⟨false, [.fn], []⟩),
 (92, ⟨false, [.fn], []⟩),
 (113, ⟨false, [.sl [.ints .i64] 24], []⟩),
 (119, ⟨false, [.int .u64], []⟩),
 (127, ⟨false, [.int .u64], []⟩),
 (134, ⟨false, [.int .u32], []⟩),
 (145, ⟨false, [.int .u8], []⟩),
 (146, ⟨false, [.int .u8], []⟩),
 (148, ⟨false, [.int .i32], []⟩),
 (149, ⟨false, [.int .i32], []⟩)]
noncomputable def byt0 : List TypeId := [22]
noncomputable def eqs0 : List TypeId := [45, 55]
theorem laid : Laid Pg Γ0 byt0 eqs0 := ⟨by kernel_rfl, by kernel_rfl, by kernel_rfl, by kernel_rfl⟩
noncomputable def cx0 (os : List (FuncId × St × (List Lf → (Res → O) → O))) (fi : Fin) (nk : Bool) (K : Res → O) : Ctx := { Γ := Γ0, orc := orcOf os, lp := lpOf [], kl := Env.kl, nk := nk, eqs := eqs0, byt := byt0, fin := finK fi K }
namespace laws_big
noncomputable def c : Code := bodyOf Tryz.f4
noncomputable def fi : Fin := ⟨Γ0, [(.tmp 2, 4)], [[1]], [], [], []⟩
noncomputable def m : Fn [.z] (Fn [.b] Res) := fun _ r1 => ⟨[⟨false, [.bool r1]⟩], [], [], [], []⟩
noncomputable def X (K : Res → O) : Ctx := cx0 [] fi true K
noncomputable def b (a1 : List Int) (R : Bool → O) : O :=
 R (decide (1048576 < (a1.length : Int)))
noncomputable def g := seal_ b
theorem e : g = b := seal_eq b
noncomputable def a : Fn [.z] St := fun a1 => argSt [one (.tr 0 1 [.int .u8] (.ints a1))] [] []
noncomputable def con := conOf 4 [.z] [.b] a g m
theorem ok : Con Pg con := con_fin (fn := Tryz.f4) (c := c) (Fi := fi) (X := X) laid (ctx_of .nil (by kernel_rfl)) (fun K => .nil) e (by kernel_rfl) (by kernel_rfl) (by kernel_rfl) (by kernel_rfl)
end laws_big
namespace spec_l1New
noncomputable def c : Code := bodyOf Tryz.f16
noncomputable def fi : Fin := ⟨Γ0, [(.tmp 2, 38)], [[1]], [], [], [(2, [.sl [.int .u8] 1, .int .i64, .int .i64], [0, 1, 1])]⟩
noncomputable def m : Fn [.z] (Fn [.z, .i, .i] Res) := fun _ r1 r2 r3 => ⟨[⟨false, [.bp 1000 0]⟩], [], [], [], [[.tr 2 2 [.int .u8] (.ints r1), cI r2, cI r3]]⟩
noncomputable def b0 : Code := codeAt c [1, 1, 0, 1, 0, 0]
noncomputable def l0s (x2 : List Int) (rec : Int → Int → O) (k : Int → O) (x3 x4 : Int) : O :=
 bif decide (x4 < (x2.length : Int)) then (bif decide (x4 < 4000) then (bif decide (0 ≤ x4) && decide (x4 < (x2.length : Int)) then rec (arith.bits .and .i64 (IntKind.i64.wrap ((IntKind.i64.wrap ((IntKind.i64.wrap (x3 * 131)) + (IntKind.i64.wrap (x2.getD x4.toNat 0)))) + 7)) 1073741823) (IntKind.i64.wrap (x4 + 1))
  else none)
  else k x3)
 else k x3
noncomputable def l0 (x2 : List Int) (k : Int → O) : Nat → Int → Int → O
 | 0, _, _ => none
 | n + 1, x3, x4 => l0s x2 (l0 x2 k n) k x3 x4
noncomputable def o0 : Fn [.z, .i] St := fun x2 y2 => ⟨mkT 32 [(0, one (.tr 2 1 [.int .u8] (.ints x2))), (3, oI y2)], [], []⟩
noncomputable def n0 (K : Res → O) := ent 0 [.z] [.i, .i] [0, 1, 2] (fun x2 x3 x4 => ⟨mkT 32 [(0, one (.tr 2 1 [.int .u8] (.ints x2))), (3, oI x3), (4, oI x4)], [], []⟩) fun x2 k => l0 x2 (fun y2 => k (o0 x2 y2))
noncomputable def X (K : Res → O) : Ctx := { cx0 [] fi true K with cin := [(0, ⟨[0, 3, 4], [], [], [], [], []⟩)], cout := [(0, ⟨[0, 3], [], [], [], [], []⟩)], lp := lpOf [n0 K] }
noncomputable def b (a1 : List Int) (R : List Int → Int → Int → O) : O :=
 l0 a1 (fun y5 =>
 R a1 0 y5) fuel (IntKind.i64.wrap (18218 + (a1.length : Int))) 0
noncomputable def g := seal_ b
theorem e : g = b := seal_eq b
noncomputable def a : Fn [.z] St := fun a1 => argSt [one (.tr 2 1 [.int .u8] (.ints a1))] [] []
noncomputable def con := conOf 16 [.z] [.z, .i, .i] a g m
theorem hx (K : Res → O) : CtxOk Pg Γ0 byt0 eqs0 (X K) [] := ctx_of (X := X) .nil (by kernel_rfl) K
theorem w0 (K : Res → O) : LpSound Pg (X K) 0 b0 := lp_fin (L := [n0 K]) laid (hx K) .nil (.cons (ent_ok (fun x2 k r => l0s x2 r (fun y2 => k (o0 x2 y2))) (by kernel_rfl) (by kernel_rfl) (by kernel_rfl) (by kernel_rfl) (by kernel_rfl)) .nil) (by kernel_rfl) (by kernel_rfl)
theorem ok : Con Pg con := con_fin (fn := Tryz.f16) (c := c) (Fi := fi) (X := X) laid hx (fun K => (.cons (w0 K) .nil)) e (by kernel_rfl) (by kernel_rfl) (by kernel_rfl) (by kernel_rfl)
end spec_l1New
namespace spec_l1Byte
noncomputable def c : Code := bodyOf Tryz.f69
noncomputable def fi : Fin := ⟨Γ0, [(.tmp 2, 3)], [[1]], [], [([.sl [.int .u8] 1, .int .i64, .int .i64], [0, 1, 1])], []⟩
noncomputable def m : Fn [.z, .i, .i] (Fn [.i, .i, .i] Res) := fun a1 _ _ r1 r3 r4 => ⟨[⟨false, [cI r1]⟩], [], [], [[.tr 2 2 [.int .u8] (.ints a1), cI r3, cI r4]], []⟩
noncomputable def X (K : Res → O) : Ctx := cx0 [] fi true K
noncomputable def b (a1 : List Int) (a2 a3 : Int) (R : Int → Int → Int → O) : O :=
 bif decide (a2 < (a1.length : Int)) then (bif decide (0 ≤ a2) && decide (a2 < (a1.length : Int)) then R (arith.bits .and .i64 (IntKind.i64.wrap ((arith.bits .and .i64 (arith.bits .xor .i64 ((IntKind.i64.wrap ((IntKind.i64.wrap (a3 * 6364136223846793005)) + 1442695040888963407)).fdiv (2 ^ 33)) ((IntKind.i64.wrap ((IntKind.i64.wrap (a3 * 6364136223846793005)) + 1442695040888963407)).fdiv (2 ^ 45))) 255) + (IntKind.i64.wrap (a1.getD a2.toNat 0)))) 255) (IntKind.i64.wrap (a2 + 1)) (IntKind.i64.wrap ((IntKind.i64.wrap (a3 * 6364136223846793005)) + 1442695040888963407))
  else none)
 else R (arith.bits .and .i64 (arith.bits .xor .i64 ((IntKind.i64.wrap ((IntKind.i64.wrap (a3 * 6364136223846793005)) + 1442695040888963407)).fdiv (2 ^ 33)) ((IntKind.i64.wrap ((IntKind.i64.wrap (a3 * 6364136223846793005)) + 1442695040888963407)).fdiv (2 ^ 45))) 255) a2 (IntKind.i64.wrap ((IntKind.i64.wrap (a3 * 6364136223846793005)) + 1442695040888963407))
noncomputable def g := seal_ b
theorem e : g = b := seal_eq b
noncomputable def a : Fn [.z, .i, .i] St := fun a1 a2 a3 => argSt [one (.bp 0 0)] [] [[.tr 2 2 [.int .u8] (.ints a1), cI a2, cI a3]]
noncomputable def con := conOf 69 [.z, .i, .i] [.i, .i, .i] a g m
theorem ok : Con Pg con := con_fin (fn := Tryz.f69) (c := c) (Fi := fi) (X := X) laid (ctx_of .nil (by kernel_rfl)) (fun K => .nil) e (by kernel_rfl) (by kernel_rfl) (by kernel_rfl) (by kernel_rfl)
end spec_l1Byte
namespace spec_l1Below
noncomputable def c : Code := bodyOf Tryz.f34
noncomputable def fi : Fin := ⟨Γ0, [(.tmp 4, 3)], [[1]], [], [([.sl [.int .u8] 1, .int .i64, .int .i64], [0, 1, 1])], []⟩
noncomputable def m : Fn [.i, .z, .i, .i] (Fn [.i, .i, .i] Res) := fun _ a2 _ _ r1 r3 r4 => ⟨[⟨false, [cI r1]⟩], [], [], [[.tr 2 2 [.int .u8] (.ints a2), cI r3, cI r4]], []⟩
noncomputable def X (K : Res → O) : Ctx := cx0 [spec_l1Byte.con] fi true K
noncomputable def b (a1 : Int) (a2 : List Int) (a3 a4 : Int) (R : Int → Int → Int → O) : O :=
 bif decide (a1 ≤ 0) then R 0 a3 a4
 else bif decide (a1 ≤ 256) then (spec_l1Byte.g a2 a3 a4 fun r5 r6 r7 =>
  bif decide (a1 = 0) then none
  else R (r5.tmod a1) r6 r7)
 else (spec_l1Byte.g a2 a3 a4 fun r8 r9 r10 =>
 spec_l1Byte.g a2 r9 r10 fun r11 r12 r13 =>
 spec_l1Byte.g a2 r12 r13 fun r14 r15 r16 =>
 spec_l1Byte.g a2 r15 r16 fun r17 r18 r19 =>
 bif decide (a1 = 0) then none
 else R ((IntKind.i64.wrap ((IntKind.i64.wrap ((IntKind.i64.wrap ((IntKind.i64.wrap (r8 * 16777216)) + (IntKind.i64.wrap (r11 * 65536)))) + (IntKind.i64.wrap (r14 * 256)))) + r17)).tmod a1) r18 r19)
noncomputable def g := seal_ b
theorem e : g = b := seal_eq b
noncomputable def a : Fn [.i, .z, .i, .i] St := fun a1 a2 a3 a4 => argSt [one (.bp 0 0), oI a1] [] [[.tr 2 2 [.int .u8] (.ints a2), cI a3, cI a4]]
noncomputable def con := conOf 34 [.i, .z, .i, .i] [.i, .i, .i] a g m
theorem ok : Con Pg con := con_fin (fn := Tryz.f34) (c := c) (Fi := fi) (X := X) laid (ctx_of (.cons spec_l1Byte.ok .nil) (by kernel_rfl)) (fun K => .nil) e (by kernel_rfl) (by kernel_rfl) (by kernel_rfl) (by kernel_rfl)
end spec_l1Below
namespace spec_l1Once
noncomputable def c : Code := bodyOf Tryz.f67
noncomputable def fi : Fin := ⟨Γ0, [(.tmp 4, 4)], [[1]], [], [([.sl [.int .u8] 1, .int .i64, .int .i64], [0, 1, 1])], []⟩
noncomputable def m : Fn [.i, .z, .i, .i] (Fn [.b, .i, .i] Res) := fun _ a2 _ _ r1 r3 r4 => ⟨[⟨false, [.bool r1]⟩], [], [], [[.tr 2 2 [.int .u8] (.ints a2), cI r3, cI r4]], []⟩
noncomputable def X (K : Res → O) : Ctx := cx0 [spec_l1Below.con] fi true K
noncomputable def b (a1 : Int) (a2 : List Int) (a3 a4 : Int) (R : Bool → Int → Int → O) : O :=
 spec_l1Below.g a1 a2 a3 a4 fun r5 r6 r7 =>
 R (r5 == 0) r6 r7
noncomputable def g := seal_ b
theorem e : g = b := seal_eq b
noncomputable def a : Fn [.i, .z, .i, .i] St := fun a1 a2 a3 a4 => argSt [one (.bp 0 0), oI a1] [] [[.tr 2 2 [.int .u8] (.ints a2), cI a3, cI a4]]
noncomputable def con := conOf 67 [.i, .z, .i, .i] [.b, .i, .i] a g m
theorem ok : Con Pg con := con_fin (fn := Tryz.f67) (c := c) (Fi := fi) (X := X) laid (ctx_of (.cons spec_l1Below.ok .nil) (by kernel_rfl)) (fun K => .nil) e (by kernel_rfl) (by kernel_rfl) (by kernel_rfl) (by kernel_rfl)
end spec_l1Once
namespace spec_l1Pick
noncomputable def c : Code := bodyOf Tryz.f96
noncomputable def fi : Fin := ⟨Γ0, [(.tmp 4, 9)], [[1]], [], [([.sl [.int .u8] 1, .int .i64, .int .i64], [0, 1, 1])], []⟩
noncomputable def m : Fn [.t, .z, .i, .i] (Fn [.s, .i, .i] Res) := fun _ a2 _ _ r1 r3 r4 => ⟨[⟨false, [.str r1]⟩], [], [], [[.tr 2 2 [.int .u8] (.ints a2), cI r3, cI r4]], []⟩
noncomputable def X (K : Res → O) : Ctx := cx0 [spec_l1Below.con] fi true K
noncomputable def b (a1 : List ByteArray) (a2 : List Int) (a3 a4 : Int) (R : ByteArray → Int → Int → O) : O :=
 spec_l1Below.g (a1.length : Int) a2 a3 a4 fun r5 r6 r7 =>
 bif decide (0 ≤ r5) && decide (r5 < (a1.length : Int)) then R (a1.getD r5.toNat ByteArray.empty) r6 r7
 else none
noncomputable def g := seal_ b
theorem e : g = b := seal_eq b
noncomputable def a : Fn [.t, .z, .i, .i] St := fun a1 a2 a3 a4 => argSt [one (.bp 0 0), one (.tr 0 1 [.str] (.strs a1))] [] [[.tr 2 2 [.int .u8] (.ints a2), cI a3, cI a4]]
noncomputable def con := conOf 96 [.t, .z, .i, .i] [.s, .i, .i] a g m
theorem ok : Con Pg con := con_fin (fn := Tryz.f96) (c := c) (Fi := fi) (X := X) laid (ctx_of (.cons spec_l1Below.ok .nil) (by kernel_rfl)) (fun K => .nil) e (by kernel_rfl) (by kernel_rfl) (by kernel_rfl) (by kernel_rfl)
end spec_l1Pick
namespace spec_l1PickInt
noncomputable def c : Code := bodyOf Tryz.f75
noncomputable def fi : Fin := ⟨Γ0, [(.tmp 4, 3)], [[1]], [], [([.sl [.int .u8] 1, .int .i64, .int .i64], [0, 1, 1])], []⟩
noncomputable def m : Fn [.z, .z, .i, .i] (Fn [.i, .i, .i] Res) := fun _ a2 _ _ r1 r3 r4 => ⟨[⟨false, [cI r1]⟩], [], [], [[.tr 2 2 [.int .u8] (.ints a2), cI r3, cI r4]], []⟩
noncomputable def X (K : Res → O) : Ctx := cx0 [spec_l1Below.con] fi true K
noncomputable def b (a1 a2 : List Int) (a3 a4 : Int) (R : Int → Int → Int → O) : O :=
 spec_l1Below.g (a1.length : Int) a2 a3 a4 fun r5 r6 r7 =>
 bif decide (0 ≤ r5) && decide (r5 < (a1.length : Int)) then R (a1.getD r5.toNat 0) r6 r7
 else none
noncomputable def g := seal_ b
theorem e : g = b := seal_eq b
noncomputable def a : Fn [.z, .z, .i, .i] St := fun a1 a2 a3 a4 => argSt [one (.bp 0 0), one (.tr 0 1 [.int .i64] (.ints a1))] [] [[.tr 2 2 [.int .u8] (.ints a2), cI a3, cI a4]]
noncomputable def con := conOf 75 [.z, .z, .i, .i] [.i, .i, .i] a g m
theorem ok : Con Pg con := con_fin (fn := Tryz.f75) (c := c) (Fi := fi) (X := X) laid (ctx_of (.cons spec_l1Below.ok .nil) (by kernel_rfl)) (fun K => .nil) e (by kernel_rfl) (by kernel_rfl) (by kernel_rfl) (by kernel_rfl)
end spec_l1PickInt
namespace spec_l1DrawNum
noncomputable def c : Code := bodyOf Tryz.f103
noncomputable def fi : Fin := ⟨Γ0, [(.tmp 2, 3)], [[1]], [], [([.sl [.int .u8] 1, .int .i64, .int .i64], [0, 1, 1])], []⟩
noncomputable def m : Fn [.z, .i, .i] (Fn [.i, .i, .i] Res) := fun a1 _ _ r1 r3 r4 => ⟨[⟨false, [cI r1]⟩], [], [], [[.tr 2 2 [.int .u8] (.ints a1), cI r3, cI r4]], []⟩
noncomputable def X (K : Res → O) : Ctx := cx0 [spec_l1Once.con, spec_l1PickInt.con, spec_l1Below.con] fi true K
noncomputable def b (a1 : List Int) (a2 a3 : Int) (R : Int → Int → Int → O) : O :=
 spec_l1Once.g 12 a1 a2 a3 fun r4 r5 r6 =>
 bif r4 then (spec_l1PickInt.g ([1000000000000, (-1000000000000), 999999999999, 1000000, (-1000000), 1000001, 999999999999] : List Int) a1 r5 r6 fun r7 r8 r9 =>
  R r7 r8 r9)
 else (spec_l1Below.g 20 a1 r5 r6 fun r10 r11 r12 =>
 R (IntKind.i64.wrap (r10 - 6)) r11 r12)
noncomputable def g := seal_ b
theorem e : g = b := seal_eq b
noncomputable def a : Fn [.z, .i, .i] St := fun a1 a2 a3 => argSt [one (.bp 0 0)] [] [[.tr 2 2 [.int .u8] (.ints a1), cI a2, cI a3]]
noncomputable def con := conOf 103 [.z, .i, .i] [.i, .i, .i] a g m
theorem ok : Con Pg con := con_fin (fn := Tryz.f103) (c := c) (Fi := fi) (X := X) laid (ctx_of (.cons spec_l1Once.ok (.cons spec_l1PickInt.ok (.cons spec_l1Below.ok .nil))) (by kernel_rfl)) (fun K => .nil) e (by kernel_rfl) (by kernel_rfl) (by kernel_rfl) (by kernel_rfl)
end spec_l1DrawNum
-- GROUP spec_l8Digits
namespace spec_l8Digits
noncomputable def c : Code := bodyOf Tryz.f82
noncomputable def fi : Fin := ⟨Γ0, [(.tmp 2, 9)], [[1]], [], [], []⟩
noncomputable def m : Fn [.i] (Fn [.s] Res) := fun _ r1 => ⟨[⟨false, [.str r1]⟩], [], [], [], []⟩
noncomputable def b0 : Code := codeAt c [1, 1, 1, 1, 0, 0, 0]
noncomputable abbrev T : Type := Int → (ByteArray → O) → O
noncomputable def a : Fn [.i] St := fun a1 => argSt [oI a1] [] []
noncomputable def conz (h : T) := conOf 82 [.i] [.s] a h m
end spec_l8Digits
noncomputable abbrev Z_spec_l8Digits : Type := spec_l8Digits.T
noncomputable def Gd_spec_l8Digits (z : Z_spec_l8Digits) : Prop := Con Pg (spec_l8Digits.conz z)
namespace spec_l8Digits
noncomputable def l0s  (rec : Int → ByteArray → O) (k : ByteArray → O) (x3 : Int) (x4 : ByteArray) : O :=
 bif decide (0 < x3) then (bif decide ((strOf ([IntKind.u8.wrap (IntKind.i64.wrap (48 + (x3.tmod 10)))] : List Int)).size + x4.size ≤ 9223372036854775807) then rec (IntKind.i64.wrap (x3.tdiv 10)) ((strOf ([IntKind.u8.wrap (IntKind.i64.wrap (48 + (x3.tmod 10)))] : List Int)) ++ x4)
  else none)
 else k x4
noncomputable def l0  (k : ByteArray → O) : Nat → Int → ByteArray → O
 | 0, _, _ => none
 | n + 1, x3, x4 => l0s (l0 k n) k x3 x4
noncomputable def o0 : Fn [.s] St := fun y1 => ⟨mkT 25 [(3, one (.str y1))], [], []⟩
noncomputable def n0 (K : Res → O) := ent 0 [] [.i, .s] [0, 1] (fun x3 x4 => ⟨mkT 25 [(0, oI x3), (3, one (.str x4))], [], []⟩) fun k => l0 (fun y1 => k (o0 y1))
noncomputable def X (z : Z_spec_l8Digits) (K : Res → O) : Ctx := { cx0 [spec_l8Digits.conz z] fi true K with cin := [(0, ⟨[0, 3], [], [], [], [], []⟩)], cout := [(0, ⟨[3], [], [], [], [], []⟩)], lp := lpOf [n0 K] }
noncomputable def g (z : Z_spec_l8Digits) (a1 : Int) (R : ByteArray → O) : O :=
 bif decide (a1 < 0) then (z (IntKind.i64.wrap (0 - a1)) fun r2 =>
  bif decide (1 + r2.size ≤ 9223372036854775807) then R ((⟨#[95]⟩ : ByteArray) ++ r2)
  else none)
 else bif (a1 == 0) then R (⟨#[48]⟩ : ByteArray)
 else (l0 (fun y5 =>
 R y5) fuel a1 (⟨#[]⟩ : ByteArray))
theorem hx (z : Z_spec_l8Digits) (hz : Gd_spec_l8Digits z) (K : Res → O) : CtxOk Pg Γ0 byt0 eqs0 ((X z) K) [spec_l8Digits.conz z] := ctx_of (X := (X z)) (.cons hz .nil) (by kernel_rfl) K
theorem w0 (z : Z_spec_l8Digits) (hz : Gd_spec_l8Digits z) (K : Res → O) : LpSound Pg ((X z) K) 0 b0 := lp_fin (L := [n0 K]) laid ((hx z hz) K) .nil (.cons (ent_ok (fun k r => l0s r (fun y1 => k (o0 y1))) (by kernel_rfl) (by kernel_rfl) (by kernel_rfl) (by kernel_rfl) (by kernel_rfl)) .nil) (by kernel_rfl) (by kernel_rfl)
theorem ok (z : Z_spec_l8Digits) (hz : Gd_spec_l8Digits z) : Con Pg (conz (g z)) := con_fin (fn := Tryz.f82) (c := c) (Fi := fi) (X := (X z)) laid (hx z hz) (fun K => (.cons ((w0 z hz) K) .nil)) rfl (by kernel_rfl) (by kernel_rfl) (by kernel_rfl) (by kernel_rfl)
end spec_l8Digits
noncomputable def rec_spec_l8Digits : Nat → Z_spec_l8Digits
 | 0 => (fun _ _ => none)
 | n + 1 => spec_l8Digits.g (rec_spec_l8Digits n)
theorem good_spec_l8Digits : ∀ n, Gd_spec_l8Digits (rec_spec_l8Digits n)
 | 0 => con_cst rfl
 | n + 1 => spec_l8Digits.ok _ (good_spec_l8Digits n)
namespace spec_l8Digits
noncomputable def gn (n : Nat) (a1 : Int) (R : ByteArray → O) : O := (rec_spec_l8Digits n) a1 R
noncomputable def G : T := seal_ (gn fuel)
theorem Ge : G = gn fuel := seal_eq _
theorem gn_succ (n : Nat) (a1 : Int) (R : ByteArray → O) : gn (n + 1) a1 R = g (rec_spec_l8Digits n) a1 R := rfl
noncomputable def con := conz G
theorem okG : Con Pg con := by
 unfold con; rw [Ge]; exact (good_spec_l8Digits fuel)
end spec_l8Digits
-- END GROUP
namespace spec_l8DrawFun
noncomputable def c : Code := bodyOf Tryz.f97
noncomputable def fi : Fin := ⟨Γ0, [(.tmp 4, 9)], [[1]], [], [([.sl [.int .u8] 1, .int .i64, .int .i64], [0, 1, 1])], []⟩
noncomputable def m : Fn [.b, .z, .i, .i] (Fn [.s, .i, .i] Res) := fun _ a2 _ _ r1 r3 r4 => ⟨[⟨false, [.str r1]⟩], [], [], [[.tr 2 2 [.int .u8] (.ints a2), cI r3, cI r4]], []⟩
noncomputable def X (K : Res → O) : Ctx := cx0 [spec_l1Pick.con, spec_l1Once.con] fi true K
noncomputable def b (a1 : Bool) (a2 : List Int) (a3 a4 : Int) (R : ByteArray → Int → Int → O) : O :=
 spec_l1Pick.g ([(⟨#[43]⟩ : ByteArray), (⟨#[45]⟩ : ByteArray), (⟨#[42]⟩ : ByteArray), (⟨#[37]⟩ : ByteArray), (⟨#[124]⟩ : ByteArray), (⟨#[38]⟩ : ByteArray), (⟨#[94]⟩ : ByteArray), (⟨#[61]⟩ : ByteArray), (⟨#[60]⟩ : ByteArray), (⟨#[62]⟩ : ByteArray)] : List ByteArray) a2 a3 a4 fun r5 r6 r7 =>
 bif a1 then (spec_l1Once.g 6 a2 r6 r7 fun r8 r9 r10 =>
  bif r8 then (bif decide (2 + r5.size ≤ 9223372036854775807) then R ((⟨#[111, 32]⟩ : ByteArray) ++ r5) r9 r10
   else none)
  else bif a1 then (spec_l1Once.g 7 a2 r9 r10 fun r11 r12 r13 =>
   bif r11 then (bif decide (r5.size + 3 ≤ 9223372036854775807) then (spec_l1Pick.g ([(⟨#[43]⟩ : ByteArray), (⟨#[45]⟩ : ByteArray), (⟨#[42]⟩ : ByteArray), (⟨#[38]⟩ : ByteArray), (⟨#[94]⟩ : ByteArray), (⟨#[61]⟩ : ByteArray)] : List ByteArray) a2 r12 r13 fun r14 r15 r16 =>
    bif decide ((r5 ++ (⟨#[32, 46, 32]⟩ : ByteArray)).size + r14.size ≤ 9223372036854775807) then R ((r5 ++ (⟨#[32, 46, 32]⟩ : ByteArray)) ++ r14) r15 r16
    else none)
    else none)
   else bif a1 then (spec_l1Once.g 2 a2 r12 r13 fun r17 r18 r19 =>
    bif r17 then R r5 r18 r19
    else bif a1 then (spec_l1Pick.g ([(⟨#[35]⟩ : ByteArray), (⟨#[44]⟩ : ByteArray), (⟨#[116]⟩ : ByteArray), (⟨#[100]⟩ : ByteArray), (⟨#[114]⟩ : ByteArray), (⟨#[64]⟩ : ByteArray), (⟨#[63]⟩ : ByteArray), (⟨#[36]⟩ : ByteArray), (⟨#[101]⟩ : ByteArray)] : List ByteArray) a2 r18 r19 fun r20 r21 r22 =>
     R r20 r21 r22)
    else (spec_l1Once.g 4 a2 r18 r19 fun r23 r24 r25 =>
    bif r23 then (bif decide (r5.size + 1 ≤ 9223372036854775807) then (spec_l1Pick.g ([(⟨#[47]⟩ : ByteArray), (⟨#[92]⟩ : ByteArray)] : List ByteArray) a2 r24 r25 fun r26 r27 r28 =>
     bif decide ((r5 ++ (⟨#[32]⟩ : ByteArray)).size + r26.size ≤ 9223372036854775807) then R ((r5 ++ (⟨#[32]⟩ : ByteArray)) ++ r26) r27 r28
     else none)
     else none)
    else (spec_l1Pick.g ([(⟨#[105]⟩ : ByteArray), (⟨#[35]⟩ : ByteArray), (⟨#[44]⟩ : ByteArray), (⟨#[114]⟩ : ByteArray), (⟨#[122]⟩ : ByteArray), (⟨#[103]⟩ : ByteArray), (⟨#[43]⟩ : ByteArray), (⟨#[45]⟩ : ByteArray), (⟨#[42]⟩ : ByteArray), (⟨#[124]⟩ : ByteArray), (⟨#[126]⟩ : ByteArray)] : List ByteArray) a2 r24 r25 fun r29 r30 r31 =>
    R r29 r30 r31)))
   else bif a1 then (spec_l1Pick.g ([(⟨#[35]⟩ : ByteArray), (⟨#[44]⟩ : ByteArray), (⟨#[116]⟩ : ByteArray), (⟨#[100]⟩ : ByteArray), (⟨#[114]⟩ : ByteArray), (⟨#[64]⟩ : ByteArray), (⟨#[63]⟩ : ByteArray), (⟨#[36]⟩ : ByteArray), (⟨#[101]⟩ : ByteArray)] : List ByteArray) a2 r12 r13 fun r32 r33 r34 =>
    R r32 r33 r34)
   else (spec_l1Once.g 4 a2 r12 r13 fun r35 r36 r37 =>
   bif r35 then (bif decide (r5.size + 1 ≤ 9223372036854775807) then (spec_l1Pick.g ([(⟨#[47]⟩ : ByteArray), (⟨#[92]⟩ : ByteArray)] : List ByteArray) a2 r36 r37 fun r38 r39 r40 =>
    bif decide ((r5 ++ (⟨#[32]⟩ : ByteArray)).size + r38.size ≤ 9223372036854775807) then R ((r5 ++ (⟨#[32]⟩ : ByteArray)) ++ r38) r39 r40
    else none)
    else none)
   else (spec_l1Pick.g ([(⟨#[105]⟩ : ByteArray), (⟨#[35]⟩ : ByteArray), (⟨#[44]⟩ : ByteArray), (⟨#[114]⟩ : ByteArray), (⟨#[122]⟩ : ByteArray), (⟨#[103]⟩ : ByteArray), (⟨#[43]⟩ : ByteArray), (⟨#[45]⟩ : ByteArray), (⟨#[42]⟩ : ByteArray), (⟨#[124]⟩ : ByteArray), (⟨#[126]⟩ : ByteArray)] : List ByteArray) a2 r36 r37 fun r41 r42 r43 =>
   R r41 r42 r43)))
  else bif a1 then (spec_l1Once.g 2 a2 r9 r10 fun r44 r45 r46 =>
   bif r44 then R r5 r45 r46
   else bif a1 then (spec_l1Pick.g ([(⟨#[35]⟩ : ByteArray), (⟨#[44]⟩ : ByteArray), (⟨#[116]⟩ : ByteArray), (⟨#[100]⟩ : ByteArray), (⟨#[114]⟩ : ByteArray), (⟨#[64]⟩ : ByteArray), (⟨#[63]⟩ : ByteArray), (⟨#[36]⟩ : ByteArray), (⟨#[101]⟩ : ByteArray)] : List ByteArray) a2 r45 r46 fun r47 r48 r49 =>
    R r47 r48 r49)
   else (spec_l1Once.g 4 a2 r45 r46 fun r50 r51 r52 =>
   bif r50 then (bif decide (r5.size + 1 ≤ 9223372036854775807) then (spec_l1Pick.g ([(⟨#[47]⟩ : ByteArray), (⟨#[92]⟩ : ByteArray)] : List ByteArray) a2 r51 r52 fun r53 r54 r55 =>
    bif decide ((r5 ++ (⟨#[32]⟩ : ByteArray)).size + r53.size ≤ 9223372036854775807) then R ((r5 ++ (⟨#[32]⟩ : ByteArray)) ++ r53) r54 r55
    else none)
    else none)
   else (spec_l1Pick.g ([(⟨#[105]⟩ : ByteArray), (⟨#[35]⟩ : ByteArray), (⟨#[44]⟩ : ByteArray), (⟨#[114]⟩ : ByteArray), (⟨#[122]⟩ : ByteArray), (⟨#[103]⟩ : ByteArray), (⟨#[43]⟩ : ByteArray), (⟨#[45]⟩ : ByteArray), (⟨#[42]⟩ : ByteArray), (⟨#[124]⟩ : ByteArray), (⟨#[126]⟩ : ByteArray)] : List ByteArray) a2 r51 r52 fun r56 r57 r58 =>
   R r56 r57 r58)))
  else bif a1 then (spec_l1Pick.g ([(⟨#[35]⟩ : ByteArray), (⟨#[44]⟩ : ByteArray), (⟨#[116]⟩ : ByteArray), (⟨#[100]⟩ : ByteArray), (⟨#[114]⟩ : ByteArray), (⟨#[64]⟩ : ByteArray), (⟨#[63]⟩ : ByteArray), (⟨#[36]⟩ : ByteArray), (⟨#[101]⟩ : ByteArray)] : List ByteArray) a2 r9 r10 fun r59 r60 r61 =>
   R r59 r60 r61)
  else (spec_l1Once.g 4 a2 r9 r10 fun r62 r63 r64 =>
  bif r62 then (bif decide (r5.size + 1 ≤ 9223372036854775807) then (spec_l1Pick.g ([(⟨#[47]⟩ : ByteArray), (⟨#[92]⟩ : ByteArray)] : List ByteArray) a2 r63 r64 fun r65 r66 r67 =>
   bif decide ((r5 ++ (⟨#[32]⟩ : ByteArray)).size + r65.size ≤ 9223372036854775807) then R ((r5 ++ (⟨#[32]⟩ : ByteArray)) ++ r65) r66 r67
   else none)
   else none)
  else (spec_l1Pick.g ([(⟨#[105]⟩ : ByteArray), (⟨#[35]⟩ : ByteArray), (⟨#[44]⟩ : ByteArray), (⟨#[114]⟩ : ByteArray), (⟨#[122]⟩ : ByteArray), (⟨#[103]⟩ : ByteArray), (⟨#[43]⟩ : ByteArray), (⟨#[45]⟩ : ByteArray), (⟨#[42]⟩ : ByteArray), (⟨#[124]⟩ : ByteArray), (⟨#[126]⟩ : ByteArray)] : List ByteArray) a2 r63 r64 fun r68 r69 r70 =>
  R r68 r69 r70)))
 else bif a1 then (spec_l1Once.g 7 a2 r6 r7 fun r71 r72 r73 =>
  bif r71 then (bif decide (r5.size + 3 ≤ 9223372036854775807) then (spec_l1Pick.g ([(⟨#[43]⟩ : ByteArray), (⟨#[45]⟩ : ByteArray), (⟨#[42]⟩ : ByteArray), (⟨#[38]⟩ : ByteArray), (⟨#[94]⟩ : ByteArray), (⟨#[61]⟩ : ByteArray)] : List ByteArray) a2 r72 r73 fun r74 r75 r76 =>
   bif decide ((r5 ++ (⟨#[32, 46, 32]⟩ : ByteArray)).size + r74.size ≤ 9223372036854775807) then R ((r5 ++ (⟨#[32, 46, 32]⟩ : ByteArray)) ++ r74) r75 r76
   else none)
   else none)
  else bif a1 then (spec_l1Once.g 2 a2 r72 r73 fun r77 r78 r79 =>
   bif r77 then R r5 r78 r79
   else bif a1 then (spec_l1Pick.g ([(⟨#[35]⟩ : ByteArray), (⟨#[44]⟩ : ByteArray), (⟨#[116]⟩ : ByteArray), (⟨#[100]⟩ : ByteArray), (⟨#[114]⟩ : ByteArray), (⟨#[64]⟩ : ByteArray), (⟨#[63]⟩ : ByteArray), (⟨#[36]⟩ : ByteArray), (⟨#[101]⟩ : ByteArray)] : List ByteArray) a2 r78 r79 fun r80 r81 r82 =>
    R r80 r81 r82)
   else (spec_l1Once.g 4 a2 r78 r79 fun r83 r84 r85 =>
   bif r83 then (bif decide (r5.size + 1 ≤ 9223372036854775807) then (spec_l1Pick.g ([(⟨#[47]⟩ : ByteArray), (⟨#[92]⟩ : ByteArray)] : List ByteArray) a2 r84 r85 fun r86 r87 r88 =>
    bif decide ((r5 ++ (⟨#[32]⟩ : ByteArray)).size + r86.size ≤ 9223372036854775807) then R ((r5 ++ (⟨#[32]⟩ : ByteArray)) ++ r86) r87 r88
    else none)
    else none)
   else (spec_l1Pick.g ([(⟨#[105]⟩ : ByteArray), (⟨#[35]⟩ : ByteArray), (⟨#[44]⟩ : ByteArray), (⟨#[114]⟩ : ByteArray), (⟨#[122]⟩ : ByteArray), (⟨#[103]⟩ : ByteArray), (⟨#[43]⟩ : ByteArray), (⟨#[45]⟩ : ByteArray), (⟨#[42]⟩ : ByteArray), (⟨#[124]⟩ : ByteArray), (⟨#[126]⟩ : ByteArray)] : List ByteArray) a2 r84 r85 fun r89 r90 r91 =>
   R r89 r90 r91)))
  else bif a1 then (spec_l1Pick.g ([(⟨#[35]⟩ : ByteArray), (⟨#[44]⟩ : ByteArray), (⟨#[116]⟩ : ByteArray), (⟨#[100]⟩ : ByteArray), (⟨#[114]⟩ : ByteArray), (⟨#[64]⟩ : ByteArray), (⟨#[63]⟩ : ByteArray), (⟨#[36]⟩ : ByteArray), (⟨#[101]⟩ : ByteArray)] : List ByteArray) a2 r72 r73 fun r92 r93 r94 =>
   R r92 r93 r94)
  else (spec_l1Once.g 4 a2 r72 r73 fun r95 r96 r97 =>
  bif r95 then (bif decide (r5.size + 1 ≤ 9223372036854775807) then (spec_l1Pick.g ([(⟨#[47]⟩ : ByteArray), (⟨#[92]⟩ : ByteArray)] : List ByteArray) a2 r96 r97 fun r98 r99 r100 =>
   bif decide ((r5 ++ (⟨#[32]⟩ : ByteArray)).size + r98.size ≤ 9223372036854775807) then R ((r5 ++ (⟨#[32]⟩ : ByteArray)) ++ r98) r99 r100
   else none)
   else none)
  else (spec_l1Pick.g ([(⟨#[105]⟩ : ByteArray), (⟨#[35]⟩ : ByteArray), (⟨#[44]⟩ : ByteArray), (⟨#[114]⟩ : ByteArray), (⟨#[122]⟩ : ByteArray), (⟨#[103]⟩ : ByteArray), (⟨#[43]⟩ : ByteArray), (⟨#[45]⟩ : ByteArray), (⟨#[42]⟩ : ByteArray), (⟨#[124]⟩ : ByteArray), (⟨#[126]⟩ : ByteArray)] : List ByteArray) a2 r96 r97 fun r101 r102 r103 =>
  R r101 r102 r103)))
 else bif a1 then (spec_l1Once.g 2 a2 r6 r7 fun r104 r105 r106 =>
  bif r104 then R r5 r105 r106
  else bif a1 then (spec_l1Pick.g ([(⟨#[35]⟩ : ByteArray), (⟨#[44]⟩ : ByteArray), (⟨#[116]⟩ : ByteArray), (⟨#[100]⟩ : ByteArray), (⟨#[114]⟩ : ByteArray), (⟨#[64]⟩ : ByteArray), (⟨#[63]⟩ : ByteArray), (⟨#[36]⟩ : ByteArray), (⟨#[101]⟩ : ByteArray)] : List ByteArray) a2 r105 r106 fun r107 r108 r109 =>
   R r107 r108 r109)
  else (spec_l1Once.g 4 a2 r105 r106 fun r110 r111 r112 =>
  bif r110 then (bif decide (r5.size + 1 ≤ 9223372036854775807) then (spec_l1Pick.g ([(⟨#[47]⟩ : ByteArray), (⟨#[92]⟩ : ByteArray)] : List ByteArray) a2 r111 r112 fun r113 r114 r115 =>
   bif decide ((r5 ++ (⟨#[32]⟩ : ByteArray)).size + r113.size ≤ 9223372036854775807) then R ((r5 ++ (⟨#[32]⟩ : ByteArray)) ++ r113) r114 r115
   else none)
   else none)
  else (spec_l1Pick.g ([(⟨#[105]⟩ : ByteArray), (⟨#[35]⟩ : ByteArray), (⟨#[44]⟩ : ByteArray), (⟨#[114]⟩ : ByteArray), (⟨#[122]⟩ : ByteArray), (⟨#[103]⟩ : ByteArray), (⟨#[43]⟩ : ByteArray), (⟨#[45]⟩ : ByteArray), (⟨#[42]⟩ : ByteArray), (⟨#[124]⟩ : ByteArray), (⟨#[126]⟩ : ByteArray)] : List ByteArray) a2 r111 r112 fun r116 r117 r118 =>
  R r116 r117 r118)))
 else bif a1 then (spec_l1Pick.g ([(⟨#[35]⟩ : ByteArray), (⟨#[44]⟩ : ByteArray), (⟨#[116]⟩ : ByteArray), (⟨#[100]⟩ : ByteArray), (⟨#[114]⟩ : ByteArray), (⟨#[64]⟩ : ByteArray), (⟨#[63]⟩ : ByteArray), (⟨#[36]⟩ : ByteArray), (⟨#[101]⟩ : ByteArray)] : List ByteArray) a2 r6 r7 fun r119 r120 r121 =>
  R r119 r120 r121)
 else (spec_l1Once.g 4 a2 r6 r7 fun r122 r123 r124 =>
 bif r122 then (bif decide (r5.size + 1 ≤ 9223372036854775807) then (spec_l1Pick.g ([(⟨#[47]⟩ : ByteArray), (⟨#[92]⟩ : ByteArray)] : List ByteArray) a2 r123 r124 fun r125 r126 r127 =>
  bif decide ((r5 ++ (⟨#[32]⟩ : ByteArray)).size + r125.size ≤ 9223372036854775807) then R ((r5 ++ (⟨#[32]⟩ : ByteArray)) ++ r125) r126 r127
  else none)
  else none)
 else (spec_l1Pick.g ([(⟨#[105]⟩ : ByteArray), (⟨#[35]⟩ : ByteArray), (⟨#[44]⟩ : ByteArray), (⟨#[114]⟩ : ByteArray), (⟨#[122]⟩ : ByteArray), (⟨#[103]⟩ : ByteArray), (⟨#[43]⟩ : ByteArray), (⟨#[45]⟩ : ByteArray), (⟨#[42]⟩ : ByteArray), (⟨#[124]⟩ : ByteArray), (⟨#[126]⟩ : ByteArray)] : List ByteArray) a2 r123 r124 fun r128 r129 r130 =>
 R r128 r129 r130))
noncomputable def g := seal_ b
theorem e : g = b := seal_eq b
noncomputable def a : Fn [.b, .z, .i, .i] St := fun a1 a2 a3 a4 => argSt [one (.bp 0 0), one (.bool a1)] [] [[.tr 2 2 [.int .u8] (.ints a2), cI a3, cI a4]]
noncomputable def con := conOf 97 [.b, .z, .i, .i] [.s, .i, .i] a g m
theorem ok : Con Pg con := con_fin (fn := Tryz.f97) (c := c) (Fi := fi) (X := X) laid (ctx_of (.cons spec_l1Pick.ok (.cons spec_l1Once.ok .nil)) (by kernel_rfl)) (fun K => .nil) e (by kernel_rfl) (by kernel_rfl) (by kernel_rfl) (by kernel_rfl)
end spec_l8DrawFun
-- GROUP spec_l8DrawOperand spec_l8DrawLine
namespace spec_l8DrawOperand
noncomputable def c : Code := bodyOf Tryz.f95
noncomputable def fi : Fin := ⟨Γ0, [(.tmp 4, 9)], [[1]], [], [([.sl [.int .u8] 1, .int .i64, .int .i64], [0, 1, 1])], []⟩
noncomputable def m : Fn [.i, .z, .i, .i] (Fn [.s, .z, .i, .i] Res) := fun _ _ _ _ r1 r2 r3 r4 => ⟨[⟨false, [.str r1]⟩], [], [], [[.tr 2 2 [.int .u8] (.ints r2), cI r3, cI r4]], []⟩
noncomputable def b0 : Code := codeAt c [1, 1, 1, 1, 0, 1, 0, 0]
noncomputable abbrev T : Type := Int → List Int → Int → Int → (ByteArray → List Int → Int → Int → O) → O
noncomputable def a : Fn [.i, .z, .i, .i] St := fun a1 a2 a3 a4 => argSt [one (.bp 0 0), oI a1] [] [[.tr 2 2 [.int .u8] (.ints a2), cI a3, cI a4]]
noncomputable def conz (h : T) := conOf 95 [.i, .z, .i, .i] [.s, .z, .i, .i] a h m
end spec_l8DrawOperand
namespace spec_l8DrawLine
noncomputable def c : Code := bodyOf Tryz.f66
noncomputable def fi : Fin := ⟨Γ0, [(.tmp 4, 9)], [[1]], [], [([.sl [.int .u8] 1, .int .i64, .int .i64], [0, 1, 1])], []⟩
noncomputable def m : Fn [.i, .z, .i, .i] (Fn [.s, .z, .i, .i] Res) := fun _ _ _ _ r1 r2 r3 r4 => ⟨[⟨false, [.str r1]⟩], [], [], [[.tr 2 2 [.int .u8] (.ints r2), cI r3, cI r4]], []⟩
noncomputable abbrev T : Type := Int → List Int → Int → Int → (ByteArray → List Int → Int → Int → O) → O
noncomputable def a : Fn [.i, .z, .i, .i] St := fun a1 a2 a3 a4 => argSt [one (.bp 0 0), oI a1] [] [[.tr 2 2 [.int .u8] (.ints a2), cI a3, cI a4]]
noncomputable def conz (h : T) := conOf 66 [.i, .z, .i, .i] [.s, .z, .i, .i] a h m
end spec_l8DrawLine
noncomputable abbrev Z_spec_l8DrawOperand : Type := spec_l8DrawOperand.T × spec_l8DrawLine.T
noncomputable def Gd_spec_l8DrawOperand (z : Z_spec_l8DrawOperand) : Prop := Con Pg (spec_l8DrawOperand.conz z.1) ∧ Con Pg (spec_l8DrawLine.conz z.2)
namespace spec_l8DrawOperand
noncomputable def l0s (x24 : List Int) (rec : ByteArray → Int → Int → Int → O) (k : ByteArray → Int → Int → O) (x22 : ByteArray) (x23 x25 x26 : Int) : O :=
 spec_l1Below.g 4 x24 x25 x26 fun r27 r28 r29 =>
 bif decide (x23 < r27) then (bif decide (x22.size + 1 ≤ 9223372036854775807) then (spec_l1Below.g 9 x24 r28 r29 fun r30 r31 r32 =>
  spec_l8Digits.G (IntKind.i64.wrap (r30 - 2)) fun r33 =>
  bif decide ((x22 ++ (⟨#[32]⟩ : ByteArray)).size + r33.size ≤ 9223372036854775807) then rec ((x22 ++ (⟨#[32]⟩ : ByteArray)) ++ r33) (IntKind.i64.wrap (x23 + 1)) r31 r32
  else none)
  else none)
 else k x22 r28 r29
noncomputable def l0 (x24 : List Int) (k : ByteArray → Int → Int → O) : Nat → ByteArray → Int → Int → Int → O
 | 0, _, _, _, _ => none
 | n + 1, x22, x23, x25, x26 => l0s x24 (l0 x24 k n) k x22 x23 x25 x26
noncomputable def o0 : Fn [.z, .s, .i, .i] St := fun x24 y1 y3 y4 => ⟨mkT 46 [(0, one (.bp 0 0)), (5, one (.str y1))], [], [(0, [.tr 2 2 [.int .u8] (.ints x24), cI y3, cI y4])]⟩
noncomputable def n0 (K : Res → O) := ent 0 [.z] [.s, .i, .i, .i] [2, 0, 1, 3, 4] (fun x24 x22 x23 x25 x26 => ⟨mkT 46 [(0, one (.bp 0 0)), (5, one (.str x22)), (6, oI x23)], [], [(0, [.tr 2 2 [.int .u8] (.ints x24), cI x25, cI x26])]⟩) fun x24 k => l0 x24 (fun y1 y3 y4 => k (o0 x24 y1 y3 y4))
noncomputable def X (z : Z_spec_l8DrawOperand) (K : Res → O) : Ctx := { cx0 [spec_l1Once.con, spec_l8DrawLine.conz z.2, spec_l1Pick.con, spec_l1DrawNum.con, spec_l8Digits.con, spec_l1Below.con] fi true K with cin := [(0, ⟨[0, 5, 6], [], [0], [], [], []⟩)], cout := [(0, ⟨[0, 5], [], [0], [], [], []⟩)], lp := lpOf [n0 K] }
noncomputable def g (z : Z_spec_l8DrawOperand) (a1 : Int) (a2 : List Int) (a3 a4 : Int) (R : ByteArray → List Int → Int → Int → O) : O :=
 bif decide (0 < a1) then (spec_l1Once.g 4 a2 a3 a4 fun r5 r6 r7 =>
  bif r5 then (z.2 (IntKind.i64.wrap (a1 - 1)) a2 r6 r7 fun r8 r9 r10 r11 =>
   bif decide (2 + r8.size ≤ 9223372036854775807) then (bif decide (((⟨#[40, 32]⟩ : ByteArray) ++ r8).size + 2 ≤ 9223372036854775807) then R (((⟨#[40, 32]⟩ : ByteArray) ++ r8) ++ (⟨#[32, 41]⟩ : ByteArray)) r9 r10 r11
    else none)
   else none)
  else (spec_l1Once.g 3 a2 r6 r7 fun r12 r13 r14 =>
  bif r12 then (spec_l1Pick.g ([(⟨#[65]⟩ : ByteArray), (⟨#[66]⟩ : ByteArray), (⟨#[67]⟩ : ByteArray)] : List ByteArray) a2 r13 r14 fun r15 r16 r17 =>
   R r15 a2 r16 r17)
  else (spec_l1DrawNum.g a2 r13 r14 fun r18 r19 r20 =>
  spec_l8Digits.G r18 fun r21 =>
  l0 a2 (fun y34 y35 y36 =>
  spec_l1Once.g 4 a2 y35 y36 fun r37 r38 r39 =>
  bif r37 then (spec_l1Pick.g ([(⟨#[50]⟩ : ByteArray), (⟨#[51]⟩ : ByteArray), (⟨#[49]⟩ : ByteArray), (⟨#[48]⟩ : ByteArray), (⟨#[50, 32, 50]⟩ : ByteArray), (⟨#[50, 32, 51]⟩ : ByteArray)] : List ByteArray) a2 r38 r39 fun r40 r41 r42 =>
   R r40 a2 r41 r42)
  else R y34 a2 r38 r39) fuel r21 0 r19 r20)))
 else (spec_l1Once.g 3 a2 a3 a4 fun r43 r44 r45 =>
 bif r43 then (spec_l1Pick.g ([(⟨#[65]⟩ : ByteArray), (⟨#[66]⟩ : ByteArray), (⟨#[67]⟩ : ByteArray)] : List ByteArray) a2 r44 r45 fun r46 r47 r48 =>
  R r46 a2 r47 r48)
 else (spec_l1DrawNum.g a2 r44 r45 fun r49 r50 r51 =>
 spec_l8Digits.G r49 fun r52 =>
 l0 a2 (fun y53 y54 y55 =>
 spec_l1Once.g 4 a2 y54 y55 fun r56 r57 r58 =>
 bif r56 then (spec_l1Pick.g ([(⟨#[50]⟩ : ByteArray), (⟨#[51]⟩ : ByteArray), (⟨#[49]⟩ : ByteArray), (⟨#[48]⟩ : ByteArray), (⟨#[50, 32, 50]⟩ : ByteArray), (⟨#[50, 32, 51]⟩ : ByteArray)] : List ByteArray) a2 r57 r58 fun r59 r60 r61 =>
  R r59 a2 r60 r61)
 else R y53 a2 r57 r58) fuel r52 0 r50 r51))
theorem hx (z : Z_spec_l8DrawOperand) (hz : Gd_spec_l8DrawOperand z) (K : Res → O) : CtxOk Pg Γ0 byt0 eqs0 ((X z) K) [spec_l1Once.con, spec_l8DrawLine.conz z.2, spec_l1Pick.con, spec_l1DrawNum.con, spec_l8Digits.con, spec_l1Below.con] := ctx_of (X := (X z)) (.cons spec_l1Once.ok (.cons hz.2 (.cons spec_l1Pick.ok (.cons spec_l1DrawNum.ok (.cons spec_l8Digits.okG (.cons spec_l1Below.ok .nil)))))) (by kernel_rfl) K
theorem w0 (z : Z_spec_l8DrawOperand) (hz : Gd_spec_l8DrawOperand z) (K : Res → O) : LpSound Pg ((X z) K) 0 b0 := lp_fin (L := [n0 K]) laid ((hx z hz) K) .nil (.cons (ent_ok (fun x24 k r => l0s x24 r (fun y1 y3 y4 => k (o0 x24 y1 y3 y4))) (by kernel_rfl) (by kernel_rfl) (by kernel_rfl) (by kernel_rfl) (by kernel_rfl)) .nil) (by kernel_rfl) (by kernel_rfl)
theorem ok (z : Z_spec_l8DrawOperand) (hz : Gd_spec_l8DrawOperand z) : Con Pg (conz (g z)) := con_fin (fn := Tryz.f95) (c := c) (Fi := fi) (X := (X z)) laid (hx z hz) (fun K => (.cons ((w0 z hz) K) .nil)) rfl (by kernel_rfl) (by kernel_rfl) (by kernel_rfl) (by kernel_rfl)
end spec_l8DrawOperand
namespace spec_l8DrawLine
noncomputable def X (z : Z_spec_l8DrawOperand) (K : Res → O) : Ctx := cx0 [spec_l8DrawOperand.conz z.1, spec_l1Below.con, spec_l1Pick.con, spec_l8DrawLine.conz z.2, spec_l8DrawFun.con] fi true K
noncomputable def g (z : Z_spec_l8DrawOperand) (a1 : Int) (a2 : List Int) (a3 a4 : Int) (R : ByteArray → List Int → Int → Int → O) : O :=
 bif decide (a1 ≤ 0) then (z.1 0 a2 a3 a4 fun r5 r6 r7 r8 =>
  R r5 r6 r7 r8)
 else (spec_l1Below.g 8 a2 a3 a4 fun r9 r10 r11 =>
 bif (r9 == 0) then (spec_l1Pick.g ([(⟨#[65]⟩ : ByteArray), (⟨#[66]⟩ : ByteArray), (⟨#[67]⟩ : ByteArray)] : List ByteArray) a2 r10 r11 fun r12 r13 r14 =>
  bif decide (r12.size + 3 ≤ 9223372036854775807) then (z.2 (IntKind.i64.wrap (a1 - 1)) a2 r13 r14 fun r15 r16 r17 r18 =>
   bif decide ((r12 ++ (⟨#[32, 58, 32]⟩ : ByteArray)).size + r15.size ≤ 9223372036854775807) then R ((r12 ++ (⟨#[32, 58, 32]⟩ : ByteArray)) ++ r15) r16 r17 r18
   else none)
  else none)
 else bif (r9 == 1) then (spec_l8DrawFun.g false a2 r10 r11 fun r19 r20 r21 =>
  bif decide (r19.size + 1 ≤ 9223372036854775807) then (z.2 (IntKind.i64.wrap (a1 - 1)) a2 r20 r21 fun r22 r23 r24 r25 =>
   bif decide ((r19 ++ (⟨#[32]⟩ : ByteArray)).size + r22.size ≤ 9223372036854775807) then R ((r19 ++ (⟨#[32]⟩ : ByteArray)) ++ r22) r23 r24 r25
   else none)
  else none)
 else bif (r9 == 2) then (spec_l8DrawFun.g false a2 r10 r11 fun r26 r27 r28 =>
  bif decide (r26.size + 1 ≤ 9223372036854775807) then (z.2 (IntKind.i64.wrap (a1 - 1)) a2 r27 r28 fun r29 r30 r31 r32 =>
   bif decide ((r26 ++ (⟨#[32]⟩ : ByteArray)).size + r29.size ≤ 9223372036854775807) then R ((r26 ++ (⟨#[32]⟩ : ByteArray)) ++ r29) r30 r31 r32
   else none)
  else none)
 else bif (r9 == 3) then (z.1 (IntKind.i64.wrap (a1 - 1)) a2 r10 r11 fun r33 r34 r35 r36 =>
  bif decide (r33.size + 1 ≤ 9223372036854775807) then (spec_l8DrawFun.g true r34 r35 r36 fun r37 r38 r39 =>
   bif decide ((r33 ++ (⟨#[32]⟩ : ByteArray)).size + r37.size ≤ 9223372036854775807) then (bif decide (((r33 ++ (⟨#[32]⟩ : ByteArray)) ++ r37).size + 1 ≤ 9223372036854775807) then (z.2 (IntKind.i64.wrap (a1 - 1)) r34 r38 r39 fun r40 r41 r42 r43 =>
    bif decide ((((r33 ++ (⟨#[32]⟩ : ByteArray)) ++ r37) ++ (⟨#[32]⟩ : ByteArray)).size + r40.size ≤ 9223372036854775807) then R ((((r33 ++ (⟨#[32]⟩ : ByteArray)) ++ r37) ++ (⟨#[32]⟩ : ByteArray)) ++ r40) r41 r42 r43
    else none)
    else none)
   else none)
  else none)
 else bif (r9 == 4) then (z.1 (IntKind.i64.wrap (a1 - 1)) a2 r10 r11 fun r44 r45 r46 r47 =>
  bif decide (r44.size + 1 ≤ 9223372036854775807) then (spec_l8DrawFun.g true r45 r46 r47 fun r48 r49 r50 =>
   bif decide ((r44 ++ (⟨#[32]⟩ : ByteArray)).size + r48.size ≤ 9223372036854775807) then (bif decide (((r44 ++ (⟨#[32]⟩ : ByteArray)) ++ r48).size + 1 ≤ 9223372036854775807) then (z.2 (IntKind.i64.wrap (a1 - 1)) r45 r49 r50 fun r51 r52 r53 r54 =>
    bif decide ((((r44 ++ (⟨#[32]⟩ : ByteArray)) ++ r48) ++ (⟨#[32]⟩ : ByteArray)).size + r51.size ≤ 9223372036854775807) then R ((((r44 ++ (⟨#[32]⟩ : ByteArray)) ++ r48) ++ (⟨#[32]⟩ : ByteArray)) ++ r51) r52 r53 r54
    else none)
    else none)
   else none)
  else none)
 else bif (r9 == 5) then (z.1 (IntKind.i64.wrap (a1 - 1)) a2 r10 r11 fun r55 r56 r57 r58 =>
  bif decide (r55.size + 1 ≤ 9223372036854775807) then (spec_l8DrawFun.g true r56 r57 r58 fun r59 r60 r61 =>
   bif decide ((r55 ++ (⟨#[32]⟩ : ByteArray)).size + r59.size ≤ 9223372036854775807) then (bif decide (((r55 ++ (⟨#[32]⟩ : ByteArray)) ++ r59).size + 1 ≤ 9223372036854775807) then (z.2 (IntKind.i64.wrap (a1 - 1)) r56 r60 r61 fun r62 r63 r64 r65 =>
    bif decide ((((r55 ++ (⟨#[32]⟩ : ByteArray)) ++ r59) ++ (⟨#[32]⟩ : ByteArray)).size + r62.size ≤ 9223372036854775807) then R ((((r55 ++ (⟨#[32]⟩ : ByteArray)) ++ r59) ++ (⟨#[32]⟩ : ByteArray)) ++ r62) r63 r64 r65
    else none)
    else none)
   else none)
  else none)
 else bif (r9 == 6) then (spec_l1Pick.g ([(⟨#[43, 32, 47, 32, 105, 32, 53]⟩ : ByteArray), (⟨#[50, 32, 51, 32, 35, 32, 105, 32, 54]⟩ : ByteArray), (⟨#[65, 32, 58, 32, 105, 32, 52]⟩ : ByteArray), (⟨#[65, 32, 43, 32, 65, 32, 58, 32, 105, 32, 51]⟩ : ByteArray), (⟨#[40, 32, 105, 32, 51, 32, 41, 32, 111, 32, 42, 32, 105, 32, 52]⟩ : ByteArray), (⟨#[65, 32, 43, 32, 46, 32, 42, 32, 66]⟩ : ByteArray), (⟨#[66, 32, 58, 32, 50, 32, 50, 32, 35, 32, 105, 32, 52]⟩ : ByteArray), (⟨#[103, 32, 51, 32, 49, 32, 50]⟩ : ByteArray), (⟨#[43, 32, 92, 32, 105, 32, 54]⟩ : ByteArray), (⟨#[49, 32, 43, 32, 65, 32, 42, 32, 50, 32, 45, 32, 65]⟩ : ByteArray), (⟨#[126, 32, 65, 32, 61, 32, 66]⟩ : ByteArray), (⟨#[65, 32, 64, 32, 66]⟩ : ByteArray)] : List ByteArray) a2 r10 r11 fun r66 r67 r68 =>
  R r66 a2 r67 r68)
 else (z.1 (IntKind.i64.wrap (a1 - 1)) a2 r10 r11 fun r69 r70 r71 r72 =>
 R r69 r70 r71 r72))
theorem ok (z : Z_spec_l8DrawOperand) (hz : Gd_spec_l8DrawOperand z) : Con Pg (conz (g z)) := con_fin (fn := Tryz.f66) (c := c) (Fi := fi) (X := (X z)) laid (ctx_of (.cons hz.1 (.cons spec_l1Below.ok (.cons spec_l1Pick.ok (.cons hz.2 (.cons spec_l8DrawFun.ok .nil))))) (by kernel_rfl)) (fun K => .nil) rfl (by kernel_rfl) (by kernel_rfl) (by kernel_rfl) (by kernel_rfl)
end spec_l8DrawLine
noncomputable def rec_spec_l8DrawOperand : Nat → Z_spec_l8DrawOperand
 | 0 => ((fun _ _ _ _ _ => none), (fun _ _ _ _ _ => none))
 | n + 1 => (spec_l8DrawOperand.g (rec_spec_l8DrawOperand n), spec_l8DrawLine.g (rec_spec_l8DrawOperand n))
theorem good_spec_l8DrawOperand : ∀ n, Gd_spec_l8DrawOperand (rec_spec_l8DrawOperand n)
 | 0 => ⟨con_cst rfl, con_cst rfl⟩
 | n + 1 => ⟨spec_l8DrawOperand.ok _ (good_spec_l8DrawOperand n), spec_l8DrawLine.ok _ (good_spec_l8DrawOperand n)⟩
namespace spec_l8DrawOperand
noncomputable def gn (n : Nat) (a1 : Int) (a2 : List Int) (a3 a4 : Int) (R : ByteArray → List Int → Int → Int → O) : O := (rec_spec_l8DrawOperand n).1 a1 a2 a3 a4 R
noncomputable def G : T := seal_ (gn fuel)
theorem Ge : G = gn fuel := seal_eq _
theorem gn_succ (n : Nat) (a1 : Int) (a2 : List Int) (a3 a4 : Int) (R : ByteArray → List Int → Int → Int → O) : gn (n + 1) a1 a2 a3 a4 R = g (rec_spec_l8DrawOperand n) a1 a2 a3 a4 R := rfl
noncomputable def con := conz G
theorem okG : Con Pg con := by
 unfold con; rw [Ge]; exact (good_spec_l8DrawOperand fuel).1
end spec_l8DrawOperand
namespace spec_l8DrawLine
noncomputable def gn (n : Nat) (a1 : Int) (a2 : List Int) (a3 a4 : Int) (R : ByteArray → List Int → Int → Int → O) : O := (rec_spec_l8DrawOperand n).2 a1 a2 a3 a4 R
noncomputable def G : T := seal_ (gn fuel)
theorem Ge : G = gn fuel := seal_eq _
theorem gn_succ (n : Nat) (a1 : Int) (a2 : List Int) (a3 a4 : Int) (R : ByteArray → List Int → Int → Int → O) : gn (n + 1) a1 a2 a3 a4 R = g (rec_spec_l8DrawOperand n) a1 a2 a3 a4 R := rfl
noncomputable def con := conz G
theorem okG : Con Pg con := by
 unfold con; rw [Ge]; exact (good_spec_l8DrawOperand fuel).2
end spec_l8DrawLine
-- END GROUP
namespace spec_l8Digit
noncomputable def c : Code := bodyOf Tryz.f63
noncomputable def fi : Fin := ⟨Γ0, [(.tmp 4, 4)], [[1]], [], [], []⟩
noncomputable def m : Fn [.s, .i] (Fn [.b] Res) := fun _ _ r1 => ⟨[⟨false, [.bool r1]⟩], [], [], [], []⟩
noncomputable def X (K : Res → O) : Ctx := cx0 [] fi true K
noncomputable def b (a1 : ByteArray) (a2 : Int) (R : Bool → O) : O :=
 bif decide (a2 < (a1.size : Int)) then (bif decide (0 ≤ a2) && decide (a2 < (a1.size : Int)) then (bif decide (48 ≤ (bytesOf a1).getD a2.toNat 0) then (bif decide (0 ≤ a2) && decide (a2 < (a1.size : Int)) then R (decide ((bytesOf a1).getD a2.toNat 0 ≤ 57))
  else none)
  else R false)
  else none)
 else R false
noncomputable def g := seal_ b
theorem e : g = b := seal_eq b
noncomputable def a : Fn [.s, .i] St := fun a1 a2 => argSt [one (.str a1), oI a2] [] []
noncomputable def con := conOf 63 [.s, .i] [.b] a g m
theorem ok : Con Pg con := con_fin (fn := Tryz.f63) (c := c) (Fi := fi) (X := X) laid (ctx_of .nil (by kernel_rfl)) (fun K => .nil) e (by kernel_rfl) (by kernel_rfl) (by kernel_rfl) (by kernel_rfl)
end spec_l8Digit
namespace spec_l1Min
noncomputable def c : Code := bodyOf Tryz.f94
noncomputable def fi : Fin := ⟨Γ0, [(.tmp 4, 3)], [[1]], [], [], []⟩
noncomputable def m : Fn [.i, .i] (Fn [.i] Res) := fun _ _ r1 => ⟨[⟨false, [cI r1]⟩], [], [], [], []⟩
noncomputable def X (K : Res → O) : Ctx := cx0 [] fi true K
noncomputable def b (a1 a2 : Int) (R : Int → O) : O :=
 bif decide (a1 < a2) then R a1
 else R a2
noncomputable def g := seal_ b
theorem e : g = b := seal_eq b
noncomputable def a : Fn [.i, .i] St := fun a1 a2 => argSt [oI a1, oI a2] [] []
noncomputable def con := conOf 94 [.i, .i] [.i] a g m
theorem ok : Con Pg con := con_fin (fn := Tryz.f94) (c := c) (Fi := fi) (X := X) laid (ctx_of .nil (by kernel_rfl)) (fun K => .nil) e (by kernel_rfl) (by kernel_rfl) (by kernel_rfl) (by kernel_rfl)
end spec_l1Min
namespace spec_l1In
noncomputable def c : Code := bodyOf Tryz.f26
noncomputable def fi : Fin := ⟨Γ0, [(.tmp 6, 4)], [[1]], [], [], []⟩
noncomputable def m : Fn [.i, .i, .i] (Fn [.b] Res) := fun _ _ _ r1 => ⟨[⟨false, [.bool r1]⟩], [], [], [], []⟩
noncomputable def X (K : Res → O) : Ctx := cx0 [] fi true K
noncomputable def b (a1 a2 a3 : Int) (R : Bool → O) : O :=
 bif decide (a2 ≤ a1) then R (decide (a1 ≤ a3))
 else R false
noncomputable def g := seal_ b
theorem e : g = b := seal_eq b
noncomputable def a : Fn [.i, .i, .i] St := fun a1 a2 a3 => argSt [oI a1, oI a2, oI a3] [] []
noncomputable def con := conOf 26 [.i, .i, .i] [.b] a g m
theorem ok : Con Pg con := con_fin (fn := Tryz.f26) (c := c) (Fi := fi) (X := X) laid (ctx_of .nil (by kernel_rfl)) (fun K => .nil) e (by kernel_rfl) (by kernel_rfl) (by kernel_rfl) (by kernel_rfl)
end spec_l1In
namespace spec_NumOk
noncomputable def c : Code := bodyOf Tryz.f89
noncomputable def fi : Fin := ⟨Γ0, [(.tmp 2, 4)], [[1]], [], [], []⟩
noncomputable def m : Fn [.i] (Fn [.b] Res) := fun _ r1 => ⟨[⟨false, [.bool r1]⟩], [], [], [], []⟩
noncomputable def X (K : Res → O) : Ctx := cx0 [spec_l1In.con] fi true K
noncomputable def b (a1 : Int) (R : Bool → O) : O :=
 spec_l1In.g a1 (-1000000000000) 1000000000000 fun r2 =>
 R r2
noncomputable def g := seal_ b
theorem e : g = b := seal_eq b
noncomputable def a : Fn [.i] St := fun a1 => argSt [oI a1] [] []
noncomputable def con := conOf 89 [.i] [.b] a g m
theorem ok : Con Pg con := con_fin (fn := Tryz.f89) (c := c) (Fi := fi) (X := X) laid (ctx_of (.cons spec_l1In.ok .nil) (by kernel_rfl)) (fun K => .nil) e (by kernel_rfl) (by kernel_rfl) (by kernel_rfl) (by kernel_rfl)
end spec_NumOk
namespace spec_l8Num
noncomputable def c : Code := bodyOf Tryz.f64
noncomputable def fi : Fin := ⟨Γ0, [(.tmp 4, 3), (.tmp 5, 3), (.tmp 6, 3)], [[1], [1], [1]], [], [], []⟩
noncomputable def m : Fn [.s, .i] (Fn [.i, .i, .i] Res) := fun _ _ r1 r2 r3 => ⟨[⟨false, [cI r1]⟩, ⟨false, [cI r2]⟩, ⟨false, [cI r3]⟩], [], [], [], []⟩
noncomputable def b0 : Code := codeAt c [1, 1, 1, 1, 1, 0, 0, 0]
noncomputable def l0s (x4 : ByteArray) (x6 : Bool) (rec : Int → Int → O) (k : Int → Int → O) (x5 x7 : Int) : O :=
 spec_l8Digit.g x4 x5 fun r8 =>
 bif r8 then (bif decide (0 ≤ x5) && decide (x5 < (x4.size : Int)) then (spec_l1Min.g (IntKind.i64.wrap ((IntKind.i64.wrap ((IntKind.i64.wrap (10 * x7)) + (IntKind.i64.wrap ((bytesOf x4).getD x5.toNat 0)))) - 48)) 1000000000001 fun r9 =>
  rec (IntKind.i64.wrap (x5 + 1)) r9)
  else none)
 else k x5 x7
noncomputable def l0 (x4 : ByteArray) (x6 : Bool) (k : Int → Int → O) : Nat → Int → Int → O
 | 0, _, _ => none
 | n + 1, x5, x7 => l0s x4 x6 (l0 x4 x6 k n) k x5 x7
noncomputable def o0 : Fn [.s, .b, .i, .i] St := fun _ x6 y1 y3 => ⟨mkT 44 [(1, oI y1), (7, one (.bool x6)), (8, oI y3)], [], []⟩
noncomputable def n0 (K : Res → O) := ent 0 [.s, .b] [.i, .i] [0, 2, 1, 3] (fun x4 x6 x5 x7 => ⟨mkT 44 [(0, one (.str x4)), (1, oI x5), (7, one (.bool x6)), (8, oI x7)], [], []⟩) fun x4 x6 k => l0 x4 x6 (fun y1 y3 => k (o0 x4 x6 y1 y3))
noncomputable def X (K : Res → O) : Ctx := { cx0 [spec_l8Digit.con, spec_l1Min.con, spec_NumOk.con] fi true K with cin := [(0, ⟨[0, 1, 7, 8], [], [], [], [], []⟩)], cout := [(0, ⟨[1, 7, 8], [], [], [], [], []⟩)], lp := lpOf [n0 K] }
noncomputable def b (a1 : ByteArray) (a2 : Int) (R : Int → Int → Int → O) : O :=
 bif decide (0 ≤ a2) && decide (a2 < (a1.size : Int)) then (bif ((bytesOf a1).getD a2.toNat 0 == 95) then (spec_l8Digit.g a1 (IntKind.i64.wrap (a2 + 1)) fun r3 =>
  bif !r3 then R 0 (IntKind.i64.wrap (a2 + 1)) 8
  else (l0 a1 ((bytesOf a1).getD a2.toNat 0 == 95) (fun y10 y11 =>
  spec_NumOk.g y11 fun r12 =>
  bif !r12 then R 0 y10 6
  else bif ((bytesOf a1).getD a2.toNat 0 == 95) then R (IntKind.i64.wrap (0 - y11)) y10 0
  else R y11 y10 0) fuel (IntKind.i64.wrap (a2 + 1)) 0))
  else (spec_l8Digit.g a1 a2 fun r13 =>
  bif !r13 then R 0 a2 8
  else (l0 a1 ((bytesOf a1).getD a2.toNat 0 == 95) (fun y14 y15 =>
  spec_NumOk.g y15 fun r16 =>
  bif !r16 then R 0 y14 6
  else bif ((bytesOf a1).getD a2.toNat 0 == 95) then R (IntKind.i64.wrap (0 - y15)) y14 0
  else R y15 y14 0) fuel a2 0)))
 else none
noncomputable def g := seal_ b
theorem e : g = b := seal_eq b
noncomputable def a : Fn [.s, .i] St := fun a1 a2 => argSt [one (.str a1), oI a2] [] []
noncomputable def con := conOf 64 [.s, .i] [.i, .i, .i] a g m
theorem hx (K : Res → O) : CtxOk Pg Γ0 byt0 eqs0 (X K) [spec_l8Digit.con, spec_l1Min.con, spec_NumOk.con] := ctx_of (X := X) (.cons spec_l8Digit.ok (.cons spec_l1Min.ok (.cons spec_NumOk.ok .nil))) (by kernel_rfl) K
theorem w0 (K : Res → O) : LpSound Pg (X K) 0 b0 := lp_fin (L := [n0 K]) laid (hx K) .nil (.cons (ent_ok (fun x4 x6 k r => l0s x4 x6 r (fun y1 y3 => k (o0 x4 x6 y1 y3))) (by kernel_rfl) (by kernel_rfl) (by kernel_rfl) (by kernel_rfl) (by kernel_rfl)) .nil) (by kernel_rfl) (by kernel_rfl)
theorem ok : Con Pg con := con_fin (fn := Tryz.f64) (c := c) (Fi := fi) (X := X) laid hx (fun K => (.cons (w0 K) .nil)) e (by kernel_rfl) (by kernel_rfl) (by kernel_rfl) (by kernel_rfl)
end spec_l8Num
namespace spec_l8Sign
noncomputable def c : Code := bodyOf Tryz.f65
noncomputable def fi : Fin := ⟨Γ0, [(.tmp 2, 4)], [[1]], [], [], []⟩
noncomputable def m : Fn [.i] (Fn [.b] Res) := fun _ r1 => ⟨[⟨false, [.bool r1]⟩], [], [], [], []⟩
noncomputable def b0 : Code := codeAt c [1, 1, 0, 1, 0, 0]
noncomputable def l0s (x2 : Int) (x3 : ByteArray) (rec : Int → O) (k : O) (R : Bool → O) (x4 : Int) : O :=
 bif decide (x4 < (x3.size : Int)) then (bif decide (0 ≤ x4) && decide (x4 < (x3.size : Int)) then (bif (IntKind.i64.wrap ((bytesOf x3).getD x4.toNat 0) == x2) then R true
  else rec (IntKind.i64.wrap (x4 + 1)))
  else none)
 else k
noncomputable def l0 (x2 : Int) (x3 : ByteArray) (k : O) (R : Bool → O) : Nat → Int → O
 | 0, _ => none
 | n + 1, x4 => l0s x2 x3 (l0 x2 x3 k R n) k R x4
noncomputable def o0 : Fn [.i, .s] St := fun _ _ => ⟨mkT 17 [], [], []⟩
noncomputable def n0 (K : Res → O) := ent 0 [.i, .s] [.i] [0, 1, 2] (fun x2 x3 x4 => ⟨mkT 17 [(0, oI x2), (3, one (.str x3)), (4, oI x4)], [], []⟩) fun x2 x3 k => l0 x2 x3 (k (o0 x2 x3)) (fun r1 => K (m (0 : Int) r1))
noncomputable def X (K : Res → O) : Ctx := { cx0 [] fi true K with cin := [(0, ⟨[0, 3, 4], [], [], [], [], []⟩)], cout := [(0, ⟨[], [], [], [], [], []⟩)], lp := lpOf [n0 K] }
noncomputable def b (a1 : Int) (R : Bool → O) : O :=
 l0 a1 (⟨#[43, 45, 42, 37, 124, 38, 94, 61, 60, 62, 126, 105, 35, 44, 116, 100, 114, 122, 64, 63, 103, 36, 101, 47, 92, 46, 111]⟩ : ByteArray) (
 R false) R fuel 0
noncomputable def g := seal_ b
theorem e : g = b := seal_eq b
noncomputable def a : Fn [.i] St := fun a1 => argSt [oI a1] [] []
noncomputable def con := conOf 65 [.i] [.b] a g m
theorem hx (K : Res → O) : CtxOk Pg Γ0 byt0 eqs0 (X K) [] := ctx_of (X := X) .nil (by kernel_rfl) K
theorem w0 (K : Res → O) : LpSound Pg (X K) 0 b0 := lp_fin (L := [n0 K]) laid (hx K) .nil (.cons (ent_ok (fun x2 x3 k r => l0s x2 x3 r (k (o0 x2 x3)) (fun r1 => K (m (0 : Int) r1))) (by kernel_rfl) (by kernel_rfl) (by kernel_rfl) (by kernel_rfl) (by kernel_rfl)) .nil) (by kernel_rfl) (by kernel_rfl)
theorem ok : Con Pg con := con_fin (fn := Tryz.f65) (c := c) (Fi := fi) (X := X) laid hx (fun K => (.cons (w0 K) .nil)) e (by kernel_rfl) (by kernel_rfl) (by kernel_rfl) (by kernel_rfl)
end spec_l8Sign
namespace spec_Lex
noncomputable def c : Code := bodyOf Tryz.f32
noncomputable def fi : Fin := ⟨Γ0, [(.tmp 2, 30), (.tmp 3, 3), (.tmp 4, 3)], [[1], [1], [1]], [], [], []⟩
noncomputable def m : Fn [.s] (Fn [.l, .i, .i] Res) := fun _ r1 r2 r3 => ⟨[⟨false, [.ow 1000]⟩, ⟨false, [cI r2]⟩, ⟨false, [cI r3]⟩], [], [⟨e_0, .cells r1, true, 0, none⟩], [], []⟩
noncomputable def b0 : Code := codeAt c [1, 1, 1, 1, 0, 0, 0]
noncomputable def l0s (x2 : ByteArray) (rec : Int → List (List Cl) → O) (k : List (List Cl) → O) (R : List (List Cl) → Int → Int → O) (x3 : Int) (x4 : List (List Cl)) : O :=
 bif decide (x3 < (x2.size : Int)) then (bif decide (0 ≤ x3) && decide (x3 < (x2.size : Int)) then (bif (IntKind.i64.wrap ((bytesOf x2).getD x3.toNat 0) == 32) then rec (IntKind.i64.wrap (x3 + 1)) x4
  else (spec_l8Digit.g x2 x3 fun r5 =>
  bif r5 then (spec_l8Num.g x2 x3 fun r6 r7 r8 =>
   bif (r8 != 0) then R ([] : List (List Cl)) r8 x3
   else bif decide ((x4.length + 1) * 16 ≤ 140737488355328) then rec r7 (x4 ++ ([[.i 1, .i r6]] : List (List Cl)))
   else none)
  else bif (IntKind.i64.wrap ((bytesOf x2).getD x3.toNat 0) == 95) then (spec_l8Num.g x2 x3 fun r9 r10 r11 =>
   bif (r11 != 0) then R ([] : List (List Cl)) r11 x3
   else bif decide ((x4.length + 1) * 16 ≤ 140737488355328) then rec r10 (x4 ++ ([[.i 1, .i r9]] : List (List Cl)))
   else none)
  else (spec_l1In.g (IntKind.i64.wrap ((bytesOf x2).getD x3.toNat 0)) 65 90 fun r12 =>
  bif r12 then (bif decide ((x4.length + 1) * 16 ≤ 140737488355328) then rec (IntKind.i64.wrap (x3 + 1)) (x4 ++ ([[.i 2, .i (IntKind.i64.wrap ((IntKind.i64.wrap ((bytesOf x2).getD x3.toNat 0)) - 65))]] : List (List Cl)))
   else none)
  else bif (IntKind.i64.wrap ((bytesOf x2).getD x3.toNat 0) == 40) then (bif decide ((x4.length + 1) * 16 ≤ 140737488355328) then rec (IntKind.i64.wrap (x3 + 1)) (x4 ++ ([[.i 4, .i 0]] : List (List Cl)))
   else none)
  else bif (IntKind.i64.wrap ((bytesOf x2).getD x3.toNat 0) == 41) then (bif decide ((x4.length + 1) * 16 ≤ 140737488355328) then rec (IntKind.i64.wrap (x3 + 1)) (x4 ++ ([[.i 5, .i 0]] : List (List Cl)))
   else none)
  else bif (IntKind.i64.wrap ((bytesOf x2).getD x3.toNat 0) == 58) then (bif decide ((x4.length + 1) * 16 ≤ 140737488355328) then rec (IntKind.i64.wrap (x3 + 1)) (x4 ++ ([[.i 6, .i 0]] : List (List Cl)))
   else none)
  else (spec_l8Sign.g (IntKind.i64.wrap ((bytesOf x2).getD x3.toNat 0)) fun r13 =>
  bif r13 then (bif decide ((x4.length + 1) * 16 ≤ 140737488355328) then rec (IntKind.i64.wrap (x3 + 1)) (x4 ++ ([[.i 3, .i (IntKind.i64.wrap ((bytesOf x2).getD x3.toNat 0))]] : List (List Cl)))
   else none)
  else R ([] : List (List Cl)) 8 x3))))
  else none)
 else k x4
noncomputable def l0 (x2 : ByteArray) (k : List (List Cl) → O) (R : List (List Cl) → Int → Int → O) : Nat → Int → List (List Cl) → O
 | 0, _, _ => none
 | n + 1, x3, x4 => l0s x2 (l0 x2 k R n) k R x3 x4
noncomputable def o0 : Fn [.s, .l] St := fun x2 y2 => ⟨mkT 90 [(0, one (.str x2)), (5, one (.ow 3048))], [(3048, ⟨e_0, .cells y2, true, 0, none⟩)], []⟩
noncomputable def n0 (K : Res → O) := ent 0 [.s] [.i, .l] [0, 1, 2] (fun x2 x3 x4 => ⟨mkT 90 [(0, one (.str x2)), (5, one (.ow 3048)), (6, oI x3)], [(3048, ⟨e_0, .cells x4, true, 0, none⟩)], []⟩) fun x2 k => l0 x2 (fun y2 => k (o0 x2 y2)) (fun r1 r2 r3 => K (m ByteArray.empty r1 r2 r3))
noncomputable def X (K : Res → O) : Ctx := { cx0 [spec_l8Digit.con, spec_l8Num.con, spec_l1In.con, spec_l8Sign.con] fi true K with cin := [(0, ⟨[0, 5, 6], [(3048, 3048), (58392, 3048)], [], [], [], []⟩)], cout := [(0, ⟨[0, 5], [(3048, 3048)], [], [], [], []⟩)], lp := lpOf [n0 K] }
noncomputable def b (a1 : ByteArray) (R : List (List Cl) → Int → Int → O) : O :=
 bif decide (300 < (a1.size : Int)) then R ([] : List (List Cl)) 6 0
 else (l0 a1 (fun y14 =>
 R y14 0 (a1.size : Int)) R fuel 0 ([] : List (List Cl)))
noncomputable def g := seal_ b
theorem e : g = b := seal_eq b
noncomputable def a : Fn [.s] St := fun a1 => argSt [one (.str a1)] [] []
noncomputable def con := conOf 32 [.s] [.l, .i, .i] a g m
theorem hx (K : Res → O) : CtxOk Pg Γ0 byt0 eqs0 (X K) [spec_l8Digit.con, spec_l8Num.con, spec_l1In.con, spec_l8Sign.con] := ctx_of (X := X) (.cons spec_l8Digit.ok (.cons spec_l8Num.ok (.cons spec_l1In.ok (.cons spec_l8Sign.ok .nil)))) (by kernel_rfl) K
theorem w0 (K : Res → O) : LpSound Pg (X K) 0 b0 := lp_fin (L := [n0 K]) laid (hx K) .nil (.cons (ent_ok (fun x2 k r => l0s x2 r (fun y2 => k (o0 x2 y2)) (fun r1 r2 r3 => K (m ByteArray.empty r1 r2 r3))) (by kernel_rfl) (by kernel_rfl) (by kernel_rfl) (by kernel_rfl) (by kernel_rfl)) .nil) (by kernel_rfl) (by kernel_rfl)
theorem ok : Con Pg con := con_fin (fn := Tryz.f32) (c := c) (Fi := fi) (X := X) laid hx (fun K => (.cons (w0 K) .nil)) e (by kernel_rfl) (by kernel_rfl) (by kernel_rfl) (by kernel_rfl)
end spec_Lex
namespace spec_TokenOk
noncomputable def c : Code := bodyOf Tryz.f70
noncomputable def fi : Fin := ⟨Γ0, [(.tmp 2, 4)], [[1]], [], [], []⟩
noncomputable def m : Fn [.i, .i] (Fn [.b] Res) := fun _ _ r1 => ⟨[⟨false, [.bool r1]⟩], [], [], [], []⟩
noncomputable def X (K : Res → O) : Ctx := cx0 [spec_NumOk.con, spec_l1In.con, spec_l8Sign.con] fi true K
noncomputable def b (a1 a2 : Int) (R : Bool → O) : O :=
 bif (a1 == 1) then (spec_NumOk.g a2 fun r3 =>
  R r3)
 else bif (a1 == 2) then (spec_l1In.g a2 0 25 fun r4 =>
  R r4)
 else bif (a1 == 3) then (spec_l8Sign.g a2 fun r5 =>
  R r5)
 else bif (a1 == 4) then R (a2 == 0)
 else bif (a1 == 5) then R (a2 == 0)
 else bif (a1 == 6) then R (a2 == 0)
 else R false
noncomputable def g := seal_ b
theorem e : g = b := seal_eq b
noncomputable def a : Fn [.i, .i] St := fun a1 a2 => argSt [.v ⟨true, [cI a1, cI a2]⟩] [] []
noncomputable def con := conOf 70 [.i, .i] [.b] a g m
theorem ok : Con Pg con := con_fin (fn := Tryz.f70) (c := c) (Fi := fi) (X := X) laid (ctx_of (.cons spec_NumOk.ok (.cons spec_l1In.ok (.cons spec_l8Sign.ok .nil))) (by kernel_rfl)) (fun K => .nil) e (by kernel_rfl) (by kernel_rfl) (by kernel_rfl) (by kernel_rfl)
end spec_TokenOk
namespace spec_l8Tokens
noncomputable def c : Code := bodyOf Tryz.f35
noncomputable def fi : Fin := ⟨Γ0, [(.tmp 2, 4)], [[1]], [], [], []⟩
noncomputable def m : Fn [.l] (Fn [.b] Res) := fun _ r1 => ⟨[⟨false, [.bool r1]⟩], [], [], [], []⟩
noncomputable def b0 : Code := codeAt c [1, 0, 1, 0, 0]
noncomputable def l0s (x2 : List (List Cl)) (rec : Int → O) (k : O) (R : Bool → O) (x3 : Int) : O :=
 bif decide (x3 < (x2.length : Int)) then (bif decide (0 ≤ x3) && decide (x3 < (x2.length : Int)) then (spec_TokenOk.g (((x2.getD x3.toNat []).getD 0 (.i 0)).toI) (((x2.getD x3.toNat []).getD 1 (.i 0)).toI) fun r4 =>
  bif !r4 then R false
  else rec (IntKind.i64.wrap (x3 + 1)))
  else none)
 else k
noncomputable def l0 (x2 : List (List Cl)) (k : O) (R : Bool → O) : Nat → Int → O
 | 0, _ => none
 | n + 1, x3 => l0s x2 (l0 x2 k R n) k R x3
noncomputable def o0 : Fn [.l] St := fun x2 => ⟨mkT 19 [(0, one (.tr 0 1 e_0 (.cells x2)))], [], []⟩
noncomputable def n0 (K : Res → O) := ent 0 [.l] [.i] [0, 1] (fun x2 x3 => ⟨mkT 19 [(0, one (.tr 0 1 e_0 (.cells x2))), (3, oI x3)], [], []⟩) fun x2 k => l0 x2 (k (o0 x2)) (fun r1 => K (m [] r1))
noncomputable def X (K : Res → O) : Ctx := { cx0 [spec_TokenOk.con] fi true K with cin := [(0, ⟨[0, 3], [], [], [], [], []⟩)], cout := [(0, ⟨[0], [], [], [], [], []⟩)], lp := lpOf [n0 K] }
noncomputable def b (a1 : List (List Cl)) (R : Bool → O) : O :=
 l0 a1 (
 R (decide ((a1.length : Int) ≤ 300))) R fuel 0
noncomputable def g := seal_ b
theorem e : g = b := seal_eq b
noncomputable def a : Fn [.l] St := fun a1 => argSt [one (.tr 0 1 e_0 (.cells a1))] [] []
noncomputable def con := conOf 35 [.l] [.b] a g m
theorem hx (K : Res → O) : CtxOk Pg Γ0 byt0 eqs0 (X K) [spec_TokenOk.con] := ctx_of (X := X) (.cons spec_TokenOk.ok .nil) (by kernel_rfl) K
theorem w0 (K : Res → O) : LpSound Pg (X K) 0 b0 := lp_fin (L := [n0 K]) laid (hx K) .nil (.cons (ent_ok (fun x2 k r => l0s x2 r (k (o0 x2)) (fun r1 => K (m [] r1))) (by kernel_rfl) (by kernel_rfl) (by kernel_rfl) (by kernel_rfl) (by kernel_rfl)) .nil) (by kernel_rfl) (by kernel_rfl)
theorem ok : Con Pg con := con_fin (fn := Tryz.f35) (c := c) (Fi := fi) (X := X) laid hx (fun K => (.cons (w0 K) .nil)) e (by kernel_rfl) (by kernel_rfl) (by kernel_rfl) (by kernel_rfl)
end spec_l8Tokens
namespace spec_l9Kind
noncomputable def c : Code := bodyOf Tryz.f71
noncomputable def fi : Fin := ⟨Γ0, [(.tmp 4, 3)], [[1]], [true], [([.sl e_0 16, .int .i64, .sl e_1 72], [0, 1, 2])], []⟩
noncomputable def m : Fn [.i, .l, .l, .i] (Fn [.i] Res) := fun _ a2 a3 a4 r1 => ⟨[⟨false, [cI r1]⟩], [some ⟨e_1, .cells a2, true, 0, none⟩], [], [[.tr 2 2 e_0 (.cells a3), cI a4, .ow 0]], []⟩
noncomputable def X (K : Res → O) : Ctx := cx0 [] fi true K
noncomputable def b (a1 : Int) (a2 a3 : List (List Cl)) (a4 : Int) (R : Int → O) : O :=
 bif decide ((a3.length : Int) ≤ IntKind.i64.wrap (a4 + a1)) then R 0
 else bif decide (0 ≤ IntKind.i64.wrap (a4 + a1)) && decide (IntKind.i64.wrap (a4 + a1) < (a3.length : Int)) then R (((a3.getD ((IntKind.i64.wrap (a4 + a1)).toNat) []).getD 0 (.i 0)).toI)
 else none
noncomputable def g := seal_ b
theorem e : g = b := seal_eq b
noncomputable def a : Fn [.i, .l, .l, .i] St := fun a1 a2 a3 a4 => argSt [one (.bp 0 0), oI a1] [⟨e_1, .cells a2, true, 0, none⟩] [[.tr 2 2 e_0 (.cells a3), cI a4, .ow 0]]
noncomputable def con := conOf 71 [.i, .l, .l, .i] [.i] a g m
theorem ok : Con Pg con := con_fin (fn := Tryz.f71) (c := c) (Fi := fi) (X := X) laid (ctx_of .nil (by kernel_rfl)) (fun K => .nil) e (by kernel_rfl) (by kernel_rfl) (by kernel_rfl) (by kernel_rfl)
end spec_l9Kind
namespace spec_l9Sign
noncomputable def c : Code := bodyOf Tryz.f98
noncomputable def fi : Fin := ⟨Γ0, [(.tmp 4, 3)], [[1]], [true], [([.sl e_0 16, .int .i64, .sl e_1 72], [0, 1, 2])], []⟩
noncomputable def m : Fn [.i, .l, .l, .i] (Fn [.i] Res) := fun _ a2 a3 a4 r1 => ⟨[⟨false, [cI r1]⟩], [some ⟨e_1, .cells a2, true, 0, none⟩], [], [[.tr 2 2 e_0 (.cells a3), cI a4, .ow 0]], []⟩
noncomputable def X (K : Res → O) : Ctx := cx0 [spec_l9Kind.con] fi true K
noncomputable def b (a1 : Int) (a2 a3 : List (List Cl)) (a4 : Int) (R : Int → O) : O :=
 spec_l9Kind.g a1 a2 a3 a4 fun r5 =>
 bif (r5 != 3) then R 0
 else bif decide (0 ≤ IntKind.i64.wrap (a4 + a1)) && decide (IntKind.i64.wrap (a4 + a1) < (a3.length : Int)) then R (((a3.getD ((IntKind.i64.wrap (a4 + a1)).toNat) []).getD 1 (.i 0)).toI)
 else none
noncomputable def g := seal_ b
theorem e : g = b := seal_eq b
noncomputable def a : Fn [.i, .l, .l, .i] St := fun a1 a2 a3 a4 => argSt [one (.bp 0 0), oI a1] [⟨e_1, .cells a2, true, 0, none⟩] [[.tr 2 2 e_0 (.cells a3), cI a4, .ow 0]]
noncomputable def con := conOf 98 [.i, .l, .l, .i] [.i] a g m
theorem ok : Con Pg con := con_fin (fn := Tryz.f98) (c := c) (Fi := fi) (X := X) laid (ctx_of (.cons spec_l9Kind.ok .nil) (by kernel_rfl)) (fun K => .nil) e (by kernel_rfl) (by kernel_rfl) (by kernel_rfl) (by kernel_rfl)
end spec_l9Sign
namespace spec_l9Fun
noncomputable def c : Code := bodyOf Tryz.f72
noncomputable def fi : Fin := ⟨Γ0, [(.cell 2 45, 45), (.tmp 3, 4)], [[1, 1, 1], [1]], [true], [([.sl e_0 16, .int .i64, .sl e_1 72], [0, 1, 2])], []⟩
noncomputable def m : Fn [.l, .l, .i] (Fn [.i, .i, .i, .b, .i] Res) := fun a1 a2 _ r1 r2 r3 r4 r7 => ⟨[⟨true, [cI r1, cI r2, cI r3]⟩, ⟨false, [.bool r4]⟩], [some ⟨e_1, .cells a1, true, 0, none⟩], [], [[.tr 2 2 e_0 (.cells a2), cI r7, .ow 0]], []⟩
noncomputable def X (K : Res → O) : Ctx := cx0 [spec_l9Sign.con] fi true K
noncomputable def b (a1 a2 : List (List Cl)) (a3 : Int) (R : Int → Int → Int → Bool → Int → O) : O :=
 spec_l9Sign.g 0 a1 a2 a3 fun r4 =>
 spec_l9Sign.g 1 a1 a2 a3 fun r5 =>
 spec_l9Sign.g 2 a1 a2 a3 fun r6 =>
 bif (r4 == 0) then R 0 0 0 false a3
 else bif (r4 == 111) then (bif (r5 != 0) then R r5 111 0 true (IntKind.i64.wrap (a3 + 2))
  else bif (r5 == 47) then R r4 r5 0 true (IntKind.i64.wrap (a3 + 2))
  else bif (r5 == 92) then R r4 r5 0 true (IntKind.i64.wrap (a3 + 2))
  else bif (r5 == 46) then (bif (r6 != 0) then R r4 46 r6 true (IntKind.i64.wrap (a3 + 3))
   else R r4 0 0 true (IntKind.i64.wrap (a3 + 1)))
  else R r4 0 0 true (IntKind.i64.wrap (a3 + 1)))
 else bif (r5 == 47) then R r4 r5 0 true (IntKind.i64.wrap (a3 + 2))
 else bif (r5 == 92) then R r4 r5 0 true (IntKind.i64.wrap (a3 + 2))
 else bif (r5 == 46) then (bif (r6 != 0) then R r4 46 r6 true (IntKind.i64.wrap (a3 + 3))
  else R r4 0 0 true (IntKind.i64.wrap (a3 + 1)))
 else R r4 0 0 true (IntKind.i64.wrap (a3 + 1))
noncomputable def g := seal_ b
theorem e : g = b := seal_eq b
noncomputable def a : Fn [.l, .l, .i] St := fun a1 a2 a3 => argSt [one (.bp 0 0)] [⟨e_1, .cells a1, true, 0, none⟩] [[.tr 2 2 e_0 (.cells a2), cI a3, .ow 0]]
noncomputable def con := conOf 72 [.l, .l, .i] [.i, .i, .i, .b, .i] a g m
theorem ok : Con Pg con := con_fin (fn := Tryz.f72) (c := c) (Fi := fi) (X := X) laid (ctx_of (.cons spec_l9Sign.ok .nil) (by kernel_rfl)) (fun K => .nil) e (by kernel_rfl) (by kernel_rfl) (by kernel_rfl) (by kernel_rfl)
end spec_l9Fun
namespace spec_l1Sign2
noncomputable def c : Code := bodyOf Tryz.f90
noncomputable def fi : Fin := ⟨Γ0, [(.tmp 2, 4)], [[1]], [], [], []⟩
noncomputable def m : Fn [.i] (Fn [.b] Res) := fun _ r1 => ⟨[⟨false, [.bool r1]⟩], [], [], [], []⟩
noncomputable def X (K : Res → O) : Ctx := cx0 [] fi true K
noncomputable def b (a1 : Int) (R : Bool → O) : O :=
 bif (a1 == 43) then R true
 else bif (a1 == 45) then R true
 else bif (a1 == 42) then R true
 else bif (a1 == 37) then R true
 else bif (a1 == 124) then R true
 else bif (a1 == 38) then R true
 else bif (a1 == 94) then R true
 else bif (a1 == 61) then R true
 else bif (a1 == 60) then R true
 else R (a1 == 62)
noncomputable def g := seal_ b
theorem e : g = b := seal_eq b
noncomputable def a : Fn [.i] St := fun a1 => argSt [oI a1] [] []
noncomputable def con := conOf 90 [.i] [.b] a g m
theorem ok : Con Pg con := con_fin (fn := Tryz.f90) (c := c) (Fi := fi) (X := X) laid (ctx_of .nil (by kernel_rfl)) (fun K => .nil) e (by kernel_rfl) (by kernel_rfl) (by kernel_rfl) (by kernel_rfl)
end spec_l1Sign2
namespace spec_l1Sign1
noncomputable def c : Code := bodyOf Tryz.f91
noncomputable def fi : Fin := ⟨Γ0, [(.tmp 2, 4)], [[1]], [], [], []⟩
noncomputable def m : Fn [.i] (Fn [.b] Res) := fun _ r1 => ⟨[⟨false, [.bool r1]⟩], [], [], [], []⟩
noncomputable def X (K : Res → O) : Ctx := cx0 [] fi true K
noncomputable def b (a1 : Int) (R : Bool → O) : O :=
 bif (a1 == 43) then R true
 else bif (a1 == 45) then R true
 else bif (a1 == 42) then R true
 else bif (a1 == 124) then R true
 else R (a1 == 126)
noncomputable def g := seal_ b
theorem e : g = b := seal_eq b
noncomputable def a : Fn [.i] St := fun a1 => argSt [oI a1] [] []
noncomputable def con := conOf 91 [.i] [.b] a g m
theorem ok : Con Pg con := con_fin (fn := Tryz.f91) (c := c) (Fi := fi) (X := X) laid (ctx_of .nil (by kernel_rfl)) (fun K => .nil) e (by kernel_rfl) (by kernel_rfl) (by kernel_rfl) (by kernel_rfl)
end spec_l1Sign1
namespace spec_FunOne
noncomputable def c : Code := bodyOf Tryz.f50
noncomputable def fi : Fin := ⟨Γ0, [(.tmp 2, 4)], [[1]], [], [], []⟩
noncomputable def m : Fn [.i, .i, .i] (Fn [.b] Res) := fun _ _ _ r1 => ⟨[⟨false, [.bool r1]⟩], [], [], [], []⟩
noncomputable def X (K : Res → O) : Ctx := cx0 [spec_l1Sign2.con, spec_l1Sign1.con] fi true K
noncomputable def b (a1 a2 a3 : Int) (R : Bool → O) : O :=
 bif (a3 != 0) then R false
 else bif (a2 == 47) then (spec_l1Sign2.g a1 fun r4 =>
  R r4)
 else bif (a2 == 92) then (spec_l1Sign2.g a1 fun r5 =>
  R r5)
 else bif (a2 != 0) then R false
 else (spec_l1Sign1.g a1 fun r6 =>
 bif r6 then R true
 else bif (a1 == 105) then R true
 else bif (a1 == 35) then R true
 else bif (a1 == 44) then R true
 else bif (a1 == 114) then R true
 else bif (a1 == 122) then R true
 else R (a1 == 103))
noncomputable def g := seal_ b
theorem e : g = b := seal_eq b
noncomputable def a : Fn [.i, .i, .i] St := fun a1 a2 a3 => argSt [.v ⟨true, [cI a1, cI a2, cI a3]⟩] [] []
noncomputable def con := conOf 50 [.i, .i, .i] [.b] a g m
theorem ok : Con Pg con := con_fin (fn := Tryz.f50) (c := c) (Fi := fi) (X := X) laid (ctx_of (.cons spec_l1Sign2.ok (.cons spec_l1Sign1.ok .nil)) (by kernel_rfl)) (fun K => .nil) e (by kernel_rfl) (by kernel_rfl) (by kernel_rfl) (by kernel_rfl)
end spec_FunOne
namespace spec_l9Behind
noncomputable def c : Code := bodyOf Tryz.f74
noncomputable def fi : Fin := ⟨Γ0, [], [], [false], [([.sl e_0 16, .int .i64, .sl e_1 72], [0, 1, 1])], []⟩
noncomputable def m : Fn [.l, .l, .l, .i] (Fn [.l, .i, .l] Res) := fun _ _ _ _ r1 r2 r3 => ⟨[], [none], [⟨e_1, .cells r3, false, 0, none⟩], [[.tr 2 2 e_0 (.cells r1), cI r2, .ow 1000]], []⟩
noncomputable def b0 : Code := codeAt c [1, 1, 0, 0]
noncomputable def l0s (x5 : List (List Cl)) (x6 : Int) (x9 : List (List Cl)) (x10 : Int) (rec : Int → List (List Cl) → O) (k : List (List Cl) → O) (x7 : Int) (x8 : List (List Cl)) : O :=
 bif decide (x7 < (x5.length : Int)) then (bif decide (0 ≤ x7) && decide (x7 < (x5.length : Int)) then (bif (((x5.getD x7.toNat []).getD 0 (.i 0)).toI == 5) then (bif decide ((x8.length + 1) * 72 ≤ 140737488355328) then rec (IntKind.i64.wrap (x7 + 1)) (x8 ++ ([[.i (((x5.getD x7.toNat []).getD 0 (.i 0)).toI), .i (IntKind.i64.wrap ((((x5.getD x7.toNat []).getD 1 (.i 0)).toI) + x6)), .i (IntKind.i64.wrap ((((x5.getD x7.toNat []).getD 2 (.i 0)).toI) + x6)), .i (((x5.getD x7.toNat []).getD 3 (.i 0)).toI), .i (((x5.getD x7.toNat []).getD 4 (.i 0)).toI), .i (((x5.getD x7.toNat []).getD 5 (.i 0)).toI), .l (((x5.getD x7.toNat []).getD 6 (.i 0)).toL)]] : List (List Cl)))
  else none)
  else bif (((x5.getD x7.toNat []).getD 0 (.i 0)).toI == 4) then (bif decide ((x8.length + 1) * 72 ≤ 140737488355328) then rec (IntKind.i64.wrap (x7 + 1)) (x8 ++ ([[.i (((x5.getD x7.toNat []).getD 0 (.i 0)).toI), .i (((x5.getD x7.toNat []).getD 1 (.i 0)).toI), .i (IntKind.i64.wrap ((((x5.getD x7.toNat []).getD 2 (.i 0)).toI) + x6)), .i (((x5.getD x7.toNat []).getD 3 (.i 0)).toI), .i (((x5.getD x7.toNat []).getD 4 (.i 0)).toI), .i (((x5.getD x7.toNat []).getD 5 (.i 0)).toI), .l (((x5.getD x7.toNat []).getD 6 (.i 0)).toL)]] : List (List Cl)))
   else none)
  else bif (((x5.getD x7.toNat []).getD 0 (.i 0)).toI == 3) then (bif decide ((x8.length + 1) * 72 ≤ 140737488355328) then rec (IntKind.i64.wrap (x7 + 1)) (x8 ++ ([[.i (((x5.getD x7.toNat []).getD 0 (.i 0)).toI), .i (((x5.getD x7.toNat []).getD 1 (.i 0)).toI), .i (IntKind.i64.wrap ((((x5.getD x7.toNat []).getD 2 (.i 0)).toI) + x6)), .i (((x5.getD x7.toNat []).getD 3 (.i 0)).toI), .i (((x5.getD x7.toNat []).getD 4 (.i 0)).toI), .i (((x5.getD x7.toNat []).getD 5 (.i 0)).toI), .l (((x5.getD x7.toNat []).getD 6 (.i 0)).toL)]] : List (List Cl)))
   else none)
  else bif decide ((x8.length + 1) * 72 ≤ 140737488355328) then rec (IntKind.i64.wrap (x7 + 1)) (x8 ++ ([[.i (((x5.getD x7.toNat []).getD 0 (.i 0)).toI), .i (((x5.getD x7.toNat []).getD 1 (.i 0)).toI), .i (((x5.getD x7.toNat []).getD 2 (.i 0)).toI), .i (((x5.getD x7.toNat []).getD 3 (.i 0)).toI), .i (((x5.getD x7.toNat []).getD 4 (.i 0)).toI), .i (((x5.getD x7.toNat []).getD 5 (.i 0)).toI), .l (((x5.getD x7.toNat []).getD 6 (.i 0)).toL)]] : List (List Cl)))
  else none)
  else none)
 else k x8
noncomputable def l0 (x5 : List (List Cl)) (x6 : Int) (x9 : List (List Cl)) (x10 : Int) (k : List (List Cl) → O) : Nat → Int → List (List Cl) → O
 | 0, _, _ => none
 | n + 1, x7, x8 => l0s x5 x6 x9 x10 (l0 x5 x6 x9 x10 k n) k x7 x8
noncomputable def o0 : Fn [.l, .i, .l, .i, .l] St := fun _ _ x9 x10 y1 => ⟨mkT 54 [], [(102401000, ⟨e_1, .cells y1, false, 0, none⟩)], [(0, [.tr 2 2 e_0 (.cells x9), cI x10, .ow 102401000])]⟩
noncomputable def n0 (K : Res → O) := ent 0 [.l, .i, .l, .i] [.i, .l] [0, 1, 4, 5, 2, 3] (fun x5 x6 x9 x10 x7 x8 => ⟨mkT 54 [(0, one (.bp 0 0)), (1, one (.tr 0 2 e_1 (.cells x5))), (4, oI x6), (5, oI x7)], [(102401000, ⟨e_1, .cells x8, false, 0, none⟩)], [(0, [.tr 2 2 e_0 (.cells x9), cI x10, .ow 102401000])]⟩) fun x5 x6 x9 x10 k => l0 x5 x6 x9 x10 (fun y1 => k (o0 x5 x6 x9 x10 y1))
noncomputable def X (K : Res → O) : Ctx := { cx0 [] fi true K with cin := [(0, ⟨[0, 1, 4, 5], [(0, 102401000), (25688, 102401000)], [0], [102401000], [], []⟩)], cout := [(0, ⟨[], [(102401000, 102401000)], [0], [], [], []⟩)], lp := lpOf [n0 K] }
noncomputable def b (a1 a2 a3 : List (List Cl)) (a4 : Int) (R : List (List Cl) → Int → List (List Cl) → O) : O :=
 l0 a1 (a2.length : Int) a3 a4 (fun y11 =>
 R a3 a4 y11) fuel 0 a2
noncomputable def g := seal_ b
theorem e : g = b := seal_eq b
noncomputable def a : Fn [.l, .l, .l, .i] St := fun a1 a2 a3 a4 => argSt [one (.bp 0 0), one (.tr 0 2 e_1 (.cells a1))] [⟨e_1, .cells a2, true, 0, none⟩] [[.tr 2 2 e_0 (.cells a3), cI a4, .ow 0]]
noncomputable def con := conOf 74 [.l, .l, .l, .i] [.l, .i, .l] a g m
theorem hx (K : Res → O) : CtxOk Pg Γ0 byt0 eqs0 (X K) [] := ctx_of (X := X) .nil (by kernel_rfl) K
theorem w0 (K : Res → O) : LpSound Pg (X K) 0 b0 := lp_fin (L := [n0 K]) laid (hx K) .nil (.cons (ent_ok (fun x5 x6 x9 x10 k r => l0s x5 x6 x9 x10 r (fun y1 => k (o0 x5 x6 x9 x10 y1))) (by kernel_rfl) (by kernel_rfl) (by kernel_rfl) (by kernel_rfl) (by kernel_rfl)) .nil) (by kernel_rfl) (by kernel_rfl)
theorem ok : Con Pg con := con_fin (fn := Tryz.f74) (c := c) (Fi := fi) (X := X) laid hx (fun K => (.cons (w0 K) .nil)) e (by kernel_rfl) (by kernel_rfl) (by kernel_rfl) (by kernel_rfl)
end spec_l9Behind
namespace spec_FunTwo
noncomputable def c : Code := bodyOf Tryz.f51
noncomputable def fi : Fin := ⟨Γ0, [(.tmp 2, 4)], [[1]], [], [], []⟩
noncomputable def m : Fn [.i, .i, .i] (Fn [.b] Res) := fun _ _ _ r1 => ⟨[⟨false, [.bool r1]⟩], [], [], [], []⟩
noncomputable def X (K : Res → O) : Ctx := cx0 [spec_l1Sign2.con] fi true K
noncomputable def b (a1 a2 a3 : Int) (R : Bool → O) : O :=
 bif (a2 == 46) then (spec_l1Sign2.g a1 fun r4 =>
  bif r4 then (spec_l1Sign2.g a3 fun r5 =>
   R r5)
  else R false)
 else bif (a3 != 0) then R false
 else bif (a2 == 111) then (spec_l1Sign2.g a1 fun r6 =>
  R r6)
 else bif (a2 != 0) then R false
 else (spec_l1Sign2.g a1 fun r7 =>
 bif r7 then R true
 else bif (a1 == 35) then R true
 else bif (a1 == 44) then R true
 else bif (a1 == 116) then R true
 else bif (a1 == 100) then R true
 else bif (a1 == 114) then R true
 else bif (a1 == 64) then R true
 else bif (a1 == 63) then R true
 else bif (a1 == 36) then R true
 else R (a1 == 101))
noncomputable def g := seal_ b
theorem e : g = b := seal_eq b
noncomputable def a : Fn [.i, .i, .i] St := fun a1 a2 a3 => argSt [.v ⟨true, [cI a1, cI a2, cI a3]⟩] [] []
noncomputable def con := conOf 51 [.i, .i, .i] [.b] a g m
theorem ok : Con Pg con := con_fin (fn := Tryz.f51) (c := c) (Fi := fi) (X := X) laid (ctx_of (.cons spec_l1Sign2.ok .nil) (by kernel_rfl)) (fun K => .nil) e (by kernel_rfl) (by kernel_rfl) (by kernel_rfl) (by kernel_rfl)
end spec_FunTwo
namespace spec_l9Kind_L2
noncomputable def c : Code := bodyOf Tryz.f71
noncomputable def fi : Fin := ⟨Γ0, [(.tmp 4, 3)], [[1]], [true], [([.sl e_0 16, .int .i64, .sl e_1 72], [0, 1, 2])], []⟩
noncomputable def m : Fn [.i, .l, .l, .i] (Fn [.i] Res) := fun _ a2 a3 a4 r1 => ⟨[⟨false, [cI r1]⟩], [some ⟨e_1, .cells a2, false, 0, none⟩], [], [[.tr 2 2 e_0 (.cells a3), cI a4, .ow 0]], []⟩
noncomputable def X (K : Res → O) : Ctx := cx0 [] fi true K
noncomputable def b (a1 : Int) (a2 a3 : List (List Cl)) (a4 : Int) (R : Int → O) : O :=
 bif decide ((a3.length : Int) ≤ IntKind.i64.wrap (a4 + a1)) then R 0
 else bif decide (0 ≤ IntKind.i64.wrap (a4 + a1)) && decide (IntKind.i64.wrap (a4 + a1) < (a3.length : Int)) then R (((a3.getD ((IntKind.i64.wrap (a4 + a1)).toNat) []).getD 0 (.i 0)).toI)
 else none
noncomputable def g := seal_ b
theorem e : g = b := seal_eq b
noncomputable def a : Fn [.i, .l, .l, .i] St := fun a1 a2 a3 a4 => argSt [one (.bp 0 0), oI a1] [⟨e_1, .cells a2, false, 0, none⟩] [[.tr 2 2 e_0 (.cells a3), cI a4, .ow 0]]
noncomputable def con := conOf 71 [.i, .l, .l, .i] [.i] a g m
theorem ok : Con Pg con := con_fin (fn := Tryz.f71) (c := c) (Fi := fi) (X := X) laid (ctx_of .nil (by kernel_rfl)) (fun K => .nil) e (by kernel_rfl) (by kernel_rfl) (by kernel_rfl) (by kernel_rfl)
end spec_l9Kind_L2
namespace spec_l9Behind_L2
noncomputable def c : Code := bodyOf Tryz.f74
noncomputable def fi : Fin := ⟨Γ0, [], [], [false], [([.sl e_0 16, .int .i64, .sl e_1 72], [0, 1, 1])], []⟩
noncomputable def m : Fn [.l, .l, .l, .i] (Fn [.l, .i, .l] Res) := fun _ _ _ _ r1 r2 r3 => ⟨[], [none], [⟨e_1, .cells r3, false, 0, none⟩], [[.tr 2 2 e_0 (.cells r1), cI r2, .ow 1000]], []⟩
noncomputable def b0 : Code := codeAt c [1, 1, 0, 0]
noncomputable def l0s (x5 : List (List Cl)) (x6 : Int) (x9 : List (List Cl)) (x10 : Int) (rec : Int → List (List Cl) → O) (k : List (List Cl) → O) (x7 : Int) (x8 : List (List Cl)) : O :=
 bif decide (x7 < (x5.length : Int)) then (bif decide (0 ≤ x7) && decide (x7 < (x5.length : Int)) then (bif (((x5.getD x7.toNat []).getD 0 (.i 0)).toI == 5) then (bif decide ((x8.length + 1) * 72 ≤ 140737488355328) then rec (IntKind.i64.wrap (x7 + 1)) (x8 ++ ([[.i (((x5.getD x7.toNat []).getD 0 (.i 0)).toI), .i (IntKind.i64.wrap ((((x5.getD x7.toNat []).getD 1 (.i 0)).toI) + x6)), .i (IntKind.i64.wrap ((((x5.getD x7.toNat []).getD 2 (.i 0)).toI) + x6)), .i (((x5.getD x7.toNat []).getD 3 (.i 0)).toI), .i (((x5.getD x7.toNat []).getD 4 (.i 0)).toI), .i (((x5.getD x7.toNat []).getD 5 (.i 0)).toI), .l (((x5.getD x7.toNat []).getD 6 (.i 0)).toL)]] : List (List Cl)))
  else none)
  else bif (((x5.getD x7.toNat []).getD 0 (.i 0)).toI == 4) then (bif decide ((x8.length + 1) * 72 ≤ 140737488355328) then rec (IntKind.i64.wrap (x7 + 1)) (x8 ++ ([[.i (((x5.getD x7.toNat []).getD 0 (.i 0)).toI), .i (((x5.getD x7.toNat []).getD 1 (.i 0)).toI), .i (IntKind.i64.wrap ((((x5.getD x7.toNat []).getD 2 (.i 0)).toI) + x6)), .i (((x5.getD x7.toNat []).getD 3 (.i 0)).toI), .i (((x5.getD x7.toNat []).getD 4 (.i 0)).toI), .i (((x5.getD x7.toNat []).getD 5 (.i 0)).toI), .l (((x5.getD x7.toNat []).getD 6 (.i 0)).toL)]] : List (List Cl)))
   else none)
  else bif (((x5.getD x7.toNat []).getD 0 (.i 0)).toI == 3) then (bif decide ((x8.length + 1) * 72 ≤ 140737488355328) then rec (IntKind.i64.wrap (x7 + 1)) (x8 ++ ([[.i (((x5.getD x7.toNat []).getD 0 (.i 0)).toI), .i (((x5.getD x7.toNat []).getD 1 (.i 0)).toI), .i (IntKind.i64.wrap ((((x5.getD x7.toNat []).getD 2 (.i 0)).toI) + x6)), .i (((x5.getD x7.toNat []).getD 3 (.i 0)).toI), .i (((x5.getD x7.toNat []).getD 4 (.i 0)).toI), .i (((x5.getD x7.toNat []).getD 5 (.i 0)).toI), .l (((x5.getD x7.toNat []).getD 6 (.i 0)).toL)]] : List (List Cl)))
   else none)
  else bif decide ((x8.length + 1) * 72 ≤ 140737488355328) then rec (IntKind.i64.wrap (x7 + 1)) (x8 ++ ([[.i (((x5.getD x7.toNat []).getD 0 (.i 0)).toI), .i (((x5.getD x7.toNat []).getD 1 (.i 0)).toI), .i (((x5.getD x7.toNat []).getD 2 (.i 0)).toI), .i (((x5.getD x7.toNat []).getD 3 (.i 0)).toI), .i (((x5.getD x7.toNat []).getD 4 (.i 0)).toI), .i (((x5.getD x7.toNat []).getD 5 (.i 0)).toI), .l (((x5.getD x7.toNat []).getD 6 (.i 0)).toL)]] : List (List Cl)))
  else none)
  else none)
 else k x8
noncomputable def l0 (x5 : List (List Cl)) (x6 : Int) (x9 : List (List Cl)) (x10 : Int) (k : List (List Cl) → O) : Nat → Int → List (List Cl) → O
 | 0, _, _ => none
 | n + 1, x7, x8 => l0s x5 x6 x9 x10 (l0 x5 x6 x9 x10 k n) k x7 x8
noncomputable def o0 : Fn [.l, .i, .l, .i, .l] St := fun _ _ x9 x10 y1 => ⟨mkT 54 [], [(102401000, ⟨e_1, .cells y1, false, 0, none⟩)], [(0, [.tr 2 2 e_0 (.cells x9), cI x10, .ow 102401000])]⟩
noncomputable def n0 (K : Res → O) := ent 0 [.l, .i, .l, .i] [.i, .l] [0, 1, 4, 5, 2, 3] (fun x5 x6 x9 x10 x7 x8 => ⟨mkT 54 [(0, one (.bp 0 0)), (1, one (.tr 0 2 e_1 (.cells x5))), (4, oI x6), (5, oI x7)], [(102401000, ⟨e_1, .cells x8, false, 0, none⟩)], [(0, [.tr 2 2 e_0 (.cells x9), cI x10, .ow 102401000])]⟩) fun x5 x6 x9 x10 k => l0 x5 x6 x9 x10 (fun y1 => k (o0 x5 x6 x9 x10 y1))
noncomputable def X (K : Res → O) : Ctx := { cx0 [] fi true K with cin := [(0, ⟨[0, 1, 4, 5], [(0, 102401000), (25688, 102401000)], [0], [], [], []⟩)], cout := [(0, ⟨[], [(102401000, 102401000)], [0], [], [], []⟩)], lp := lpOf [n0 K] }
noncomputable def b (a1 a2 a3 : List (List Cl)) (a4 : Int) (R : List (List Cl) → Int → List (List Cl) → O) : O :=
 l0 a1 (a2.length : Int) a3 a4 (fun y11 =>
 R a3 a4 y11) fuel 0 a2
noncomputable def g := seal_ b
theorem e : g = b := seal_eq b
noncomputable def a : Fn [.l, .l, .l, .i] St := fun a1 a2 a3 a4 => argSt [one (.bp 0 0), one (.tr 0 2 e_1 (.cells a1))] [⟨e_1, .cells a2, false, 0, none⟩] [[.tr 2 2 e_0 (.cells a3), cI a4, .ow 0]]
noncomputable def con := conOf 74 [.l, .l, .l, .i] [.l, .i, .l] a g m
theorem hx (K : Res → O) : CtxOk Pg Γ0 byt0 eqs0 (X K) [] := ctx_of (X := X) .nil (by kernel_rfl) K
theorem w0 (K : Res → O) : LpSound Pg (X K) 0 b0 := lp_fin (L := [n0 K]) laid (hx K) .nil (.cons (ent_ok (fun x5 x6 x9 x10 k r => l0s x5 x6 x9 x10 r (fun y1 => k (o0 x5 x6 x9 x10 y1))) (by kernel_rfl) (by kernel_rfl) (by kernel_rfl) (by kernel_rfl) (by kernel_rfl)) .nil) (by kernel_rfl) (by kernel_rfl)
theorem ok : Con Pg con := con_fin (fn := Tryz.f74) (c := c) (Fi := fi) (X := X) laid hx (fun K => (.cons (w0 K) .nil)) e (by kernel_rfl) (by kernel_rfl) (by kernel_rfl) (by kernel_rfl)
end spec_l9Behind_L2
-- GROUP spec_l9Operand spec_l9Line
namespace spec_l9Operand
noncomputable def c : Code := bodyOf Tryz.f73
noncomputable def fi : Fin := ⟨Γ0, [(.tmp 2, 4)], [[1]], [false], [([.sl e_0 16, .int .i64, .sl e_1 72], [0, 1, 11])], []⟩
noncomputable def m : Fn [.l, .l, .i] (Fn [.b, .l, .i, .l] Res) := fun _ _ _ r1 r2 r3 r4 => ⟨[⟨false, [.bool r1]⟩], [none], [⟨e_1, .cells r4, false, 0, none⟩], [[.tr 2 2 e_0 (.cells r2), cI r3, .ow 1000]], []⟩
noncomputable def b1 : Code := codeAt c [1, 0, 1, 0, 1, 0, 1, 0, 0, 0]
noncomputable abbrev T : Type := List (List Cl) → List (List Cl) → Int → (Bool → List (List Cl) → Int → List (List Cl) → O) → O
noncomputable def a : Fn [.l, .l, .i] St := fun a1 a2 a3 => argSt [one (.bp 0 0)] [⟨e_1, .cells a1, true, 0, none⟩] [[.tr 2 2 e_0 (.cells a2), cI a3, .ow 0]]
noncomputable def conz (h : T) := conOf 73 [.l, .l, .i] [.b, .l, .i, .l] a h m
end spec_l9Operand
namespace spec_l9Line
noncomputable def c : Code := bodyOf Tryz.f36
noncomputable def fi : Fin := ⟨Γ0, [(.tmp 2, 4)], [[1]], [false], [([.sl e_0 16, .int .i64, .sl e_1 72], [0, 1, 11])], []⟩
noncomputable def m : Fn [.l, .l, .i] (Fn [.b, .l, .i, .l] Res) := fun _ _ _ r1 r2 r3 r4 => ⟨[⟨false, [.bool r1]⟩], [none], [⟨e_1, .cells r4, false, 0, none⟩], [[.tr 2 2 e_0 (.cells r2), cI r3, .ow 1000]], []⟩
noncomputable abbrev T : Type := List (List Cl) → List (List Cl) → Int → (Bool → List (List Cl) → Int → List (List Cl) → O) → O
noncomputable def a : Fn [.l, .l, .i] St := fun a1 a2 a3 => argSt [one (.bp 0 0)] [⟨e_1, .cells a1, true, 0, none⟩] [[.tr 2 2 e_0 (.cells a2), cI a3, .ow 0]]
noncomputable def conz (h : T) := conOf 36 [.l, .l, .i] [.b, .l, .i, .l] a h m
end spec_l9Line
noncomputable abbrev Z_spec_l9Operand : Type := spec_l9Operand.T × spec_l9Line.T
noncomputable def Gd_spec_l9Operand (z : Z_spec_l9Operand) : Prop := Con Pg (spec_l9Operand.conz z.1) ∧ Con Pg (spec_l9Line.conz z.2)
namespace spec_l9Operand
noncomputable def l1s (x5 x7 : List (List Cl)) (x9 x10 x11 x12 x13 x14 : Int) (rec : List Int → Int → O) (k : List Int → Int → O) (x6 : List Int) (x8 : Int) : O :=
 spec_l9Kind.g 0 x5 x7 x8 fun r15 =>
 bif (r15 == 1) then (bif decide (0 ≤ x8) && decide (x8 < (x7.length : Int)) then (bif decide ((x6.length + 1) * 8 ≤ 140737488355328) then rec (x6 ++ ([((x7.getD x8.toNat []).getD 1 (.i 0)).toI] : List Int)) (IntKind.i64.wrap (x8 + 1))
  else none)
  else none)
 else k x6 x8
noncomputable def l1 (x5 x7 : List (List Cl)) (x9 x10 x11 x12 x13 x14 : Int) (k : List Int → Int → O) : Nat → List Int → Int → O
 | 0, _, _ => none
 | n + 1, x6, x8 => l1s x5 x7 x9 x10 x11 x12 x13 x14 (l1 x5 x7 x9 x10 x11 x12 x13 x14 k n) k x6 x8
noncomputable def o1 : Fn [.l, .l, .i, .i, .i, .i, .i, .i, .z, .i] St := fun x5 x7 x9 x10 x11 x12 x13 x14 y2 y4 => ⟨mkT 103 [(0, one (.bp 0 0)), (3, one (.bp 7160 0))], [(0, ⟨e_1, .cells x5, true, 0, none⟩), (7158, ⟨[.int .i64], .ints y2, true, 0, none⟩)], [(0, [.tr 2 2 e_0 (.cells x7), cI y4, .ow 0]), (7160, [cI x9, cI x10, cI x11, cI x12, cI x13, cI x14, .ow 7158])]⟩
noncomputable def n1 (K : Res → O) := ent 1 [.l, .l, .i, .i, .i, .i, .i, .i] [.z, .i] [0, 2, 4, 5, 6, 7, 8, 9, 1, 3] (fun x5 x7 x9 x10 x11 x12 x13 x14 x6 x8 => ⟨mkT 103 [(0, one (.bp 0 0)), (3, one (.bp 7160 0))], [(0, ⟨e_1, .cells x5, true, 0, none⟩), (7158, ⟨[.int .i64], .ints x6, true, 0, none⟩)], [(0, [.tr 2 2 e_0 (.cells x7), cI x8, .ow 0]), (7160, [cI x9, cI x10, cI x11, cI x12, cI x13, cI x14, .ow 7158])]⟩) fun x5 x7 x9 x10 x11 x12 x13 x14 k => l1 x5 x7 x9 x10 x11 x12 x13 x14 (fun y2 y4 => k (o1 x5 x7 x9 x10 x11 x12 x13 x14 y2 y4))
noncomputable def X (z : Z_spec_l9Operand) (K : Res → O) : Ctx := { cx0 [spec_l9Kind.con, spec_l9Line.conz z.2, spec_l9Kind_L2.con] fi true K with own := [(3, 0, 6, [.int .i64])], cin := [(1, ⟨[0, 3], [(0, 0), (7158, 7158), (11464, 7158)], [0, 7160], [], [], []⟩)], cout := [(1, ⟨[0, 3], [(0, 0), (7158, 7158)], [0, 7160], [], [], []⟩)], lp := lpOf [n1 K] }
noncomputable def g (z : Z_spec_l9Operand) (a1 a2 : List (List Cl)) (a3 : Int) (R : Bool → List (List Cl) → Int → List (List Cl) → O) : O :=
 spec_l9Kind.g 0 a1 a2 a3 fun r4 =>
 bif (r4 == 1) then (l1 a1 a2 1 0 0 0 0 0 (fun y16 y17 =>
  bif decide ((a1.length + 1) * 72 ≤ 140737488355328) then R true a2 y17 (a1 ++ ([[.i 1, .i 0, .i 0, .i 0, .i 0, .i 0, .l y16]] : List (List Cl)))
  else none) fuel ([] : List Int) a3)
 else bif (r4 == 2) then (bif decide (0 ≤ a3) && decide (a3 < (a2.length : Int)) then (bif decide ((a1.length + 1) * 72 ≤ 140737488355328) then R true a2 (IntKind.i64.wrap (a3 + 1)) (a1 ++ ([[.i 2, .i (((a2.getD a3.toNat []).getD 1 (.i 0)).toI), .i 0, .i 0, .i 0, .i 0, .l ([] : List Int)]] : List (List Cl)))
  else none)
  else none)
 else bif (r4 == 4) then (z.2 a1 a2 (IntKind.i64.wrap (a3 + 1)) fun r18 r19 r20 r21 =>
  bif !r18 then R false r19 r20 r21
  else (spec_l9Kind_L2.g 0 r21 r19 r20 fun r22 =>
  bif (r22 != 5) then R false r19 r20 r21
  else R true r19 (IntKind.i64.wrap (r20 + 1)) r21))
 else R false a2 a3 a1
theorem hx (z : Z_spec_l9Operand) (hz : Gd_spec_l9Operand z) (K : Res → O) : CtxOk Pg Γ0 byt0 eqs0 ((X z) K) [spec_l9Kind.con, spec_l9Line.conz z.2, spec_l9Kind_L2.con] := ctx_of (X := (X z)) (.cons spec_l9Kind.ok (.cons hz.2 (.cons spec_l9Kind_L2.ok .nil))) (by kernel_rfl) K
theorem w1 (z : Z_spec_l9Operand) (hz : Gd_spec_l9Operand z) (K : Res → O) : LpSound Pg ((X z) K) 1 b1 := lp_fin (L := [n1 K]) laid ((hx z hz) K) .nil (.cons (ent_ok (fun x5 x7 x9 x10 x11 x12 x13 x14 k r => l1s x5 x7 x9 x10 x11 x12 x13 x14 r (fun y2 y4 => k (o1 x5 x7 x9 x10 x11 x12 x13 x14 y2 y4))) (by kernel_rfl) (by kernel_rfl) (by kernel_rfl) (by kernel_rfl) (by kernel_rfl)) .nil) (by kernel_rfl) (by kernel_rfl)
theorem ok (z : Z_spec_l9Operand) (hz : Gd_spec_l9Operand z) : Con Pg (conz (g z)) := con_fin (fn := Tryz.f73) (c := c) (Fi := fi) (X := (X z)) laid (hx z hz) (fun K => (.cons ((w1 z hz) K) .nil)) rfl (by kernel_rfl) (by kernel_rfl) (by kernel_rfl) (by kernel_rfl)
end spec_l9Operand
namespace spec_l9Line
noncomputable def X (z : Z_spec_l9Operand) (K : Res → O) : Ctx := { cx0 [spec_l9Kind.con, spec_l9Line.conz z.2, spec_l9Fun.con, spec_FunOne.con, spec_l9Operand.conz z.1, spec_l9Behind.con, spec_FunTwo.con, spec_l9Behind_L2.con] fi true K with io := [(74, [⟨false, 0, 1⟩, ⟨false, 0, 2⟩])], own := [(15, 8, 2, e_1)] }
noncomputable def g (z : Z_spec_l9Operand) (a1 a2 : List (List Cl)) (a3 : Int) (R : Bool → List (List Cl) → Int → List (List Cl) → O) : O :=
 spec_l9Kind.g 0 a1 a2 a3 fun r4 =>
 bif (r4 == 2) then (spec_l9Kind.g 1 a1 a2 a3 fun r5 =>
  bif (r5 == 6) then (bif decide (0 ≤ a3) && decide (a3 < (a2.length : Int)) then (z.2 a1 a2 (IntKind.i64.wrap (a3 + 2)) fun r6 r7 r8 r9 =>
   bif !r6 then R false r7 r8 r9
   else bif decide ((r9.length + 1) * 72 ≤ 140737488355328) then R true r7 r8 (r9 ++ ([[.i 3, .i (((a2.getD a3.toNat []).getD 1 (.i 0)).toI), .i (IntKind.i64.wrap ((r9.length : Int) - 1)), .i 0, .i 0, .i 0, .l ([] : List Int)]] : List (List Cl)))
   else none)
   else none)
  else bif (r4 == 3) then (spec_l9Fun.g a1 a2 a3 fun r10 r11 r12 r13 r14 =>
   spec_FunOne.g r10 r11 r12 fun r15 =>
   bif !r15 then R false a2 r14 a1
   else (z.2 a1 a2 r14 fun r16 r17 r18 r19 =>
   bif !r16 then R false r17 r18 r19
   else bif decide ((r19.length + 1) * 72 ≤ 140737488355328) then R true r17 r18 (r19 ++ ([[.i 4, .i 0, .i (IntKind.i64.wrap ((r19.length : Int) - 1)), .i r10, .i r11, .i r12, .l ([] : List Int)]] : List (List Cl)))
   else none))
  else (z.1 ([] : List (List Cl)) a2 a3 fun r20 r21 r22 r23 =>
  bif !r20 then R false a2 a3 a1
  else (spec_l9Fun.g a1 a2 r22 fun r24 r25 r26 r27 r28 =>
  bif !r27 then (spec_l9Behind.g r23 a1 a2 r28 fun r29 r30 r31 =>
   R true r29 r30 r31)
  else (spec_FunTwo.g r24 r25 r26 fun r32 =>
  bif !r32 then R false a2 r28 a1
  else (z.2 a1 a2 r28 fun r33 r34 r35 r36 =>
  bif !r33 then R false r34 r35 r36
  else (spec_l9Behind_L2.g r23 r36 r34 r35 fun r37 r38 r39 =>
  bif decide ((r39.length + 1) * 72 ≤ 140737488355328) then R true r37 r38 (r39 ++ ([[.i 5, .i (IntKind.i64.wrap ((r39.length : Int) - 1)), .i (IntKind.i64.wrap ((r36.length : Int) - 1)), .i r24, .i r25, .i r26, .l ([] : List Int)]] : List (List Cl)))
  else none))))))
 else bif (r4 == 3) then (spec_l9Fun.g a1 a2 a3 fun r40 r41 r42 r43 r44 =>
  spec_FunOne.g r40 r41 r42 fun r45 =>
  bif !r45 then R false a2 r44 a1
  else (z.2 a1 a2 r44 fun r46 r47 r48 r49 =>
  bif !r46 then R false r47 r48 r49
  else bif decide ((r49.length + 1) * 72 ≤ 140737488355328) then R true r47 r48 (r49 ++ ([[.i 4, .i 0, .i (IntKind.i64.wrap ((r49.length : Int) - 1)), .i r40, .i r41, .i r42, .l ([] : List Int)]] : List (List Cl)))
  else none))
 else (z.1 ([] : List (List Cl)) a2 a3 fun r50 r51 r52 r53 =>
 bif !r50 then R false a2 a3 a1
 else (spec_l9Fun.g a1 a2 r52 fun r54 r55 r56 r57 r58 =>
 bif !r57 then (spec_l9Behind.g r53 a1 a2 r58 fun r59 r60 r61 =>
  R true r59 r60 r61)
 else (spec_FunTwo.g r54 r55 r56 fun r62 =>
 bif !r62 then R false a2 r58 a1
 else (z.2 a1 a2 r58 fun r63 r64 r65 r66 =>
 bif !r63 then R false r64 r65 r66
 else (spec_l9Behind_L2.g r53 r66 r64 r65 fun r67 r68 r69 =>
 bif decide ((r69.length + 1) * 72 ≤ 140737488355328) then R true r67 r68 (r69 ++ ([[.i 5, .i (IntKind.i64.wrap ((r69.length : Int) - 1)), .i (IntKind.i64.wrap ((r66.length : Int) - 1)), .i r54, .i r55, .i r56, .l ([] : List Int)]] : List (List Cl)))
 else none)))))
theorem ok (z : Z_spec_l9Operand) (hz : Gd_spec_l9Operand z) : Con Pg (conz (g z)) := con_fin (fn := Tryz.f36) (c := c) (Fi := fi) (X := (X z)) laid (ctx_of (.cons spec_l9Kind.ok (.cons hz.2 (.cons spec_l9Fun.ok (.cons spec_FunOne.ok (.cons hz.1 (.cons spec_l9Behind.ok (.cons spec_FunTwo.ok (.cons spec_l9Behind_L2.ok .nil)))))))) (by kernel_rfl)) (fun K => .nil) rfl (by kernel_rfl) (by kernel_rfl) (by kernel_rfl) (by kernel_rfl)
end spec_l9Line
noncomputable def rec_spec_l9Operand : Nat → Z_spec_l9Operand
 | 0 => ((fun _ _ _ _ => none), (fun _ _ _ _ => none))
 | n + 1 => (spec_l9Operand.g (rec_spec_l9Operand n), spec_l9Line.g (rec_spec_l9Operand n))
theorem good_spec_l9Operand : ∀ n, Gd_spec_l9Operand (rec_spec_l9Operand n)
 | 0 => ⟨con_cst rfl, con_cst rfl⟩
 | n + 1 => ⟨spec_l9Operand.ok _ (good_spec_l9Operand n), spec_l9Line.ok _ (good_spec_l9Operand n)⟩
namespace spec_l9Operand
noncomputable def gn (n : Nat) (a1 a2 : List (List Cl)) (a3 : Int) (R : Bool → List (List Cl) → Int → List (List Cl) → O) : O := (rec_spec_l9Operand n).1 a1 a2 a3 R
noncomputable def G : T := seal_ (gn fuel)
theorem Ge : G = gn fuel := seal_eq _
theorem gn_succ (n : Nat) (a1 a2 : List (List Cl)) (a3 : Int) (R : Bool → List (List Cl) → Int → List (List Cl) → O) : gn (n + 1) a1 a2 a3 R = g (rec_spec_l9Operand n) a1 a2 a3 R := rfl
noncomputable def con := conz G
theorem okG : Con Pg con := by
 unfold con; rw [Ge]; exact (good_spec_l9Operand fuel).1
end spec_l9Operand
namespace spec_l9Line
noncomputable def gn (n : Nat) (a1 a2 : List (List Cl)) (a3 : Int) (R : Bool → List (List Cl) → Int → List (List Cl) → O) : O := (rec_spec_l9Operand n).2 a1 a2 a3 R
noncomputable def G : T := seal_ (gn fuel)
theorem Ge : G = gn fuel := seal_eq _
theorem gn_succ (n : Nat) (a1 a2 : List (List Cl)) (a3 : Int) (R : Bool → List (List Cl) → Int → List (List Cl) → O) : gn (n + 1) a1 a2 a3 R = g (rec_spec_l9Operand n) a1 a2 a3 R := rfl
noncomputable def con := conz G
theorem okG : Con Pg con := by
 unfold con; rw [Ge]; exact (good_spec_l9Operand fuel).2
end spec_l9Line
-- END GROUP
namespace spec_Parse
noncomputable def c : Code := bodyOf Tryz.f14
noncomputable def fi : Fin := ⟨Γ0, [(.cell 2 26, 26), (.tmp 3, 3)], [[9], [1]], [], [], []⟩
noncomputable def m : Fn [.l] (Fn [.l, .i] Res) := fun _ r1 r2 => ⟨[⟨true, [.ow 1000]⟩, ⟨false, [cI r2]⟩], [], [⟨e_1, .cells r1, false, 0, none⟩], [], []⟩
noncomputable def X (K : Res → O) : Ctx := { cx0 [spec_l8Tokens.con, spec_l9Line.con] fi true K with own := [(4, 1, 2, e_1)] }
noncomputable def b (a1 : List (List Cl)) (R : List (List Cl) → Int → O) : O :=
 spec_l8Tokens.g a1 fun r2 =>
 bif !r2 then R ([] : List (List Cl)) 1
 else (spec_l9Line.G ([] : List (List Cl)) a1 0 fun r3 r4 r5 r6 =>
 bif !r3 then R ([] : List (List Cl)) 8
 else bif (r5 != (a1.length : Int)) then R ([] : List (List Cl)) 8
 else bif decide (60 < (r6.length : Int)) then R ([] : List (List Cl)) 6
 else R r6 0)
noncomputable def g := seal_ b
theorem e : g = b := seal_eq b
noncomputable def a : Fn [.l] St := fun a1 => argSt [one (.tr 2 2 e_0 (.cells a1))] [] []
noncomputable def con := conOf 14 [.l] [.l, .i] a g m
theorem ok : Con Pg con := con_fin (fn := Tryz.f14) (c := c) (Fi := fi) (X := X) laid (ctx_of (.cons spec_l8Tokens.ok (.cons spec_l9Line.okG .nil)) (by kernel_rfl)) (fun K => .nil) e (by kernel_rfl) (by kernel_rfl) (by kernel_rfl) (by kernel_rfl)
end spec_Parse
namespace spec_l9DrawRight
noncomputable def c : Code := bodyOf Tryz.f37
noncomputable def fi : Fin := ⟨Γ0, [(.cell 2 26, 26)], [[9]], [], [([.sl [.int .u8] 1, .int .i64, .int .i64], [0, 1, 1])], []⟩
noncomputable def m : Fn [.z, .i, .i] (Fn [.l, .z, .i, .i] Res) := fun _ _ _ r1 r2 r3 r4 => ⟨[⟨true, [.ow 1000]⟩], [], [⟨e_1, .cells r1, false, 0, none⟩], [[.tr 2 2 [.int .u8] (.ints r2), cI r3, cI r4]], []⟩
noncomputable def b0 : Code := codeAt c [1, 0, 1, 0, 0]
noncomputable def l0s  (rec : Int → List Int → Int → Int → O) (k : List Int → Int → Int → O) (R : List (List Cl) → List Int → Int → Int → O) (x4 : Int) (x5 : List Int) (x6 x7 : Int) : O :=
 bif decide (x4 < 6) then (spec_l8DrawLine.G 5 x5 x6 x7 fun r8 r9 r10 r11 =>
  spec_Lex.g r8 fun r12 r13 r14 =>
  spec_Parse.g r12 fun r15 r16 =>
  bif (r16 == 0) then R r15 r9 r10 r11
  else rec (IntKind.i64.wrap (x4 + 1)) r9 r10 r11)
 else k x5 x6 x7
noncomputable def l0  (k : List Int → Int → Int → O) (R : List (List Cl) → List Int → Int → Int → O) : Nat → Int → List Int → Int → Int → O
 | 0, _, _, _, _ => none
 | n + 1, x4, x5, x6, x7 => l0s (l0 k R n) k R x4 x5 x6 x7
noncomputable def o0 : Fn [.z, .i, .i] St := fun y1 y2 y3 => ⟨mkT 32 [(2, one (.bp 1000 0))], [], [(1000, [.nil]), (0, [.tr 2 2 [.int .u8] (.ints y1), cI y2, cI y3])]⟩
noncomputable def n0 (K : Res → O) := ent 0 [] [.i, .z, .i, .i] [0, 1, 2, 3] (fun x4 x5 x6 x7 => ⟨mkT 32 [(0, one (.bp 0 0)), (2, one (.bp 1000 0)), (3, oI x4)], [], [(0, [.tr 2 2 [.int .u8] (.ints x5), cI x6, cI x7]), (1000, [.nil])]⟩) fun k => l0 (fun y1 y2 y3 => k (o0 y1 y2 y3)) (fun r1 r2 r3 r4 => K (m [] (0 : Int) (0 : Int) r1 r2 r3 r4))
noncomputable def X (K : Res → O) : Ctx := { cx0 [spec_l8DrawLine.con, spec_Lex.con, spec_Parse.con] fi true K with io := [(14, [⟨false, 2, 2⟩])], cin := [(0, ⟨[0, 2, 3], [], [0, 1000], [], [], []⟩)], cout := [(0, ⟨[2], [], [1000, 0], [], [], []⟩)], lp := lpOf [n0 K] }
noncomputable def b (a1 : List Int) (a2 a3 : Int) (R : List (List Cl) → List Int → Int → Int → O) : O :=
 l0 (fun y17 y18 y19 =>
 R ([[.i 1, .i 0, .i 0, .i 0, .i 0, .i 0, .l ([1, 2] : List Int)]] : List (List Cl)) y17 y18 y19) R fuel 0 a1 a2 a3
noncomputable def g := seal_ b
theorem e : g = b := seal_eq b
noncomputable def a : Fn [.z, .i, .i] St := fun a1 a2 a3 => argSt [one (.bp 0 0)] [] [[.tr 2 2 [.int .u8] (.ints a1), cI a2, cI a3]]
noncomputable def con := conOf 37 [.z, .i, .i] [.l, .z, .i, .i] a g m
theorem hx (K : Res → O) : CtxOk Pg Γ0 byt0 eqs0 (X K) [spec_l8DrawLine.con, spec_Lex.con, spec_Parse.con] := ctx_of (X := X) (.cons spec_l8DrawLine.okG (.cons spec_Lex.ok (.cons spec_Parse.ok .nil))) (by kernel_rfl) K
theorem w0 (K : Res → O) : LpSound Pg (X K) 0 b0 := lp_fin (L := [n0 K]) laid (hx K) .nil (.cons (ent_ok (fun k r => l0s r (fun y1 y2 y3 => k (o0 y1 y2 y3)) (fun r1 r2 r3 r4 => K (m [] (0 : Int) (0 : Int) r1 r2 r3 r4))) (by kernel_rfl) (by kernel_rfl) (by kernel_rfl) (by kernel_rfl) (by kernel_rfl)) .nil) (by kernel_rfl) (by kernel_rfl)
theorem ok : Con Pg con := con_fin (fn := Tryz.f37) (c := c) (Fi := fi) (X := X) laid hx (fun K => (.cons (w0 K) .nil)) e (by kernel_rfl) (by kernel_rfl) (by kernel_rfl) (by kernel_rfl)
end spec_l9DrawRight
namespace spec_l9DrawFun
noncomputable def c : Code := bodyOf Tryz.f38
noncomputable def fi : Fin := ⟨Γ0, [(.cell 2 45, 45)], [[1, 1, 1]], [], [([.sl [.int .u8] 1, .int .i64, .int .i64], [0, 1, 1])], []⟩
noncomputable def m : Fn [.z, .i, .i] (Fn [.i, .i, .i, .i, .i] Res) := fun a1 _ _ r1 r2 r3 r5 r6 => ⟨[⟨true, [cI r1, cI r2, cI r3]⟩], [], [], [[.tr 2 2 [.int .u8] (.ints a1), cI r5, cI r6]], []⟩
noncomputable def X (K : Res → O) : Ctx := cx0 [spec_l1PickInt.con, spec_l1Once.con] fi true K
noncomputable def b (a1 : List Int) (a2 a3 : Int) (R : Int → Int → Int → Int → Int → O) : O :=
 spec_l1PickInt.g ([43, 45, 42, 37, 124, 38, 126, 105, 35, 44, 116, 100, 114, 122, 64, 63, 103, 36, 101, 111, 47, 0] : List Int) a1 a2 a3 fun r4 r5 r6 =>
 spec_l1Once.g 2 a1 r5 r6 fun r7 r8 r9 =>
 bif r7 then (spec_l1PickInt.g ([47, 92, 111, 46, 120] : List Int) a1 r8 r9 fun r10 r11 r12 =>
  bif (r10 == 46) then (spec_l1PickInt.g ([43, 42, 105, 0] : List Int) a1 r11 r12 fun r13 r14 r15 =>
   R r4 r10 r13 r14 r15)
  else (spec_l1Once.g 15 a1 r11 r12 fun r16 r17 r18 =>
  bif r16 then (spec_l1PickInt.g ([43, 42, 105, 0] : List Int) a1 r17 r18 fun r19 r20 r21 =>
   R r4 r10 r19 r20 r21)
  else R r4 r10 0 r17 r18))
 else (spec_l1Once.g 15 a1 r8 r9 fun r22 r23 r24 =>
 bif r22 then (spec_l1PickInt.g ([43, 42, 105, 0] : List Int) a1 r23 r24 fun r25 r26 r27 =>
  R r4 0 r25 r26 r27)
 else R r4 0 0 r23 r24)
noncomputable def g := seal_ b
theorem e : g = b := seal_eq b
noncomputable def a : Fn [.z, .i, .i] St := fun a1 a2 a3 => argSt [one (.bp 0 0)] [] [[.tr 2 2 [.int .u8] (.ints a1), cI a2, cI a3]]
noncomputable def con := conOf 38 [.z, .i, .i] [.i, .i, .i, .i, .i] a g m
theorem ok : Con Pg con := con_fin (fn := Tryz.f38) (c := c) (Fi := fi) (X := X) laid (ctx_of (.cons spec_l1PickInt.ok (.cons spec_l1Once.ok .nil)) (by kernel_rfl)) (fun K => .nil) e (by kernel_rfl) (by kernel_rfl) (by kernel_rfl) (by kernel_rfl)
end spec_l9DrawFun
namespace spec_l9Draw
noncomputable def c : Code := bodyOf Tryz.f15
noncomputable def fi : Fin := ⟨Γ0, [(.cell 2 26, 26)], [[4]], [], [([.sl [.int .u8] 1, .int .i64, .int .i64], [0, 1, 1])], []⟩
noncomputable def m : Fn [.z, .i, .i] (Fn [.l, .z, .i, .i] Res) := fun _ _ _ r1 r2 r3 r4 => ⟨[⟨true, [.tr 1 1 e_1 (.cells r1)]⟩], [], [], [[.tr 2 2 [.int .u8] (.ints r2), cI r3, cI r4]], []⟩
noncomputable def b1 : Code := codeAt c [1, 1, 1, 0, 1, 0, 1, 1, 1, 1, 1, 1, 1, 1, 1, 1, 1, 1, 1, 0, 0, 0]
noncomputable def l1s (x29 : List Int) (rec : List (List Cl) → Int → Int → O) (k : List (List Cl) → Int → Int → O) (x28 : List (List Cl)) (x30 x31 : Int) : O :=
 spec_l1Below.g 2 x29 x30 x31 fun r32 r33 r34 =>
 bif decide ((x28.length : Int) < IntKind.i64.wrap (60 + r32)) then (bif decide ((x28.length + 1) * 72 ≤ 140737488355328) then rec (x28 ++ ([[.i 4, .i 0, .i (IntKind.i64.wrap ((x28.length : Int) - 1)), .i 45, .i 0, .i 0, .l ([] : List Int)]] : List (List Cl))) r33 r34
  else none)
 else k x28 r33 r34
noncomputable def l1 (x29 : List Int) (k : List (List Cl) → Int → Int → O) : Nat → List (List Cl) → Int → Int → O
 | 0, _, _, _ => none
 | n + 1, x28, x30, x31 => l1s x29 (l1 x29 k n) k x28 x30 x31
noncomputable def o1 : Fn [.z, .l, .i, .i] St := fun x29 y1 y3 y4 => ⟨mkT 92 [(2, one (.bp 1000 0)), (3, one (.bp 3080 0))], [(3065, ⟨e_1, .cells y1, false, 0, none⟩)], [(1000, [.nil]), (3080, [.ow 3065]), (0, [.tr 2 2 [.int .u8] (.ints x29), cI y3, cI y4])]⟩
noncomputable def n1 (K : Res → O) := ent 1 [.z] [.l, .i, .i] [1, 0, 2, 3] (fun x29 x28 x30 x31 => ⟨mkT 92 [(0, one (.bp 0 0)), (2, one (.bp 1000 0)), (3, one (.bp 3080 0))], [(3065, ⟨e_1, .cells x28, false, 0, none⟩)], [(0, [.tr 2 2 [.int .u8] (.ints x29), cI x30, cI x31]), (1000, [.nil]), (3080, [.ow 3065])]⟩) fun x29 k => l1 x29 (fun y1 y3 y4 => k (o1 x29 y1 y3 y4))
noncomputable def X (K : Res → O) : Ctx := { cx0 [spec_l9DrawRight.con, spec_l1Below.con, spec_l9DrawFun.con] fi true K with cin := [(1, ⟨[0, 2, 3], [(3065, 3065), (38008, 3065)], [0, 1000, 3080], [], [], []⟩)], cout := [(1, ⟨[2, 3], [(3065, 3065)], [1000, 3080, 0], [], [], []⟩)], lp := lpOf [n1 K] }
noncomputable def b (a1 : List Int) (a2 a3 : Int) (R : List (List Cl) → List Int → Int → Int → O) : O :=
 spec_l9DrawRight.g a1 a2 a3 fun r4 r5 r6 r7 =>
 spec_l1Below.g (r4.length : Int) r5 r6 r7 fun r8 r9 r10 =>
 spec_l1Below.g 20 r5 r9 r10 fun r11 r12 r13 =>
 bif (r11 == 0) then (spec_l1Below.g 7 r5 r12 r13 fun r14 r15 r16 =>
  bif decide (0 ≤ r8) && decide (r8 < (r4.length : Int)) then R (r4.set r8.toNat (splice (r4.getD r8.toNat []) 0 [.i r14])) r5 r15 r16
  else none)
 else bif (r11 == 1) then (spec_l1Below.g (IntKind.i64.wrap ((r4.length : Int) + 1)) r5 r12 r13 fun r17 r18 r19 =>
  bif decide (0 ≤ r8) && decide (r8 < (r4.length : Int)) then R (r4.set r8.toNat (splice (r4.getD r8.toNat []) 2 [.i (IntKind.i64.wrap (r17 - 1))])) r5 r18 r19
  else none)
 else bif (r11 == 2) then (spec_l1Below.g 28 r5 r12 r13 fun r20 r21 r22 =>
  bif decide (0 ≤ r8) && decide (r8 < (r4.length : Int)) then R (r4.set r8.toNat (splice (r4.getD r8.toNat []) 1 [.i (IntKind.i64.wrap (r20 - 1))])) r5 r21 r22
  else none)
 else bif (r11 == 3) then (spec_l9DrawFun.g r5 r12 r13 fun r23 r24 r25 r26 r27 =>
  bif decide (0 ≤ r8) && decide (r8 < (r4.length : Int)) then R (r4.set r8.toNat (splice (r4.getD r8.toNat []) 3 [.i r23, .i r24, .i r25])) r5 r26 r27
  else none)
 else bif (r11 == 4) then (bif decide (0 ≤ r8) && decide (r8 ≤ (r4.length : Int)) then R (r4.take r8.toNat) r5 r12 r13
  else none)
 else bif (r11 == 5) then (bif decide ((r4.length + 1) * 72 ≤ 140737488355328) then R (r4 ++ ([[.i 2, .i 0, .i 0, .i 0, .i 0, .i 0, .l ([] : List Int)]] : List (List Cl))) r5 r12 r13
  else none)
 else bif (r11 == 6) then (l1 r5 (fun y35 y36 y37 =>
  R y35 r5 y36 y37) fuel r4 r12 r13)
 else R r4 r5 r12 r13
noncomputable def g := seal_ b
theorem e : g = b := seal_eq b
noncomputable def a : Fn [.z, .i, .i] St := fun a1 a2 a3 => argSt [one (.bp 0 0)] [] [[.tr 2 2 [.int .u8] (.ints a1), cI a2, cI a3]]
noncomputable def con := conOf 15 [.z, .i, .i] [.l, .z, .i, .i] a g m
theorem hx (K : Res → O) : CtxOk Pg Γ0 byt0 eqs0 (X K) [spec_l9DrawRight.con, spec_l1Below.con, spec_l9DrawFun.con] := ctx_of (X := X) (.cons spec_l9DrawRight.ok (.cons spec_l1Below.ok (.cons spec_l9DrawFun.ok .nil))) (by kernel_rfl) K
theorem w1 (K : Res → O) : LpSound Pg (X K) 1 b1 := lp_fin (L := [n1 K]) laid (hx K) .nil (.cons (ent_ok (fun x29 k r => l1s x29 r (fun y1 y3 y4 => k (o1 x29 y1 y3 y4))) (by kernel_rfl) (by kernel_rfl) (by kernel_rfl) (by kernel_rfl) (by kernel_rfl)) .nil) (by kernel_rfl) (by kernel_rfl)
theorem ok : Con Pg con := con_fin (fn := Tryz.f15) (c := c) (Fi := fi) (X := X) laid hx (fun K => (.cons (w1 K) .nil)) e (by kernel_rfl) (by kernel_rfl) (by kernel_rfl) (by kernel_rfl)
end spec_l9Draw
namespace spec_DrawTreeText
noncomputable def c : Code := bodyOf Tryz.f5
noncomputable def fi : Fin := ⟨Γ0, [(.cell 2 26, 26)], [[4]], [], [], []⟩
noncomputable def m : Fn [.z] (Fn [.l] Res) := fun _ r1 => ⟨[⟨true, [.tr 1 1 e_1 (.cells r1)]⟩], [], [], [], []⟩
noncomputable def X (K : Res → O) : Ctx := { cx0 [spec_l1New.con, spec_l9Draw.con] fi true K with io := [(16, [⟨false, 2, 1⟩])] }
noncomputable def b (a1 : List Int) (R : List (List Cl) → O) : O :=
 spec_l1New.g a1 fun r2 r3 r4 =>
 spec_l9Draw.g r2 r3 r4 fun r5 r6 r7 r8 =>
 R r5
noncomputable def g := seal_ b
theorem e : g = b := seal_eq b
noncomputable def a : Fn [.z] St := fun a1 => argSt [one (.tr 2 1 [.int .u8] (.ints a1))] [] []
noncomputable def con := conOf 5 [.z] [.l] a g m
theorem ok : Con Pg con := con_fin (fn := Tryz.f5) (c := c) (Fi := fi) (X := X) laid (ctx_of (.cons spec_l1New.ok (.cons spec_l9Draw.ok .nil)) (by kernel_rfl)) (fun K => .nil) e (by kernel_rfl) (by kernel_rfl) (by kernel_rfl) (by kernel_rfl)
end spec_DrawTreeText
namespace impl_within
noncomputable def c : Code := bodyOf Tryz.f21
noncomputable def fi : Fin := ⟨Γ0, [(.tmp 6, 4)], [[1]], [], [], []⟩
noncomputable def m : Fn [.i, .i, .i] (Fn [.b] Res) := fun _ _ _ r1 => ⟨[⟨false, [.bool r1]⟩], [], [], [], []⟩
noncomputable def X (K : Res → O) : Ctx := cx0 [] fi true K
noncomputable def b (a1 a2 a3 : Int) (R : Bool → O) : O :=
 bif decide (a2 ≤ a1) then R (decide (a1 ≤ a3))
 else R false
noncomputable def g := seal_ b
theorem e : g = b := seal_eq b
noncomputable def a : Fn [.i, .i, .i] St := fun a1 a2 a3 => argSt [oI a1, oI a2, oI a3] [] []
noncomputable def con := conOf 21 [.i, .i, .i] [.b] a g m
theorem ok : Con Pg con := con_fin (fn := Tryz.f21) (c := c) (Fi := fi) (X := X) laid (ctx_of .nil (by kernel_rfl)) (fun K => .nil) e (by kernel_rfl) (by kernel_rfl) (by kernel_rfl) (by kernel_rfl)
end impl_within
namespace impl_NumOk
noncomputable def c : Code := bodyOf Tryz.f86
noncomputable def fi : Fin := ⟨Γ0, [(.tmp 2, 4)], [[1]], [], [], []⟩
noncomputable def m : Fn [.i] (Fn [.b] Res) := fun _ r1 => ⟨[⟨false, [.bool r1]⟩], [], [], [], []⟩
noncomputable def X (K : Res → O) : Ctx := cx0 [impl_within.con] fi true K
noncomputable def b (a1 : Int) (R : Bool → O) : O :=
 impl_within.g a1 (-1000000000000) 1000000000000 fun r2 =>
 R r2
noncomputable def g := seal_ b
theorem e : g = b := seal_eq b
noncomputable def a : Fn [.i] St := fun a1 => argSt [oI a1] [] []
noncomputable def con := conOf 86 [.i] [.b] a g m
theorem ok : Con Pg con := con_fin (fn := Tryz.f86) (c := c) (Fi := fi) (X := X) laid (ctx_of (.cons impl_within.ok .nil) (by kernel_rfl)) (fun K => .nil) e (by kernel_rfl) (by kernel_rfl) (by kernel_rfl) (by kernel_rfl)
end impl_NumOk
namespace impl_numsOk_1
noncomputable def c : Code := bodyOf Tryz.f85
noncomputable def fi : Fin := ⟨Γ0, [(.tmp 2, 4)], [[1]], [], [], []⟩
noncomputable def m : Fn [.i] (Fn [.b] Res) := fun _ r1 => ⟨[⟨false, [.bool r1]⟩], [], [], [], []⟩
noncomputable def X (K : Res → O) : Ctx := cx0 [impl_NumOk.con] fi true K
noncomputable def b (a1 : Int) (R : Bool → O) : O :=
 impl_NumOk.g a1 fun r2 =>
 R (!r2)
noncomputable def g := seal_ b
theorem e : g = b := seal_eq b
noncomputable def a : Fn [.i] St := fun a1 => argSt [oI a1] [] []
noncomputable def con := conOf 85 [.i] [.b] a g m
theorem ok : Con Pg con := con_fin (fn := Tryz.f85) (c := c) (Fi := fi) (X := X) laid (ctx_of (.cons impl_NumOk.ok .nil) (by kernel_rfl)) (fun K => .nil) e (by kernel_rfl) (by kernel_rfl) (by kernel_rfl) (by kernel_rfl)
end impl_numsOk_1
namespace slices_IndexFunc_int_int_i3
noncomputable def c : Code := bodyOf Tryz.f102
noncomputable def fi : Fin := ⟨Γ0, [(.tmp 4, 3)], [[1]], [], [], []⟩
noncomputable def m : Fn [.z] (Fn [.i] Res) := fun _ r1 => ⟨[⟨false, [cI r1]⟩], [], [], [], []⟩
noncomputable def b0 : Code := codeAt c [1, 0, 1, 0, 0]
noncomputable def l0s (x2 : List Int) (x3 : Int) (rec : Int → O) (k : O) (R : Int → O) (x4 : Int) : O :=
 bif decide (x4 < x3) then (bif decide (0 ≤ x4) && decide (x4 < (x2.length : Int)) then (impl_numsOk_1.g (x2.getD x4.toNat 0) fun r5 =>
  bif r5 then R x4
  else rec (IntKind.i64.wrap (x4 + 1)))
  else none)
 else k
noncomputable def l0 (x2 : List Int) (x3 : Int) (k : O) (R : Int → O) : Nat → Int → O
 | 0, _ => none
 | n + 1, x4 => l0s x2 x3 (l0 x2 x3 k R n) k R x4
noncomputable def o0 : Fn [.z, .i] St := fun _ _ => ⟨mkT 19 [], [], []⟩
noncomputable def n0 (K : Res → O) := ent 0 [.z, .i] [.i] [0, 1, 2] (fun x2 x3 x4 => ⟨mkT 19 [(0, one (.tr 0 1 [.int .i64] (.ints x2))), (1, one (.fn 85 [])), (7, oI x3), (8, oI x4)], [], []⟩) fun x2 x3 k => l0 x2 x3 (k (o0 x2 x3)) (fun r1 => K (m [] r1))
noncomputable def X (K : Res → O) : Ctx := { cx0 [impl_numsOk_1.con] fi true K with cin := [(0, ⟨[0, 1, 7, 8], [], [], [], [], []⟩)], cout := [(0, ⟨[], [], [], [], [], []⟩)], lp := lpOf [n0 K] }
noncomputable def b (a1 : List Int) (R : Int → O) : O :=
 l0 a1 (a1.length : Int) (
 R (-1)) R fuel 0
noncomputable def g := seal_ b
theorem e : g = b := seal_eq b
noncomputable def a : Fn [.z] St := fun a1 => argSt [one (.tr 0 1 [.int .i64] (.ints a1)), one (.fn 85 [])] [] []
noncomputable def con := conOf 102 [.z] [.i] a g m
theorem hx (K : Res → O) : CtxOk Pg Γ0 byt0 eqs0 (X K) [impl_numsOk_1.con] := ctx_of (X := X) (.cons impl_numsOk_1.ok .nil) (by kernel_rfl) K
theorem w0 (K : Res → O) : LpSound Pg (X K) 0 b0 := lp_fin (L := [n0 K]) laid (hx K) .nil (.cons (ent_ok (fun x2 x3 k r => l0s x2 x3 r (k (o0 x2 x3)) (fun r1 => K (m [] r1))) (by kernel_rfl) (by kernel_rfl) (by kernel_rfl) (by kernel_rfl) (by kernel_rfl)) .nil) (by kernel_rfl) (by kernel_rfl)
theorem ok : Con Pg con := con_fin (fn := Tryz.f102) (c := c) (Fi := fi) (X := X) laid hx (fun K => (.cons (w0 K) .nil)) e (by kernel_rfl) (by kernel_rfl) (by kernel_rfl) (by kernel_rfl)
end slices_IndexFunc_int_int_i3
namespace slices_ContainsFunc_int_int_i3
noncomputable def c : Code := bodyOf Tryz.f84
noncomputable def fi : Fin := ⟨Γ0, [(.tmp 4, 4)], [[1]], [], [], []⟩
noncomputable def m : Fn [.z] (Fn [.b] Res) := fun _ r1 => ⟨[⟨false, [.bool r1]⟩], [], [], [], []⟩
noncomputable def X (K : Res → O) : Ctx := cx0 [slices_IndexFunc_int_int_i3.con] fi true K
noncomputable def b (a1 : List Int) (R : Bool → O) : O :=
 slices_IndexFunc_int_int_i3.g a1 fun r2 =>
 R (decide (0 ≤ r2))
noncomputable def g := seal_ b
theorem e : g = b := seal_eq b
noncomputable def a : Fn [.z] St := fun a1 => argSt [one (.tr 0 1 [.int .i64] (.ints a1)), one (.fn 85 [])] [] []
noncomputable def con := conOf 84 [.z] [.b] a g m
theorem ok : Con Pg con := con_fin (fn := Tryz.f84) (c := c) (Fi := fi) (X := X) laid (ctx_of (.cons slices_IndexFunc_int_int_i3.ok .nil) (by kernel_rfl)) (fun K => .nil) e (by kernel_rfl) (by kernel_rfl) (by kernel_rfl) (by kernel_rfl)
end slices_ContainsFunc_int_int_i3
namespace impl_numsOk
noncomputable def c : Code := bodyOf Tryz.f46
noncomputable def fi : Fin := ⟨Γ0, [(.tmp 2, 4)], [[1]], [], [], []⟩
noncomputable def m : Fn [.z] (Fn [.b] Res) := fun _ r1 => ⟨[⟨false, [.bool r1]⟩], [], [], [], []⟩
noncomputable def X (K : Res → O) : Ctx := cx0 [impl_within.con, slices_ContainsFunc_int_int_i3.con] fi true K
noncomputable def b (a1 : List Int) (R : Bool → O) : O :=
 impl_within.g (a1.length : Int) 1 300 fun r2 =>
 bif r2 then (slices_ContainsFunc_int_int_i3.g a1 fun r3 =>
  R (!r3))
 else R false
noncomputable def g := seal_ b
theorem e : g = b := seal_eq b
noncomputable def a : Fn [.z] St := fun a1 => argSt [one (.tr 0 1 [.int .i64] (.ints a1))] [] []
noncomputable def con := conOf 46 [.z] [.b] a g m
theorem ok : Con Pg con := con_fin (fn := Tryz.f46) (c := c) (Fi := fi) (X := X) laid (ctx_of (.cons impl_within.ok (.cons slices_ContainsFunc_int_int_i3.ok .nil)) (by kernel_rfl)) (fun K => .nil) e (by kernel_rfl) (by kernel_rfl) (by kernel_rfl) (by kernel_rfl)
end impl_numsOk
namespace impl_hasSign
noncomputable def c : Code := bodyOf Tryz.f54
noncomputable def fi : Fin := ⟨Γ0, [(.tmp 4, 4)], [[1]], [], [], []⟩
noncomputable def m : Fn [.s, .i] (Fn [.b] Res) := fun _ _ r1 => ⟨[⟨false, [.bool r1]⟩], [], [], [], []⟩
noncomputable def b0 : Code := codeAt c [1, 0, 1, 0, 0]
noncomputable def l0s (x3 : ByteArray) (x4 : Int) (rec : Int → O) (k : O) (R : Bool → O) (x5 : Int) : O :=
 bif decide (x5 < (x3.size : Int)) then (bif decide (0 ≤ x5) && decide (x5 < (x3.size : Int)) then (bif (IntKind.i64.wrap ((bytesOf x3).getD x5.toNat 0) == x4) then R true
  else rec (IntKind.i64.wrap (x5 + 1)))
  else none)
 else k
noncomputable def l0 (x3 : ByteArray) (x4 : Int) (k : O) (R : Bool → O) : Nat → Int → O
 | 0, _ => none
 | n + 1, x5 => l0s x3 x4 (l0 x3 x4 k R n) k R x5
noncomputable def o0 : Fn [.s, .i] St := fun _ _ => ⟨mkT 18 [], [], []⟩
noncomputable def n0 (K : Res → O) := ent 0 [.s, .i] [.i] [0, 1, 2] (fun x3 x4 x5 => ⟨mkT 18 [(0, one (.str x3)), (1, oI x4), (5, oI x5)], [], []⟩) fun x3 x4 k => l0 x3 x4 (k (o0 x3 x4)) (fun r1 => K (m ByteArray.empty (0 : Int) r1))
noncomputable def X (K : Res → O) : Ctx := { cx0 [] fi true K with cin := [(0, ⟨[0, 1, 5], [], [], [], [], []⟩)], cout := [(0, ⟨[], [], [], [], [], []⟩)], lp := lpOf [n0 K] }
noncomputable def b (a1 : ByteArray) (a2 : Int) (R : Bool → O) : O :=
 l0 a1 a2 (
 R false) R fuel 0
noncomputable def g := seal_ b
theorem e : g = b := seal_eq b
noncomputable def a : Fn [.s, .i] St := fun a1 a2 => argSt [one (.str a1), oI a2] [] []
noncomputable def con := conOf 54 [.s, .i] [.b] a g m
theorem hx (K : Res → O) : CtxOk Pg Γ0 byt0 eqs0 (X K) [] := ctx_of (X := X) .nil (by kernel_rfl) K
theorem w0 (K : Res → O) : LpSound Pg (X K) 0 b0 := lp_fin (L := [n0 K]) laid (hx K) .nil (.cons (ent_ok (fun x3 x4 k r => l0s x3 x4 r (k (o0 x3 x4)) (fun r1 => K (m ByteArray.empty (0 : Int) r1))) (by kernel_rfl) (by kernel_rfl) (by kernel_rfl) (by kernel_rfl) (by kernel_rfl)) .nil) (by kernel_rfl) (by kernel_rfl)
theorem ok : Con Pg con := con_fin (fn := Tryz.f54) (c := c) (Fi := fi) (X := X) laid hx (fun K => (.cons (w0 K) .nil)) e (by kernel_rfl) (by kernel_rfl) (by kernel_rfl) (by kernel_rfl)
end impl_hasSign
namespace impl_oneSign
noncomputable def c : Code := bodyOf Tryz.f87
noncomputable def fi : Fin := ⟨Γ0, [(.tmp 2, 4)], [[1]], [], [], []⟩
noncomputable def m : Fn [.i] (Fn [.b] Res) := fun _ r1 => ⟨[⟨false, [.bool r1]⟩], [], [], [], []⟩
noncomputable def X (K : Res → O) : Ctx := cx0 [impl_hasSign.con] fi true K
noncomputable def b (a1 : Int) (R : Bool → O) : O :=
 impl_hasSign.g (⟨#[43, 45, 42, 124, 126]⟩ : ByteArray) a1 fun r2 =>
 R r2
noncomputable def g := seal_ b
theorem e : g = b := seal_eq b
noncomputable def a : Fn [.i] St := fun a1 => argSt [oI a1] [] []
noncomputable def con := conOf 87 [.i] [.b] a g m
theorem ok : Con Pg con := con_fin (fn := Tryz.f87) (c := c) (Fi := fi) (X := X) laid (ctx_of (.cons impl_hasSign.ok .nil) (by kernel_rfl)) (fun K => .nil) e (by kernel_rfl) (by kernel_rfl) (by kernel_rfl) (by kernel_rfl)
end impl_oneSign
namespace impl_twoSign
noncomputable def c : Code := bodyOf Tryz.f88
noncomputable def fi : Fin := ⟨Γ0, [(.tmp 2, 4)], [[1]], [], [], []⟩
noncomputable def m : Fn [.i] (Fn [.b] Res) := fun _ r1 => ⟨[⟨false, [.bool r1]⟩], [], [], [], []⟩
noncomputable def X (K : Res → O) : Ctx := cx0 [impl_hasSign.con] fi true K
noncomputable def b (a1 : Int) (R : Bool → O) : O :=
 impl_hasSign.g (⟨#[43, 45, 42, 37, 124, 38, 94, 61, 60, 62]⟩ : ByteArray) a1 fun r2 =>
 R r2
noncomputable def g := seal_ b
theorem e : g = b := seal_eq b
noncomputable def a : Fn [.i] St := fun a1 => argSt [oI a1] [] []
noncomputable def con := conOf 88 [.i] [.b] a g m
theorem ok : Con Pg con := con_fin (fn := Tryz.f88) (c := c) (Fi := fi) (X := X) laid (ctx_of (.cons impl_hasSign.ok .nil) (by kernel_rfl)) (fun K => .nil) e (by kernel_rfl) (by kernel_rfl) (by kernel_rfl) (by kernel_rfl)
end impl_twoSign
namespace impl_FunOne
noncomputable def c : Code := bodyOf Tryz.f47
noncomputable def fi : Fin := ⟨Γ0, [(.tmp 2, 4)], [[1]], [], [], []⟩
noncomputable def m : Fn [.i, .i, .i] (Fn [.b] Res) := fun _ _ _ r1 => ⟨[⟨false, [.bool r1]⟩], [], [], [], []⟩
noncomputable def X (K : Res → O) : Ctx := cx0 [impl_oneSign.con, impl_hasSign.con, impl_twoSign.con] fi true K
noncomputable def b (a1 a2 a3 : Int) (R : Bool → O) : O :=
 bif (a2 == 0) then (bif (a3 == 0) then (impl_oneSign.g a1 fun r4 =>
  bif r4 then R true
  else (impl_hasSign.g (⟨#[105, 35, 44, 114, 122, 103]⟩ : ByteArray) a1 fun r5 =>
  R r5))
  else R false)
 else bif (a2 == 47) then (bif (a3 == 0) then (impl_twoSign.g a1 fun r6 =>
  R r6)
  else R false)
 else bif (a2 == 92) then (bif (a3 == 0) then (impl_twoSign.g a1 fun r7 =>
  R r7)
  else R false)
 else R false
noncomputable def g := seal_ b
theorem e : g = b := seal_eq b
noncomputable def a : Fn [.i, .i, .i] St := fun a1 a2 a3 => argSt [.v ⟨true, [cI a1, cI a2, cI a3]⟩] [] []
noncomputable def con := conOf 47 [.i, .i, .i] [.b] a g m
theorem ok : Con Pg con := con_fin (fn := Tryz.f47) (c := c) (Fi := fi) (X := X) laid (ctx_of (.cons impl_oneSign.ok (.cons impl_hasSign.ok (.cons impl_twoSign.ok .nil))) (by kernel_rfl)) (fun K => .nil) e (by kernel_rfl) (by kernel_rfl) (by kernel_rfl) (by kernel_rfl)
end impl_FunOne
namespace impl_FunTwo
noncomputable def c : Code := bodyOf Tryz.f48
noncomputable def fi : Fin := ⟨Γ0, [(.tmp 2, 4)], [[1]], [], [], []⟩
noncomputable def m : Fn [.i, .i, .i] (Fn [.b] Res) := fun _ _ _ r1 => ⟨[⟨false, [.bool r1]⟩], [], [], [], []⟩
noncomputable def X (K : Res → O) : Ctx := cx0 [impl_twoSign.con, impl_hasSign.con] fi true K
noncomputable def b (a1 a2 a3 : Int) (R : Bool → O) : O :=
 bif (a2 == 0) then (bif (a3 == 0) then (impl_twoSign.g a1 fun r4 =>
  bif r4 then R true
  else (impl_hasSign.g (⟨#[35, 44, 116, 100, 114, 64, 63, 36, 101]⟩ : ByteArray) a1 fun r5 =>
  R r5))
  else R false)
 else bif (a2 == 111) then (bif (a3 == 0) then (impl_twoSign.g a1 fun r6 =>
  R r6)
  else R false)
 else bif (a2 == 46) then (impl_twoSign.g a1 fun r7 =>
  bif r7 then (impl_twoSign.g a3 fun r8 =>
   R r8)
  else R false)
 else R false
noncomputable def g := seal_ b
theorem e : g = b := seal_eq b
noncomputable def a : Fn [.i, .i, .i] St := fun a1 a2 a3 => argSt [.v ⟨true, [cI a1, cI a2, cI a3]⟩] [] []
noncomputable def con := conOf 48 [.i, .i, .i] [.b] a g m
theorem ok : Con Pg con := con_fin (fn := Tryz.f48) (c := c) (Fi := fi) (X := X) laid (ctx_of (.cons impl_twoSign.ok (.cons impl_hasSign.ok .nil)) (by kernel_rfl)) (fun K => .nil) e (by kernel_rfl) (by kernel_rfl) (by kernel_rfl) (by kernel_rfl)
end impl_FunTwo
namespace impl_nodeOk
noncomputable def c : Code := bodyOf Tryz.f24
noncomputable def fi : Fin := ⟨Γ0, [(.tmp 2, 4)], [[1]], [], [], []⟩
noncomputable def m : Fn [.i, .i, .i, .i, .i, .i, .z] (Fn [.b] Res) := fun _ _ _ _ _ _ _ r1 => ⟨[⟨false, [.bool r1]⟩], [], [], [], []⟩
noncomputable def X (K : Res → O) : Ctx := cx0 [impl_numsOk.con, impl_within.con, impl_FunOne.con, impl_FunTwo.con] fi true K
noncomputable def b (a1 a2 a3 a4 a5 a6 : Int) (a7 : List Int) (R : Bool → O) : O :=
 bif (a1 == 1) then (impl_numsOk.g a7 fun r8 =>
  bif (a2 == 0) then (bif (a3 == 0) then (bif ((a4 == 0) && ((a5 == 0) && ((a6 == 0) && true))) then R r8
   else R false)
   else R false)
  else R false)
 else bif (a1 == 2) then (impl_within.g a2 0 25 fun r9 =>
  bif r9 then (bif (a3 == 0) then (bif ((a4 == 0) && ((a5 == 0) && ((a6 == 0) && true))) then R ((a7.length : Int) == 0)
   else R false)
   else R false)
  else R false)
 else bif (a1 == 3) then (impl_within.g a2 0 25 fun r10 =>
  bif r10 then (bif ((a4 == 0) && ((a5 == 0) && ((a6 == 0) && true))) then R ((a7.length : Int) == 0)
   else R false)
  else R false)
 else bif (a1 == 4) then (impl_FunOne.g a4 a5 a6 fun r11 =>
  bif (a2 == 0) then (bif r11 then R ((a7.length : Int) == 0)
   else R false)
  else R false)
 else bif (a1 == 5) then (impl_FunTwo.g a4 a5 a6 fun r12 =>
  bif r12 then R ((a7.length : Int) == 0)
  else R false)
 else R false
noncomputable def g := seal_ b
theorem e : g = b := seal_eq b
noncomputable def a : Fn [.i, .i, .i, .i, .i, .i, .z] St := fun a1 a2 a3 a4 a5 a6 a7 => argSt [.v ⟨true, [cI a1, cI a2, cI a3, cI a4, cI a5, cI a6, .tr 0 1 [.int .i64] (.ints a7)]⟩] [] []
noncomputable def con := conOf 24 [.i, .i, .i, .i, .i, .i, .z] [.b] a g m
theorem ok : Con Pg con := con_fin (fn := Tryz.f24) (c := c) (Fi := fi) (X := X) laid (ctx_of (.cons impl_numsOk.ok (.cons impl_within.ok (.cons impl_FunOne.ok (.cons impl_FunTwo.ok .nil)))) (by kernel_rfl)) (fun K => .nil) e (by kernel_rfl) (by kernel_rfl) (by kernel_rfl) (by kernel_rfl)
end impl_nodeOk
namespace impl_TreeOk_1
noncomputable def c : Code := bodyOf Tryz.f23
noncomputable def fi : Fin := ⟨Γ0, [(.tmp 2, 4)], [[1]], [], [], []⟩
noncomputable def m : Fn [.i, .i, .i, .i, .i, .i, .z] (Fn [.b] Res) := fun _ _ _ _ _ _ _ r1 => ⟨[⟨false, [.bool r1]⟩], [], [], [], []⟩
noncomputable def X (K : Res → O) : Ctx := cx0 [impl_nodeOk.con] fi true K
noncomputable def b (a1 a2 a3 a4 a5 a6 : Int) (a7 : List Int) (R : Bool → O) : O :=
 impl_nodeOk.g a1 a2 a3 a4 a5 a6 a7 fun r8 =>
 R (!r8)
noncomputable def g := seal_ b
theorem e : g = b := seal_eq b
noncomputable def a : Fn [.i, .i, .i, .i, .i, .i, .z] St := fun a1 a2 a3 a4 a5 a6 a7 => argSt [.v ⟨true, [cI a1, cI a2, cI a3, cI a4, cI a5, cI a6, .tr 0 1 [.int .i64] (.ints a7)]⟩] [] []
noncomputable def con := conOf 23 [.i, .i, .i, .i, .i, .i, .z] [.b] a g m
theorem ok : Con Pg con := con_fin (fn := Tryz.f23) (c := c) (Fi := fi) (X := X) laid (ctx_of (.cons impl_nodeOk.ok .nil) (by kernel_rfl)) (fun K => .nil) e (by kernel_rfl) (by kernel_rfl) (by kernel_rfl) (by kernel_rfl)
end impl_TreeOk_1
namespace slices_IndexFunc_impl_Expr_impl_Expr
noncomputable def c : Code := bodyOf Tryz.f45
noncomputable def fi : Fin := ⟨Γ0, [(.tmp 4, 3)], [[1]], [], [], []⟩
noncomputable def m : Fn [.l] (Fn [.i] Res) := fun _ r1 => ⟨[⟨false, [cI r1]⟩], [], [], [], []⟩
noncomputable def b0 : Code := codeAt c [1, 0, 1, 0, 0]
noncomputable def l0s (x2 : List (List Cl)) (x3 : Int) (rec : Int → O) (k : O) (R : Int → O) (x4 : Int) : O :=
 bif decide (x4 < x3) then (bif decide (0 ≤ x4) && decide (x4 < (x2.length : Int)) then (impl_TreeOk_1.g (((x2.getD x4.toNat []).getD 0 (.i 0)).toI) (((x2.getD x4.toNat []).getD 1 (.i 0)).toI) (((x2.getD x4.toNat []).getD 2 (.i 0)).toI) (((x2.getD x4.toNat []).getD 3 (.i 0)).toI) (((x2.getD x4.toNat []).getD 4 (.i 0)).toI) (((x2.getD x4.toNat []).getD 5 (.i 0)).toI) (((x2.getD x4.toNat []).getD 6 (.i 0)).toL) fun r5 =>
  bif r5 then R x4
  else rec (IntKind.i64.wrap (x4 + 1)))
  else none)
 else k
noncomputable def l0 (x2 : List (List Cl)) (x3 : Int) (k : O) (R : Int → O) : Nat → Int → O
 | 0, _ => none
 | n + 1, x4 => l0s x2 x3 (l0 x2 x3 k R n) k R x4
noncomputable def o0 : Fn [.l, .i] St := fun _ _ => ⟨mkT 19 [], [], []⟩
noncomputable def n0 (K : Res → O) := ent 0 [.l, .i] [.i] [0, 1, 2] (fun x2 x3 x4 => ⟨mkT 19 [(0, one (.tr 0 1 e_1 (.cells x2))), (1, one (.fn 23 [])), (7, oI x3), (8, oI x4)], [], []⟩) fun x2 x3 k => l0 x2 x3 (k (o0 x2 x3)) (fun r1 => K (m [] r1))
noncomputable def X (K : Res → O) : Ctx := { cx0 [impl_TreeOk_1.con] fi true K with cin := [(0, ⟨[0, 1, 7, 8], [], [], [], [], []⟩)], cout := [(0, ⟨[], [], [], [], [], []⟩)], lp := lpOf [n0 K] }
noncomputable def b (a1 : List (List Cl)) (R : Int → O) : O :=
 l0 a1 (a1.length : Int) (
 R (-1)) R fuel 0
noncomputable def g := seal_ b
theorem e : g = b := seal_eq b
noncomputable def a : Fn [.l] St := fun a1 => argSt [one (.tr 0 1 e_1 (.cells a1)), one (.fn 23 [])] [] []
noncomputable def con := conOf 45 [.l] [.i] a g m
theorem hx (K : Res → O) : CtxOk Pg Γ0 byt0 eqs0 (X K) [impl_TreeOk_1.con] := ctx_of (X := X) (.cons impl_TreeOk_1.ok .nil) (by kernel_rfl) K
theorem w0 (K : Res → O) : LpSound Pg (X K) 0 b0 := lp_fin (L := [n0 K]) laid (hx K) .nil (.cons (ent_ok (fun x2 x3 k r => l0s x2 x3 r (k (o0 x2 x3)) (fun r1 => K (m [] r1))) (by kernel_rfl) (by kernel_rfl) (by kernel_rfl) (by kernel_rfl) (by kernel_rfl)) .nil) (by kernel_rfl) (by kernel_rfl)
theorem ok : Con Pg con := con_fin (fn := Tryz.f45) (c := c) (Fi := fi) (X := X) laid hx (fun K => (.cons (w0 K) .nil)) e (by kernel_rfl) (by kernel_rfl) (by kernel_rfl) (by kernel_rfl)
end slices_IndexFunc_impl_Expr_impl_Expr
namespace slices_ContainsFunc_impl_Expr_impl_Expr
noncomputable def c : Code := bodyOf Tryz.f22
noncomputable def fi : Fin := ⟨Γ0, [(.tmp 4, 4)], [[1]], [], [], []⟩
noncomputable def m : Fn [.l] (Fn [.b] Res) := fun _ r1 => ⟨[⟨false, [.bool r1]⟩], [], [], [], []⟩
noncomputable def X (K : Res → O) : Ctx := cx0 [slices_IndexFunc_impl_Expr_impl_Expr.con] fi true K
noncomputable def b (a1 : List (List Cl)) (R : Bool → O) : O :=
 slices_IndexFunc_impl_Expr_impl_Expr.g a1 fun r2 =>
 R (decide (0 ≤ r2))
noncomputable def g := seal_ b
theorem e : g = b := seal_eq b
noncomputable def a : Fn [.l] St := fun a1 => argSt [one (.tr 0 1 e_1 (.cells a1)), one (.fn 23 [])] [] []
noncomputable def con := conOf 22 [.l] [.b] a g m
theorem ok : Con Pg con := con_fin (fn := Tryz.f22) (c := c) (Fi := fi) (X := X) laid (ctx_of (.cons slices_IndexFunc_impl_Expr_impl_Expr.ok .nil) (by kernel_rfl)) (fun K => .nil) e (by kernel_rfl) (by kernel_rfl) (by kernel_rfl) (by kernel_rfl)
end slices_ContainsFunc_impl_Expr_impl_Expr
namespace impl_owned
noncomputable def c : Code := bodyOf Tryz.f25
noncomputable def fi : Fin := ⟨Γ0, [(.tmp 2, 46), (.tmp 3, 4)], [[1], [1]], [], [], []⟩
noncomputable def m : Fn [.l] (Fn [.z, .b] Res) := fun _ r1 r2 => ⟨[⟨false, [.ow 1000]⟩, ⟨false, [.bool r2]⟩], [], [⟨[.int .i64], .ints r1, true, 0, none⟩], [], []⟩
noncomputable def b0 : Code := codeAt c [1, 1, 0, 1, 0, 0]
noncomputable def l0s (x2 : List (List Cl)) (x3 : Int) (rec : Int → List Int → O) (k : List Int → O) (R : List Int → Bool → O) (x4 : Int) (x5 : List Int) : O :=
 bif decide (x4 < x3) then (bif decide (0 ≤ x4) && decide (x4 < (x2.length : Int)) then (bif decide (3 ≤ ((x2.getD x4.toNat []).getD 0 (.i 0)).toI) then (bif (((x2.getD x4.toNat []).getD 0 (.i 0)).toI == 5) then (bif (((x2.getD x4.toNat []).getD 1 (.i 0)).toI != IntKind.i64.wrap (x4 - 1)) then R ([] : List Int) false
  else bif (x4 == 0) then R ([] : List Int) false
  else bif decide (0 ≤ ((x2.getD x4.toNat []).getD 1 (.i 0)).toI) && decide (((x2.getD x4.toNat []).getD 1 (.i 0)).toI < (x5.length : Int)) then (bif (((x2.getD x4.toNat []).getD 0 (.i 0)).toI == 5) then (bif decide (0 ≤ ((x2.getD x4.toNat []).getD 1 (.i 0)).toI) && decide (((x2.getD x4.toNat []).getD 1 (.i 0)).toI < (x5.length : Int)) then (bif decide (IntKind.i64.wrap ((IntKind.i64.wrap (x4 - 1)) - (x5.getD ((((x2.getD x4.toNat []).getD 1 (.i 0)).toI).toNat) 0)) < 0) then R ([] : List Int) false
   else bif (((x2.getD x4.toNat []).getD 2 (.i 0)).toI != IntKind.i64.wrap ((IntKind.i64.wrap (x4 - 1)) - (x5.getD ((((x2.getD x4.toNat []).getD 1 (.i 0)).toI).toNat) 0))) then R ([] : List Int) false
   else bif decide (0 ≤ IntKind.i64.wrap ((IntKind.i64.wrap (x4 - 1)) - (x5.getD ((((x2.getD x4.toNat []).getD 1 (.i 0)).toI).toNat) 0))) && decide (IntKind.i64.wrap ((IntKind.i64.wrap (x4 - 1)) - (x5.getD ((((x2.getD x4.toNat []).getD 1 (.i 0)).toI).toNat) 0)) < (x5.length : Int)) then (bif decide ((x5.length + 1) * 8 ≤ 140737488355328) then rec (IntKind.i64.wrap (x4 + 1)) (x5 ++ ([IntKind.i64.wrap ((IntKind.i64.wrap (1 + (x5.getD ((((x2.getD x4.toNat []).getD 1 (.i 0)).toI).toNat) 0))) + (x5.getD ((IntKind.i64.wrap ((IntKind.i64.wrap (x4 - 1)) - (x5.getD ((((x2.getD x4.toNat []).getD 1 (.i 0)).toI).toNat) 0))).toNat) 0))] : List Int))
    else none)
   else none)
   else none)
   else bif decide ((x5.length + 1) * 8 ≤ 140737488355328) then rec (IntKind.i64.wrap (x4 + 1)) (x5 ++ ([IntKind.i64.wrap (1 + (x5.getD ((((x2.getD x4.toNat []).getD 1 (.i 0)).toI).toNat) 0))] : List Int))
   else none)
  else none)
  else bif (((x2.getD x4.toNat []).getD 2 (.i 0)).toI != IntKind.i64.wrap (x4 - 1)) then R ([] : List Int) false
  else bif (x4 == 0) then R ([] : List Int) false
  else bif decide (0 ≤ ((x2.getD x4.toNat []).getD 2 (.i 0)).toI) && decide (((x2.getD x4.toNat []).getD 2 (.i 0)).toI < (x5.length : Int)) then (bif (((x2.getD x4.toNat []).getD 0 (.i 0)).toI == 5) then (bif decide (0 ≤ ((x2.getD x4.toNat []).getD 1 (.i 0)).toI) && decide (((x2.getD x4.toNat []).getD 1 (.i 0)).toI < (x5.length : Int)) then (bif decide (IntKind.i64.wrap ((IntKind.i64.wrap (x4 - 1)) - (x5.getD ((((x2.getD x4.toNat []).getD 1 (.i 0)).toI).toNat) 0)) < 0) then R ([] : List Int) false
   else bif (((x2.getD x4.toNat []).getD 2 (.i 0)).toI != IntKind.i64.wrap ((IntKind.i64.wrap (x4 - 1)) - (x5.getD ((((x2.getD x4.toNat []).getD 1 (.i 0)).toI).toNat) 0))) then R ([] : List Int) false
   else bif decide (0 ≤ IntKind.i64.wrap ((IntKind.i64.wrap (x4 - 1)) - (x5.getD ((((x2.getD x4.toNat []).getD 1 (.i 0)).toI).toNat) 0))) && decide (IntKind.i64.wrap ((IntKind.i64.wrap (x4 - 1)) - (x5.getD ((((x2.getD x4.toNat []).getD 1 (.i 0)).toI).toNat) 0)) < (x5.length : Int)) then (bif decide ((x5.length + 1) * 8 ≤ 140737488355328) then rec (IntKind.i64.wrap (x4 + 1)) (x5 ++ ([IntKind.i64.wrap ((IntKind.i64.wrap (1 + (x5.getD ((((x2.getD x4.toNat []).getD 2 (.i 0)).toI).toNat) 0))) + (x5.getD ((IntKind.i64.wrap ((IntKind.i64.wrap (x4 - 1)) - (x5.getD ((((x2.getD x4.toNat []).getD 1 (.i 0)).toI).toNat) 0))).toNat) 0))] : List Int))
    else none)
   else none)
   else none)
   else bif decide ((x5.length + 1) * 8 ≤ 140737488355328) then rec (IntKind.i64.wrap (x4 + 1)) (x5 ++ ([IntKind.i64.wrap (1 + (x5.getD ((((x2.getD x4.toNat []).getD 2 (.i 0)).toI).toNat) 0))] : List Int))
   else none)
  else none)
  else bif (((x2.getD x4.toNat []).getD 0 (.i 0)).toI == 5) then (bif decide (0 ≤ ((x2.getD x4.toNat []).getD 1 (.i 0)).toI) && decide (((x2.getD x4.toNat []).getD 1 (.i 0)).toI < (x5.length : Int)) then (bif decide (IntKind.i64.wrap ((IntKind.i64.wrap (x4 - 1)) - (x5.getD ((((x2.getD x4.toNat []).getD 1 (.i 0)).toI).toNat) 0)) < 0) then R ([] : List Int) false
   else bif (((x2.getD x4.toNat []).getD 2 (.i 0)).toI != IntKind.i64.wrap ((IntKind.i64.wrap (x4 - 1)) - (x5.getD ((((x2.getD x4.toNat []).getD 1 (.i 0)).toI).toNat) 0))) then R ([] : List Int) false
   else bif decide (0 ≤ IntKind.i64.wrap ((IntKind.i64.wrap (x4 - 1)) - (x5.getD ((((x2.getD x4.toNat []).getD 1 (.i 0)).toI).toNat) 0))) && decide (IntKind.i64.wrap ((IntKind.i64.wrap (x4 - 1)) - (x5.getD ((((x2.getD x4.toNat []).getD 1 (.i 0)).toI).toNat) 0)) < (x5.length : Int)) then (bif decide ((x5.length + 1) * 8 ≤ 140737488355328) then rec (IntKind.i64.wrap (x4 + 1)) (x5 ++ ([IntKind.i64.wrap (1 + (x5.getD ((IntKind.i64.wrap ((IntKind.i64.wrap (x4 - 1)) - (x5.getD ((((x2.getD x4.toNat []).getD 1 (.i 0)).toI).toNat) 0))).toNat) 0))] : List Int))
    else none)
   else none)
   else none)
  else bif decide ((x5.length + 1) * 8 ≤ 140737488355328) then rec (IntKind.i64.wrap (x4 + 1)) (x5 ++ ([1] : List Int))
  else none)
  else none)
 else k x5
noncomputable def l0 (x2 : List (List Cl)) (x3 : Int) (k : List Int → O) (R : List Int → Bool → O) : Nat → Int → List Int → O
 | 0, _, _ => none
 | n + 1, x4, x5 => l0s x2 x3 (l0 x2 x3 k R n) k R x4 x5
noncomputable def o0 : Fn [.l, .i, .z] St := fun _ _ y1 => ⟨mkT 73 [(4, one (.ow 3056))], [(3056, ⟨[.int .i64], .ints y1, true, 0, none⟩)], []⟩
noncomputable def n0 (K : Res → O) := ent 0 [.l, .i] [.i, .z] [0, 1, 2, 3] (fun x2 x3 x4 x5 => ⟨mkT 73 [(4, one (.ow 3056)), (11, one (.tr 0 1 e_1 (.cells x2))), (12, oI x3), (13, oI x4)], [(3056, ⟨[.int .i64], .ints x5, true, 0, none⟩)], []⟩) fun x2 x3 k => l0 x2 x3 (fun y1 => k (o0 x2 x3 y1)) (fun r1 r2 => K (m [] r1 r2))
noncomputable def X (K : Res → O) : Ctx := { cx0 [] fi true K with own := [(1, 0, 0, [.int .i64])], cin := [(0, ⟨[4, 11, 12, 13], [(3056, 3056), (37912, 3056)], [], [], [], []⟩)], cout := [(0, ⟨[4], [(3056, 3056)], [], [], [], []⟩)], lp := lpOf [n0 K] }
noncomputable def b (a1 : List (List Cl)) (R : List Int → Bool → O) : O :=
 l0 a1 (a1.length : Int) (fun y6 =>
 R y6 true) R fuel 0 ([] : List Int)
noncomputable def g := seal_ b
theorem e : g = b := seal_eq b
noncomputable def a : Fn [.l] St := fun a1 => argSt [.v ⟨true, [.tr 0 1 e_1 (.cells a1)]⟩] [] []
noncomputable def con := conOf 25 [.l] [.z, .b] a g m
theorem hx (K : Res → O) : CtxOk Pg Γ0 byt0 eqs0 (X K) [] := ctx_of (X := X) .nil (by kernel_rfl) K
theorem w0 (K : Res → O) : LpSound Pg (X K) 0 b0 := lp_fin (L := [n0 K]) laid (hx K) .nil (.cons (ent_ok (fun x2 x3 k r => l0s x2 x3 r (fun y1 => k (o0 x2 x3 y1)) (fun r1 r2 => K (m [] r1 r2))) (by kernel_rfl) (by kernel_rfl) (by kernel_rfl) (by kernel_rfl) (by kernel_rfl)) .nil) (by kernel_rfl) (by kernel_rfl)
theorem ok : Con Pg con := con_fin (fn := Tryz.f25) (c := c) (Fi := fi) (X := X) laid hx (fun K => (.cons (w0 K) .nil)) e (by kernel_rfl) (by kernel_rfl) (by kernel_rfl) (by kernel_rfl)
end impl_owned
namespace impl_TreeOk
noncomputable def c : Code := bodyOf Tryz.f8
noncomputable def fi : Fin := ⟨Γ0, [(.tmp 2, 4)], [[1]], [], [], []⟩
noncomputable def m : Fn [.l] (Fn [.b] Res) := fun _ r1 => ⟨[⟨false, [.bool r1]⟩], [], [], [], []⟩
noncomputable def X (K : Res → O) : Ctx := cx0 [impl_within.con, slices_ContainsFunc_impl_Expr_impl_Expr.con, impl_owned.con] fi true K
noncomputable def b (a1 : List (List Cl)) (R : Bool → O) : O :=
 impl_within.g (a1.length : Int) 1 60 fun r2 =>
 bif !r2 then R false
 else (slices_ContainsFunc_impl_Expr_impl_Expr.g a1 fun r3 =>
 bif r3 then R false
 else (impl_owned.g a1 fun r4 r5 =>
 bif r5 then (bif decide (0 ≤ IntKind.i64.wrap ((a1.length : Int) - 1)) && decide (IntKind.i64.wrap ((a1.length : Int) - 1) < (r4.length : Int)) then R (r4.getD ((IntKind.i64.wrap ((a1.length : Int) - 1)).toNat) 0 == (a1.length : Int))
  else none)
 else R false))
noncomputable def g := seal_ b
theorem e : g = b := seal_eq b
noncomputable def a : Fn [.l] St := fun a1 => argSt [.v ⟨true, [.tr 0 1 e_1 (.cells a1)]⟩] [] []
noncomputable def con := conOf 8 [.l] [.b] a g m
theorem ok : Con Pg con := con_fin (fn := Tryz.f8) (c := c) (Fi := fi) (X := X) laid (ctx_of (.cons impl_within.ok (.cons slices_ContainsFunc_impl_Expr_impl_Expr.ok (.cons impl_owned.ok .nil))) (by kernel_rfl)) (fun K => .nil) e (by kernel_rfl) (by kernel_rfl) (by kernel_rfl) (by kernel_rfl)
end impl_TreeOk
namespace impl_signToken
noncomputable def c : Code := bodyOf Tryz.f80
noncomputable def fi : Fin := ⟨Γ0, [(.cell 2 55, 55)], [[1, 1]], [], [], []⟩
noncomputable def m : Fn [.i] (Fn [.i] Res) := fun a1 r1 => ⟨[⟨true, [cI r1, cI a1]⟩], [], [], [], []⟩
noncomputable def X (K : Res → O) : Ctx := cx0 [] fi true K
noncomputable def b (a1 : Int) (R : Int → O) : O :=
 R 3
noncomputable def g := seal_ b
theorem e : g = b := seal_eq b
noncomputable def a : Fn [.i] St := fun a1 => argSt [oI a1] [] []
noncomputable def con := conOf 80 [.i] [.i] a g m
theorem ok : Con Pg con := con_fin (fn := Tryz.f80) (c := c) (Fi := fi) (X := X) laid (ctx_of .nil (by kernel_rfl)) (fun K => .nil) e (by kernel_rfl) (by kernel_rfl) (by kernel_rfl) (by kernel_rfl)
end impl_signToken
namespace impl_funTokens
noncomputable def c : Code := bodyOf Tryz.f41
noncomputable def fi : Fin := ⟨Γ0, [(.tmp 2, 30)], [[1]], [], [], []⟩
noncomputable def m : Fn [.i, .i, .i] (Fn [.l] Res) := fun _ _ _ r1 => ⟨[⟨false, [.ow 1000]⟩], [], [⟨e_0, .cells r1, true, 0, none⟩], [], []⟩
noncomputable def X (K : Res → O) : Ctx := cx0 [impl_signToken.con] fi true K
noncomputable def b (a1 a2 a3 : Int) (R : List (List Cl) → O) : O :=
 bif (a2 == 0) then (impl_signToken.g a1 fun r4 =>
  R ([[.i r4, .i a1]] : List (List Cl)))
 else bif (a2 == 111) then (impl_signToken.g 111 fun r5 =>
  impl_signToken.g a1 fun r6 =>
  R ([[.i r5, .i 111], [.i r6, .i a1]] : List (List Cl)))
 else bif (a2 == 46) then (impl_signToken.g a1 fun r7 =>
  impl_signToken.g 46 fun r8 =>
  impl_signToken.g a3 fun r9 =>
  R ([[.i r7, .i a1], [.i r8, .i 46], [.i r9, .i a3]] : List (List Cl)))
 else (impl_signToken.g a1 fun r10 =>
 impl_signToken.g a2 fun r11 =>
 R ([[.i r10, .i a1], [.i r11, .i a2]] : List (List Cl)))
noncomputable def g := seal_ b
theorem e : g = b := seal_eq b
noncomputable def a : Fn [.i, .i, .i] St := fun a1 a2 a3 => argSt [.v ⟨true, [cI a1, cI a2, cI a3]⟩] [] []
noncomputable def con := conOf 41 [.i, .i, .i] [.l] a g m
theorem ok : Con Pg con := con_fin (fn := Tryz.f41) (c := c) (Fi := fi) (X := X) laid (ctx_of (.cons impl_signToken.ok .nil) (by kernel_rfl)) (fun K => .nil) e (by kernel_rfl) (by kernel_rfl) (by kernel_rfl) (by kernel_rfl)
end impl_funTokens
namespace slices_Grow_impl_Token_impl_Token
noncomputable def c : Code := bodyOf Tryz.f81
noncomputable def fi : Fin := ⟨Γ0, [(.tmp 4, 30)], [[1]], [], [], []⟩
noncomputable def m : Fn [.i] (Fn [.l] Res) := fun _ r1 => ⟨[⟨false, [.ow 1000]⟩], [], [⟨e_0, .cells r1, true, 0, none⟩], [], []⟩
noncomputable def X (K : Res → O) : Ctx := { cx0 [] fi true K with cut := [(5, 8)] }
noncomputable def b (a1 : Int) (R : List (List Cl) → O) : O :=
 bif decide (a1 < 0) then none
 else bif decide (0 < IntKind.i64.wrap (a1 - 0)) then (bif decide (0 ≤ IntKind.i64.wrap (a1 - 0)) && decide (IntKind.i64.wrap (a1 - 0) * 16 ≤ 140737488355328) then (bif decide (0 ≤ ((List.replicate ((IntKind.i64.wrap (a1 - 0)).toNat) ([.i 0, .i 0] : List Cl)).length : Int)) then R ((List.replicate ((IntKind.i64.wrap (a1 - 0)).toNat) ([.i 0, .i 0] : List Cl)).take 0)
  else none)
  else none)
 else R ([] : List (List Cl))
noncomputable def g := seal_ b
theorem e : g = b := seal_eq b
noncomputable def a : Fn [.i] St := fun a1 => argSt [one (.nil), oI a1] [] []
noncomputable def con := conOf 81 [.i] [.l] a g m
theorem ok : Con Pg con := con_fin (fn := Tryz.f81) (c := c) (Fi := fi) (X := X) laid (ctx_of .nil (by kernel_rfl)) (fun K => .nil) e (by kernel_rfl) (by kernel_rfl) (by kernel_rfl) (by kernel_rfl)
end slices_Grow_impl_Token_impl_Token
namespace slices_Concat_impl_Token_impl_Token
noncomputable def c : Code := bodyOf Tryz.f42
noncomputable def fi : Fin := ⟨Γ0, [(.tmp 2, 30)], [[1]], [], [], []⟩
noncomputable def m : Fn [.l, .l, .l] (Fn [.l] Res) := fun _ _ _ r1 => ⟨[⟨false, [.ow 1000]⟩], [], [⟨e_0, .cells r1, true, 0, none⟩], [], []⟩
noncomputable def b0 : Code := codeAt c [1, 1, 0, 1, 0, 0]
noncomputable def b2 : Code := codeAt c [1, 1, 1, 1, 0, 1, 0, 0]
noncomputable def l0s (x4 x5 x6 x8 x9 x10 : List (List Cl)) (x11 : Int) (rec : Int → Int → O) (k : Int → O) (x7 x12 : Int) : O :=
 bif decide (x12 < x11) then (bif decide (x12 = 0) then (bif decide (IntKind.i64.wrap (x7 + (x8.length : Int)) < 0) then none
  else rec (IntKind.i64.wrap (x7 + (x8.length : Int))) (IntKind.i64.wrap (x12 + 1)))
  else bif decide (x12 = 1) then (bif decide (IntKind.i64.wrap (x7 + (x9.length : Int)) < 0) then none
   else rec (IntKind.i64.wrap (x7 + (x9.length : Int))) (IntKind.i64.wrap (x12 + 1)))
  else bif decide (x12 = 2) then (bif decide (IntKind.i64.wrap (x7 + (x10.length : Int)) < 0) then none
   else rec (IntKind.i64.wrap (x7 + (x10.length : Int))) (IntKind.i64.wrap (x12 + 1)))
  else none)
 else k x7
noncomputable def l0 (x4 x5 x6 x8 x9 x10 : List (List Cl)) (x11 : Int) (k : Int → O) : Nat → Int → Int → O
 | 0, _, _ => none
 | n + 1, x7, x12 => l0s x4 x5 x6 x8 x9 x10 x11 (l0 x4 x5 x6 x8 x9 x10 x11 k n) k x7 x12
noncomputable def o0 : Fn [.l, .l, .l, .l, .l, .l, .i, .i] St := fun x4 x5 x6 _ _ _ _ y4 => ⟨mkT 36 [(0, .bn [.tr 0 1 e_0 (.cells x4), .tr 0 1 e_0 (.cells x5), .tr 0 1 e_0 (.cells x6)]), (3, oI y4)], [], []⟩
noncomputable def n0 (K : Res → O) := ent 0 [.l, .l, .l, .l, .l, .l, .i] [.i, .i] [0, 1, 2, 4, 5, 6, 7, 3, 8] (fun x4 x5 x6 x8 x9 x10 x11 x7 x12 => ⟨mkT 36 [(0, .bn [.tr 0 1 e_0 (.cells x4), .tr 0 1 e_0 (.cells x5), .tr 0 1 e_0 (.cells x6)]), (3, oI x7), (9, .bn [.tr 0 1 e_0 (.cells x8), .tr 0 1 e_0 (.cells x9), .tr 0 1 e_0 (.cells x10)]), (10, oI x11), (11, oI x12)], [], []⟩) fun x4 x5 x6 x8 x9 x10 x11 k => l0 x4 x5 x6 x8 x9 x10 x11 (fun y4 => k (o0 x4 x5 x6 x8 x9 x10 x11 y4))
noncomputable def l2s (x15 x16 x17 : List (List Cl)) (x18 : Int) (rec : Int → List (List Cl) → O) (k : List (List Cl) → O) (x19 : Int) (x20 : List (List Cl)) : O :=
 bif decide (x19 < x18) then (bif decide (x19 = 0) then (bif decide ((x20.length + x15.length) * 16 ≤ 140737488355328) then rec (IntKind.i64.wrap (x19 + 1)) (x20 ++ x15)
  else none)
  else bif decide (x19 = 1) then (bif decide ((x20.length + x16.length) * 16 ≤ 140737488355328) then rec (IntKind.i64.wrap (x19 + 1)) (x20 ++ x16)
   else none)
  else bif decide (x19 = 2) then (bif decide ((x20.length + x17.length) * 16 ≤ 140737488355328) then rec (IntKind.i64.wrap (x19 + 1)) (x20 ++ x17)
   else none)
  else none)
 else k x20
noncomputable def l2 (x15 x16 x17 : List (List Cl)) (x18 : Int) (k : List (List Cl) → O) : Nat → Int → List (List Cl) → O
 | 0, _, _ => none
 | n + 1, x19, x20 => l2s x15 x16 x17 x18 (l2 x15 x16 x17 x18 k n) k x19 x20
noncomputable def o2 : Fn [.l, .l, .l, .i, .l] St := fun _ _ _ _ y1 => ⟨mkT 36 [(6, one (.ow 19449))], [(19449, ⟨e_0, .cells y1, true, 0, none⟩)], []⟩
noncomputable def n2 (K : Res → O) := ent 2 [.l, .l, .l, .i] [.i, .l] [0, 1, 2, 3, 4, 5] (fun x15 x16 x17 x18 x19 x20 => ⟨mkT 36 [(6, one (.ow 19449)), (25, .bn [.tr 0 1 e_0 (.cells x15), .tr 0 1 e_0 (.cells x16), .tr 0 1 e_0 (.cells x17)]), (26, oI x18), (27, oI x19)], [(19449, ⟨e_0, .cells x20, true, 0, none⟩)], []⟩) fun x15 x16 x17 x18 k => l2 x15 x16 x17 x18 (fun y1 => k (o2 x15 x16 x17 x18 y1))
noncomputable def X (K : Res → O) : Ctx := { cx0 [slices_Grow_impl_Token_impl_Token.con] fi true K with bun := [(9, 1)], cin := [(0, ⟨[0, 3, 9, 10, 11], [], [], [], [], []⟩), (2, ⟨[6, 25, 26, 27], [(19449, 19449), (27656, 19449)], [], [], [], []⟩)], cout := [(0, ⟨[0, 3], [], [], [], [], []⟩), (2, ⟨[6], [(19449, 19449)], [], [], [], []⟩)], lp := lpOf [n0 K, n2 K] }
noncomputable def b (a1 a2 a3 : List (List Cl)) (R : List (List Cl) → O) : O :=
 l0 a1 a2 a3 a1 a2 a3 3 (fun y13 =>
 slices_Grow_impl_Token_impl_Token.g y13 fun r14 =>
 l2 a1 a2 a3 3 (fun y21 =>
 R y21) fuel 0 r14) fuel 0 0
noncomputable def g := seal_ b
theorem e : g = b := seal_eq b
noncomputable def a : Fn [.l, .l, .l] St := fun a1 a2 a3 => argSt [.bn [.tr 0 1 e_0 (.cells a1), .tr 0 1 e_0 (.cells a2), .tr 0 1 e_0 (.cells a3)]] [] []
noncomputable def con := conOf 42 [.l, .l, .l] [.l] a g m
theorem hx (K : Res → O) : CtxOk Pg Γ0 byt0 eqs0 (X K) [slices_Grow_impl_Token_impl_Token.con] := ctx_of (X := X) (.cons slices_Grow_impl_Token_impl_Token.ok .nil) (by kernel_rfl) K
theorem w2 (K : Res → O) : LpSound Pg (X K) 2 b2 := lp_fin (L := [n0 K, n2 K]) laid (hx K) .nil (.skip rfl (.cons (ent_ok (fun x15 x16 x17 x18 k r => l2s x15 x16 x17 x18 r (fun y1 => k (o2 x15 x16 x17 x18 y1))) (by kernel_rfl) (by kernel_rfl) (by kernel_rfl) (by kernel_rfl) (by kernel_rfl)) .nil)) (by kernel_rfl) (by kernel_rfl)
theorem w0 (K : Res → O) : LpSound Pg (X K) 0 b0 := lp_fin (L := [n0 K, n2 K]) laid (hx K) .nil (.cons (ent_ok (fun x4 x5 x6 x8 x9 x10 x11 k r => l0s x4 x5 x6 x8 x9 x10 x11 r (fun y4 => k (o0 x4 x5 x6 x8 x9 x10 x11 y4))) (by kernel_rfl) (by kernel_rfl) (by kernel_rfl) (by kernel_rfl) (by kernel_rfl)) (.skip rfl .nil)) (by kernel_rfl) (by kernel_rfl)
theorem ok : Con Pg con := con_fin (fn := Tryz.f42) (c := c) (Fi := fi) (X := X) laid hx (fun K => (.cons (w0 K) (.cons (w2 K) .nil))) e (by kernel_rfl) (by kernel_rfl) (by kernel_rfl) (by kernel_rfl)
end slices_Concat_impl_Token_impl_Token
-- GROUP impl_tokensOf
namespace impl_tokensOf
noncomputable def c : Code := bodyOf Tryz.f18
noncomputable def fi : Fin := ⟨Γ0, [(.tmp 4, 30)], [[1]], [], [], []⟩
noncomputable def m : Fn [.l, .i] (Fn [.l] Res) := fun _ _ r1 => ⟨[⟨false, [.ow 1000]⟩], [], [⟨e_0, .cells r1, true, 0, none⟩], [], []⟩
noncomputable def b1 : Code := codeAt c [1, 1, 0, 1, 0, 1, 0, 1, 0, 1, 0, 0]
noncomputable abbrev T : Type := List (List Cl) → Int → (List (List Cl) → O) → O
noncomputable def a : Fn [.l, .i] St := fun a1 a2 => argSt [.v ⟨true, [.tr 0 1 e_1 (.cells a1)]⟩, oI a2] [] []
noncomputable def conz (h : T) := conOf 18 [.l, .i] [.l] a h m
end impl_tokensOf
noncomputable abbrev Z_impl_tokensOf : Type := impl_tokensOf.T
noncomputable def Gd_impl_tokensOf (z : Z_impl_tokensOf) : Prop := Con Pg (impl_tokensOf.conz z)
namespace impl_tokensOf
noncomputable def l1s (x3 : List Int) (x4 : Int) (rec : Int → List (List Cl) → O) (k : List (List Cl) → O) (x5 : Int) (x6 : List (List Cl)) : O :=
 bif decide (x5 < x4) then (bif decide (0 ≤ x5) && decide (x5 < (x3.length : Int)) then (bif decide ((x6.length + 1) * 16 ≤ 140737488355328) then rec (IntKind.i64.wrap (x5 + 1)) (x6 ++ ([[.i 1, .i (x3.getD x5.toNat 0)]] : List (List Cl)))
  else none)
  else none)
 else k x6
noncomputable def l1 (x3 : List Int) (x4 : Int) (k : List (List Cl) → O) : Nat → Int → List (List Cl) → O
 | 0, _, _ => none
 | n + 1, x5, x6 => l1s x3 x4 (l1 x3 x4 k n) k x5 x6
noncomputable def o1 : Fn [.z, .i, .l] St := fun _ _ y1 => ⟨mkT 96 [(6, one (.ow 9200))], [(9200, ⟨e_0, .cells y1, true, 0, none⟩)], []⟩
noncomputable def n1 (K : Res → O) := ent 1 [.z, .i] [.i, .l] [0, 1, 2, 3] (fun x3 x4 x5 x6 => ⟨mkT 96 [(6, one (.ow 9200)), (21, one (.tr 1 2 [.int .i64] (.ints x3))), (22, oI x4), (23, oI x5)], [(9200, ⟨e_0, .cells x6, true, 0, none⟩)], []⟩) fun x3 x4 k => l1 x3 x4 (fun y1 => k (o1 x3 x4 y1))
noncomputable def X (z : Z_impl_tokensOf) (K : Res → O) : Ctx := { cx0 [impl_tokensOf.conz z, impl_funTokens.con, slices_Concat_impl_Token_impl_Token.con] fi true K with bun := [(20, 5), (21, 8)], own := [(4, 0, 0, e_0)], cin := [(1, ⟨[6, 21, 22, 23], [(9200, 9200), (17448, 9200)], [], [], [], []⟩)], cout := [(1, ⟨[6], [(9200, 9200)], [], [], [], []⟩)], lp := lpOf [n1 K] }
noncomputable def g (z : Z_impl_tokensOf) (a1 : List (List Cl)) (a2 : Int) (R : List (List Cl) → O) : O :=
 bif decide (0 ≤ a2) && decide (a2 < (a1.length : Int)) then (bif (((a1.getD a2.toNat []).getD 0 (.i 0)).toI == 1) then (l1 (((a1.getD a2.toNat []).getD 6 (.i 0)).toL) ((((a1.getD a2.toNat []).getD 6 (.i 0)).toL).length : Int) (fun y7 =>
  R y7) fuel 0 ([] : List (List Cl)))
  else bif (((a1.getD a2.toNat []).getD 0 (.i 0)).toI == 2) then R ([[.i 2, .i (((a1.getD a2.toNat []).getD 1 (.i 0)).toI)]] : List (List Cl))
  else bif (((a1.getD a2.toNat []).getD 0 (.i 0)).toI == 3) then (z a1 (((a1.getD a2.toNat []).getD 2 (.i 0)).toI) fun r8 =>
   bif decide ((2 + r8.length) * 16 ≤ 140737488355328) then R (([[.i 2, .i (((a1.getD a2.toNat []).getD 1 (.i 0)).toI)], [.i 6, .i 0]] : List (List Cl)) ++ r8)
   else none)
  else bif (((a1.getD a2.toNat []).getD 0 (.i 0)).toI == 4) then (impl_funTokens.g (((a1.getD a2.toNat []).getD 3 (.i 0)).toI) (((a1.getD a2.toNat []).getD 4 (.i 0)).toI) (((a1.getD a2.toNat []).getD 5 (.i 0)).toI) fun r9 =>
   z a1 (((a1.getD a2.toNat []).getD 2 (.i 0)).toI) fun r10 =>
   bif decide ((r9.length + r10.length) * 16 ≤ 140737488355328) then R (r9 ++ r10)
   else none)
  else (z a1 (((a1.getD a2.toNat []).getD 1 (.i 0)).toI) fun r11 =>
  bif decide (0 ≤ ((a1.getD a2.toNat []).getD 1 (.i 0)).toI) && decide (((a1.getD a2.toNat []).getD 1 (.i 0)).toI < (a1.length : Int)) then (bif (((a1.getD ((((a1.getD a2.toNat []).getD 1 (.i 0)).toI).toNat) []).getD 0 (.i 0)).toI != 1) then (bif (((a1.getD ((((a1.getD a2.toNat []).getD 1 (.i 0)).toI).toNat) []).getD 0 (.i 0)).toI != 2) then (slices_Concat_impl_Token_impl_Token.g ([[.i 4, .i 0]] : List (List Cl)) r11 ([[.i 5, .i 0]] : List (List Cl)) fun r12 =>
   impl_funTokens.g (((a1.getD a2.toNat []).getD 3 (.i 0)).toI) (((a1.getD a2.toNat []).getD 4 (.i 0)).toI) (((a1.getD a2.toNat []).getD 5 (.i 0)).toI) fun r13 =>
   z a1 (((a1.getD a2.toNat []).getD 2 (.i 0)).toI) fun r14 =>
   slices_Concat_impl_Token_impl_Token.g r12 r13 r14 fun r15 =>
   R r15)
   else (impl_funTokens.g (((a1.getD a2.toNat []).getD 3 (.i 0)).toI) (((a1.getD a2.toNat []).getD 4 (.i 0)).toI) (((a1.getD a2.toNat []).getD 5 (.i 0)).toI) fun r16 =>
   z a1 (((a1.getD a2.toNat []).getD 2 (.i 0)).toI) fun r17 =>
   slices_Concat_impl_Token_impl_Token.g r11 r16 r17 fun r18 =>
   R r18))
   else (impl_funTokens.g (((a1.getD a2.toNat []).getD 3 (.i 0)).toI) (((a1.getD a2.toNat []).getD 4 (.i 0)).toI) (((a1.getD a2.toNat []).getD 5 (.i 0)).toI) fun r19 =>
   z a1 (((a1.getD a2.toNat []).getD 2 (.i 0)).toI) fun r20 =>
   slices_Concat_impl_Token_impl_Token.g r11 r19 r20 fun r21 =>
   R r21))
  else none))
 else none
theorem hx (z : Z_impl_tokensOf) (hz : Gd_impl_tokensOf z) (K : Res → O) : CtxOk Pg Γ0 byt0 eqs0 ((X z) K) [impl_tokensOf.conz z, impl_funTokens.con, slices_Concat_impl_Token_impl_Token.con] := ctx_of (X := (X z)) (.cons hz (.cons impl_funTokens.ok (.cons slices_Concat_impl_Token_impl_Token.ok .nil))) (by kernel_rfl) K
theorem w1 (z : Z_impl_tokensOf) (hz : Gd_impl_tokensOf z) (K : Res → O) : LpSound Pg ((X z) K) 1 b1 := lp_fin (L := [n1 K]) laid ((hx z hz) K) .nil (.cons (ent_ok (fun x3 x4 k r => l1s x3 x4 r (fun y1 => k (o1 x3 x4 y1))) (by kernel_rfl) (by kernel_rfl) (by kernel_rfl) (by kernel_rfl) (by kernel_rfl)) .nil) (by kernel_rfl) (by kernel_rfl)
theorem ok (z : Z_impl_tokensOf) (hz : Gd_impl_tokensOf z) : Con Pg (conz (g z)) := con_fin (fn := Tryz.f18) (c := c) (Fi := fi) (X := (X z)) laid (hx z hz) (fun K => (.cons ((w1 z hz) K) .nil)) rfl (by kernel_rfl) (by kernel_rfl) (by kernel_rfl) (by kernel_rfl)
end impl_tokensOf
noncomputable def rec_impl_tokensOf : Nat → Z_impl_tokensOf
 | 0 => (fun _ _ _ => none)
 | n + 1 => impl_tokensOf.g (rec_impl_tokensOf n)
theorem good_impl_tokensOf : ∀ n, Gd_impl_tokensOf (rec_impl_tokensOf n)
 | 0 => con_cst rfl
 | n + 1 => impl_tokensOf.ok _ (good_impl_tokensOf n)
namespace impl_tokensOf
noncomputable def gn (n : Nat) (a1 : List (List Cl)) (a2 : Int) (R : List (List Cl) → O) : O := (rec_impl_tokensOf n) a1 a2 R
noncomputable def G : T := seal_ (gn fuel)
theorem Ge : G = gn fuel := seal_eq _
theorem gn_succ (n : Nat) (a1 : List (List Cl)) (a2 : Int) (R : List (List Cl) → O) : gn (n + 1) a1 a2 R = g (rec_impl_tokensOf n) a1 a2 R := rfl
noncomputable def con := conz G
theorem okG : Con Pg con := by
 unfold con; rw [Ge]; exact (good_impl_tokensOf fuel)
end impl_tokensOf
-- END GROUP
namespace impl_TokenOk
noncomputable def c : Code := bodyOf Tryz.f57
noncomputable def fi : Fin := ⟨Γ0, [(.tmp 2, 4)], [[1]], [], [], []⟩
noncomputable def m : Fn [.i, .i] (Fn [.b] Res) := fun _ _ r1 => ⟨[⟨false, [.bool r1]⟩], [], [], [], []⟩
noncomputable def X (K : Res → O) : Ctx := cx0 [impl_NumOk.con, impl_within.con, impl_hasSign.con] fi true K
noncomputable def b (a1 a2 : Int) (R : Bool → O) : O :=
 bif (a1 == 1) then (impl_NumOk.g a2 fun r3 =>
  R r3)
 else bif (a1 == 2) then (impl_within.g a2 0 25 fun r4 =>
  R r4)
 else bif (a1 == 3) then (impl_hasSign.g (⟨#[43, 45, 42, 37, 124, 38, 94, 61, 60, 62, 126, 105, 35, 44, 116, 100, 114, 122, 64, 63, 103, 36, 101, 47, 92, 46, 111]⟩ : ByteArray) a2 fun r5 =>
  R r5)
 else bif (a1 == 4) then R (a2 == 0)
 else bif (a1 == 5) then R (a2 == 0)
 else bif (a1 == 6) then R (a2 == 0)
 else R false
noncomputable def g := seal_ b
theorem e : g = b := seal_eq b
noncomputable def a : Fn [.i, .i] St := fun a1 a2 => argSt [.v ⟨true, [cI a1, cI a2]⟩] [] []
noncomputable def con := conOf 57 [.i, .i] [.b] a g m
theorem ok : Con Pg con := con_fin (fn := Tryz.f57) (c := c) (Fi := fi) (X := X) laid (ctx_of (.cons impl_NumOk.ok (.cons impl_within.ok (.cons impl_hasSign.ok .nil))) (by kernel_rfl)) (fun K => .nil) e (by kernel_rfl) (by kernel_rfl) (by kernel_rfl) (by kernel_rfl)
end impl_TokenOk
namespace impl_tokensOk_1
noncomputable def c : Code := bodyOf Tryz.f56
noncomputable def fi : Fin := ⟨Γ0, [(.tmp 2, 4)], [[1]], [], [], []⟩
noncomputable def m : Fn [.i, .i] (Fn [.b] Res) := fun _ _ r1 => ⟨[⟨false, [.bool r1]⟩], [], [], [], []⟩
noncomputable def X (K : Res → O) : Ctx := cx0 [impl_TokenOk.con] fi true K
noncomputable def b (a1 a2 : Int) (R : Bool → O) : O :=
 impl_TokenOk.g a1 a2 fun r3 =>
 R (!r3)
noncomputable def g := seal_ b
theorem e : g = b := seal_eq b
noncomputable def a : Fn [.i, .i] St := fun a1 a2 => argSt [.v ⟨true, [cI a1, cI a2]⟩] [] []
noncomputable def con := conOf 56 [.i, .i] [.b] a g m
theorem ok : Con Pg con := con_fin (fn := Tryz.f56) (c := c) (Fi := fi) (X := X) laid (ctx_of (.cons impl_TokenOk.ok .nil) (by kernel_rfl)) (fun K => .nil) e (by kernel_rfl) (by kernel_rfl) (by kernel_rfl) (by kernel_rfl)
end impl_tokensOk_1
namespace slices_IndexFunc_impl_Token_impl_Token
noncomputable def c : Code := bodyOf Tryz.f92
noncomputable def fi : Fin := ⟨Γ0, [(.tmp 4, 3)], [[1]], [], [], []⟩
noncomputable def m : Fn [.l] (Fn [.i] Res) := fun _ r1 => ⟨[⟨false, [cI r1]⟩], [], [], [], []⟩
noncomputable def b0 : Code := codeAt c [1, 0, 1, 0, 0]
noncomputable def l0s (x2 : List (List Cl)) (x3 : Int) (rec : Int → O) (k : O) (R : Int → O) (x4 : Int) : O :=
 bif decide (x4 < x3) then (bif decide (0 ≤ x4) && decide (x4 < (x2.length : Int)) then (impl_tokensOk_1.g (((x2.getD x4.toNat []).getD 0 (.i 0)).toI) (((x2.getD x4.toNat []).getD 1 (.i 0)).toI) fun r5 =>
  bif r5 then R x4
  else rec (IntKind.i64.wrap (x4 + 1)))
  else none)
 else k
noncomputable def l0 (x2 : List (List Cl)) (x3 : Int) (k : O) (R : Int → O) : Nat → Int → O
 | 0, _ => none
 | n + 1, x4 => l0s x2 x3 (l0 x2 x3 k R n) k R x4
noncomputable def o0 : Fn [.l, .i] St := fun _ _ => ⟨mkT 19 [], [], []⟩
noncomputable def n0 (K : Res → O) := ent 0 [.l, .i] [.i] [0, 1, 2] (fun x2 x3 x4 => ⟨mkT 19 [(0, one (.tr 0 1 e_0 (.cells x2))), (1, one (.fn 56 [])), (7, oI x3), (8, oI x4)], [], []⟩) fun x2 x3 k => l0 x2 x3 (k (o0 x2 x3)) (fun r1 => K (m [] r1))
noncomputable def X (K : Res → O) : Ctx := { cx0 [impl_tokensOk_1.con] fi true K with cin := [(0, ⟨[0, 1, 7, 8], [], [], [], [], []⟩)], cout := [(0, ⟨[], [], [], [], [], []⟩)], lp := lpOf [n0 K] }
noncomputable def b (a1 : List (List Cl)) (R : Int → O) : O :=
 l0 a1 (a1.length : Int) (
 R (-1)) R fuel 0
noncomputable def g := seal_ b
theorem e : g = b := seal_eq b
noncomputable def a : Fn [.l] St := fun a1 => argSt [one (.tr 0 1 e_0 (.cells a1)), one (.fn 56 [])] [] []
noncomputable def con := conOf 92 [.l] [.i] a g m
theorem hx (K : Res → O) : CtxOk Pg Γ0 byt0 eqs0 (X K) [impl_tokensOk_1.con] := ctx_of (X := X) (.cons impl_tokensOk_1.ok .nil) (by kernel_rfl) K
theorem w0 (K : Res → O) : LpSound Pg (X K) 0 b0 := lp_fin (L := [n0 K]) laid (hx K) .nil (.cons (ent_ok (fun x2 x3 k r => l0s x2 x3 r (k (o0 x2 x3)) (fun r1 => K (m [] r1))) (by kernel_rfl) (by kernel_rfl) (by kernel_rfl) (by kernel_rfl) (by kernel_rfl)) .nil) (by kernel_rfl) (by kernel_rfl)
theorem ok : Con Pg con := con_fin (fn := Tryz.f92) (c := c) (Fi := fi) (X := X) laid hx (fun K => (.cons (w0 K) .nil)) e (by kernel_rfl) (by kernel_rfl) (by kernel_rfl) (by kernel_rfl)
end slices_IndexFunc_impl_Token_impl_Token
namespace slices_ContainsFunc_impl_Token_impl_Token
noncomputable def c : Code := bodyOf Tryz.f55
noncomputable def fi : Fin := ⟨Γ0, [(.tmp 4, 4)], [[1]], [], [], []⟩
noncomputable def m : Fn [.l] (Fn [.b] Res) := fun _ r1 => ⟨[⟨false, [.bool r1]⟩], [], [], [], []⟩
noncomputable def X (K : Res → O) : Ctx := cx0 [slices_IndexFunc_impl_Token_impl_Token.con] fi true K
noncomputable def b (a1 : List (List Cl)) (R : Bool → O) : O :=
 slices_IndexFunc_impl_Token_impl_Token.g a1 fun r2 =>
 R (decide (0 ≤ r2))
noncomputable def g := seal_ b
theorem e : g = b := seal_eq b
noncomputable def a : Fn [.l] St := fun a1 => argSt [one (.tr 0 1 e_0 (.cells a1)), one (.fn 56 [])] [] []
noncomputable def con := conOf 55 [.l] [.b] a g m
theorem ok : Con Pg con := con_fin (fn := Tryz.f55) (c := c) (Fi := fi) (X := X) laid (ctx_of (.cons slices_IndexFunc_impl_Token_impl_Token.ok .nil) (by kernel_rfl)) (fun K => .nil) e (by kernel_rfl) (by kernel_rfl) (by kernel_rfl) (by kernel_rfl)
end slices_ContainsFunc_impl_Token_impl_Token
namespace impl_tokensOk
noncomputable def c : Code := bodyOf Tryz.f29
noncomputable def fi : Fin := ⟨Γ0, [(.tmp 2, 4)], [[1]], [], [], []⟩
noncomputable def m : Fn [.l] (Fn [.b] Res) := fun _ r1 => ⟨[⟨false, [.bool r1]⟩], [], [], [], []⟩
noncomputable def X (K : Res → O) : Ctx := cx0 [slices_ContainsFunc_impl_Token_impl_Token.con] fi true K
noncomputable def b (a1 : List (List Cl)) (R : Bool → O) : O :=
 bif decide ((a1.length : Int) ≤ 300) then (slices_ContainsFunc_impl_Token_impl_Token.g a1 fun r2 =>
  R (!r2))
 else R false
noncomputable def g := seal_ b
theorem e : g = b := seal_eq b
noncomputable def a : Fn [.l] St := fun a1 => argSt [one (.tr 0 1 e_0 (.cells a1))] [] []
noncomputable def con := conOf 29 [.l] [.b] a g m
theorem ok : Con Pg con := con_fin (fn := Tryz.f29) (c := c) (Fi := fi) (X := X) laid (ctx_of (.cons slices_ContainsFunc_impl_Token_impl_Token.ok .nil) (by kernel_rfl)) (fun K => .nil) e (by kernel_rfl) (by kernel_rfl) (by kernel_rfl) (by kernel_rfl)
end impl_tokensOk
namespace strconv_Itoa
theorem is : ItoaIs Go.Proofs.Tryz.prog 99 := fun n h0 h1 w ht => Go.Proofs.Tryz.strconv_Itoa n h0 h1 w ht
noncomputable def g (a1 : Int) (R : ByteArray → O) : O := itoaG a1 R
noncomputable def con : FuncId × St × (List Lf → (Res → Option Res) → Option Res) := itoaC 99
theorem ok : Con Go.Proofs.Tryz.prog con := con_itoa (fn := Go.Proofs.Tryz.f99) (by kernel_rfl) (by kernel_rfl) (by kernel_rfl) is
end strconv_Itoa
namespace impl_ShowNum
noncomputable def c : Code := bodyOf Tryz.f76
noncomputable def fi : Fin := ⟨Γ0, [(.tmp 2, 9)], [[1]], [], [], []⟩
noncomputable def m : Fn [.i] (Fn [.s] Res) := fun _ r1 => ⟨[⟨false, [.str r1]⟩], [], [], [], []⟩
noncomputable def X (K : Res → O) : Ctx := cx0 [impl_NumOk.con, strconv_Itoa.con] fi true K
noncomputable def b (a1 : Int) (R : ByteArray → O) : O :=
 impl_NumOk.g a1 fun r2 =>
 bif !r2 then R (⟨#[]⟩ : ByteArray)
 else bif decide (a1 < 0) then (strconv_Itoa.g (IntKind.i64.wrap (0 - a1)) fun r3 =>
  bif decide (1 + r3.size ≤ 9223372036854775807) then R ((⟨#[95]⟩ : ByteArray) ++ r3)
  else none)
 else (strconv_Itoa.g a1 fun r4 =>
 R r4)
noncomputable def g := seal_ b
theorem e : g = b := seal_eq b
noncomputable def a : Fn [.i] St := fun a1 => argSt [oI a1] [] []
noncomputable def con := conOf 76 [.i] [.s] a g m
theorem ok : Con Pg con := con_fin (fn := Tryz.f76) (c := c) (Fi := fi) (X := X) laid (ctx_of (.cons impl_NumOk.ok (.cons strconv_Itoa.ok .nil)) (by kernel_rfl)) (fun K => .nil) e (by kernel_rfl) (by kernel_rfl) (by kernel_rfl) (by kernel_rfl)
end impl_ShowNum
namespace impl_tokenText
noncomputable def c : Code := bodyOf Tryz.f39
noncomputable def fi : Fin := ⟨Γ0, [(.tmp 2, 9)], [[1]], [], [], []⟩
noncomputable def m : Fn [.i, .i] (Fn [.s] Res) := fun _ _ r1 => ⟨[⟨false, [.str r1]⟩], [], [], [], []⟩
noncomputable def X (K : Res → O) : Ctx := cx0 [impl_ShowNum.con] fi true K
noncomputable def b (a1 a2 : Int) (R : ByteArray → O) : O :=
 bif (a1 == 1) then (impl_ShowNum.g a2 fun r3 =>
  R r3)
 else bif (a1 == 2) then R (strOf ([IntKind.u8.wrap (IntKind.i64.wrap (65 + a2))] : List Int))
 else bif (a1 == 3) then R (strOf ([IntKind.u8.wrap a2] : List Int))
 else bif decide (0 ≤ IntKind.i64.wrap (a1 - 4)) && decide (IntKind.i64.wrap (a1 - 4) < 3) then R (([(⟨#[40]⟩ : ByteArray), (⟨#[41]⟩ : ByteArray), (⟨#[58]⟩ : ByteArray)] : List ByteArray).getD ((IntKind.i64.wrap (a1 - 4)).toNat) ByteArray.empty)
 else none
noncomputable def g := seal_ b
theorem e : g = b := seal_eq b
noncomputable def a : Fn [.i, .i] St := fun a1 a2 => argSt [.v ⟨true, [cI a1, cI a2]⟩] [] []
noncomputable def con := conOf 39 [.i, .i] [.s] a g m
theorem ok : Con Pg con := con_fin (fn := Tryz.f39) (c := c) (Fi := fi) (X := X) laid (ctx_of (.cons impl_ShowNum.ok .nil) (by kernel_rfl)) (fun K => .nil) e (by kernel_rfl) (by kernel_rfl) (by kernel_rfl) (by kernel_rfl)
end impl_tokenText
namespace strings_Join
theorem is : JoinIs Go.Proofs.Tryz.prog 40 := ⟨fun a c sep w => Go.Proofs.Tryz.strings_Join_none a c sep w, fun bk o c xs sep w h1 h2 h3 h4 h5 => Go.Proofs.Tryz.strings_Join bk o c xs sep w h1 h2 h3 h4 h5⟩
noncomputable def g (a1 : List ByteArray) (a2 : ByteArray) (R : ByteArray → O) : O := joinG a1 a2 R
noncomputable def con : FuncId × St × (List Lf → (Res → Option Res) → Option Res) := joinC 40 0 1
theorem ok : Con Go.Proofs.Tryz.prog con := con_join 0 1 (fn := Go.Proofs.Tryz.f40) (by kernel_rfl) (by kernel_rfl) (by kernel_rfl) is
end strings_Join
namespace impl_TokenText
noncomputable def c : Code := bodyOf Tryz.f17
noncomputable def fi : Fin := ⟨Γ0, [(.tmp 2, 9)], [[1]], [], [], []⟩
noncomputable def m : Fn [.l] (Fn [.s] Res) := fun _ r1 => ⟨[⟨false, [.str r1]⟩], [], [], [], []⟩
noncomputable def b0 : Code := codeAt c [1, 1, 1, 0, 1, 0, 0]
noncomputable def l0s (x3 : List (List Cl)) (x4 : Int) (rec : Int → List ByteArray → O) (k : List ByteArray → O) (x5 : Int) (x6 : List ByteArray) : O :=
 bif decide (x5 < x4) then (bif decide (0 ≤ x5) && decide (x5 < (x3.length : Int)) then (impl_tokenText.g (((x3.getD x5.toNat []).getD 0 (.i 0)).toI) (((x3.getD x5.toNat []).getD 1 (.i 0)).toI) fun r7 =>
  bif decide ((x6.length + 1) * 16 ≤ 140737488355328) then rec (IntKind.i64.wrap (x5 + 1)) (x6 ++ ([r7] : List ByteArray))
  else none)
  else none)
 else k x6
noncomputable def l0 (x3 : List (List Cl)) (x4 : Int) (k : List ByteArray → O) : Nat → Int → List ByteArray → O
 | 0, _, _ => none
 | n + 1, x5, x6 => l0s x3 x4 (l0 x3 x4 k n) k x5 x6
noncomputable def o0 : Fn [.l, .i, .t] St := fun _ _ y1 => ⟨mkT 23 [(3, one (.ow 7152))], [(7152, ⟨[.str], .strs y1, true, 0, none⟩)], []⟩
noncomputable def n0 (K : Res → O) := ent 0 [.l, .i] [.i, .t] [0, 1, 2, 3] (fun x3 x4 x5 x6 => ⟨mkT 23 [(3, one (.ow 7152)), (9, one (.tr 0 1 e_0 (.cells x3))), (10, oI x4), (11, oI x5)], [(7152, ⟨[.str], .strs x6, true, 0, none⟩)], []⟩) fun x3 x4 k => l0 x3 x4 (fun y1 => k (o0 x3 x4 y1))
noncomputable def X (K : Res → O) : Ctx := { cx0 [impl_tokensOk.con, impl_tokenText.con, strings_Join.con] fi true K with own := [(3, 0, 0, [.str])], cin := [(0, ⟨[3, 9, 10, 11], [(7152, 7152), (15400, 7152)], [], [], [], []⟩)], cout := [(0, ⟨[3], [(7152, 7152)], [], [], [], []⟩)], lp := lpOf [n0 K] }
noncomputable def b (a1 : List (List Cl)) (R : ByteArray → O) : O :=
 impl_tokensOk.g a1 fun r2 =>
 bif !r2 then R (⟨#[]⟩ : ByteArray)
 else (l0 a1 (a1.length : Int) (fun y8 =>
 strings_Join.g y8 (⟨#[32]⟩ : ByteArray) fun r9 =>
 R r9) fuel 0 ([] : List ByteArray))
noncomputable def g := seal_ b
theorem e : g = b := seal_eq b
noncomputable def a : Fn [.l] St := fun a1 => argSt [one (.tr 0 1 e_0 (.cells a1))] [] []
noncomputable def con := conOf 17 [.l] [.s] a g m
theorem hx (K : Res → O) : CtxOk Pg Γ0 byt0 eqs0 (X K) [impl_tokensOk.con, impl_tokenText.con, strings_Join.con] := ctx_of (X := X) (.cons impl_tokensOk.ok (.cons impl_tokenText.ok (.cons strings_Join.ok .nil))) (by kernel_rfl) K
theorem w0 (K : Res → O) : LpSound Pg (X K) 0 b0 := lp_fin (L := [n0 K]) laid (hx K) .nil (.cons (ent_ok (fun x3 x4 k r => l0s x3 x4 r (fun y1 => k (o0 x3 x4 y1))) (by kernel_rfl) (by kernel_rfl) (by kernel_rfl) (by kernel_rfl) (by kernel_rfl)) .nil) (by kernel_rfl) (by kernel_rfl)
theorem ok : Con Pg con := con_fin (fn := Tryz.f17) (c := c) (Fi := fi) (X := X) laid hx (fun K => (.cons (w0 K) .nil)) e (by kernel_rfl) (by kernel_rfl) (by kernel_rfl) (by kernel_rfl)
end impl_TokenText
namespace impl_TreeText
noncomputable def c : Code := bodyOf Tryz.f6
noncomputable def fi : Fin := ⟨Γ0, [(.tmp 2, 9)], [[1]], [], [], []⟩
noncomputable def m : Fn [.l] (Fn [.s] Res) := fun _ r1 => ⟨[⟨false, [.str r1]⟩], [], [], [], []⟩
noncomputable def X (K : Res → O) : Ctx := cx0 [impl_TreeOk.con, impl_tokensOf.con, impl_TokenText.con] fi true K
noncomputable def b (a1 : List (List Cl)) (R : ByteArray → O) : O :=
 impl_TreeOk.g a1 fun r2 =>
 bif !r2 then R (⟨#[]⟩ : ByteArray)
 else (impl_tokensOf.G a1 (IntKind.i64.wrap ((a1.length : Int) - 1)) fun r3 =>
 impl_TokenText.g r3 fun r4 =>
 R r4)
noncomputable def g := seal_ b
theorem e : g = b := seal_eq b
noncomputable def a : Fn [.l] St := fun a1 => argSt [.v ⟨true, [.tr 0 1 e_1 (.cells a1)]⟩] [] []
noncomputable def con := conOf 6 [.l] [.s] a g m
theorem ok : Con Pg con := con_fin (fn := Tryz.f6) (c := c) (Fi := fi) (X := X) laid (ctx_of (.cons impl_TreeOk.ok (.cons impl_tokensOf.okG (.cons impl_TokenText.ok .nil))) (by kernel_rfl)) (fun K => .nil) e (by kernel_rfl) (by kernel_rfl) (by kernel_rfl) (by kernel_rfl)
end impl_TreeText
namespace spec_l9Nums
noncomputable def c : Code := bodyOf Tryz.f49
noncomputable def fi : Fin := ⟨Γ0, [(.tmp 2, 4)], [[1]], [], [], []⟩
noncomputable def m : Fn [.z] (Fn [.b] Res) := fun _ r1 => ⟨[⟨false, [.bool r1]⟩], [], [], [], []⟩
noncomputable def b0 : Code := codeAt c [1, 0, 1, 0, 0]
noncomputable def l0s (x2 : List Int) (rec : Int → O) (k : O) (R : Bool → O) (x3 : Int) : O :=
 bif decide (x3 < (x2.length : Int)) then (bif decide (0 ≤ x3) && decide (x3 < (x2.length : Int)) then (spec_NumOk.g (x2.getD x3.toNat 0) fun r4 =>
  bif !r4 then R false
  else rec (IntKind.i64.wrap (x3 + 1)))
  else none)
 else k
noncomputable def l0 (x2 : List Int) (k : O) (R : Bool → O) : Nat → Int → O
 | 0, _ => none
 | n + 1, x3 => l0s x2 (l0 x2 k R n) k R x3
noncomputable def o0 : Fn [.z] St := fun x2 => ⟨mkT 19 [(0, one (.tr 0 1 [.int .i64] (.ints x2)))], [], []⟩
noncomputable def n0 (K : Res → O) := ent 0 [.z] [.i] [0, 1] (fun x2 x3 => ⟨mkT 19 [(0, one (.tr 0 1 [.int .i64] (.ints x2))), (3, oI x3)], [], []⟩) fun x2 k => l0 x2 (k (o0 x2)) (fun r1 => K (m [] r1))
noncomputable def X (K : Res → O) : Ctx := { cx0 [spec_NumOk.con, spec_l1In.con] fi true K with cin := [(0, ⟨[0, 3], [], [], [], [], []⟩)], cout := [(0, ⟨[0], [], [], [], [], []⟩)], lp := lpOf [n0 K] }
noncomputable def b (a1 : List Int) (R : Bool → O) : O :=
 l0 a1 (
 spec_l1In.g (a1.length : Int) 1 300 fun r5 =>
 R r5) R fuel 0
noncomputable def g := seal_ b
theorem e : g = b := seal_eq b
noncomputable def a : Fn [.z] St := fun a1 => argSt [one (.tr 0 1 [.int .i64] (.ints a1))] [] []
noncomputable def con := conOf 49 [.z] [.b] a g m
theorem hx (K : Res → O) : CtxOk Pg Γ0 byt0 eqs0 (X K) [spec_NumOk.con, spec_l1In.con] := ctx_of (X := X) (.cons spec_NumOk.ok (.cons spec_l1In.ok .nil)) (by kernel_rfl) K
theorem w0 (K : Res → O) : LpSound Pg (X K) 0 b0 := lp_fin (L := [n0 K]) laid (hx K) .nil (.cons (ent_ok (fun x2 k r => l0s x2 r (k (o0 x2)) (fun r1 => K (m [] r1))) (by kernel_rfl) (by kernel_rfl) (by kernel_rfl) (by kernel_rfl) (by kernel_rfl)) .nil) (by kernel_rfl) (by kernel_rfl)
theorem ok : Con Pg con := con_fin (fn := Tryz.f49) (c := c) (Fi := fi) (X := X) laid hx (fun K => (.cons (w0 K) .nil)) e (by kernel_rfl) (by kernel_rfl) (by kernel_rfl) (by kernel_rfl)
end spec_l9Nums
namespace spec_l9Node
noncomputable def c : Code := bodyOf Tryz.f27
noncomputable def fi : Fin := ⟨Γ0, [(.tmp 6, 3), (.tmp 7, 4)], [[1], [1]], [], [], []⟩
noncomputable def m : Fn [.i, .i, .i, .i, .i, .i, .z, .i, .z] (Fn [.i, .b] Res) := fun _ _ _ _ _ _ _ _ _ r1 r2 => ⟨[⟨false, [cI r1]⟩, ⟨false, [.bool r2]⟩], [], [], [], []⟩
noncomputable def X (K : Res → O) : Ctx := cx0 [spec_l9Nums.con, spec_l1In.con, spec_FunOne.con, spec_FunTwo.con] fi true K
noncomputable def b (a1 a2 a3 a4 a5 a6 : Int) (a7 : List Int) (a8 : Int) (a9 : List Int) (R : Int → Bool → O) : O :=
 bif (a1 == 1) then (bif (a2 == 0) then (bif (a3 == 0) then (bif ((a4 == 0) && ((a5 == 0) && ((a6 == 0) && true))) then (spec_l9Nums.g a7 fun r10 =>
  R 1 r10)
  else R 1 false)
  else R 1 false)
  else R 1 false)
 else bif (a1 == 2) then (spec_l1In.g a2 0 25 fun r11 =>
  bif r11 then (bif (a3 == 0) then (bif ((a4 == 0) && ((a5 == 0) && ((a6 == 0) && true))) then R 1 ((a7.length : Int) == 0)
   else R 1 false)
   else R 1 false)
  else R 1 false)
 else bif (a1 == 3) then (bif decide (a8 < 1) then R 0 false
  else bif (a3 != IntKind.i64.wrap (a8 - 1)) then R 0 false
  else bif decide (0 ≤ IntKind.i64.wrap (a8 - 1)) && decide (IntKind.i64.wrap (a8 - 1) < (a9.length : Int)) then (spec_l1In.g a2 0 25 fun r12 =>
   bif r12 then (bif ((a4 == 0) && ((a5 == 0) && ((a6 == 0) && true))) then R (IntKind.i64.wrap ((a9.getD ((IntKind.i64.wrap (a8 - 1)).toNat) 0) + 1)) ((a7.length : Int) == 0)
    else R (IntKind.i64.wrap ((a9.getD ((IntKind.i64.wrap (a8 - 1)).toNat) 0) + 1)) false)
   else R (IntKind.i64.wrap ((a9.getD ((IntKind.i64.wrap (a8 - 1)).toNat) 0) + 1)) false)
  else none)
 else bif (a1 == 4) then (bif decide (a8 < 1) then R 0 false
  else bif (a3 != IntKind.i64.wrap (a8 - 1)) then R 0 false
  else bif decide (0 ≤ IntKind.i64.wrap (a8 - 1)) && decide (IntKind.i64.wrap (a8 - 1) < (a9.length : Int)) then (bif (a2 == 0) then (spec_FunOne.g a4 a5 a6 fun r13 =>
   bif r13 then R (IntKind.i64.wrap ((a9.getD ((IntKind.i64.wrap (a8 - 1)).toNat) 0) + 1)) ((a7.length : Int) == 0)
   else R (IntKind.i64.wrap ((a9.getD ((IntKind.i64.wrap (a8 - 1)).toNat) 0) + 1)) false)
   else R (IntKind.i64.wrap ((a9.getD ((IntKind.i64.wrap (a8 - 1)).toNat) 0) + 1)) false)
  else none)
 else bif (a1 == 5) then (bif decide (a8 < 2) then R 0 false
  else bif (a2 != IntKind.i64.wrap (a8 - 1)) then R 0 false
  else bif decide (0 ≤ IntKind.i64.wrap (a8 - 1)) && decide (IntKind.i64.wrap (a8 - 1) < (a9.length : Int)) then (bif (a3 != IntKind.i64.wrap ((IntKind.i64.wrap (a8 - 1)) - (a9.getD ((IntKind.i64.wrap (a8 - 1)).toNat) 0))) then R 0 false
   else bif decide (a3 < 0) then R 0 false
   else bif decide (0 ≤ a2) && decide (a2 < (a9.length : Int)) then (bif decide (0 ≤ a3) && decide (a3 < (a9.length : Int)) then (spec_FunTwo.g a4 a5 a6 fun r14 =>
    bif r14 then R (IntKind.i64.wrap ((IntKind.i64.wrap ((a9.getD a2.toNat 0) + (a9.getD a3.toNat 0))) + 1)) ((a7.length : Int) == 0)
    else R (IntKind.i64.wrap ((IntKind.i64.wrap ((a9.getD a2.toNat 0) + (a9.getD a3.toNat 0))) + 1)) false)
    else none)
   else none)
  else none)
 else R 0 false
noncomputable def g := seal_ b
theorem e : g = b := seal_eq b
noncomputable def a : Fn [.i, .i, .i, .i, .i, .i, .z, .i, .z] St := fun a1 a2 a3 a4 a5 a6 a7 a8 a9 => argSt [.v ⟨true, [cI a1, cI a2, cI a3, cI a4, cI a5, cI a6, .tr 0 1 [.int .i64] (.ints a7)]⟩, oI a8, one (.tr 0 1 [.int .i64] (.ints a9))] [] []
noncomputable def con := conOf 27 [.i, .i, .i, .i, .i, .i, .z, .i, .z] [.i, .b] a g m
theorem ok : Con Pg con := con_fin (fn := Tryz.f27) (c := c) (Fi := fi) (X := X) laid (ctx_of (.cons spec_l9Nums.ok (.cons spec_l1In.ok (.cons spec_FunOne.ok (.cons spec_FunTwo.ok .nil)))) (by kernel_rfl)) (fun K => .nil) e (by kernel_rfl) (by kernel_rfl) (by kernel_rfl) (by kernel_rfl)
end spec_l9Node
namespace spec_TreeOk
noncomputable def c : Code := bodyOf Tryz.f9
noncomputable def fi : Fin := ⟨Γ0, [(.tmp 2, 4)], [[1]], [], [], []⟩
noncomputable def m : Fn [.l] (Fn [.b] Res) := fun _ r1 => ⟨[⟨false, [.bool r1]⟩], [], [], [], []⟩
noncomputable def b0 : Code := codeAt c [1, 1, 1, 1, 0, 1, 0, 0]
noncomputable def l0s (x3 : Int) (x6 : List (List Cl)) (rec : Int → List Int → O) (k : List Int → O) (R : Bool → O) (x4 : Int) (x5 : List Int) : O :=
 bif decide (x4 < x3) then (bif decide (0 ≤ x4) && decide (x4 < (x6.length : Int)) then (spec_l9Node.g (((x6.getD x4.toNat []).getD 0 (.i 0)).toI) (((x6.getD x4.toNat []).getD 1 (.i 0)).toI) (((x6.getD x4.toNat []).getD 2 (.i 0)).toI) (((x6.getD x4.toNat []).getD 3 (.i 0)).toI) (((x6.getD x4.toNat []).getD 4 (.i 0)).toI) (((x6.getD x4.toNat []).getD 5 (.i 0)).toI) (((x6.getD x4.toNat []).getD 6 (.i 0)).toL) x4 x5 fun r7 r8 =>
  bif !r8 then R false
  else bif decide ((x5.length + 1) * 8 ≤ 140737488355328) then rec (IntKind.i64.wrap (x4 + 1)) (x5 ++ ([r7] : List Int))
  else none)
  else none)
 else k x5
noncomputable def l0 (x3 : Int) (x6 : List (List Cl)) (k : List Int → O) (R : Bool → O) : Nat → Int → List Int → O
 | 0, _, _ => none
 | n + 1, x4, x5 => l0s x3 x6 (l0 x3 x6 k R n) k R x4 x5
noncomputable def o0 : Fn [.i, .l, .z] St := fun x3 _ y2 => ⟨mkT 44 [(3, oI x3), (4, one (.ow 9192))], [(9192, ⟨[.int .i64], .ints y2, true, 0, none⟩)], []⟩
noncomputable def n0 (K : Res → O) := ent 0 [.i, .l] [.i, .z] [0, 3, 1, 2] (fun x3 x6 x4 x5 => ⟨mkT 44 [(1, one (.bp 1000 0)), (3, oI x3), (4, one (.ow 9192)), (5, oI x4)], [(9192, ⟨[.int .i64], .ints x5, true, 0, none⟩)], [(1000, [.tr 0 1 e_1 (.cells x6)])]⟩) fun x3 x6 k => l0 x3 x6 (fun y2 => k (o0 x3 x6 y2)) (fun r1 => K (m [] r1))
noncomputable def X (K : Res → O) : Ctx := { cx0 [spec_l1In.con, spec_l9Node.con] fi true K with cin := [(0, ⟨[1, 3, 4, 5], [(9192, 9192), (23576, 9192)], [1000], [], [], []⟩)], cout := [(0, ⟨[3, 4], [(9192, 9192)], [], [], [], []⟩)], lp := lpOf [n0 K] }
noncomputable def b (a1 : List (List Cl)) (R : Bool → O) : O :=
 spec_l1In.g (a1.length : Int) 1 60 fun r2 =>
 bif !r2 then R false
 else (l0 (a1.length : Int) a1 (fun y9 =>
 bif decide (0 ≤ IntKind.i64.wrap ((a1.length : Int) - 1)) && decide (IntKind.i64.wrap ((a1.length : Int) - 1) < (y9.length : Int)) then R (y9.getD ((IntKind.i64.wrap ((a1.length : Int) - 1)).toNat) 0 == (a1.length : Int))
 else none) R fuel 0 ([] : List Int))
noncomputable def g := seal_ b
theorem e : g = b := seal_eq b
noncomputable def a : Fn [.l] St := fun a1 => argSt [.v ⟨true, [.tr 0 1 e_1 (.cells a1)]⟩] [] []
noncomputable def con := conOf 9 [.l] [.b] a g m
theorem hx (K : Res → O) : CtxOk Pg Γ0 byt0 eqs0 (X K) [spec_l1In.con, spec_l9Node.con] := ctx_of (X := X) (.cons spec_l1In.ok (.cons spec_l9Node.ok .nil)) (by kernel_rfl) K
theorem w0 (K : Res → O) : LpSound Pg (X K) 0 b0 := lp_fin (L := [n0 K]) laid (hx K) .nil (.cons (ent_ok (fun x3 x6 k r => l0s x3 x6 r (fun y2 => k (o0 x3 x6 y2)) (fun r1 => K (m [] r1))) (by kernel_rfl) (by kernel_rfl) (by kernel_rfl) (by kernel_rfl) (by kernel_rfl)) .nil) (by kernel_rfl) (by kernel_rfl)
theorem ok : Con Pg con := con_fin (fn := Tryz.f9) (c := c) (Fi := fi) (X := X) laid hx (fun K => (.cons (w0 K) .nil)) e (by kernel_rfl) (by kernel_rfl) (by kernel_rfl) (by kernel_rfl)
end spec_TreeOk
namespace spec_l9SignToken
noncomputable def c : Code := bodyOf Tryz.f83
noncomputable def fi : Fin := ⟨Γ0, [(.cell 2 55, 55)], [[1, 1]], [], [], []⟩
noncomputable def m : Fn [.i] (Fn [.i] Res) := fun a1 r1 => ⟨[⟨true, [cI r1, cI a1]⟩], [], [], [], []⟩
noncomputable def X (K : Res → O) : Ctx := cx0 [] fi true K
noncomputable def b (a1 : Int) (R : Int → O) : O :=
 R 3
noncomputable def g := seal_ b
theorem e : g = b := seal_eq b
noncomputable def a : Fn [.i] St := fun a1 => argSt [oI a1] [] []
noncomputable def con := conOf 83 [.i] [.i] a g m
theorem ok : Con Pg con := con_fin (fn := Tryz.f83) (c := c) (Fi := fi) (X := X) laid (ctx_of .nil (by kernel_rfl)) (fun K => .nil) e (by kernel_rfl) (by kernel_rfl) (by kernel_rfl) (by kernel_rfl)
end spec_l9SignToken
namespace spec_l9FunTokens
noncomputable def c : Code := bodyOf Tryz.f44
noncomputable def fi : Fin := ⟨Γ0, [(.tmp 2, 30)], [[1]], [], [], []⟩
noncomputable def m : Fn [.i, .i, .i] (Fn [.l] Res) := fun _ _ _ r1 => ⟨[⟨false, [.ow 1000]⟩], [], [⟨e_0, .cells r1, true, 0, none⟩], [], []⟩
noncomputable def X (K : Res → O) : Ctx := cx0 [spec_l9SignToken.con] fi true K
noncomputable def b (a1 a2 a3 : Int) (R : List (List Cl) → O) : O :=
 bif (a2 == 111) then (spec_l9SignToken.g 111 fun r4 =>
  spec_l9SignToken.g a1 fun r5 =>
  R ([[.i r4, .i 111], [.i r5, .i a1]] : List (List Cl)))
 else bif (a2 == 47) then (spec_l9SignToken.g a1 fun r6 =>
  spec_l9SignToken.g a2 fun r7 =>
  R ([[.i r6, .i a1], [.i r7, .i a2]] : List (List Cl)))
 else bif (a2 == 92) then (spec_l9SignToken.g a1 fun r8 =>
  spec_l9SignToken.g a2 fun r9 =>
  R ([[.i r8, .i a1], [.i r9, .i a2]] : List (List Cl)))
 else bif (a2 == 46) then (spec_l9SignToken.g a1 fun r10 =>
  spec_l9SignToken.g 46 fun r11 =>
  spec_l9SignToken.g a3 fun r12 =>
  R ([[.i r10, .i a1], [.i r11, .i 46], [.i r12, .i a3]] : List (List Cl)))
 else (spec_l9SignToken.g a1 fun r13 =>
 R ([[.i r13, .i a1]] : List (List Cl)))
noncomputable def g := seal_ b
theorem e : g = b := seal_eq b
noncomputable def a : Fn [.i, .i, .i] St := fun a1 a2 a3 => argSt [.v ⟨true, [cI a1, cI a2, cI a3]⟩] [] []
noncomputable def con := conOf 44 [.i, .i, .i] [.l] a g m
theorem ok : Con Pg con := con_fin (fn := Tryz.f44) (c := c) (Fi := fi) (X := X) laid (ctx_of (.cons spec_l9SignToken.ok .nil) (by kernel_rfl)) (fun K => .nil) e (by kernel_rfl) (by kernel_rfl) (by kernel_rfl) (by kernel_rfl)
end spec_l9FunTokens
-- GROUP spec_l9Tokens
namespace spec_l9Tokens
noncomputable def c : Code := bodyOf Tryz.f20
noncomputable def fi : Fin := ⟨Γ0, [(.tmp 4, 30)], [[1]], [], [], []⟩
noncomputable def m : Fn [.l, .i] (Fn [.l] Res) := fun _ _ r1 => ⟨[⟨false, [.ow 1000]⟩], [], [⟨e_0, .cells r1, true, 0, none⟩], [], []⟩
noncomputable def b1 : Code := codeAt c [1, 1, 1, 0, 1, 0, 1, 0, 1, 0, 0]
noncomputable abbrev T : Type := List (List Cl) → Int → (List (List Cl) → O) → O
noncomputable def a : Fn [.l, .i] St := fun a1 a2 => argSt [.v ⟨true, [.tr 0 1 e_1 (.cells a1)]⟩, oI a2] [] []
noncomputable def conz (h : T) := conOf 20 [.l, .i] [.l] a h m
end spec_l9Tokens
noncomputable abbrev Z_spec_l9Tokens : Type := spec_l9Tokens.T
noncomputable def Gd_spec_l9Tokens (z : Z_spec_l9Tokens) : Prop := Con Pg (spec_l9Tokens.conz z)
namespace spec_l9Tokens
noncomputable def l1s (x5 x6 x7 x8 x9 x10 : Int) (x11 : List Int) (rec : Int → List (List Cl) → O) (k : List (List Cl) → O) (x3 : Int) (x4 : List (List Cl)) : O :=
 bif decide (x3 < (x11.length : Int)) then (bif decide (0 ≤ x3) && decide (x3 < (x11.length : Int)) then (bif decide ((x4.length + 1) * 16 ≤ 140737488355328) then rec (IntKind.i64.wrap (x3 + 1)) (x4 ++ ([[.i 1, .i (x11.getD x3.toNat 0)]] : List (List Cl)))
  else none)
  else none)
 else k x4
noncomputable def l1 (x5 x6 x7 x8 x9 x10 : Int) (x11 : List Int) (k : List (List Cl) → O) : Nat → Int → List (List Cl) → O
 | 0, _, _ => none
 | n + 1, x3, x4 => l1s x5 x6 x7 x8 x9 x10 x11 (l1 x5 x6 x7 x8 x9 x10 x11 k n) k x3 x4
noncomputable def o1 : Fn [.i, .i, .i, .i, .i, .i, .z, .l] St := fun _ _ _ _ _ _ _ y1 => ⟨mkT 109 [(6, one (.ow 5096))], [(5096, ⟨e_0, .cells y1, true, 0, none⟩)], []⟩
noncomputable def n1 (K : Res → O) := ent 1 [.i, .i, .i, .i, .i, .i, .z] [.i, .l] [2, 3, 4, 5, 6, 7, 8, 0, 1] (fun x5 x6 x7 x8 x9 x10 x11 x3 x4 => ⟨mkT 109 [(5, one (.bp 3128 0)), (6, one (.ow 5096)), (7, oI x3)], [(5096, ⟨e_0, .cells x4, true, 0, none⟩)], [(3128, [cI x5, cI x6, cI x7, cI x8, cI x9, cI x10, .tr 1 2 [.int .i64] (.ints x11)])]⟩) fun x5 x6 x7 x8 x9 x10 x11 k => l1 x5 x6 x7 x8 x9 x10 x11 (fun y1 => k (o1 x5 x6 x7 x8 x9 x10 x11 y1))
noncomputable def X (z : Z_spec_l9Tokens) (K : Res → O) : Ctx := { cx0 [spec_l9Tokens.conz z, spec_l9FunTokens.con] fi true K with cin := [(1, ⟨[5, 6, 7], [(5096, 5096), (17512, 5096)], [3128], [], [], []⟩)], cout := [(1, ⟨[6], [(5096, 5096)], [], [], [], []⟩)], lp := lpOf [n1 K] }
noncomputable def g (z : Z_spec_l9Tokens) (a1 : List (List Cl)) (a2 : Int) (R : List (List Cl) → O) : O :=
 bif decide (0 ≤ a2) && decide (a2 < (a1.length : Int)) then (bif (((a1.getD a2.toNat []).getD 0 (.i 0)).toI == 1) then (l1 (((a1.getD a2.toNat []).getD 0 (.i 0)).toI) (((a1.getD a2.toNat []).getD 1 (.i 0)).toI) (((a1.getD a2.toNat []).getD 2 (.i 0)).toI) (((a1.getD a2.toNat []).getD 3 (.i 0)).toI) (((a1.getD a2.toNat []).getD 4 (.i 0)).toI) (((a1.getD a2.toNat []).getD 5 (.i 0)).toI) (((a1.getD a2.toNat []).getD 6 (.i 0)).toL) (fun y12 =>
  R y12) fuel 0 ([] : List (List Cl)))
  else bif (((a1.getD a2.toNat []).getD 0 (.i 0)).toI == 2) then R (([] : List (List Cl)) ++ ([[.i 2, .i (((a1.getD a2.toNat []).getD 1 (.i 0)).toI)]] : List (List Cl)))
  else bif (((a1.getD a2.toNat []).getD 0 (.i 0)).toI == 3) then (z a1 (((a1.getD a2.toNat []).getD 2 (.i 0)).toI) fun r13 =>
   bif decide ((2 + r13.length) * 16 ≤ 140737488355328) then R ((([] : List (List Cl)) ++ ([[.i 2, .i (((a1.getD a2.toNat []).getD 1 (.i 0)).toI)], [.i 6, .i 0]] : List (List Cl))) ++ r13)
   else none)
  else bif (((a1.getD a2.toNat []).getD 0 (.i 0)).toI == 4) then (spec_l9FunTokens.g (((a1.getD a2.toNat []).getD 3 (.i 0)).toI) (((a1.getD a2.toNat []).getD 4 (.i 0)).toI) (((a1.getD a2.toNat []).getD 5 (.i 0)).toI) fun r14 =>
   z a1 (((a1.getD a2.toNat []).getD 2 (.i 0)).toI) fun r15 =>
   bif decide ((r14.length + r15.length) * 16 ≤ 140737488355328) then R (r14 ++ r15)
   else none)
  else bif (((a1.getD a2.toNat []).getD 0 (.i 0)).toI == 5) then (z a1 (((a1.getD a2.toNat []).getD 1 (.i 0)).toI) fun r16 =>
   bif decide (0 ≤ ((a1.getD a2.toNat []).getD 1 (.i 0)).toI) && decide (((a1.getD a2.toNat []).getD 1 (.i 0)).toI < (a1.length : Int)) then (bif (((a1.getD ((((a1.getD a2.toNat []).getD 1 (.i 0)).toI).toNat) []).getD 0 (.i 0)).toI != 1) then (bif decide (0 ≤ ((a1.getD a2.toNat []).getD 1 (.i 0)).toI) && decide (((a1.getD a2.toNat []).getD 1 (.i 0)).toI < (a1.length : Int)) then (bif (((a1.getD ((((a1.getD a2.toNat []).getD 1 (.i 0)).toI).toNat) []).getD 0 (.i 0)).toI != 2) then (bif decide ((1 + r16.length) * 16 ≤ 140737488355328) then (bif decide (((([[.i 4, .i 0]] : List (List Cl)) ++ r16).length + 1) * 16 ≤ 140737488355328) then (spec_l9FunTokens.g (((a1.getD a2.toNat []).getD 3 (.i 0)).toI) (((a1.getD a2.toNat []).getD 4 (.i 0)).toI) (((a1.getD a2.toNat []).getD 5 (.i 0)).toI) fun r17 =>
    bif decide ((((([[.i 4, .i 0]] : List (List Cl)) ++ r16) ++ ([[.i 5, .i 0]] : List (List Cl))).length + r17.length) * 16 ≤ 140737488355328) then (z a1 (((a1.getD a2.toNat []).getD 2 (.i 0)).toI) fun r18 =>
     bif decide (((((([[.i 4, .i 0]] : List (List Cl)) ++ r16) ++ ([[.i 5, .i 0]] : List (List Cl))) ++ r17).length + r18.length) * 16 ≤ 140737488355328) then R ((((([[.i 4, .i 0]] : List (List Cl)) ++ r16) ++ ([[.i 5, .i 0]] : List (List Cl))) ++ r17) ++ r18)
     else none)
    else none)
    else none)
    else none)
    else (spec_l9FunTokens.g (((a1.getD a2.toNat []).getD 3 (.i 0)).toI) (((a1.getD a2.toNat []).getD 4 (.i 0)).toI) (((a1.getD a2.toNat []).getD 5 (.i 0)).toI) fun r19 =>
    bif decide ((r16.length + r19.length) * 16 ≤ 140737488355328) then (z a1 (((a1.getD a2.toNat []).getD 2 (.i 0)).toI) fun r20 =>
     bif decide (((r16 ++ r19).length + r20.length) * 16 ≤ 140737488355328) then R ((r16 ++ r19) ++ r20)
     else none)
    else none))
    else none)
    else (spec_l9FunTokens.g (((a1.getD a2.toNat []).getD 3 (.i 0)).toI) (((a1.getD a2.toNat []).getD 4 (.i 0)).toI) (((a1.getD a2.toNat []).getD 5 (.i 0)).toI) fun r21 =>
    bif decide ((r16.length + r21.length) * 16 ≤ 140737488355328) then (z a1 (((a1.getD a2.toNat []).getD 2 (.i 0)).toI) fun r22 =>
     bif decide (((r16 ++ r21).length + r22.length) * 16 ≤ 140737488355328) then R ((r16 ++ r21) ++ r22)
     else none)
    else none))
   else none)
  else R ([] : List (List Cl)))
 else none
theorem hx (z : Z_spec_l9Tokens) (hz : Gd_spec_l9Tokens z) (K : Res → O) : CtxOk Pg Γ0 byt0 eqs0 ((X z) K) [spec_l9Tokens.conz z, spec_l9FunTokens.con] := ctx_of (X := (X z)) (.cons hz (.cons spec_l9FunTokens.ok .nil)) (by kernel_rfl) K
theorem w1 (z : Z_spec_l9Tokens) (hz : Gd_spec_l9Tokens z) (K : Res → O) : LpSound Pg ((X z) K) 1 b1 := lp_fin (L := [n1 K]) laid ((hx z hz) K) .nil (.cons (ent_ok (fun x5 x6 x7 x8 x9 x10 x11 k r => l1s x5 x6 x7 x8 x9 x10 x11 r (fun y1 => k (o1 x5 x6 x7 x8 x9 x10 x11 y1))) (by kernel_rfl) (by kernel_rfl) (by kernel_rfl) (by kernel_rfl) (by kernel_rfl)) .nil) (by kernel_rfl) (by kernel_rfl)
theorem ok (z : Z_spec_l9Tokens) (hz : Gd_spec_l9Tokens z) : Con Pg (conz (g z)) := con_fin (fn := Tryz.f20) (c := c) (Fi := fi) (X := (X z)) laid (hx z hz) (fun K => (.cons ((w1 z hz) K) .nil)) rfl (by kernel_rfl) (by kernel_rfl) (by kernel_rfl) (by kernel_rfl)
end spec_l9Tokens
noncomputable def rec_spec_l9Tokens : Nat → Z_spec_l9Tokens
 | 0 => (fun _ _ _ => none)
 | n + 1 => spec_l9Tokens.g (rec_spec_l9Tokens n)
theorem good_spec_l9Tokens : ∀ n, Gd_spec_l9Tokens (rec_spec_l9Tokens n)
 | 0 => con_cst rfl
 | n + 1 => spec_l9Tokens.ok _ (good_spec_l9Tokens n)
namespace spec_l9Tokens
noncomputable def gn (n : Nat) (a1 : List (List Cl)) (a2 : Int) (R : List (List Cl) → O) : O := (rec_spec_l9Tokens n) a1 a2 R
noncomputable def G : T := seal_ (gn fuel)
theorem Ge : G = gn fuel := seal_eq _
theorem gn_succ (n : Nat) (a1 : List (List Cl)) (a2 : Int) (R : List (List Cl) → O) : gn (n + 1) a1 a2 R = g (rec_spec_l9Tokens n) a1 a2 R := rfl
noncomputable def con := conz G
theorem okG : Con Pg con := by
 unfold con; rw [Ge]; exact (good_spec_l9Tokens fuel)
end spec_l9Tokens
-- END GROUP
namespace spec_l8One
noncomputable def c : Code := bodyOf Tryz.f43
noncomputable def fi : Fin := ⟨Γ0, [(.tmp 2, 9)], [[1]], [], [], []⟩
noncomputable def m : Fn [.i, .i] (Fn [.s] Res) := fun _ _ r1 => ⟨[⟨false, [.str r1]⟩], [], [], [], []⟩
noncomputable def X (K : Res → O) : Ctx := cx0 [spec_l8Digits.con] fi true K
noncomputable def b (a1 a2 : Int) (R : ByteArray → O) : O :=
 bif (a1 == 1) then (spec_l8Digits.G a2 fun r3 =>
  R r3)
 else bif (a1 == 2) then R (strOf ([IntKind.u8.wrap (IntKind.i64.wrap (65 + a2))] : List Int))
 else bif (a1 == 3) then R (strOf ([IntKind.u8.wrap a2] : List Int))
 else bif (a1 == 4) then R (⟨#[40]⟩ : ByteArray)
 else bif (a1 == 5) then R (⟨#[41]⟩ : ByteArray)
 else R (⟨#[58]⟩ : ByteArray)
noncomputable def g := seal_ b
theorem e : g = b := seal_eq b
noncomputable def a : Fn [.i, .i] St := fun a1 a2 => argSt [.v ⟨true, [cI a1, cI a2]⟩] [] []
noncomputable def con := conOf 43 [.i, .i] [.s] a g m
theorem ok : Con Pg con := con_fin (fn := Tryz.f43) (c := c) (Fi := fi) (X := X) laid (ctx_of (.cons spec_l8Digits.okG .nil) (by kernel_rfl)) (fun K => .nil) e (by kernel_rfl) (by kernel_rfl) (by kernel_rfl) (by kernel_rfl)
end spec_l8One
namespace spec_TokenText
noncomputable def c : Code := bodyOf Tryz.f19
noncomputable def fi : Fin := ⟨Γ0, [(.tmp 2, 9)], [[1]], [], [], []⟩
noncomputable def m : Fn [.l] (Fn [.s] Res) := fun _ r1 => ⟨[⟨false, [.str r1]⟩], [], [], [], []⟩
noncomputable def b0 : Code := codeAt c [1, 1, 1, 0, 1, 0, 0]
noncomputable def l0s (x3 : List (List Cl)) (rec : ByteArray → Int → O) (k : ByteArray → O) (x4 : ByteArray) (x5 : Int) : O :=
 bif decide (x5 < (x3.length : Int)) then (bif decide (0 < x5) then (bif decide (x4.size + 1 ≤ 9223372036854775807) then (bif decide (0 ≤ x5) && decide (x5 < (x3.length : Int)) then (spec_l8One.g (((x3.getD x5.toNat []).getD 0 (.i 0)).toI) (((x3.getD x5.toNat []).getD 1 (.i 0)).toI) fun r6 =>
  bif decide ((x4 ++ (⟨#[32]⟩ : ByteArray)).size + r6.size ≤ 9223372036854775807) then rec ((x4 ++ (⟨#[32]⟩ : ByteArray)) ++ r6) (IntKind.i64.wrap (x5 + 1))
  else none)
  else none)
  else none)
  else bif decide (0 ≤ x5) && decide (x5 < (x3.length : Int)) then (spec_l8One.g (((x3.getD x5.toNat []).getD 0 (.i 0)).toI) (((x3.getD x5.toNat []).getD 1 (.i 0)).toI) fun r7 =>
   bif decide (x4.size + r7.size ≤ 9223372036854775807) then rec (x4 ++ r7) (IntKind.i64.wrap (x5 + 1))
   else none)
  else none)
 else k x4
noncomputable def l0 (x3 : List (List Cl)) (k : ByteArray → O) : Nat → ByteArray → Int → O
 | 0, _, _ => none
 | n + 1, x4, x5 => l0s x3 (l0 x3 k n) k x4 x5
noncomputable def o0 : Fn [.l, .s] St := fun _ y1 => ⟨mkT 27 [(3, one (.str y1))], [], []⟩
noncomputable def n0 (K : Res → O) := ent 0 [.l] [.s, .i] [0, 1, 2] (fun x3 x4 x5 => ⟨mkT 27 [(0, one (.tr 0 1 e_0 (.cells x3))), (3, one (.str x4)), (4, oI x5)], [], []⟩) fun x3 k => l0 x3 (fun y1 => k (o0 x3 y1))
noncomputable def X (K : Res → O) : Ctx := { cx0 [spec_l8Tokens.con, spec_l8One.con] fi true K with cin := [(0, ⟨[0, 3, 4], [], [], [], [], []⟩)], cout := [(0, ⟨[3], [], [], [], [], []⟩)], lp := lpOf [n0 K] }
noncomputable def b (a1 : List (List Cl)) (R : ByteArray → O) : O :=
 spec_l8Tokens.g a1 fun r2 =>
 bif !r2 then R (⟨#[]⟩ : ByteArray)
 else (l0 a1 (fun y8 =>
 R y8) fuel (⟨#[]⟩ : ByteArray) 0)
noncomputable def g := seal_ b
theorem e : g = b := seal_eq b
noncomputable def a : Fn [.l] St := fun a1 => argSt [one (.tr 0 1 e_0 (.cells a1))] [] []
noncomputable def con := conOf 19 [.l] [.s] a g m
theorem hx (K : Res → O) : CtxOk Pg Γ0 byt0 eqs0 (X K) [spec_l8Tokens.con, spec_l8One.con] := ctx_of (X := X) (.cons spec_l8Tokens.ok (.cons spec_l8One.ok .nil)) (by kernel_rfl) K
theorem w0 (K : Res → O) : LpSound Pg (X K) 0 b0 := lp_fin (L := [n0 K]) laid (hx K) .nil (.cons (ent_ok (fun x3 k r => l0s x3 r (fun y1 => k (o0 x3 y1))) (by kernel_rfl) (by kernel_rfl) (by kernel_rfl) (by kernel_rfl) (by kernel_rfl)) .nil) (by kernel_rfl) (by kernel_rfl)
theorem ok : Con Pg con := con_fin (fn := Tryz.f19) (c := c) (Fi := fi) (X := X) laid hx (fun K => (.cons (w0 K) .nil)) e (by kernel_rfl) (by kernel_rfl) (by kernel_rfl) (by kernel_rfl)
end spec_TokenText
namespace spec_TreeText
noncomputable def c : Code := bodyOf Tryz.f7
noncomputable def fi : Fin := ⟨Γ0, [(.tmp 2, 9)], [[1]], [], [], []⟩
noncomputable def m : Fn [.l] (Fn [.s] Res) := fun _ r1 => ⟨[⟨false, [.str r1]⟩], [], [], [], []⟩
noncomputable def X (K : Res → O) : Ctx := cx0 [spec_TreeOk.con, spec_l9Tokens.con, spec_TokenText.con] fi true K
noncomputable def b (a1 : List (List Cl)) (R : ByteArray → O) : O :=
 spec_TreeOk.g a1 fun r2 =>
 bif !r2 then R (⟨#[]⟩ : ByteArray)
 else (spec_l9Tokens.G a1 (IntKind.i64.wrap ((a1.length : Int) - 1)) fun r3 =>
 spec_TokenText.g r3 fun r4 =>
 R r4)
noncomputable def g := seal_ b
theorem e : g = b := seal_eq b
noncomputable def a : Fn [.l] St := fun a1 => argSt [.v ⟨true, [.tr 0 1 e_1 (.cells a1)]⟩] [] []
noncomputable def con := conOf 7 [.l] [.s] a g m
theorem ok : Con Pg con := con_fin (fn := Tryz.f7) (c := c) (Fi := fi) (X := X) laid (ctx_of (.cons spec_TreeOk.ok (.cons spec_l9Tokens.okG (.cons spec_TokenText.ok .nil))) (by kernel_rfl)) (fun K => .nil) e (by kernel_rfl) (by kernel_rfl) (by kernel_rfl) (by kernel_rfl)
end spec_TreeText
namespace impl_isDigit
noncomputable def c : Code := bodyOf Tryz.f52
noncomputable def fi : Fin := ⟨Γ0, [(.tmp 2, 4)], [[1]], [], [], []⟩
noncomputable def m : Fn [.i] (Fn [.b] Res) := fun _ r1 => ⟨[⟨false, [.bool r1]⟩], [], [], [], []⟩
noncomputable def X (K : Res → O) : Ctx := cx0 [] fi true K
noncomputable def b (a1 : Int) (R : Bool → O) : O :=
 bif decide (48 ≤ a1) then R (decide (a1 ≤ 57))
 else R false
noncomputable def g := seal_ b
theorem e : g = b := seal_eq b
noncomputable def a : Fn [.i] St := fun a1 => argSt [one (.int .u8 a1)] [] []
noncomputable def con := conOf 52 [.i] [.b] a g m
theorem ok : Con Pg con := con_fin (fn := Tryz.f52) (c := c) (Fi := fi) (X := X) laid (ctx_of .nil (by kernel_rfl)) (fun K => .nil) e (by kernel_rfl) (by kernel_rfl) (by kernel_rfl) (by kernel_rfl)
end impl_isDigit
namespace impl_lexNum
noncomputable def c : Code := bodyOf Tryz.f53
noncomputable def fi : Fin := ⟨Γ0, [(.cell 4 55, 55), (.tmp 5, 3), (.tmp 6, 3)], [[1, 1], [1], [1]], [], [], []⟩
noncomputable def m : Fn [.s, .i] (Fn [.i, .i, .i, .i] Res) := fun _ _ r1 r2 r3 r4 => ⟨[⟨true, [cI r1, cI r2]⟩, ⟨false, [cI r3]⟩, ⟨false, [cI r4]⟩], [], [], [], []⟩
noncomputable def b0 : Code := codeAt c [1, 1, 1, 1, 1, 0, 0, 0]
noncomputable def l0s (x3 : ByteArray) (x4 x5 x8 x9 : Int) (rec : Int → Int → O) (k : Int → Int → O) (x6 x7 : Int) : O :=
 bif decide (x6 < (x3.size : Int)) then (bif decide (0 ≤ x6) && decide (x6 < (x3.size : Int)) then (impl_isDigit.g ((bytesOf x3).getD x6.toNat 0) fun r10 =>
  bif r10 then (bif decide (0 ≤ x6) && decide (x6 < (x3.size : Int)) then rec (IntKind.i64.wrap (x6 + 1)) (minmax false (IntKind.i64.wrap ((IntKind.i64.wrap (10 * x7)) + (IntKind.i64.wrap (IntKind.u8.wrap (((bytesOf x3).getD x6.toNat 0) - 48))))) 1000000000001)
   else none)
  else k x6 x7)
  else none)
 else k x6 x7
noncomputable def l0 (x3 : ByteArray) (x4 x5 x8 x9 : Int) (k : Int → Int → O) : Nat → Int → Int → O
 | 0, _, _ => none
 | n + 1, x6, x7 => l0s x3 x4 x5 x8 x9 (l0 x3 x4 x5 x8 x9 k n) k x6 x7
noncomputable def o0 : Fn [.s, .i, .i, .i, .i, .i, .i] St := fun _ x4 x5 x8 x9 y3 y4 => ⟨mkT 59 [(1, oI x4), (4, one (.bp 1000 0)), (7, oI x5), (8, oI y3), (9, oI y4)], [], [(1000, [cI x8, cI x9])]⟩
noncomputable def n0 (K : Res → O) := ent 0 [.s, .i, .i, .i, .i] [.i, .i] [0, 1, 2, 5, 6, 3, 4] (fun x3 x4 x5 x8 x9 x6 x7 => ⟨mkT 59 [(0, one (.str x3)), (1, oI x4), (4, one (.bp 1000 0)), (7, oI x5), (8, oI x6), (9, oI x7)], [], [(1000, [cI x8, cI x9])]⟩) fun x3 x4 x5 x8 x9 k => l0 x3 x4 x5 x8 x9 (fun y3 y4 => k (o0 x3 x4 x5 x8 x9 y3 y4))
noncomputable def X (K : Res → O) : Ctx := { cx0 [impl_isDigit.con] fi true K with cin := [(0, ⟨[0, 1, 4, 7, 8, 9], [], [1000], [], [], []⟩)], cout := [(0, ⟨[1, 4, 7, 8, 9], [], [1000], [], [], []⟩)], lp := lpOf [n0 K] }
noncomputable def b (a1 : ByteArray) (a2 : Int) (R : Int → Int → Int → Int → O) : O :=
 bif decide (0 ≤ a2) && decide (a2 < (a1.size : Int)) then (bif ((bytesOf a1).getD a2.toNat 0 == 95) then (l0 a1 a2 (IntKind.i64.wrap (a2 + 1)) 0 0 (fun y11 y12 =>
  bif (y11 == IntKind.i64.wrap (a2 + 1)) then R 0 0 a2 8
  else bif decide (1000000000000 < y12) then R 0 0 a2 6
  else bif decide (a2 < IntKind.i64.wrap (a2 + 1)) then R 1 (IntKind.i64.wrap (0 - y12)) y11 0
  else R 1 y12 y11 0) fuel (IntKind.i64.wrap (a2 + 1)) 0)
  else (l0 a1 a2 a2 0 0 (fun y13 y14 =>
  bif (y13 == a2) then R 0 0 a2 8
  else bif decide (1000000000000 < y14) then R 0 0 a2 6
  else bif decide (a2 < a2) then R 1 (IntKind.i64.wrap (0 - y14)) y13 0
  else R 1 y14 y13 0) fuel a2 0))
 else none
noncomputable def g := seal_ b
theorem e : g = b := seal_eq b
noncomputable def a : Fn [.s, .i] St := fun a1 a2 => argSt [one (.str a1), oI a2] [] []
noncomputable def con := conOf 53 [.s, .i] [.i, .i, .i, .i] a g m
theorem hx (K : Res → O) : CtxOk Pg Γ0 byt0 eqs0 (X K) [impl_isDigit.con] := ctx_of (X := X) (.cons impl_isDigit.ok .nil) (by kernel_rfl) K
theorem w0 (K : Res → O) : LpSound Pg (X K) 0 b0 := lp_fin (L := [n0 K]) laid (hx K) .nil (.cons (ent_ok (fun x3 x4 x5 x8 x9 k r => l0s x3 x4 x5 x8 x9 r (fun y3 y4 => k (o0 x3 x4 x5 x8 x9 y3 y4))) (by kernel_rfl) (by kernel_rfl) (by kernel_rfl) (by kernel_rfl) (by kernel_rfl)) .nil) (by kernel_rfl) (by kernel_rfl)
theorem ok : Con Pg con := con_fin (fn := Tryz.f53) (c := c) (Fi := fi) (X := X) laid hx (fun K => (.cons (w0 K) .nil)) e (by kernel_rfl) (by kernel_rfl) (by kernel_rfl) (by kernel_rfl)
end impl_lexNum
namespace impl_lexOne
noncomputable def c : Code := bodyOf Tryz.f28
noncomputable def fi : Fin := ⟨Γ0, [(.cell 4 55, 55), (.tmp 5, 3), (.tmp 6, 3)], [[1, 1], [1], [1]], [], [], []⟩
noncomputable def m : Fn [.s, .i] (Fn [.i, .i, .i, .i] Res) := fun _ _ r1 r2 r3 r4 => ⟨[⟨true, [cI r1, cI r2]⟩, ⟨false, [cI r3]⟩, ⟨false, [cI r4]⟩], [], [], [], []⟩
noncomputable def X (K : Res → O) : Ctx := cx0 [impl_isDigit.con, impl_lexNum.con, impl_hasSign.con] fi true K
noncomputable def b (a1 : ByteArray) (a2 : Int) (R : Int → Int → Int → Int → O) : O :=
 bif decide (0 ≤ a2) && decide (a2 < (a1.size : Int)) then (impl_isDigit.g ((bytesOf a1).getD a2.toNat 0) fun r3 =>
  bif r3 then (impl_lexNum.g a1 a2 fun r4 r5 r6 r7 =>
   R r4 r5 r6 r7)
  else bif ((bytesOf a1).getD a2.toNat 0 == 95) then (impl_lexNum.g a1 a2 fun r8 r9 r10 r11 =>
   R r8 r9 r10 r11)
  else bif decide (65 ≤ (bytesOf a1).getD a2.toNat 0) then (bif decide ((bytesOf a1).getD a2.toNat 0 ≤ 90) then R 2 (IntKind.i64.wrap (IntKind.u8.wrap (((bytesOf a1).getD a2.toNat 0) - 65))) (IntKind.i64.wrap (a2 + 1)) 0
   else bif ((bytesOf a1).getD a2.toNat 0 == 40) then R 4 0 (IntKind.i64.wrap (a2 + 1)) 0
   else bif ((bytesOf a1).getD a2.toNat 0 == 41) then R 5 0 (IntKind.i64.wrap (a2 + 1)) 0
   else bif ((bytesOf a1).getD a2.toNat 0 == 58) then R 6 0 (IntKind.i64.wrap (a2 + 1)) 0
   else (impl_hasSign.g (⟨#[43, 45, 42, 37, 124, 38, 94, 61, 60, 62, 126, 105, 35, 44, 116, 100, 114, 122, 64, 63, 103, 36, 101, 47, 92, 46, 111]⟩ : ByteArray) (IntKind.i64.wrap ((bytesOf a1).getD a2.toNat 0)) fun r12 =>
   bif r12 then R 3 (IntKind.i64.wrap ((bytesOf a1).getD a2.toNat 0)) (IntKind.i64.wrap (a2 + 1)) 0
   else R 0 0 a2 8))
  else bif ((bytesOf a1).getD a2.toNat 0 == 40) then R 4 0 (IntKind.i64.wrap (a2 + 1)) 0
  else bif ((bytesOf a1).getD a2.toNat 0 == 41) then R 5 0 (IntKind.i64.wrap (a2 + 1)) 0
  else bif ((bytesOf a1).getD a2.toNat 0 == 58) then R 6 0 (IntKind.i64.wrap (a2 + 1)) 0
  else (impl_hasSign.g (⟨#[43, 45, 42, 37, 124, 38, 94, 61, 60, 62, 126, 105, 35, 44, 116, 100, 114, 122, 64, 63, 103, 36, 101, 47, 92, 46, 111]⟩ : ByteArray) (IntKind.i64.wrap ((bytesOf a1).getD a2.toNat 0)) fun r13 =>
  bif r13 then R 3 (IntKind.i64.wrap ((bytesOf a1).getD a2.toNat 0)) (IntKind.i64.wrap (a2 + 1)) 0
  else R 0 0 a2 8))
 else none
noncomputable def g := seal_ b
theorem e : g = b := seal_eq b
noncomputable def a : Fn [.s, .i] St := fun a1 a2 => argSt [one (.str a1), oI a2] [] []
noncomputable def con := conOf 28 [.s, .i] [.i, .i, .i, .i] a g m
theorem ok : Con Pg con := con_fin (fn := Tryz.f28) (c := c) (Fi := fi) (X := X) laid (ctx_of (.cons impl_isDigit.ok (.cons impl_lexNum.ok (.cons impl_hasSign.ok .nil))) (by kernel_rfl)) (fun K => .nil) e (by kernel_rfl) (by kernel_rfl) (by kernel_rfl) (by kernel_rfl)
end impl_lexOne
namespace impl_Lex
noncomputable def c : Code := bodyOf Tryz.f10
noncomputable def fi : Fin := ⟨Γ0, [(.tmp 2, 30), (.tmp 3, 3), (.tmp 4, 3)], [[1], [1], [1]], [], [], []⟩
noncomputable def m : Fn [.s] (Fn [.l, .i, .i] Res) := fun _ r1 r2 r3 => ⟨[⟨false, [.ow 1000]⟩, ⟨false, [cI r2]⟩, ⟨false, [cI r3]⟩], [], [⟨e_0, .cells r1, true, 0, none⟩], [], []⟩
noncomputable def b0 : Code := codeAt c [1, 1, 1, 0, 1, 0, 0]
noncomputable def l0s (x2 : ByteArray) (rec : Int → List (List Cl) → O) (k : List (List Cl) → O) (R : List (List Cl) → Int → Int → O) (x3 : Int) (x4 : List (List Cl)) : O :=
 bif decide (x3 < (x2.size : Int)) then (bif decide (0 ≤ x3) && decide (x3 < (x2.size : Int)) then (bif ((bytesOf x2).getD x3.toNat 0 == 32) then rec (IntKind.i64.wrap (x3 + 1)) x4
  else (impl_lexOne.g x2 x3 fun r5 r6 r7 r8 =>
  bif (r8 != 0) then R ([] : List (List Cl)) r8 x3
  else bif decide ((x4.length + 1) * 16 ≤ 140737488355328) then rec r7 (x4 ++ ([[.i r5, .i r6]] : List (List Cl)))
  else none))
  else none)
 else k x4
noncomputable def l0 (x2 : ByteArray) (k : List (List Cl) → O) (R : List (List Cl) → Int → Int → O) : Nat → Int → List (List Cl) → O
 | 0, _, _ => none
 | n + 1, x3, x4 => l0s x2 (l0 x2 k R n) k R x3 x4
noncomputable def o0 : Fn [.s, .l] St := fun x2 y2 => ⟨mkT 42 [(0, one (.str x2)), (5, one (.ow 7152))], [(7152, ⟨e_0, .cells y2, true, 0, none⟩)], []⟩
noncomputable def n0 (K : Res → O) := ent 0 [.s] [.i, .l] [0, 1, 2] (fun x2 x3 x4 => ⟨mkT 42 [(0, one (.str x2)), (5, one (.ow 7152)), (6, oI x3)], [(7152, ⟨e_0, .cells x4, true, 0, none⟩)], []⟩) fun x2 k => l0 x2 (fun y2 => k (o0 x2 y2)) (fun r1 r2 r3 => K (m ByteArray.empty r1 r2 r3))
noncomputable def X (K : Res → O) : Ctx := { cx0 [impl_lexOne.con] fi true K with own := [(3, 0, 0, e_0)], cin := [(0, ⟨[0, 5, 6], [(7152, 7152), (23576, 7152)], [], [], [], []⟩)], cout := [(0, ⟨[0, 5], [(7152, 7152)], [], [], [], []⟩)], lp := lpOf [n0 K] }
noncomputable def b (a1 : ByteArray) (R : List (List Cl) → Int → Int → O) : O :=
 bif decide (300 < (a1.size : Int)) then R ([] : List (List Cl)) 6 0
 else (l0 a1 (fun y9 =>
 R y9 0 (a1.size : Int)) R fuel 0 ([] : List (List Cl)))
noncomputable def g := seal_ b
theorem e : g = b := seal_eq b
noncomputable def a : Fn [.s] St := fun a1 => argSt [one (.str a1)] [] []
noncomputable def con := conOf 10 [.s] [.l, .i, .i] a g m
theorem hx (K : Res → O) : CtxOk Pg Γ0 byt0 eqs0 (X K) [impl_lexOne.con] := ctx_of (X := X) (.cons impl_lexOne.ok .nil) (by kernel_rfl) K
theorem w0 (K : Res → O) : LpSound Pg (X K) 0 b0 := lp_fin (L := [n0 K]) laid (hx K) .nil (.cons (ent_ok (fun x2 k r => l0s x2 r (fun y2 => k (o0 x2 y2)) (fun r1 r2 r3 => K (m ByteArray.empty r1 r2 r3))) (by kernel_rfl) (by kernel_rfl) (by kernel_rfl) (by kernel_rfl) (by kernel_rfl)) .nil) (by kernel_rfl) (by kernel_rfl)
theorem ok : Con Pg con := con_fin (fn := Tryz.f10) (c := c) (Fi := fi) (X := X) laid hx (fun K => (.cons (w0 K) .nil)) e (by kernel_rfl) (by kernel_rfl) (by kernel_rfl) (by kernel_rfl)
end impl_Lex
namespace impl_parser_kind
noncomputable def c : Code := bodyOf Tryz.f58
noncomputable def fi : Fin := ⟨Γ0, [(.tmp 4, 3)], [[1]], [true], [([.sl e_0 16, .int .i64, .sl e_1 72, .bool], [0, 1, 2, 1])], []⟩
noncomputable def m : Fn [.i, .l, .l, .i, .b] (Fn [.i] Res) := fun _ a2 a3 a4 a5 r1 => ⟨[⟨false, [cI r1]⟩], [some ⟨e_1, .cells a2, true, 0, none⟩], [], [[.tr 2 2 e_0 (.cells a3), cI a4, .ow 0, .bool a5]], []⟩
noncomputable def X (K : Res → O) : Ctx := cx0 [] fi true K
noncomputable def b (a1 : Int) (a2 a3 : List (List Cl)) (a4 : Int) (a5 : Bool) (R : Int → O) : O :=
 bif decide ((a3.length : Int) ≤ IntKind.i64.wrap (a4 + a1)) then R 0
 else bif decide (0 ≤ IntKind.i64.wrap (a4 + a1)) && decide (IntKind.i64.wrap (a4 + a1) < (a3.length : Int)) then R (((a3.getD ((IntKind.i64.wrap (a4 + a1)).toNat) []).getD 0 (.i 0)).toI)
 else none
noncomputable def g := seal_ b
theorem e : g = b := seal_eq b
noncomputable def a : Fn [.i, .l, .l, .i, .b] St := fun a1 a2 a3 a4 a5 => argSt [one (.bp 0 0), oI a1] [⟨e_1, .cells a2, true, 0, none⟩] [[.tr 2 2 e_0 (.cells a3), cI a4, .ow 0, .bool a5]]
noncomputable def con := conOf 58 [.i, .l, .l, .i, .b] [.i] a g m
theorem ok : Con Pg con := con_fin (fn := Tryz.f58) (c := c) (Fi := fi) (X := X) laid (ctx_of .nil (by kernel_rfl)) (fun K => .nil) e (by kernel_rfl) (by kernel_rfl) (by kernel_rfl) (by kernel_rfl)
end impl_parser_kind
namespace impl_parser_put_i2
noncomputable def c : Code := bodyOf Tryz.f59
noncomputable def fi : Fin := ⟨Γ0, [(.tmp 4, 3)], [[1]], [false], [([.sl e_0 16, .int .i64, .sl e_1 72, .bool], [0, 1, 1, 1])], []⟩
noncomputable def m : Fn [.i, .i, .i, .i, .i, .i, .l, .l, .i, .b] (Fn [.i, .l] Res) := fun _ _ _ _ _ _ _ a8 a9 a10 r1 r4 => ⟨[⟨false, [cI r1]⟩], [none], [⟨e_1, .cells r4, true, 0, none⟩], [[.tr 2 2 e_0 (.cells a8), cI a9, .ow 1000, .bool a10]], []⟩
noncomputable def X (K : Res → O) : Ctx := cx0 [] fi true K
noncomputable def b (a1 a2 a3 a4 a5 a6 : Int) (a7 a8 : List (List Cl)) (a9 : Int) (a10 : Bool) (R : Int → List (List Cl) → O) : O :=
 bif decide ((a7.length + 1) * 72 ≤ 140737488355328) then R (IntKind.i64.wrap (((a7 ++ ([[.i a1, .i a2, .i a3, .i a4, .i a5, .i a6, .l ([] : List Int)]] : List (List Cl))).length : Int) - 1)) (a7 ++ ([[.i a1, .i a2, .i a3, .i a4, .i a5, .i a6, .l ([] : List Int)]] : List (List Cl)))
 else none
noncomputable def g := seal_ b
theorem e : g = b := seal_eq b
noncomputable def a : Fn [.i, .i, .i, .i, .i, .i, .l, .l, .i, .b] St := fun a1 a2 a3 a4 a5 a6 a7 a8 a9 a10 => argSt [one (.bp 0 0), .v ⟨true, [cI a1, cI a2, cI a3, cI a4, cI a5, cI a6, .nil]⟩] [⟨e_1, .cells a7, true, 0, none⟩] [[.tr 2 2 e_0 (.cells a8), cI a9, .ow 0, .bool a10]]
noncomputable def con := conOf 59 [.i, .i, .i, .i, .i, .i, .l, .l, .i, .b] [.i, .l] a g m
theorem ok : Con Pg con := con_fin (fn := Tryz.f59) (c := c) (Fi := fi) (X := X) laid (ctx_of .nil (by kernel_rfl)) (fun K => .nil) e (by kernel_rfl) (by kernel_rfl) (by kernel_rfl) (by kernel_rfl)
end impl_parser_put_i2
namespace impl_parser_sign
noncomputable def c : Code := bodyOf Tryz.f93
noncomputable def fi : Fin := ⟨Γ0, [(.tmp 4, 3)], [[1]], [true], [([.sl e_0 16, .int .i64, .sl e_1 72, .bool], [0, 1, 2, 1])], []⟩
noncomputable def m : Fn [.i, .l, .l, .i, .b] (Fn [.i] Res) := fun _ a2 a3 a4 a5 r1 => ⟨[⟨false, [cI r1]⟩], [some ⟨e_1, .cells a2, true, 0, none⟩], [], [[.tr 2 2 e_0 (.cells a3), cI a4, .ow 0, .bool a5]], []⟩
noncomputable def X (K : Res → O) : Ctx := cx0 [impl_parser_kind.con] fi true K
noncomputable def b (a1 : Int) (a2 a3 : List (List Cl)) (a4 : Int) (a5 : Bool) (R : Int → O) : O :=
 impl_parser_kind.g a1 a2 a3 a4 a5 fun r6 =>
 bif (r6 != 3) then R 0
 else bif decide (0 ≤ IntKind.i64.wrap (a4 + a1)) && decide (IntKind.i64.wrap (a4 + a1) < (a3.length : Int)) then R (((a3.getD ((IntKind.i64.wrap (a4 + a1)).toNat) []).getD 1 (.i 0)).toI)
 else none
noncomputable def g := seal_ b
theorem e : g = b := seal_eq b
noncomputable def a : Fn [.i, .l, .l, .i, .b] St := fun a1 a2 a3 a4 a5 => argSt [one (.bp 0 0), oI a1] [⟨e_1, .cells a2, true, 0, none⟩] [[.tr 2 2 e_0 (.cells a3), cI a4, .ow 0, .bool a5]]
noncomputable def con := conOf 93 [.i, .l, .l, .i, .b] [.i] a g m
theorem ok : Con Pg con := con_fin (fn := Tryz.f93) (c := c) (Fi := fi) (X := X) laid (ctx_of (.cons impl_parser_kind.ok .nil) (by kernel_rfl)) (fun K => .nil) e (by kernel_rfl) (by kernel_rfl) (by kernel_rfl) (by kernel_rfl)
end impl_parser_sign
namespace impl_parser_function
noncomputable def c : Code := bodyOf Tryz.f60
noncomputable def fi : Fin := ⟨Γ0, [(.cell 2 45, 45)], [[1, 1, 1]], [true], [([.sl e_0 16, .int .i64, .sl e_1 72, .bool], [0, 1, 2, 1])], []⟩
noncomputable def m : Fn [.l, .l, .i, .b] (Fn [.i, .i, .i, .i, .b] Res) := fun a1 a2 _ _ r1 r2 r3 r6 r7 => ⟨[⟨true, [cI r1, cI r2, cI r3]⟩], [some ⟨e_1, .cells a1, true, 0, none⟩], [], [[.tr 2 2 e_0 (.cells a2), cI r6, .ow 0, .bool r7]], []⟩
noncomputable def X (K : Res → O) : Ctx := cx0 [impl_parser_sign.con] fi true K
noncomputable def b (a1 a2 : List (List Cl)) (a3 : Int) (a4 : Bool) (R : Int → Int → Int → Int → Bool → O) : O :=
 impl_parser_sign.g 0 a1 a2 a3 a4 fun r5 =>
 impl_parser_sign.g 1 a1 a2 a3 a4 fun r6 =>
 impl_parser_sign.g 2 a1 a2 a3 a4 fun r7 =>
 bif (r5 == 0) then R r5 0 0 (IntKind.i64.wrap (a3 + 1)) true
 else bif (r5 == 111) then (bif (r6 != 0) then R r6 111 0 (IntKind.i64.wrap (a3 + 2)) a4
  else bif (r6 == 47) then R r5 r6 0 (IntKind.i64.wrap (a3 + 2)) a4
  else bif (r6 == 92) then R r5 r6 0 (IntKind.i64.wrap (a3 + 2)) a4
  else bif (r6 == 46) then (bif (r7 != 0) then R r5 46 r7 (IntKind.i64.wrap (a3 + 3)) a4
   else R r5 0 0 (IntKind.i64.wrap (a3 + 1)) a4)
  else R r5 0 0 (IntKind.i64.wrap (a3 + 1)) a4)
 else bif (r6 == 47) then R r5 r6 0 (IntKind.i64.wrap (a3 + 2)) a4
 else bif (r6 == 92) then R r5 r6 0 (IntKind.i64.wrap (a3 + 2)) a4
 else bif (r6 == 46) then (bif (r7 != 0) then R r5 46 r7 (IntKind.i64.wrap (a3 + 3)) a4
  else R r5 0 0 (IntKind.i64.wrap (a3 + 1)) a4)
 else R r5 0 0 (IntKind.i64.wrap (a3 + 1)) a4
noncomputable def g := seal_ b
theorem e : g = b := seal_eq b
noncomputable def a : Fn [.l, .l, .i, .b] St := fun a1 a2 a3 a4 => argSt [one (.bp 0 0)] [⟨e_1, .cells a1, true, 0, none⟩] [[.tr 2 2 e_0 (.cells a2), cI a3, .ow 0, .bool a4]]
noncomputable def con := conOf 60 [.l, .l, .i, .b] [.i, .i, .i, .i, .b] a g m
theorem ok : Con Pg con := con_fin (fn := Tryz.f60) (c := c) (Fi := fi) (X := X) laid (ctx_of (.cons impl_parser_sign.ok .nil) (by kernel_rfl)) (fun K => .nil) e (by kernel_rfl) (by kernel_rfl) (by kernel_rfl) (by kernel_rfl)
end impl_parser_function
namespace impl_parser_operandEnd
noncomputable def c : Code := bodyOf Tryz.f61
noncomputable def fi : Fin := ⟨Γ0, [(.tmp 2, 3), (.tmp 3, 4)], [[1], [1]], [true], [([.sl e_0 16, .int .i64, .sl e_1 72, .bool], [0, 1, 2, 1])], []⟩
noncomputable def m : Fn [.l, .l, .i, .b] (Fn [.i, .b, .l, .l, .i, .b] Res) := fun _ _ _ _ r1 r2 r3 r4 r5 r6 => ⟨[⟨false, [cI r1]⟩, ⟨false, [.bool r2]⟩], [some ⟨e_1, .cells r3, true, 0, none⟩], [], [[.tr 2 2 e_0 (.cells r4), cI r5, .ow 0, .bool r6]], []⟩
noncomputable def b1 : Code := codeAt c [1, 0, 1, 0, 1, 0, 1, 0, 0, 0]
noncomputable def b3 : Code := codeAt c [1, 0, 1, 0, 1, 1, 1, 1, 1, 0, 1, 1, 0, 0]
noncomputable def l1s (x7 x8 : List (List Cl)) (x9 : Int) (x10 : Bool) (rec : Int → O) (k : Int → O) (x6 : Int) : O :=
 impl_parser_kind.g x6 x7 x8 x9 x10 fun r11 =>
 bif (r11 == 1) then rec (IntKind.i64.wrap (x6 + 1))
 else k x6
noncomputable def l1 (x7 x8 : List (List Cl)) (x9 : Int) (x10 : Bool) (k : Int → O) : Nat → Int → O
 | 0, _ => none
 | n + 1, x6 => l1s x7 x8 x9 x10 (l1 x7 x8 x9 x10 k n) k x6
noncomputable def o1 : Fn [.l, .l, .i, .b, .i] St := fun x7 x8 x9 x10 y1 => ⟨mkT 65 [(0, one (.bp 0 0)), (4, oI y1)], [(0, ⟨e_1, .cells x7, true, 0, none⟩)], [(0, [.tr 2 2 e_0 (.cells x8), cI x9, .ow 0, .bool x10])]⟩
noncomputable def n1 (K : Res → O) := ent 1 [.l, .l, .i, .b] [.i] [1, 2, 3, 4, 0] (fun x7 x8 x9 x10 x6 => ⟨mkT 65 [(0, one (.bp 0 0)), (4, oI x6)], [(0, ⟨e_1, .cells x7, true, 0, none⟩)], [(0, [.tr 2 2 e_0 (.cells x8), cI x9, .ow 0, .bool x10])]⟩) fun x7 x8 x9 x10 k => l1 x7 x8 x9 x10 (fun y1 => k (o1 x7 x8 x9 x10 y1))
noncomputable def l3s (x15 x16 : List (List Cl)) (x17 : Int) (x18 : Bool) (rec : Int → Int → O) (k : O) (R : Int → Bool → List (List Cl) → List (List Cl) → Int → Bool → O) (x13 x14 : Int) : O :=
 bif decide (x14 < (x16.length : Int)) then (bif decide (0 ≤ x14) && decide (x14 < (x16.length : Int)) then (bif (((x16.getD x14.toNat []).getD 0 (.i 0)).toI == 4) then (bif (IntKind.i64.wrap (x13 + 1) == 0) then R (IntKind.i64.wrap (x14 + 1)) true x15 x16 x17 x18
  else rec (IntKind.i64.wrap (x13 + 1)) (IntKind.i64.wrap (x14 + 1)))
  else bif (((x16.getD x14.toNat []).getD 0 (.i 0)).toI == 5) then (bif (IntKind.i64.wrap (x13 - 1) == 0) then R (IntKind.i64.wrap (x14 + 1)) true x15 x16 x17 x18
   else rec (IntKind.i64.wrap (x13 - 1)) (IntKind.i64.wrap (x14 + 1)))
  else bif (x13 == 0) then R (IntKind.i64.wrap (x14 + 1)) true x15 x16 x17 x18
  else rec x13 (IntKind.i64.wrap (x14 + 1)))
  else none)
 else k
noncomputable def l3 (x15 x16 : List (List Cl)) (x17 : Int) (x18 : Bool) (k : O) (R : Int → Bool → List (List Cl) → List (List Cl) → Int → Bool → O) : Nat → Int → Int → O
 | 0, _, _ => none
 | n + 1, x13, x14 => l3s x15 x16 x17 x18 (l3 x15 x16 x17 x18 k R n) k R x13 x14
noncomputable def o3 : Fn [.l, .l, .i, .b] St := fun x15 x16 x17 x18 => ⟨mkT 65 [], [(0, ⟨e_1, .cells x15, true, 0, none⟩)], [(0, [.tr 2 2 e_0 (.cells x16), cI x17, .ow 0, .bool x18])]⟩
noncomputable def n3 (K : Res → O) := ent 3 [.l, .l, .i, .b] [.i, .i] [2, 3, 4, 5, 0, 1] (fun x15 x16 x17 x18 x13 x14 => ⟨mkT 65 [(0, one (.bp 0 0)), (5, oI x13), (6, oI x14)], [(0, ⟨e_1, .cells x15, true, 0, none⟩)], [(0, [.tr 2 2 e_0 (.cells x16), cI x17, .ow 0, .bool x18])]⟩) fun x15 x16 x17 x18 k => l3 x15 x16 x17 x18 (k (o3 x15 x16 x17 x18)) (fun r1 r2 r3 r4 r5 r6 => K (m [] [] (0 : Int) false r1 r2 r3 r4 r5 r6))
noncomputable def X (K : Res → O) : Ctx := { cx0 [impl_parser_kind.con] fi true K with cin := [(1, ⟨[0, 4], [(0, 0)], [0], [], [], []⟩), (3, ⟨[0, 5, 6], [(0, 0)], [0], [], [], []⟩)], cout := [(1, ⟨[0, 4], [(0, 0)], [0], [], [], []⟩), (3, ⟨[], [(0, 0)], [0], [], [], []⟩)], lp := lpOf [n1 K, n3 K] }
noncomputable def b (a1 a2 : List (List Cl)) (a3 : Int) (a4 : Bool) (R : Int → Bool → List (List Cl) → List (List Cl) → Int → Bool → O) : O :=
 impl_parser_kind.g 0 a1 a2 a3 a4 fun r5 =>
 bif (r5 == 1) then (l1 a1 a2 a3 a4 (fun y12 =>
  R (IntKind.i64.wrap (a3 + y12)) true a1 a2 a3 a4) fuel 1)
 else bif (r5 == 2) then R (IntKind.i64.wrap (a3 + 1)) true a1 a2 a3 a4
 else bif (r5 == 4) then (l3 a1 a2 a3 a4 (
  R 0 false a1 a2 a3 a4) R fuel 0 a3)
 else R 0 false a1 a2 a3 a4
noncomputable def g := seal_ b
theorem e : g = b := seal_eq b
noncomputable def a : Fn [.l, .l, .i, .b] St := fun a1 a2 a3 a4 => argSt [one (.bp 0 0)] [⟨e_1, .cells a1, true, 0, none⟩] [[.tr 2 2 e_0 (.cells a2), cI a3, .ow 0, .bool a4]]
noncomputable def con := conOf 61 [.l, .l, .i, .b] [.i, .b, .l, .l, .i, .b] a g m
theorem hx (K : Res → O) : CtxOk Pg Γ0 byt0 eqs0 (X K) [impl_parser_kind.con] := ctx_of (X := X) (.cons impl_parser_kind.ok .nil) (by kernel_rfl) K
theorem w3 (K : Res → O) : LpSound Pg (X K) 3 b3 := lp_fin (L := [n1 K, n3 K]) laid (hx K) .nil (.skip rfl (.cons (ent_ok (fun x15 x16 x17 x18 k r => l3s x15 x16 x17 x18 r (k (o3 x15 x16 x17 x18)) (fun r1 r2 r3 r4 r5 r6 => K (m [] [] (0 : Int) false r1 r2 r3 r4 r5 r6))) (by kernel_rfl) (by kernel_rfl) (by kernel_rfl) (by kernel_rfl) (by kernel_rfl)) .nil)) (by kernel_rfl) (by kernel_rfl)
theorem w1 (K : Res → O) : LpSound Pg (X K) 1 b1 := lp_fin (L := [n1 K, n3 K]) laid (hx K) .nil (.cons (ent_ok (fun x7 x8 x9 x10 k r => l1s x7 x8 x9 x10 r (fun y1 => k (o1 x7 x8 x9 x10 y1))) (by kernel_rfl) (by kernel_rfl) (by kernel_rfl) (by kernel_rfl) (by kernel_rfl)) (.skip rfl .nil)) (by kernel_rfl) (by kernel_rfl)
theorem ok : Con Pg con := con_fin (fn := Tryz.f61) (c := c) (Fi := fi) (X := X) laid hx (fun K => (.cons (w1 K) (.cons (w3 K) .nil))) e (by kernel_rfl) (by kernel_rfl) (by kernel_rfl) (by kernel_rfl)
end impl_parser_operandEnd
namespace impl_parser_put_i3
noncomputable def c : Code := bodyOf Tryz.f59
noncomputable def fi : Fin := ⟨Γ0, [(.tmp 4, 3)], [[1]], [true, false], [([.sl e_0 16, .int .i64, .sl e_1 72, .bool], [0, 1, 1, 1])], []⟩
noncomputable def m : Fn [.i, .i, .i, .i, .i, .i, .z, .l, .l, .i, .b] (Fn [.i, .l] Res) := fun _ _ _ _ _ _ a7 _ a9 a10 a11 r1 r5 => ⟨[⟨false, [cI r1]⟩], [some ⟨[.int .i64], .ints a7, true, 2, none⟩, none], [⟨e_1, .cells r5, true, 0, none⟩], [[.tr 2 2 e_0 (.cells a9), cI a10, .ow 1000, .bool a11]], []⟩
noncomputable def X (K : Res → O) : Ctx := cx0 [] fi true K
noncomputable def b (a1 a2 a3 a4 a5 a6 : Int) (a7 : List Int) (a8 a9 : List (List Cl)) (a10 : Int) (a11 : Bool) (R : Int → List (List Cl) → O) : O :=
 bif decide ((a8.length + 1) * 72 ≤ 140737488355328) then R (IntKind.i64.wrap (((a8 ++ ([[.i a1, .i a2, .i a3, .i a4, .i a5, .i a6, .l a7]] : List (List Cl))).length : Int) - 1)) (a8 ++ ([[.i a1, .i a2, .i a3, .i a4, .i a5, .i a6, .l a7]] : List (List Cl)))
 else none
noncomputable def g := seal_ b
theorem e : g = b := seal_eq b
noncomputable def a : Fn [.i, .i, .i, .i, .i, .i, .z, .l, .l, .i, .b] St := fun a1 a2 a3 a4 a5 a6 a7 a8 a9 a10 a11 => argSt [one (.bp 0 0), .v ⟨true, [cI a1, cI a2, cI a3, cI a4, cI a5, cI a6, .ow 0]⟩] [⟨[.int .i64], .ints a7, true, 0, none⟩, ⟨e_1, .cells a8, true, 0, none⟩] [[.tr 2 2 e_0 (.cells a9), cI a10, .ow 1, .bool a11]]
noncomputable def con := conOf 59 [.i, .i, .i, .i, .i, .i, .z, .l, .l, .i, .b] [.i, .l] a g m
theorem ok : Con Pg con := con_fin (fn := Tryz.f59) (c := c) (Fi := fi) (X := X) laid (ctx_of .nil (by kernel_rfl)) (fun K => .nil) e (by kernel_rfl) (by kernel_rfl) (by kernel_rfl) (by kernel_rfl)
end impl_parser_put_i3
-- GROUP impl_parser_operand impl_parser_line
namespace impl_parser_operand
noncomputable def c : Code := bodyOf Tryz.f62
noncomputable def fi : Fin := ⟨Γ0, [(.tmp 6, 3)], [[1]], [false], [([.sl e_0 16, .int .i64, .sl e_1 72, .bool], [0, 1, 1, 1])], []⟩
noncomputable def m : Fn [.i, .i, .l, .l, .i, .b] (Fn [.i, .l, .i, .l, .b] Res) := fun _ _ _ _ _ _ r1 r2 r3 r4 r5 => ⟨[⟨false, [cI r1]⟩], [none], [⟨e_1, .cells r4, true, 0, none⟩], [[.tr 2 2 e_0 (.cells r2), cI r3, .ow 1000, .bool r5]], []⟩
noncomputable def b1 : Code := codeAt c [1, 1, 0, 1, 0, 1, 1, 1, 0, 1, 0, 1, 0, 0]
noncomputable abbrev T : Type := Int → Int → List (List Cl) → List (List Cl) → Int → Bool → (Int → List (List Cl) → Int → List (List Cl) → Bool → O) → O
noncomputable def a : Fn [.i, .i, .l, .l, .i, .b] St := fun a1 a2 a3 a4 a5 a6 => argSt [one (.bp 0 0), oI a1, oI a2] [⟨e_1, .cells a3, true, 0, none⟩] [[.tr 2 2 e_0 (.cells a4), cI a5, .ow 0, .bool a6]]
noncomputable def conz (h : T) := conOf 62 [.i, .i, .l, .l, .i, .b] [.i, .l, .i, .l, .b] a h m
end impl_parser_operand
namespace impl_parser_line
noncomputable def c : Code := bodyOf Tryz.f30
noncomputable def fi : Fin := ⟨Γ0, [(.tmp 2, 3)], [[1]], [false], [([.sl e_0 16, .int .i64, .sl e_1 72, .bool], [0, 1, 3, 1])], []⟩
noncomputable def m : Fn [.l, .l, .i, .b] (Fn [.i, .l, .i, .l, .b] Res) := fun _ _ _ _ r1 r2 r3 r4 r5 => ⟨[⟨false, [cI r1]⟩], [none], [⟨e_1, .cells r4, true, 0, none⟩], [[.tr 2 2 e_0 (.cells r2), cI r3, .ow 1000, .bool r5]], []⟩
noncomputable abbrev T : Type := List (List Cl) → List (List Cl) → Int → Bool → (Int → List (List Cl) → Int → List (List Cl) → Bool → O) → O
noncomputable def a : Fn [.l, .l, .i, .b] St := fun a1 a2 a3 a4 => argSt [one (.bp 0 0)] [⟨e_1, .cells a1, true, 0, none⟩] [[.tr 2 2 e_0 (.cells a2), cI a3, .ow 0, .bool a4]]
noncomputable def conz (h : T) := conOf 30 [.l, .l, .i, .b] [.i, .l, .i, .l, .b] a h m
end impl_parser_line
noncomputable abbrev Z_impl_parser_operand : Type := impl_parser_operand.T × impl_parser_line.T
noncomputable def Gd_impl_parser_operand (z : Z_impl_parser_operand) : Prop := Con Pg (impl_parser_operand.conz z.1) ∧ Con Pg (impl_parser_line.conz z.2)
namespace impl_parser_operand
noncomputable def l1s (x9 : List (List Cl)) (x10 : Int) (x12 x14 : List (List Cl)) (x15 : Int) (x16 : Bool) (x17 x18 x19 x20 x21 x22 : Int) (rec : Int → List Int → O) (k : List Int → O) (x11 : Int) (x13 : List Int) : O :=
 bif decide (x11 < x10) then (bif decide (0 ≤ x11) && decide (x11 < (x9.length : Int)) then (bif decide ((x13.length + 1) * 8 ≤ 140737488355328) then rec (IntKind.i64.wrap (x11 + 1)) (x13 ++ ([((x9.getD x11.toNat []).getD 1 (.i 0)).toI] : List Int))
  else none)
  else none)
 else k x13
noncomputable def l1 (x9 : List (List Cl)) (x10 : Int) (x12 x14 : List (List Cl)) (x15 : Int) (x16 : Bool) (x17 x18 x19 x20 x21 x22 : Int) (k : List Int → O) : Nat → Int → List Int → O
 | 0, _, _ => none
 | n + 1, x11, x13 => l1s x9 x10 x12 x14 x15 x16 x17 x18 x19 x20 x21 x22 (l1 x9 x10 x12 x14 x15 x16 x17 x18 x19 x20 x21 x22 k n) k x11 x13
noncomputable def o1 : Fn [.l, .i, .l, .l, .i, .b, .i, .i, .i, .i, .i, .i, .z] St := fun _ _ x12 x14 x15 x16 x17 x18 x19 x20 x21 x22 y2 => ⟨mkT 93 [(0, one (.bp 0 0)), (8, one (.bp 13304 0))], [(0, ⟨e_1, .cells x12, true, 0, none⟩), (13302, ⟨[.int .i64], .ints y2, true, 0, none⟩)], [(0, [.tr 2 2 e_0 (.cells x14), cI x15, .ow 0, .bool x16]), (13304, [cI x17, cI x18, cI x19, cI x20, cI x21, cI x22, .ow 13302])]⟩
noncomputable def n1 (K : Res → O) := ent 1 [.l, .i, .l, .l, .i, .b, .i, .i, .i, .i, .i, .i] [.i, .z] [0, 1, 3, 5, 6, 7, 8, 9, 10, 11, 12, 13, 2, 4] (fun x9 x10 x12 x14 x15 x16 x17 x18 x19 x20 x21 x22 x11 x13 => ⟨mkT 93 [(0, one (.bp 0 0)), (8, one (.bp 13304 0)), (38, one (.tr 2 2 e_0 (.cells x9))), (39, oI x10), (40, oI x11)], [(0, ⟨e_1, .cells x12, true, 0, none⟩), (13302, ⟨[.int .i64], .ints x13, true, 0, none⟩)], [(0, [.tr 2 2 e_0 (.cells x14), cI x15, .ow 0, .bool x16]), (13304, [cI x17, cI x18, cI x19, cI x20, cI x21, cI x22, .ow 13302])]⟩) fun x9 x10 x12 x14 x15 x16 x17 x18 x19 x20 x21 x22 k => l1 x9 x10 x12 x14 x15 x16 x17 x18 x19 x20 x21 x22 (fun y2 => k (o1 x9 x10 x12 x14 x15 x16 x17 x18 x19 x20 x21 x22 y2))
noncomputable def X (z : Z_impl_parser_operand) (K : Res → O) : Ctx := { cx0 [impl_parser_put_i2.con, impl_parser_put_i3.con, impl_parser_line.conz z.2] fi true K with io := [(59, [⟨false, 0, 1⟩, ⟨true, 0, 1⟩])], bun := [(4, 4)], own := [(6, 0, 6, [.int .i64])], cin := [(1, ⟨[0, 8, 38, 39, 40], [(0, 0), (13302, 13302), (21560, 13302)], [0, 13304], [], [], []⟩)], cout := [(1, ⟨[0, 8], [(0, 0), (13302, 13302)], [0, 13304], [], [], []⟩)], lp := lpOf [n1 K] }
noncomputable def g (z : Z_impl_parser_operand) (a1 a2 : Int) (a3 a4 : List (List Cl)) (a5 : Int) (a6 : Bool) (R : Int → List (List Cl) → Int → List (List Cl) → Bool → O) : O :=
 bif decide (0 ≤ a1) && decide (a1 < (a4.length : Int)) then (bif (((a4.getD a1.toNat []).getD 0 (.i 0)).toI == 2) then (impl_parser_put_i2.g 2 (((a4.getD a1.toNat []).getD 1 (.i 0)).toI) 0 0 0 0 a3 a4 a5 a6 fun r7 r8 =>
  R r7 a4 a5 r8 a6)
  else bif (((a4.getD a1.toNat []).getD 0 (.i 0)).toI == 1) then (bif decide (0 ≤ a1) && decide (a1 ≤ a2) && decide (a2 ≤ (a4.length : Int)) then (l1 ((a4.drop a1.toNat).take (a2.toNat - a1.toNat)) (((a4.drop a1.toNat).take (a2.toNat - a1.toNat)).length : Int) a3 a4 a5 a6 1 0 0 0 0 0 (fun y23 =>
   impl_parser_put_i3.g 1 0 0 0 0 0 y23 a3 a4 a5 a6 fun r24 r25 =>
   R r24 a4 a5 r25 a6) fuel 0 ([] : List Int))
   else none)
  else bif decide (0 ≤ IntKind.i64.wrap (a2 - 1)) && decide (IntKind.i64.wrap (a2 - 1) ≤ (a4.length : Int)) then (z.2 a3 (a4.take ((IntKind.i64.wrap (a2 - 1)).toNat)) (IntKind.i64.wrap (a1 + 1)) false fun r26 r27 r28 r29 r30 =>
   bif a6 then R r26 a4 a5 r29 true
   else R r26 a4 a5 r29 r30)
  else none)
 else none
theorem hx (z : Z_impl_parser_operand) (hz : Gd_impl_parser_operand z) (K : Res → O) : CtxOk Pg Γ0 byt0 eqs0 ((X z) K) [impl_parser_put_i2.con, impl_parser_put_i3.con, impl_parser_line.conz z.2] := ctx_of (X := (X z)) (.cons impl_parser_put_i2.ok (.cons impl_parser_put_i3.ok (.cons hz.2 .nil))) (by kernel_rfl) K
theorem w1 (z : Z_impl_parser_operand) (hz : Gd_impl_parser_operand z) (K : Res → O) : LpSound Pg ((X z) K) 1 b1 := lp_fin (L := [n1 K]) laid ((hx z hz) K) .nil (.cons (ent_ok (fun x9 x10 x12 x14 x15 x16 x17 x18 x19 x20 x21 x22 k r => l1s x9 x10 x12 x14 x15 x16 x17 x18 x19 x20 x21 x22 r (fun y2 => k (o1 x9 x10 x12 x14 x15 x16 x17 x18 x19 x20 x21 x22 y2))) (by kernel_rfl) (by kernel_rfl) (by kernel_rfl) (by kernel_rfl) (by kernel_rfl)) .nil) (by kernel_rfl) (by kernel_rfl)
theorem ok (z : Z_impl_parser_operand) (hz : Gd_impl_parser_operand z) : Con Pg (conz (g z)) := con_fin (fn := Tryz.f62) (c := c) (Fi := fi) (X := (X z)) laid (hx z hz) (fun K => (.cons ((w1 z hz) K) .nil)) rfl (by kernel_rfl) (by kernel_rfl) (by kernel_rfl) (by kernel_rfl)
end impl_parser_operand
namespace impl_parser_line
noncomputable def X (z : Z_impl_parser_operand) (K : Res → O) : Ctx := { cx0 [impl_parser_kind.con, impl_parser_line.conz z.2, impl_parser_put_i2.con, impl_parser_function.con, impl_FunOne.con, impl_parser_operandEnd.con, impl_parser_operand.conz z.1, impl_FunTwo.con] fi true K with io := [(59, [⟨false, 0, 1⟩, ⟨true, 0, 1⟩])], bun := [(8, 4), (13, 4), (28, 5)] }
noncomputable def g (z : Z_impl_parser_operand) (a1 a2 : List (List Cl)) (a3 : Int) (a4 : Bool) (R : Int → List (List Cl) → Int → List (List Cl) → Bool → O) : O :=
 bif a4 then R 0 a2 a3 a1 true
 else bif decide ((a2.length : Int) ≤ a3) then R 0 a2 a3 a1 true
 else (impl_parser_kind.g 0 a1 a2 a3 a4 fun r5 =>
 bif (r5 == 2) then (impl_parser_kind.g 1 a1 a2 a3 a4 fun r6 =>
  bif (r6 == 6) then (bif decide (0 ≤ a3) && decide (a3 < (a2.length : Int)) then (z.2 a1 a2 (IntKind.i64.wrap (a3 + 2)) a4 fun r7 r8 r9 r10 r11 =>
   impl_parser_put_i2.g 3 (((a2.getD a3.toNat []).getD 1 (.i 0)).toI) r7 0 0 0 r10 r8 r9 r11 fun r12 r13 =>
   R r12 r8 r9 r13 r11)
   else none)
  else (impl_parser_kind.g 0 a1 a2 a3 a4 fun r14 =>
  bif (r14 == 3) then (impl_parser_function.g a1 a2 a3 a4 fun r15 r16 r17 r18 r19 =>
   z.2 a1 a2 r18 r19 fun r20 r21 r22 r23 r24 =>
   bif r24 then (impl_parser_put_i2.g 4 0 r20 r15 r16 r17 r23 r21 r22 true fun r25 r26 =>
    R r25 r21 r22 r26 true)
   else (impl_FunOne.g r15 r16 r17 fun r27 =>
   impl_parser_put_i2.g 4 0 r20 r15 r16 r17 r23 r21 r22 (!r27) fun r28 r29 =>
   R r28 r21 r22 r29 (!r27)))
  else (impl_parser_operandEnd.g a1 a2 a3 a4 fun r30 r31 r32 r33 r34 r35 =>
  bif !r31 then R 0 r33 r34 r32 true
  else bif (r30 == (r33.length : Int)) then (z.1 a3 r30 r32 r33 r34 r35 fun r36 r37 r38 r39 r40 =>
   R r36 r37 r38 r39 r40)
  else (impl_parser_function.g r32 r33 r30 r35 fun r41 r42 r43 r44 r45 =>
  z.2 r32 r33 r44 r45 fun r46 r47 r48 r49 r50 =>
  bif r50 then R 0 r47 r48 r49 true
  else (impl_FunTwo.g r41 r42 r43 fun r51 =>
  bif !r51 then R 0 r47 r48 r49 (!r51)
  else (z.1 a3 r30 r49 r47 r48 (!r51) fun r52 r53 r54 r55 r56 =>
  impl_parser_put_i2.g 5 r52 r46 r41 r42 r43 r55 r53 r54 r56 fun r57 r58 =>
  R r57 r53 r54 r58 r56))))))
 else (impl_parser_kind.g 0 a1 a2 a3 a4 fun r59 =>
 bif (r59 == 3) then (impl_parser_function.g a1 a2 a3 a4 fun r60 r61 r62 r63 r64 =>
  z.2 a1 a2 r63 r64 fun r65 r66 r67 r68 r69 =>
  bif r69 then (impl_parser_put_i2.g 4 0 r65 r60 r61 r62 r68 r66 r67 true fun r70 r71 =>
   R r70 r66 r67 r71 true)
  else (impl_FunOne.g r60 r61 r62 fun r72 =>
  impl_parser_put_i2.g 4 0 r65 r60 r61 r62 r68 r66 r67 (!r72) fun r73 r74 =>
  R r73 r66 r67 r74 (!r72)))
 else (impl_parser_operandEnd.g a1 a2 a3 a4 fun r75 r76 r77 r78 r79 r80 =>
 bif !r76 then R 0 r78 r79 r77 true
 else bif (r75 == (r78.length : Int)) then (z.1 a3 r75 r77 r78 r79 r80 fun r81 r82 r83 r84 r85 =>
  R r81 r82 r83 r84 r85)
 else (impl_parser_function.g r77 r78 r75 r80 fun r86 r87 r88 r89 r90 =>
 z.2 r77 r78 r89 r90 fun r91 r92 r93 r94 r95 =>
 bif r95 then R 0 r92 r93 r94 true
 else (impl_FunTwo.g r86 r87 r88 fun r96 =>
 bif !r96 then R 0 r92 r93 r94 (!r96)
 else (z.1 a3 r75 r94 r92 r93 (!r96) fun r97 r98 r99 r100 r101 =>
 impl_parser_put_i2.g 5 r97 r91 r86 r87 r88 r100 r98 r99 r101 fun r102 r103 =>
 R r102 r98 r99 r103 r101))))))
theorem ok (z : Z_impl_parser_operand) (hz : Gd_impl_parser_operand z) : Con Pg (conz (g z)) := con_fin (fn := Tryz.f30) (c := c) (Fi := fi) (X := (X z)) laid (ctx_of (.cons impl_parser_kind.ok (.cons hz.2 (.cons impl_parser_put_i2.ok (.cons impl_parser_function.ok (.cons impl_FunOne.ok (.cons impl_parser_operandEnd.ok (.cons hz.1 (.cons impl_FunTwo.ok .nil)))))))) (by kernel_rfl)) (fun K => .nil) rfl (by kernel_rfl) (by kernel_rfl) (by kernel_rfl) (by kernel_rfl)
end impl_parser_line
noncomputable def rec_impl_parser_operand : Nat → Z_impl_parser_operand
 | 0 => ((fun _ _ _ _ _ _ _ => none), (fun _ _ _ _ _ => none))
 | n + 1 => (impl_parser_operand.g (rec_impl_parser_operand n), impl_parser_line.g (rec_impl_parser_operand n))
theorem good_impl_parser_operand : ∀ n, Gd_impl_parser_operand (rec_impl_parser_operand n)
 | 0 => ⟨con_cst rfl, con_cst rfl⟩
 | n + 1 => ⟨impl_parser_operand.ok _ (good_impl_parser_operand n), impl_parser_line.ok _ (good_impl_parser_operand n)⟩
namespace impl_parser_operand
noncomputable def gn (n : Nat) (a1 a2 : Int) (a3 a4 : List (List Cl)) (a5 : Int) (a6 : Bool) (R : Int → List (List Cl) → Int → List (List Cl) → Bool → O) : O := (rec_impl_parser_operand n).1 a1 a2 a3 a4 a5 a6 R
noncomputable def G : T := seal_ (gn fuel)
theorem Ge : G = gn fuel := seal_eq _
theorem gn_succ (n : Nat) (a1 a2 : Int) (a3 a4 : List (List Cl)) (a5 : Int) (a6 : Bool) (R : Int → List (List Cl) → Int → List (List Cl) → Bool → O) : gn (n + 1) a1 a2 a3 a4 a5 a6 R = g (rec_impl_parser_operand n) a1 a2 a3 a4 a5 a6 R := rfl
noncomputable def con := conz G
theorem okG : Con Pg con := by
 unfold con; rw [Ge]; exact (good_impl_parser_operand fuel).1
end impl_parser_operand
namespace impl_parser_line
noncomputable def gn (n : Nat) (a1 a2 : List (List Cl)) (a3 : Int) (a4 : Bool) (R : Int → List (List Cl) → Int → List (List Cl) → Bool → O) : O := (rec_impl_parser_operand n).2 a1 a2 a3 a4 R
noncomputable def G : T := seal_ (gn fuel)
theorem Ge : G = gn fuel := seal_eq _
theorem gn_succ (n : Nat) (a1 a2 : List (List Cl)) (a3 : Int) (a4 : Bool) (R : Int → List (List Cl) → Int → List (List Cl) → Bool → O) : gn (n + 1) a1 a2 a3 a4 R = g (rec_impl_parser_operand n) a1 a2 a3 a4 R := rfl
noncomputable def con := conz G
theorem okG : Con Pg con := by
 unfold con; rw [Ge]; exact (good_impl_parser_operand fuel).2
end impl_parser_line
-- END GROUP
namespace impl_Parse
noncomputable def c : Code := bodyOf Tryz.f11
noncomputable def fi : Fin := ⟨Γ0, [(.cell 2 26, 26), (.tmp 3, 3)], [[1], [1]], [], [], []⟩
noncomputable def m : Fn [.l] (Fn [.l, .i] Res) := fun _ r1 r2 => ⟨[⟨true, [.ow 1000]⟩, ⟨false, [cI r2]⟩], [], [⟨e_1, .cells r1, true, 0, none⟩], [], []⟩
noncomputable def X (K : Res → O) : Ctx := { cx0 [impl_tokensOk.con, impl_parser_line.con] fi true K with own := [(3, 1, 2, e_1)] }
noncomputable def b (a1 : List (List Cl)) (R : List (List Cl) → Int → O) : O :=
 impl_tokensOk.g a1 fun r2 =>
 bif !r2 then R ([] : List (List Cl)) 1
 else (impl_parser_line.G ([] : List (List Cl)) a1 0 false fun r3 r4 r5 r6 r7 =>
 bif r7 then R ([] : List (List Cl)) 8
 else bif decide (60 < (r6.length : Int)) then R ([] : List (List Cl)) 6
 else R r6 0)
noncomputable def g := seal_ b
theorem e : g = b := seal_eq b
noncomputable def a : Fn [.l] St := fun a1 => argSt [one (.tr 2 2 e_0 (.cells a1))] [] []
noncomputable def con := conOf 11 [.l] [.l, .i] a g m
theorem ok : Con Pg con := con_fin (fn := Tryz.f11) (c := c) (Fi := fi) (X := X) laid (ctx_of (.cons impl_tokensOk.ok (.cons impl_parser_line.okG .nil)) (by kernel_rfl)) (fun K => .nil) e (by kernel_rfl) (by kernel_rfl) (by kernel_rfl) (by kernel_rfl)
end impl_Parse
namespace laws_sameInts
noncomputable def c : Code := bodyOf Tryz.f31
noncomputable def fi : Fin := ⟨Γ0, [(.tmp 4, 4)], [[1]], [], [], []⟩
noncomputable def m : Fn [.z, .z] (Fn [.b] Res) := fun _ _ r1 => ⟨[⟨false, [.bool r1]⟩], [], [], [], []⟩
noncomputable def b0 : Code := codeAt c [1, 1, 0, 1, 0, 0]
noncomputable def l0s (x3 x4 : List Int) (rec : Int → O) (k : O) (R : Bool → O) (x5 : Int) : O :=
 bif decide (x5 < (x3.length : Int)) then (bif decide (0 ≤ x5) && decide (x5 < (x3.length : Int)) then (bif decide (0 ≤ x5) && decide (x5 < (x4.length : Int)) then (bif (x3.getD x5.toNat 0 != x4.getD x5.toNat 0) then R false
  else rec (IntKind.i64.wrap (x5 + 1)))
  else none)
  else none)
 else k
noncomputable def l0 (x3 x4 : List Int) (k : O) (R : Bool → O) : Nat → Int → O
 | 0, _ => none
 | n + 1, x5 => l0s x3 x4 (l0 x3 x4 k R n) k R x5
noncomputable def o0 : Fn [.z, .z] St := fun _ _ => ⟨mkT 26 [], [], []⟩
noncomputable def n0 (K : Res → O) := ent 0 [.z, .z] [.i] [0, 1, 2] (fun x3 x4 x5 => ⟨mkT 26 [(0, one (.tr 0 1 [.int .i64] (.ints x3))), (1, one (.tr 0 1 [.int .i64] (.ints x4))), (5, oI x5)], [], []⟩) fun x3 x4 k => l0 x3 x4 (k (o0 x3 x4)) (fun r1 => K (m [] [] r1))
noncomputable def X (K : Res → O) : Ctx := { cx0 [] fi true K with cin := [(0, ⟨[0, 1, 5], [], [], [], [], []⟩)], cout := [(0, ⟨[], [], [], [], [], []⟩)], lp := lpOf [n0 K] }
noncomputable def b (a1 a2 : List Int) (R : Bool → O) : O :=
 bif ((a1.length : Int) != (a2.length : Int)) then R false
 else (l0 a1 a2 (
 R true) R fuel 0)
noncomputable def g := seal_ b
theorem e : g = b := seal_eq b
noncomputable def a : Fn [.z, .z] St := fun a1 a2 => argSt [one (.tr 0 1 [.int .i64] (.ints a1)), one (.tr 0 1 [.int .i64] (.ints a2))] [] []
noncomputable def con := conOf 31 [.z, .z] [.b] a g m
theorem hx (K : Res → O) : CtxOk Pg Γ0 byt0 eqs0 (X K) [] := ctx_of (X := X) .nil (by kernel_rfl) K
theorem w0 (K : Res → O) : LpSound Pg (X K) 0 b0 := lp_fin (L := [n0 K]) laid (hx K) .nil (.cons (ent_ok (fun x3 x4 k r => l0s x3 x4 r (k (o0 x3 x4)) (fun r1 => K (m [] [] r1))) (by kernel_rfl) (by kernel_rfl) (by kernel_rfl) (by kernel_rfl) (by kernel_rfl)) .nil) (by kernel_rfl) (by kernel_rfl)
theorem ok : Con Pg con := con_fin (fn := Tryz.f31) (c := c) (Fi := fi) (X := X) laid hx (fun K => (.cons (w0 K) .nil)) e (by kernel_rfl) (by kernel_rfl) (by kernel_rfl) (by kernel_rfl)
end laws_sameInts
namespace laws_sameTree
noncomputable def c : Code := bodyOf Tryz.f12
noncomputable def fi : Fin := ⟨Γ0, [(.tmp 4, 4)], [[1]], [], [], []⟩
noncomputable def m : Fn [.l, .l] (Fn [.b] Res) := fun _ _ r1 => ⟨[⟨false, [.bool r1]⟩], [], [], [], []⟩
noncomputable def b0 : Code := codeAt c [1, 1, 0, 1, 0, 0]
noncomputable def l0s (x4 x5 : List (List Cl)) (rec : Int → O) (k : O) (R : Bool → O) (x3 : Int) : O :=
 bif decide (x3 < (x4.length : Int)) then (bif decide (0 ≤ x3) && decide (x3 < (x4.length : Int)) then (bif decide (0 ≤ x3) && decide (x3 < (x5.length : Int)) then (bif (((x4.getD x3.toNat []).getD 0 (.i 0)).toI != ((x5.getD x3.toNat []).getD 0 (.i 0)).toI) then R false
  else bif (((x4.getD x3.toNat []).getD 1 (.i 0)).toI != ((x5.getD x3.toNat []).getD 1 (.i 0)).toI) then R false
  else bif (((x4.getD x3.toNat []).getD 2 (.i 0)).toI != ((x5.getD x3.toNat []).getD 2 (.i 0)).toI) then R false
  else bif !((((x4.getD x3.toNat []).getD 3 (.i 0)).toI == ((x5.getD x3.toNat []).getD 3 (.i 0)).toI) && ((((x4.getD x3.toNat []).getD 4 (.i 0)).toI == ((x5.getD x3.toNat []).getD 4 (.i 0)).toI) && ((((x4.getD x3.toNat []).getD 5 (.i 0)).toI == ((x5.getD x3.toNat []).getD 5 (.i 0)).toI) && true))) then R false
  else (laws_sameInts.g (((x4.getD x3.toNat []).getD 6 (.i 0)).toL) (((x5.getD x3.toNat []).getD 6 (.i 0)).toL) fun r6 =>
  bif !r6 then R false
  else rec (IntKind.i64.wrap (x3 + 1))))
  else none)
  else none)
 else k
noncomputable def l0 (x4 x5 : List (List Cl)) (k : O) (R : Bool → O) : Nat → Int → O
 | 0, _ => none
 | n + 1, x3 => l0s x4 x5 (l0 x4 x5 k R n) k R x3
noncomputable def o0 : Fn [.l, .l] St := fun _ _ => ⟨mkT 66 [], [], []⟩
noncomputable def n0 (K : Res → O) := ent 0 [.l, .l] [.i] [1, 2, 0] (fun x4 x5 x3 => ⟨mkT 66 [(2, one (.bp 1000 0)), (3, one (.bp 1016 0)), (5, oI x3)], [], [(1000, [.tr 0 1 e_1 (.cells x4)]), (1016, [.tr 0 1 e_1 (.cells x5)])]⟩) fun x4 x5 k => l0 x4 x5 (k (o0 x4 x5)) (fun r1 => K (m [] [] r1))
noncomputable def X (K : Res → O) : Ctx := { cx0 [laws_sameInts.con] fi true K with cin := [(0, ⟨[2, 3, 5], [], [1000, 1016], [], [], []⟩)], cout := [(0, ⟨[], [], [], [], [], []⟩)], lp := lpOf [n0 K] }
noncomputable def b (a1 a2 : List (List Cl)) (R : Bool → O) : O :=
 bif ((a1.length : Int) != (a2.length : Int)) then R false
 else (l0 a1 a2 (
 R true) R fuel 0)
noncomputable def g := seal_ b
theorem e : g = b := seal_eq b
noncomputable def a : Fn [.l, .l] St := fun a1 a2 => argSt [.v ⟨true, [.tr 0 1 e_1 (.cells a1)]⟩, .v ⟨true, [.tr 0 1 e_1 (.cells a2)]⟩] [] []
noncomputable def con := conOf 12 [.l, .l] [.b] a g m
theorem hx (K : Res → O) : CtxOk Pg Γ0 byt0 eqs0 (X K) [laws_sameInts.con] := ctx_of (X := X) (.cons laws_sameInts.ok .nil) (by kernel_rfl) K
theorem w0 (K : Res → O) : LpSound Pg (X K) 0 b0 := lp_fin (L := [n0 K]) laid (hx K) .nil (.cons (ent_ok (fun x4 x5 k r => l0s x4 x5 r (k (o0 x4 x5)) (fun r1 => K (m [] [] r1))) (by kernel_rfl) (by kernel_rfl) (by kernel_rfl) (by kernel_rfl) (by kernel_rfl)) .nil) (by kernel_rfl) (by kernel_rfl)
theorem ok : Con Pg con := con_fin (fn := Tryz.f12) (c := c) (Fi := fi) (X := X) laid hx (fun K => (.cons (w0 K) .nil)) e (by kernel_rfl) (by kernel_rfl) (by kernel_rfl) (by kernel_rfl)
end laws_sameTree
namespace spec_l8Dent
noncomputable def c : Code := bodyOf Tryz.f68
noncomputable def fi : Fin := ⟨Γ0, [(.tmp 6, 9)], [[1]], [], [([.sl [.int .u8] 1, .int .i64, .int .i64], [0, 1, 1])], []⟩
noncomputable def m : Fn [.s, .t, .z, .i, .i] (Fn [.s, .i, .i] Res) := fun _ _ a3 _ _ r1 r3 r4 => ⟨[⟨false, [.str r1]⟩], [], [], [[.tr 2 2 [.int .u8] (.ints a3), cI r3, cI r4]], []⟩
noncomputable def X (K : Res → O) : Ctx := cx0 [spec_l1Below.con, spec_l1Pick.con, spec_l1Min.con] fi true K
noncomputable def b (a1 : ByteArray) (a2 : List ByteArray) (a3 : List Int) (a4 a5 : Int) (R : ByteArray → Int → Int → O) : O :=
 spec_l1Below.g (IntKind.i64.wrap ((a1.size : Int) + 1)) a3 a4 a5 fun r6 r7 r8 =>
 spec_l1Below.g 3 a3 r7 r8 fun r9 r10 r11 =>
 bif (r9 == 0) then (bif decide (0 ≤ r6) && decide (r6 ≤ (a1.size : Int)) then R (a1.extract 0 r6.toNat) r10 r11
  else none)
 else bif (r9 == 1) then (bif decide (0 ≤ r6) && decide (r6 ≤ (a1.size : Int)) then (spec_l1Pick.g a2 a3 r10 r11 fun r12 r13 r14 =>
  bif decide ((a1.extract 0 r6.toNat).size + r12.size ≤ 9223372036854775807) then (spec_l1Min.g (IntKind.i64.wrap (r6 + 1)) (a1.size : Int) fun r15 =>
   bif decide (0 ≤ r15) && decide (r15 ≤ (a1.size : Int)) then (bif decide (((a1.extract 0 r6.toNat) ++ r12).size + (a1.extract r15.toNat a1.size).size ≤ 9223372036854775807) then R (((a1.extract 0 r6.toNat) ++ r12) ++ (a1.extract r15.toNat a1.size)) r13 r14
    else none)
   else none)
  else none)
  else none)
 else bif decide (0 ≤ r6) && decide (r6 ≤ (a1.size : Int)) then (spec_l1Pick.g a2 a3 r10 r11 fun r16 r17 r18 =>
  bif decide ((a1.extract 0 r6.toNat).size + r16.size ≤ 9223372036854775807) then (bif decide (0 ≤ r6) && decide (r6 ≤ (a1.size : Int)) then (bif decide (((a1.extract 0 r6.toNat) ++ r16).size + (a1.extract r6.toNat a1.size).size ≤ 9223372036854775807) then R (((a1.extract 0 r6.toNat) ++ r16) ++ (a1.extract r6.toNat a1.size)) r17 r18
   else none)
   else none)
  else none)
 else none
noncomputable def g := seal_ b
theorem e : g = b := seal_eq b
noncomputable def a : Fn [.s, .t, .z, .i, .i] St := fun a1 a2 a3 a4 a5 => argSt [one (.bp 0 0), one (.str a1), one (.tr 0 1 [.str] (.strs a2))] [] [[.tr 2 2 [.int .u8] (.ints a3), cI a4, cI a5]]
noncomputable def con := conOf 68 [.s, .t, .z, .i, .i] [.s, .i, .i] a g m
theorem ok : Con Pg con := con_fin (fn := Tryz.f68) (c := c) (Fi := fi) (X := X) laid (ctx_of (.cons spec_l1Below.ok (.cons spec_l1Pick.ok (.cons spec_l1Min.ok .nil))) (by kernel_rfl)) (fun K => .nil) e (by kernel_rfl) (by kernel_rfl) (by kernel_rfl) (by kernel_rfl)
end spec_l8Dent
namespace spec_l8DrawText
noncomputable def c : Code := bodyOf Tryz.f33
noncomputable def fi : Fin := ⟨Γ0, [(.tmp 2, 9)], [[1]], [], [([.sl [.int .u8] 1, .int .i64, .int .i64], [0, 1, 1])], []⟩
noncomputable def m : Fn [.z, .i, .i] (Fn [.s, .z, .i, .i] Res) := fun _ _ _ r1 r2 r3 r4 => ⟨[⟨false, [.str r1]⟩], [], [], [[.tr 2 2 [.int .u8] (.ints r2), cI r3, cI r4]], []⟩
noncomputable def X (K : Res → O) : Ctx := cx0 [spec_l8DrawLine.con, spec_l1Once.con, spec_l8Dent.con] fi true K
noncomputable def b (a1 : List Int) (a2 a3 : Int) (R : ByteArray → List Int → Int → Int → O) : O :=
 spec_l8DrawLine.G 4 a1 a2 a3 fun r4 r5 r6 r7 =>
 spec_l1Once.g 3 r5 r6 r7 fun r8 r9 r10 =>
 bif r8 then (spec_l8Dent.g r4 ([(⟨#[43]⟩ : ByteArray), (⟨#[45]⟩ : ByteArray), (⟨#[47]⟩ : ByteArray), (⟨#[40]⟩ : ByteArray), (⟨#[41]⟩ : ByteArray), (⟨#[58]⟩ : ByteArray), (⟨#[65]⟩ : ByteArray), (⟨#[53]⟩ : ByteArray), (⟨#[32]⟩ : ByteArray), (⟨#[95]⟩ : ByteArray), (⟨#[111]⟩ : ByteArray), (⟨#[46]⟩ : ByteArray), (⟨#[120]⟩ : ByteArray), (⟨#[35]⟩ : ByteArray), (⟨#[49, 48, 48, 48, 48, 48, 48, 48, 48, 48, 48, 48, 49]⟩ : ByteArray)] : List ByteArray) r5 r9 r10 fun r11 r12 r13 =>
  R r11 r5 r12 r13)
 else R r4 r5 r9 r10
noncomputable def g := seal_ b
theorem e : g = b := seal_eq b
noncomputable def a : Fn [.z, .i, .i] St := fun a1 a2 a3 => argSt [one (.bp 0 0)] [] [[.tr 2 2 [.int .u8] (.ints a1), cI a2, cI a3]]
noncomputable def con := conOf 33 [.z, .i, .i] [.s, .z, .i, .i] a g m
theorem ok : Con Pg con := con_fin (fn := Tryz.f33) (c := c) (Fi := fi) (X := X) laid (ctx_of (.cons spec_l8DrawLine.okG (.cons spec_l1Once.ok (.cons spec_l8Dent.ok .nil))) (by kernel_rfl)) (fun K => .nil) e (by kernel_rfl) (by kernel_rfl) (by kernel_rfl) (by kernel_rfl)
end spec_l8DrawText
namespace spec_DrawParse
noncomputable def c : Code := bodyOf Tryz.f13
noncomputable def fi : Fin := ⟨Γ0, [(.tmp 2, 30)], [[1]], [], [], []⟩
noncomputable def m : Fn [.z] (Fn [.l] Res) := fun _ r1 => ⟨[⟨false, [.ow 1000]⟩], [], [⟨e_0, .cells r1, true, 0, none⟩], [], []⟩
noncomputable def b1 : Code := codeAt c [1, 1, 1, 0, 1, 0, 1, 1, 1, 0, 0, 0]
noncomputable def l1s  (rec : List (List Cl) → O) (k : List (List Cl) → O) (x21 : List (List Cl)) : O :=
 bif decide ((x21.length : Int) < 70) then (bif decide ((1 + x21.length) * 16 ≤ 140737488355328) then rec (([[.i 3, .i 45]] : List (List Cl)) ++ x21)
  else none)
 else k x21
noncomputable def l1  (k : List (List Cl) → O) : Nat → List (List Cl) → O
 | 0, _ => none
 | n + 1, x21 => l1s (l1 k n) k x21
noncomputable def o1 : Fn [.l] St := fun y1 => ⟨mkT 38 [(4, one (.ow 5129))], [(5129, ⟨e_0, .cells y1, true, 0, none⟩)], []⟩
noncomputable def n1 (K : Res → O) := ent 1 [] [.l] [0] (fun x21 => ⟨mkT 38 [(4, one (.ow 5129))], [(5129, ⟨e_0, .cells x21, true, 0, none⟩)], []⟩) fun k => l1 (fun y1 => k (o1 y1))
noncomputable def X (K : Res → O) : Ctx := { cx0 [spec_l1New.con, spec_l8DrawText.con, spec_Lex.con, spec_l1Below.con] fi true K with io := [(16, [⟨false, 2, 1⟩])], cin := [(1, ⟨[4], [(5129, 5129), (17432, 5129)], [], [], [], []⟩)], cout := [(1, ⟨[4], [(5129, 5129)], [], [], [], []⟩)], lp := lpOf [n1 K] }
noncomputable def b (a1 : List Int) (R : List (List Cl) → O) : O :=
 spec_l1New.g a1 fun r2 r3 r4 =>
 spec_l8DrawText.g r2 r3 r4 fun r5 r6 r7 r8 =>
 spec_Lex.g r5 fun r9 r10 r11 =>
 spec_l1Below.g 25 r6 r7 r8 fun r12 r13 r14 =>
 bif (r12 == 0) then (spec_l1Below.g 8 r6 r13 r14 fun r15 r16 r17 =>
  spec_l1Below.g 40 r6 r16 r17 fun r18 r19 r20 =>
  bif decide ((r9.length + 1) * 16 ≤ 140737488355328) then R (r9 ++ ([[.i r15, .i r18]] : List (List Cl)))
  else none)
 else bif (r12 == 1) then (l1 (fun y22 =>
  R y22) fuel r9)
 else R r9
noncomputable def g := seal_ b
theorem e : g = b := seal_eq b
noncomputable def a : Fn [.z] St := fun a1 => argSt [one (.tr 2 1 [.int .u8] (.ints a1))] [] []
noncomputable def con := conOf 13 [.z] [.l] a g m
theorem hx (K : Res → O) : CtxOk Pg Γ0 byt0 eqs0 (X K) [spec_l1New.con, spec_l8DrawText.con, spec_Lex.con, spec_l1Below.con] := ctx_of (X := X) (.cons spec_l1New.ok (.cons spec_l8DrawText.ok (.cons spec_Lex.ok (.cons spec_l1Below.ok .nil)))) (by kernel_rfl) K
theorem w1 (K : Res → O) : LpSound Pg (X K) 1 b1 := lp_fin (L := [n1 K]) laid (hx K) .nil (.cons (ent_ok (fun k r => l1s r (fun y1 => k (o1 y1))) (by kernel_rfl) (by kernel_rfl) (by kernel_rfl) (by kernel_rfl) (by kernel_rfl)) .nil) (by kernel_rfl) (by kernel_rfl)
theorem ok : Con Pg con := con_fin (fn := Tryz.f13) (c := c) (Fi := fi) (X := X) laid hx (fun K => (.cons (w1 K) .nil)) e (by kernel_rfl) (by kernel_rfl) (by kernel_rfl) (by kernel_rfl)
end spec_DrawParse
namespace laws_FnTree
noncomputable def c : Code := bodyOf Tryz.f3
noncomputable def fi : Fin := ⟨Γ0, [(.tmp 2, 4)], [[1]], [], [], []⟩
noncomputable def m : Fn [.z] (Fn [.b] Res) := fun _ r1 => ⟨[⟨false, [.bool r1]⟩], [], [], [], []⟩
noncomputable def X (K : Res → O) : Ctx := { cx0 [laws_big.con, spec_DrawTreeText.con, impl_TreeText.con, spec_TreeText.con, impl_TreeOk.con, spec_TreeOk.con, impl_Lex.con, impl_Parse.con, laws_sameTree.con, spec_DrawParse.con, spec_Parse.con] fi true K with io := [(5, [⟨false, 2, 1⟩]), (11, [⟨false, 2, 2⟩]), (13, [⟨false, 2, 1⟩]), (14, [⟨false, 2, 2⟩])] }
noncomputable def b (a1 : List Int) (R : Bool → O) : O :=
 laws_big.g a1 fun r2 =>
 bif r2 then R true
 else (spec_DrawTreeText.g a1 fun r3 =>
 impl_TreeText.g r3 fun r4 =>
 spec_TreeText.g r3 fun r5 =>
 bif !(r4.toList == r5.toList) then R false
 else (impl_TreeOk.g r3 fun r6 =>
 spec_TreeOk.g r3 fun r7 =>
 bif (r6 != r7) then R false
 else (spec_TreeOk.g r3 fun r8 =>
 bif r8 then (bif !(r4.toList == (⟨#[]⟩ : ByteArray).toList) then (bif decide ((r4.size : Int) ≤ 300) then (impl_Lex.g r4 fun r9 r10 r11 =>
  impl_Parse.g r9 fun r12 r13 =>
  bif (r10 != 0) then R false
  else bif (r13 != 0) then R false
  else (laws_sameTree.g r3 r12 fun r14 =>
  bif !r14 then R false
  else (spec_DrawParse.g a1 fun r15 =>
  impl_Parse.g r15 fun r16 r17 =>
  spec_Parse.g r15 fun r18 r19 =>
  bif (r17 != r19) then R false
  else bif (r17 != 0) then (bif ((r16.length : Int) == 0) then R true
   else bif (r17 == 0) then (impl_TreeOk.g r16 fun r20 =>
    bif r20 then R (decide ((r16.length : Int) ≤ (r15.length : Int)))
    else R false)
   else R false)
  else bif (r17 == 0) then (impl_TreeOk.g r16 fun r21 =>
   bif r21 then R (decide ((r16.length : Int) ≤ (r15.length : Int)))
   else R false)
  else R false)))
  else (spec_DrawParse.g a1 fun r22 =>
  impl_Parse.g r22 fun r23 r24 =>
  spec_Parse.g r22 fun r25 r26 =>
  bif (r24 != r26) then R false
  else bif (r24 != 0) then (bif ((r23.length : Int) == 0) then R true
   else bif (r24 == 0) then (impl_TreeOk.g r23 fun r27 =>
    bif r27 then R (decide ((r23.length : Int) ≤ (r22.length : Int)))
    else R false)
   else R false)
  else bif (r24 == 0) then (impl_TreeOk.g r23 fun r28 =>
   bif r28 then R (decide ((r23.length : Int) ≤ (r22.length : Int)))
   else R false)
  else R false))
  else (spec_DrawParse.g a1 fun r29 =>
  impl_Parse.g r29 fun r30 r31 =>
  spec_Parse.g r29 fun r32 r33 =>
  bif (r31 != r33) then R false
  else bif (r31 != 0) then (bif ((r30.length : Int) == 0) then R true
   else bif (r31 == 0) then (impl_TreeOk.g r30 fun r34 =>
    bif r34 then R (decide ((r30.length : Int) ≤ (r29.length : Int)))
    else R false)
   else R false)
  else bif (r31 == 0) then (impl_TreeOk.g r30 fun r35 =>
   bif r35 then R (decide ((r30.length : Int) ≤ (r29.length : Int)))
   else R false)
  else R false))
 else (spec_DrawParse.g a1 fun r36 =>
 impl_Parse.g r36 fun r37 r38 =>
 spec_Parse.g r36 fun r39 r40 =>
 bif (r38 != r40) then R false
 else bif (r38 != 0) then (bif ((r37.length : Int) == 0) then R true
  else bif (r38 == 0) then (impl_TreeOk.g r37 fun r41 =>
   bif r41 then R (decide ((r37.length : Int) ≤ (r36.length : Int)))
   else R false)
  else R false)
 else bif (r38 == 0) then (impl_TreeOk.g r37 fun r42 =>
  bif r42 then R (decide ((r37.length : Int) ≤ (r36.length : Int)))
  else R false)
 else R false))))
noncomputable def g := seal_ b
theorem e : g = b := seal_eq b
noncomputable def a : Fn [.z] St := fun a1 => argSt [one (.tr 2 2 [.int .u8] (.ints a1))] [] []
noncomputable def con := conOf 3 [.z] [.b] a g m
theorem ok : Con Pg con := con_fin (fn := Tryz.f3) (c := c) (Fi := fi) (X := X) laid (ctx_of (.cons laws_big.ok (.cons spec_DrawTreeText.ok (.cons impl_TreeText.ok (.cons spec_TreeText.ok (.cons impl_TreeOk.ok (.cons spec_TreeOk.ok (.cons impl_Lex.ok (.cons impl_Parse.ok (.cons laws_sameTree.ok (.cons spec_DrawParse.ok (.cons spec_Parse.ok .nil))))))))))) (by kernel_rfl)) (fun K => .nil) e (by kernel_rfl) (by kernel_rfl) (by kernel_rfl) (by kernel_rfl)
end laws_FnTree
end Go.Tv.F
