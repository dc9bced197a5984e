/- The law's functions, printed by a program of ours, each with its contract. They hold without condition. -/
import Derived.Test.YtafjnlpfnjoebaaGreatDoorProg
import Derived.Test.YtafjnlpfnjoebaaGreatDoorShownShelf
import Derived.Test.YtafjnlpfnjoebaaGreatDoorTvC
set_option linter.unusedVariables false
set_option linter.unusedSectionVars false
set_option linter.unusedSimpArgs false
set_option linter.unnecessarySimpa false
set_option maxRecDepth 100000
set_option autoImplicit false
namespace Go.Tv.F
open Go Go.Tv
open Go.Proofs
noncomputable abbrev Pg := Go.Proofs.Tryz.prog
noncomputable instance envI : Env := envTab Pg []
noncomputable abbrev e_0 : List Ct := [.bool, .ints .i64, .ints .i64]
noncomputable abbrev e_1 : List Ct := [.int .i64, .int .i64]
noncomputable abbrev e_2 : List Ct := [.int .i64, .int .i64, .int .i64, .int .i64, .int .i64, .int .i64, .ints .i64]
noncomputable abbrev e_3 : List Ct := [.int .i64, .int .i64, .int .i64, .int .i64, .int .i64, .ints .i64]
noncomputable abbrev e_4 : List Ct := [.ints .i64, .ints .i64]
noncomputable def Γ0 : List (Nat × TI) := [(2, ⟨false, [.int .i64], []⟩),
 (3, ⟨false, [.int .i64], []⟩),
 (4, ⟨false, [.bool], []⟩),
 (5, ⟨false, [.int .u8], []⟩),
 (6, ⟨false, [.int .u8], []⟩),
 (9, ⟨false, [.str], []⟩),
 (10, ⟨false, [.str], []⟩),
 (11, ⟨false, [.str], []⟩),
 (12, ⟨false, [.int .u64], []⟩),
 (21, ⟨false, [.int .i32], []⟩),
 (22, ⟨false, [.sl [.int .u8] 1], []⟩),
 (24, ⟨false, [.sl [.int .i64] 8], []⟩),
 (28, ⟨false, [.fn], []⟩),
 (30, ⟨false, [.sl e_0 56], []⟩),
 (36, ⟨false, [.sl [.str] 16], []⟩),
 (43, ⟨false, [.sl e_3 64], []⟩),
 (47, ⟨true, [.sl [.int .i64] 8, .sl [.int .i64] 8], [(0, 1, false), (1, 1, false)]⟩),
 (51, ⟨true, [.int .i64, .int .i64, .int .i64], [(0, 1, false), (1, 1, false), (2, 1, false)]⟩),
 (53, ⟨true, [.int .i64, .int .i64, .int .i64, .int .i64, .int .i64, .sl [.int .i64] 8], [(0, 1, false), (1, 1, false), (2, 3, true), (5, 1, false)]⟩),
 (56, ⟨true, [.bool, .sl [.int .i64] 8, .sl [.int .i64] 8], [(0, 1, false), (1, 2, true)]⟩),
 (58, ⟨false, [.ptr], []⟩),
 (74, ⟨false, [.fn], []⟩),
 (75, ⟨false, [.fn], []⟩),
 (84, ⟨false, [.sl e_1 16], []⟩),
 (87, ⟨false, [.sl e_2 72], []⟩),
 (89, ⟨true, [.sl e_2 72], [(0, 1, false)]⟩),
 (95, ⟨false, [.sl e_4 48], []⟩),
 (97, ⟨true, [.int .i64, .sl e_4 48, .sl e_0 56, .int .i64, .int .i64], [(0, 1, false), (1, 1, false), (2, 1, false), (3, 1, false), (4, 1, false)]⟩),
 (104, ⟨true, [.sl [.int .u8] 1, .int .i64, .int .i64], [(0, 1, false), (1, 1, false), (2, 1, false)]⟩),
 (115, ⟨true, [.int .i64, .int .i64], [(0, 1, false), (1, 1, false)]⟩),
 (119, ⟨false, [.ptr], []⟩),
 (121, ⟨true, [.sl e_1 16, .int .i64, .sl e_2 72, .bool], [(0, 1, false), (1, 1, false), (2, 1, false), (3, 1, false)]⟩),
 (125, ⟨true, [.int .i64, .int .i64, .int .i64, .int .i64, .int .i64, .int .i64, .sl [.int .i64] 8], [(0, 1, false), (1, 1, false), (2, 1, false), (3, 3, true), (6, 1, false)]⟩),
 (127, ⟨false, [.fn], []⟩),
 (136, ⟨false, [.int .u64], []⟩),
 (141, ⟨false, [.int .u64], []⟩),
 (149, ⟨false, [.fn], []⟩),
 (157, ⟨false, [.fn], []⟩),
 (169, ⟨false, [.int .u32], []⟩),
 (223, ⟨false, [.int .u8], []⟩),
 (224, ⟨false, [.int .u8], []⟩),
 (226, ⟨false, [.int .i32], []⟩),
 (227, ⟨false, [.int .i32], []⟩)]
noncomputable def byt0 : List TypeId := [22]
noncomputable def eqs0 : List TypeId := [51, 115]
theorem laid : Laid Pg Γ0 byt0 eqs0 := ⟨by kernel_rfl, by kernel_rfl, by kernel_rfl, by kernel_rfl⟩
noncomputable def cx0 (os : List (FuncId × St × (List Lf → (Res → O) → O))) (fi : Fin) (nk : Bool) (K : Res → O) : Ctx := { Γ := Γ0, orc := orcOf os, lp := lpOf [], kl := Env.kl, nk := nk, eqs := eqs0, byt := byt0, fin := finK fi K }
namespace laws_big
noncomputable def c : Code := bodyOf Tryz.f4
noncomputable def fi : Fin := ⟨Γ0, [(.tmp 2, 4)], [[1]], [], [], []⟩
noncomputable def m : Fn [.z] (Fn [.b] Res) := fun _ r1 => ⟨[⟨false, [.bool r1]⟩], [], [], [], []⟩
noncomputable def X (K : Res → O) : Ctx := cx0 [] fi true K
noncomputable def b (a1 : List Int) (R : Bool → O) : O :=
 R (decide (1048576 < (a1.length : Int)))
noncomputable def g := seal_ b
theorem e : g = b := seal_eq b
noncomputable def a : Fn [.z] St := fun a1 => argSt [one (.tr 0 1 [.int .u8] (.ints a1))] [] []
noncomputable def con := conOf 4 [.z] [.b] a g m
theorem ok : Con Pg con := con_fin (fn := Tryz.f4) (c := c) (Fi := fi) (X := X) laid (ctx_of .nil (by kernel_rfl)) (fun K => .nil) e (by kernel_rfl) (by kernel_rfl) (by kernel_rfl) (by kernel_rfl)
end laws_big
namespace spec_l1New
noncomputable def c : Code := bodyOf Tryz.f32
noncomputable def fi : Fin := ⟨Γ0, [(.tmp 2, 58)], [[1]], [], [], [(2, [.sl [.int .u8] 1, .int .i64, .int .i64], [0, 1, 1])]⟩
noncomputable def m : Fn [.z] (Fn [.z, .i, .i] Res) := fun _ r1 r2 r3 => ⟨[⟨false, [.bp 1000 0]⟩], [], [], [], [[.tr 2 2 [.int .u8] (.ints r1), cI r2, cI r3]]⟩
noncomputable def b0 : Code := codeAt c [1, 1, 0, 1, 0, 0]
noncomputable def l0s (x2 : List Int) (rec : Int → Int → O) (k : Int → O) (x3 x4 : Int) : O :=
 bif decide (x4 < (x2.length : Int)) then (bif decide (x4 < 4000) then (bif decide (0 ≤ x4) && decide (x4 < (x2.length : Int)) then rec (arith.bits .and .i64 (IntKind.i64.wrap ((IntKind.i64.wrap ((IntKind.i64.wrap (x3 * 131)) + (IntKind.i64.wrap (x2.getD x4.toNat 0)))) + 7)) 1073741823) (IntKind.i64.wrap (x4 + 1))
  else none)
  else k x3)
 else k x3
noncomputable def l0 (x2 : List Int) (k : Int → O) : Nat → Int → Int → O
 | 0, _, _ => none
 | n + 1, x3, x4 => l0s x2 (l0 x2 k n) k x3 x4
noncomputable def o0 : Fn [.z, .i] St := fun x2 y2 => ⟨mkT 32 [(0, one (.tr 2 1 [.int .u8] (.ints x2))), (3, oI y2)], [], []⟩
noncomputable def n0 (K : Res → O) := ent 0 [.z] [.i, .i] [0, 1, 2] (fun x2 x3 x4 => ⟨mkT 32 [(0, one (.tr 2 1 [.int .u8] (.ints x2))), (3, oI x3), (4, oI x4)], [], []⟩) fun x2 k => l0 x2 (fun y2 => k (o0 x2 y2))
noncomputable def X (K : Res → O) : Ctx := { cx0 [] fi true K with cin := [(0, ⟨[0, 3, 4], [], [], [], [], []⟩)], cout := [(0, ⟨[0, 3], [], [], [], [], []⟩)], lp := lpOf [n0 K] }
noncomputable def b (a1 : List Int) (R : List Int → Int → Int → O) : O :=
 l0 a1 (fun y5 =>
 R a1 0 y5) fuel (IntKind.i64.wrap (18218 + (a1.length : Int))) 0
noncomputable def g := seal_ b
theorem e : g = b := seal_eq b
noncomputable def a : Fn [.z] St := fun a1 => argSt [one (.tr 2 1 [.int .u8] (.ints a1))] [] []
noncomputable def con := conOf 32 [.z] [.z, .i, .i] a g m
theorem hx (K : Res → O) : CtxOk Pg Γ0 byt0 eqs0 (X K) [] := ctx_of (X := X) .nil (by kernel_rfl) K
theorem w0 (K : Res → O) : LpSound Pg (X K) 0 b0 := lp_fin (L := [n0 K]) laid (hx K) .nil (.cons (ent_ok (fun x2 k r => l0s x2 r (fun y2 => k (o0 x2 y2))) (by kernel_rfl) (by kernel_rfl) (by kernel_rfl) (by kernel_rfl) (by kernel_rfl)) .nil) (by kernel_rfl) (by kernel_rfl)
theorem ok : Con Pg con := con_fin (fn := Tryz.f32) (c := c) (Fi := fi) (X := X) laid hx (fun K => (.cons (w0 K) .nil)) e (by kernel_rfl) (by kernel_rfl) (by kernel_rfl) (by kernel_rfl)
end spec_l1New
namespace spec_l1Byte
noncomputable def c : Code := bodyOf Tryz.f64
noncomputable def fi : Fin := ⟨Γ0, [(.tmp 2, 3)], [[1]], [], [([.sl [.int .u8] 1, .int .i64, .int .i64], [0, 1, 1])], []⟩
noncomputable def m : Fn [.z, .i, .i] (Fn [.i, .i, .i] Res) := fun a1 _ _ r1 r3 r4 => ⟨[⟨false, [cI r1]⟩], [], [], [[.tr 2 2 [.int .u8] (.ints a1), cI r3, cI r4]], []⟩
noncomputable def X (K : Res → O) : Ctx := cx0 [] fi true K
noncomputable def b (a1 : List Int) (a2 a3 : Int) (R : Int → Int → Int → O) : O :=
 bif decide (a2 < (a1.length : Int)) then (bif decide (0 ≤ a2) && decide (a2 < (a1.length : Int)) then R (arith.bits .and .i64 (IntKind.i64.wrap ((arith.bits .and .i64 (arith.bits .xor .i64 ((IntKind.i64.wrap ((IntKind.i64.wrap (a3 * 6364136223846793005)) + 1442695040888963407)).fdiv (2 ^ 33)) ((IntKind.i64.wrap ((IntKind.i64.wrap (a3 * 6364136223846793005)) + 1442695040888963407)).fdiv (2 ^ 45))) 255) + (IntKind.i64.wrap (a1.getD a2.toNat 0)))) 255) (IntKind.i64.wrap (a2 + 1)) (IntKind.i64.wrap ((IntKind.i64.wrap (a3 * 6364136223846793005)) + 1442695040888963407))
  else none)
 else R (arith.bits .and .i64 (arith.bits .xor .i64 ((IntKind.i64.wrap ((IntKind.i64.wrap (a3 * 6364136223846793005)) + 1442695040888963407)).fdiv (2 ^ 33)) ((IntKind.i64.wrap ((IntKind.i64.wrap (a3 * 6364136223846793005)) + 1442695040888963407)).fdiv (2 ^ 45))) 255) a2 (IntKind.i64.wrap ((IntKind.i64.wrap (a3 * 6364136223846793005)) + 1442695040888963407))
noncomputable def g := seal_ b
theorem e : g = b := seal_eq b
noncomputable def a : Fn [.z, .i, .i] St := fun a1 a2 a3 => argSt [one (.bp 0 0)] [] [[.tr 2 2 [.int .u8] (.ints a1), cI a2, cI a3]]
noncomputable def con := conOf 64 [.z, .i, .i] [.i, .i, .i] a g m
theorem ok : Con Pg con := con_fin (fn := Tryz.f64) (c := c) (Fi := fi) (X := X) laid (ctx_of .nil (by kernel_rfl)) (fun K => .nil) e (by kernel_rfl) (by kernel_rfl) (by kernel_rfl) (by kernel_rfl)
end spec_l1Byte
namespace spec_l1Below
noncomputable def c : Code := bodyOf Tryz.f33
noncomputable def fi : Fin := ⟨Γ0, [(.tmp 4, 3)], [[1]], [], [([.sl [.int .u8] 1, .int .i64, .int .i64], [0, 1, 1])], []⟩
noncomputable def m : Fn [.i, .z, .i, .i] (Fn [.i, .i, .i] Res) := fun _ a2 _ _ r1 r3 r4 => ⟨[⟨false, [cI r1]⟩], [], [], [[.tr 2 2 [.int .u8] (.ints a2), cI r3, cI r4]], []⟩
noncomputable def X (K : Res → O) : Ctx := cx0 [spec_l1Byte.con] fi true K
noncomputable def b (a1 : Int) (a2 : List Int) (a3 a4 : Int) (R : Int → Int → Int → O) : O :=
 bif decide (a1 ≤ 0) then R 0 a3 a4
 else bif decide (a1 ≤ 256) then (spec_l1Byte.g a2 a3 a4 fun r5 r6 r7 =>
  bif decide (a1 = 0) then none
  else R (r5.tmod a1) r6 r7)
 else (spec_l1Byte.g a2 a3 a4 fun r8 r9 r10 =>
 spec_l1Byte.g a2 r9 r10 fun r11 r12 r13 =>
 spec_l1Byte.g a2 r12 r13 fun r14 r15 r16 =>
 spec_l1Byte.g a2 r15 r16 fun r17 r18 r19 =>
 bif decide (a1 = 0) then none
 else R ((IntKind.i64.wrap ((IntKind.i64.wrap ((IntKind.i64.wrap ((IntKind.i64.wrap (r8 * 16777216)) + (IntKind.i64.wrap (r11 * 65536)))) + (IntKind.i64.wrap (r14 * 256)))) + r17)).tmod a1) r18 r19)
noncomputable def g := seal_ b
theorem e : g = b := seal_eq b
noncomputable def a : Fn [.i, .z, .i, .i] St := fun a1 a2 a3 a4 => argSt [one (.bp 0 0), oI a1] [] [[.tr 2 2 [.int .u8] (.ints a2), cI a3, cI a4]]
noncomputable def con := conOf 33 [.i, .z, .i, .i] [.i, .i, .i] a g m
theorem ok : Con Pg con := con_fin (fn := Tryz.f33) (c := c) (Fi := fi) (X := X) laid (ctx_of (.cons spec_l1Byte.ok .nil) (by kernel_rfl)) (fun K => .nil) e (by kernel_rfl) (by kernel_rfl) (by kernel_rfl) (by kernel_rfl)
end spec_l1Below
namespace spec_l1Once
noncomputable def c : Code := bodyOf Tryz.f35
noncomputable def fi : Fin := ⟨Γ0, [(.tmp 4, 4)], [[1]], [], [([.sl [.int .u8] 1, .int .i64, .int .i64], [0, 1, 1])], []⟩
noncomputable def m : Fn [.i, .z, .i, .i] (Fn [.b, .i, .i] Res) := fun _ a2 _ _ r1 r3 r4 => ⟨[⟨false, [.bool r1]⟩], [], [], [[.tr 2 2 [.int .u8] (.ints a2), cI r3, cI r4]], []⟩
noncomputable def X (K : Res → O) : Ctx := cx0 [spec_l1Below.con] fi true K
noncomputable def b (a1 : Int) (a2 : List Int) (a3 a4 : Int) (R : Bool → Int → Int → O) : O :=
 spec_l1Below.g a1 a2 a3 a4 fun r5 r6 r7 =>
 R (r5 == 0) r6 r7
noncomputable def g := seal_ b
theorem e : g = b := seal_eq b
noncomputable def a : Fn [.i, .z, .i, .i] St := fun a1 a2 a3 a4 => argSt [one (.bp 0 0), oI a1] [] [[.tr 2 2 [.int .u8] (.ints a2), cI a3, cI a4]]
noncomputable def con := conOf 35 [.i, .z, .i, .i] [.b, .i, .i] a g m
theorem ok : Con Pg con := con_fin (fn := Tryz.f35) (c := c) (Fi := fi) (X := X) laid (ctx_of (.cons spec_l1Below.ok .nil) (by kernel_rfl)) (fun K => .nil) e (by kernel_rfl) (by kernel_rfl) (by kernel_rfl) (by kernel_rfl)
end spec_l1Once
namespace spec_l1PickInt
noncomputable def c : Code := bodyOf Tryz.f65
noncomputable def fi : Fin := ⟨Γ0, [(.tmp 4, 3)], [[1]], [], [([.sl [.int .u8] 1, .int .i64, .int .i64], [0, 1, 1])], []⟩
noncomputable def m : Fn [.z, .z, .i, .i] (Fn [.i, .i, .i] Res) := fun _ a2 _ _ r1 r3 r4 => ⟨[⟨false, [cI r1]⟩], [], [], [[.tr 2 2 [.int .u8] (.ints a2), cI r3, cI r4]], []⟩
noncomputable def X (K : Res → O) : Ctx := cx0 [spec_l1Below.con] fi true K
noncomputable def b (a1 a2 : List Int) (a3 a4 : Int) (R : Int → Int → Int → O) : O :=
 spec_l1Below.g (a1.length : Int) a2 a3 a4 fun r5 r6 r7 =>
 bif decide (0 ≤ r5) && decide (r5 < (a1.length : Int)) then R (a1.getD r5.toNat 0) r6 r7
 else none
noncomputable def g := seal_ b
theorem e : g = b := seal_eq b
noncomputable def a : Fn [.z, .z, .i, .i] St := fun a1 a2 a3 a4 => argSt [one (.bp 0 0), one (.tr 0 1 [.int .i64] (.ints a1))] [] [[.tr 2 2 [.int .u8] (.ints a2), cI a3, cI a4]]
noncomputable def con := conOf 65 [.z, .z, .i, .i] [.i, .i, .i] a g m
theorem ok : Con Pg con := con_fin (fn := Tryz.f65) (c := c) (Fi := fi) (X := X) laid (ctx_of (.cons spec_l1Below.ok .nil) (by kernel_rfl)) (fun K => .nil) e (by kernel_rfl) (by kernel_rfl) (by kernel_rfl) (by kernel_rfl)
end spec_l1PickInt
namespace spec_l1DrawNum
noncomputable def c : Code := bodyOf Tryz.f34
noncomputable def fi : Fin := ⟨Γ0, [(.tmp 2, 3)], [[1]], [], [([.sl [.int .u8] 1, .int .i64, .int .i64], [0, 1, 1])], []⟩
noncomputable def m : Fn [.z, .i, .i] (Fn [.i, .i, .i] Res) := fun a1 _ _ r1 r3 r4 => ⟨[⟨false, [cI r1]⟩], [], [], [[.tr 2 2 [.int .u8] (.ints a1), cI r3, cI r4]], []⟩
noncomputable def X (K : Res → O) : Ctx := cx0 [spec_l1Once.con, spec_l1PickInt.con, spec_l1Below.con] fi true K
noncomputable def b (a1 : List Int) (a2 a3 : Int) (R : Int → Int → Int → O) : O :=
 spec_l1Once.g 12 a1 a2 a3 fun r4 r5 r6 =>
 bif r4 then (spec_l1PickInt.g ([1000000000000, (-1000000000000), 999999999999, 1000000, (-1000000), 1000001, 999999999999] : List Int) a1 r5 r6 fun r7 r8 r9 =>
  R r7 r8 r9)
 else (spec_l1Below.g 20 a1 r5 r6 fun r10 r11 r12 =>
 R (IntKind.i64.wrap (r10 - 6)) r11 r12)
noncomputable def g := seal_ b
theorem e : g = b := seal_eq b
noncomputable def a : Fn [.z, .i, .i] St := fun a1 a2 a3 => argSt [one (.bp 0 0)] [] [[.tr 2 2 [.int .u8] (.ints a1), cI a2, cI a3]]
noncomputable def con := conOf 34 [.z, .i, .i] [.i, .i, .i] a g m
theorem ok : Con Pg con := con_fin (fn := Tryz.f34) (c := c) (Fi := fi) (X := X) laid (ctx_of (.cons spec_l1Once.ok (.cons spec_l1PickInt.ok (.cons spec_l1Below.ok .nil))) (by kernel_rfl)) (fun K => .nil) e (by kernel_rfl) (by kernel_rfl) (by kernel_rfl) (by kernel_rfl)
end spec_l1DrawNum
namespace spec_l1DrawRaw
noncomputable def c : Code := bodyOf Tryz.f36
noncomputable def fi : Fin := ⟨Γ0, [(.tmp 2, 3)], [[1]], [], [([.sl [.int .u8] 1, .int .i64, .int .i64], [0, 1, 1])], []⟩
noncomputable def m : Fn [.z, .i, .i] (Fn [.i, .i, .i] Res) := fun a1 _ _ r1 r3 r4 => ⟨[⟨false, [cI r1]⟩], [], [], [[.tr 2 2 [.int .u8] (.ints a1), cI r3, cI r4]], []⟩
noncomputable def X (K : Res → O) : Ctx := cx0 [spec_l1Once.con, spec_l1PickInt.con, spec_l1DrawNum.con] fi true K
noncomputable def b (a1 : List Int) (a2 a3 : Int) (R : Int → Int → Int → O) : O :=
 spec_l1Once.g 15 a1 a2 a3 fun r4 r5 r6 =>
 bif r4 then (spec_l1PickInt.g ([1000000000001, (-1000000000001), 9223372036854775807, (-9223372036854775808)] : List Int) a1 r5 r6 fun r7 r8 r9 =>
  R r7 r8 r9)
 else (spec_l1DrawNum.g a1 r5 r6 fun r10 r11 r12 =>
 R r10 r11 r12)
noncomputable def g := seal_ b
theorem e : g = b := seal_eq b
noncomputable def a : Fn [.z, .i, .i] St := fun a1 a2 a3 => argSt [one (.bp 0 0)] [] [[.tr 2 2 [.int .u8] (.ints a1), cI a2, cI a3]]
noncomputable def con := conOf 36 [.z, .i, .i] [.i, .i, .i] a g m
theorem ok : Con Pg con := con_fin (fn := Tryz.f36) (c := c) (Fi := fi) (X := X) laid (ctx_of (.cons spec_l1Once.ok (.cons spec_l1PickInt.ok (.cons spec_l1DrawNum.ok .nil))) (by kernel_rfl)) (fun K => .nil) e (by kernel_rfl) (by kernel_rfl) (by kernel_rfl) (by kernel_rfl)
end spec_l1DrawRaw
namespace spec_l16DrawList
noncomputable def c : Code := bodyOf Tryz.f15
noncomputable def fi : Fin := ⟨Γ0, [(.tmp 2, 24)], [[1]], [], [], []⟩
noncomputable def m : Fn [.z] (Fn [.z] Res) := fun _ r1 => ⟨[⟨false, [.ow 1000]⟩], [], [⟨[.int .i64], .ints r1, true, 0, none⟩], [], []⟩
noncomputable def b0 : Code := codeAt c [1, 1, 1, 0, 1, 0, 0]
noncomputable def l0s (x7 : List Int) (rec : Int → List Int → Int → Int → O) (k : List Int → Int → Int → O) (x5 : Int) (x6 : List Int) (x8 x9 : Int) : O :=
 spec_l1Below.g 9 x7 x8 x9 fun r10 r11 r12 =>
 bif decide (x5 < r10) then (spec_l1DrawNum.g x7 r11 r12 fun r13 r14 r15 =>
  bif decide ((x6.length + 1) * 8 ≤ 140737488355328) then rec (IntKind.i64.wrap (x5 + 1)) (x6 ++ ([r13] : List Int)) r14 r15
  else none)
 else k x6 r11 r12
noncomputable def l0 (x7 : List Int) (k : List Int → Int → Int → O) : Nat → Int → List Int → Int → Int → O
 | 0, _, _, _, _ => none
 | n + 1, x5, x6, x8, x9 => l0s x7 (l0 x7 k n) k x5 x6 x8 x9
noncomputable def o0 : Fn [.z, .z, .i, .i] St := fun x7 y1 y3 y4 => ⟨mkT 28 [(3, one (.bp 3065 0)), (4, one (.ow 5096))], [(5096, ⟨[.int .i64], .ints y1, true, 0, none⟩)], [(3065, [.tr 2 2 [.int .u8] (.ints x7), cI y3, cI y4])]⟩
noncomputable def n0 (K : Res → O) := ent 0 [.z] [.i, .z, .i, .i] [2, 0, 1, 3, 4] (fun x7 x5 x6 x8 x9 => ⟨mkT 28 [(3, one (.bp 3065 0)), (4, one (.ow 5096)), (5, oI x5)], [(5096, ⟨[.int .i64], .ints x6, true, 0, none⟩)], [(3065, [.tr 2 2 [.int .u8] (.ints x7), cI x8, cI x9])]⟩) fun x7 k => l0 x7 (fun y1 y3 y4 => k (o0 x7 y1 y3 y4))
noncomputable def X (K : Res → O) : Ctx := { cx0 [spec_l1New.con, spec_l1Below.con, spec_l1DrawNum.con, spec_l1Once.con, spec_l1DrawRaw.con] fi true K with io := [(32, [⟨false, 2, 1⟩])], cin := [(0, ⟨[3, 4, 5], [(5096, 5096), (13352, 5096)], [3065], [], [], []⟩)], cout := [(0, ⟨[3, 4], [(5096, 5096)], [3065], [], [], []⟩)], lp := lpOf [n0 K] }
noncomputable def b (a1 : List Int) (R : List Int → O) : O :=
 spec_l1New.g a1 fun r2 r3 r4 =>
 l0 r2 (fun y16 y17 y18 =>
 spec_l1Once.g 15 r2 y17 y18 fun r19 r20 r21 =>
 bif r19 then (spec_l1DrawRaw.g r2 r20 r21 fun r22 r23 r24 =>
  bif decide ((y16.length + 1) * 8 ≤ 140737488355328) then R (y16 ++ ([r22] : List Int))
  else none)
 else R y16) fuel 0 ([] : List Int) r3 r4
noncomputable def g := seal_ b
theorem e : g = b := seal_eq b
noncomputable def a : Fn [.z] St := fun a1 => argSt [one (.tr 2 1 [.int .u8] (.ints a1))] [] []
noncomputable def con := conOf 15 [.z] [.z] a g m
theorem hx (K : Res → O) : CtxOk Pg Γ0 byt0 eqs0 (X K) [spec_l1New.con, spec_l1Below.con, spec_l1DrawNum.con, spec_l1Once.con, spec_l1DrawRaw.con] := ctx_of (X := X) (.cons spec_l1New.ok (.cons spec_l1Below.ok (.cons spec_l1DrawNum.ok (.cons spec_l1Once.ok (.cons spec_l1DrawRaw.ok .nil))))) (by kernel_rfl) K
theorem w0 (K : Res → O) : LpSound Pg (X K) 0 b0 := lp_fin (L := [n0 K]) laid (hx K) .nil (.cons (ent_ok (fun x7 k r => l0s x7 r (fun y1 y3 y4 => k (o0 x7 y1 y3 y4))) (by kernel_rfl) (by kernel_rfl) (by kernel_rfl) (by kernel_rfl) (by kernel_rfl)) .nil) (by kernel_rfl) (by kernel_rfl)
theorem ok : Con Pg con := con_fin (fn := Tryz.f15) (c := c) (Fi := fi) (X := X) laid hx (fun K => (.cons (w0 K) .nil)) e (by kernel_rfl) (by kernel_rfl) (by kernel_rfl) (by kernel_rfl)
end spec_l16DrawList
namespace spec_DrawShowRow
noncomputable def c : Code := bodyOf Tryz.f5
noncomputable def fi : Fin := ⟨Γ0, [(.tmp 2, 24)], [[1]], [], [], []⟩
noncomputable def m : Fn [.z] (Fn [.z] Res) := fun _ r1 => ⟨[⟨false, [.ow 1000]⟩], [], [⟨[.int .i64], .ints r1, true, 0, none⟩], [], []⟩
noncomputable def X (K : Res → O) : Ctx := { cx0 [spec_l16DrawList.con] fi true K with io := [(15, [⟨false, 2, 1⟩])] }
noncomputable def b (a1 : List Int) (R : List Int → O) : O :=
 spec_l16DrawList.g a1 fun r2 =>
 R r2
noncomputable def g := seal_ b
theorem e : g = b := seal_eq b
noncomputable def a : Fn [.z] St := fun a1 => argSt [one (.tr 2 1 [.int .u8] (.ints a1))] [] []
noncomputable def con := conOf 5 [.z] [.z] a g m
theorem ok : Con Pg con := con_fin (fn := Tryz.f5) (c := c) (Fi := fi) (X := X) laid (ctx_of (.cons spec_l16DrawList.ok .nil) (by kernel_rfl)) (fun K => .nil) e (by kernel_rfl) (by kernel_rfl) (by kernel_rfl) (by kernel_rfl)
end spec_DrawShowRow
namespace impl_within
noncomputable def c : Code := bodyOf Tryz.f42
noncomputable def fi : Fin := ⟨Γ0, [(.tmp 6, 4)], [[1]], [], [], []⟩
noncomputable def m : Fn [.i, .i, .i] (Fn [.b] Res) := fun _ _ _ r1 => ⟨[⟨false, [.bool r1]⟩], [], [], [], []⟩
noncomputable def X (K : Res → O) : Ctx := cx0 [] fi true K
noncomputable def b (a1 a2 a3 : Int) (R : Bool → O) : O :=
 bif decide (a2 ≤ a1) then R (decide (a1 ≤ a3))
 else R false
noncomputable def g := seal_ b
theorem e : g = b := seal_eq b
noncomputable def a : Fn [.i, .i, .i] St := fun a1 a2 a3 => argSt [oI a1, oI a2, oI a3] [] []
noncomputable def con := conOf 42 [.i, .i, .i] [.b] a g m
theorem ok : Con Pg con := con_fin (fn := Tryz.f42) (c := c) (Fi := fi) (X := X) laid (ctx_of .nil (by kernel_rfl)) (fun K => .nil) e (by kernel_rfl) (by kernel_rfl) (by kernel_rfl) (by kernel_rfl)
end impl_within
namespace impl_NumOk
noncomputable def c : Code := bodyOf Tryz.f22
noncomputable def fi : Fin := ⟨Γ0, [(.tmp 2, 4)], [[1]], [], [], []⟩
noncomputable def m : Fn [.i] (Fn [.b] Res) := fun _ r1 => ⟨[⟨false, [.bool r1]⟩], [], [], [], []⟩
noncomputable def X (K : Res → O) : Ctx := cx0 [impl_within.con] fi true K
noncomputable def b (a1 : Int) (R : Bool → O) : O :=
 impl_within.g a1 (-1000000000000) 1000000000000 fun r2 =>
 R r2
noncomputable def g := seal_ b
theorem e : g = b := seal_eq b
noncomputable def a : Fn [.i] St := fun a1 => argSt [oI a1] [] []
noncomputable def con := conOf 22 [.i] [.b] a g m
theorem ok : Con Pg con := con_fin (fn := Tryz.f22) (c := c) (Fi := fi) (X := X) laid (ctx_of (.cons impl_within.ok .nil) (by kernel_rfl)) (fun K => .nil) e (by kernel_rfl) (by kernel_rfl) (by kernel_rfl) (by kernel_rfl)
end impl_NumOk
namespace impl_allRight_1
noncomputable def c : Code := bodyOf Tryz.f38
noncomputable def fi : Fin := ⟨Γ0, [(.tmp 2, 4)], [[1]], [], [], []⟩
noncomputable def m : Fn [.i] (Fn [.b] Res) := fun _ r1 => ⟨[⟨false, [.bool r1]⟩], [], [], [], []⟩
noncomputable def X (K : Res → O) : Ctx := cx0 [impl_NumOk.con] fi true K
noncomputable def b (a1 : Int) (R : Bool → O) : O :=
 impl_NumOk.g a1 fun r2 =>
 R (!r2)
noncomputable def g := seal_ b
theorem e : g = b := seal_eq b
noncomputable def a : Fn [.i] St := fun a1 => argSt [oI a1] [] []
noncomputable def con := conOf 38 [.i] [.b] a g m
theorem ok : Con Pg con := con_fin (fn := Tryz.f38) (c := c) (Fi := fi) (X := X) laid (ctx_of (.cons impl_NumOk.ok .nil) (by kernel_rfl)) (fun K => .nil) e (by kernel_rfl) (by kernel_rfl) (by kernel_rfl) (by kernel_rfl)
end impl_allRight_1
namespace slices_IndexFunc_int_int_i2
noncomputable def c : Code := bodyOf Tryz.f66
noncomputable def fi : Fin := ⟨Γ0, [(.tmp 4, 3)], [[1]], [], [], []⟩
noncomputable def m : Fn [.z] (Fn [.i] Res) := fun _ r1 => ⟨[⟨false, [cI r1]⟩], [], [], [], []⟩
noncomputable def b0 : Code := codeAt c [1, 0, 1, 0, 0]
noncomputable def l0s (x2 : List Int) (x3 : Int) (rec : Int → O) (k : O) (R : Int → O) (x4 : Int) : O :=
 bif decide (x4 < x3) then (bif decide (0 ≤ x4) && decide (x4 < (x2.length : Int)) then (impl_allRight_1.g (x2.getD x4.toNat 0) fun r5 =>
  bif r5 then R x4
  else rec (IntKind.i64.wrap (x4 + 1)))
  else none)
 else k
noncomputable def l0 (x2 : List Int) (x3 : Int) (k : O) (R : Int → O) : Nat → Int → O
 | 0, _ => none
 | n + 1, x4 => l0s x2 x3 (l0 x2 x3 k R n) k R x4
noncomputable def o0 : Fn [.z, .i] St := fun _ _ => ⟨mkT 19 [], [], []⟩
noncomputable def n0 (K : Res → O) := ent 0 [.z, .i] [.i] [0, 1, 2] (fun x2 x3 x4 => ⟨mkT 19 [(0, one (.tr 0 1 [.int .i64] (.ints x2))), (1, one (.fn 38 [])), (7, oI x3), (8, oI x4)], [], []⟩) fun x2 x3 k => l0 x2 x3 (k (o0 x2 x3)) (fun r1 => K (m [] r1))
noncomputable def X (K : Res → O) : Ctx := { cx0 [impl_allRight_1.con] fi true K with cin := [(0, ⟨[0, 1, 7, 8], [], [], [], [], []⟩)], cout := [(0, ⟨[], [], [], [], [], []⟩)], lp := lpOf [n0 K] }
noncomputable def b (a1 : List Int) (R : Int → O) : O :=
 l0 a1 (a1.length : Int) (
 R (-1)) R fuel 0
noncomputable def g := seal_ b
theorem e : g = b := seal_eq b
noncomputable def a : Fn [.z] St := fun a1 => argSt [one (.tr 0 1 [.int .i64] (.ints a1)), one (.fn 38 [])] [] []
noncomputable def con := conOf 66 [.z] [.i] a g m
theorem hx (K : Res → O) : CtxOk Pg Γ0 byt0 eqs0 (X K) [impl_allRight_1.con] := ctx_of (X := X) (.cons impl_allRight_1.ok .nil) (by kernel_rfl) K
theorem w0 (K : Res → O) : LpSound Pg (X K) 0 b0 := lp_fin (L := [n0 K]) laid (hx K) .nil (.cons (ent_ok (fun x2 x3 k r => l0s x2 x3 r (k (o0 x2 x3)) (fun r1 => K (m [] r1))) (by kernel_rfl) (by kernel_rfl) (by kernel_rfl) (by kernel_rfl) (by kernel_rfl)) .nil) (by kernel_rfl) (by kernel_rfl)
theorem ok : Con Pg con := con_fin (fn := Tryz.f66) (c := c) (Fi := fi) (X := X) laid hx (fun K => (.cons (w0 K) .nil)) e (by kernel_rfl) (by kernel_rfl) (by kernel_rfl) (by kernel_rfl)
end slices_IndexFunc_int_int_i2
namespace slices_ContainsFunc_int_int_i2
noncomputable def c : Code := bodyOf Tryz.f37
noncomputable def fi : Fin := ⟨Γ0, [(.tmp 4, 4)], [[1]], [], [], []⟩
noncomputable def m : Fn [.z] (Fn [.b] Res) := fun _ r1 => ⟨[⟨false, [.bool r1]⟩], [], [], [], []⟩
noncomputable def X (K : Res → O) : Ctx := cx0 [slices_IndexFunc_int_int_i2.con] fi true K
noncomputable def b (a1 : List Int) (R : Bool → O) : O :=
 slices_IndexFunc_int_int_i2.g a1 fun r2 =>
 R (decide (0 ≤ r2))
noncomputable def g := seal_ b
theorem e : g = b := seal_eq b
noncomputable def a : Fn [.z] St := fun a1 => argSt [one (.tr 0 1 [.int .i64] (.ints a1)), one (.fn 38 [])] [] []
noncomputable def con := conOf 37 [.z] [.b] a g m
theorem ok : Con Pg con := con_fin (fn := Tryz.f37) (c := c) (Fi := fi) (X := X) laid (ctx_of (.cons slices_IndexFunc_int_int_i2.ok .nil) (by kernel_rfl)) (fun K => .nil) e (by kernel_rfl) (by kernel_rfl) (by kernel_rfl) (by kernel_rfl)
end slices_ContainsFunc_int_int_i2
namespace impl_allRight
noncomputable def c : Code := bodyOf Tryz.f16
noncomputable def fi : Fin := ⟨Γ0, [(.tmp 2, 4)], [[1]], [], [], []⟩
noncomputable def m : Fn [.z] (Fn [.b] Res) := fun _ r1 => ⟨[⟨false, [.bool r1]⟩], [], [], [], []⟩
noncomputable def X (K : Res → O) : Ctx := cx0 [slices_ContainsFunc_int_int_i2.con] fi true K
noncomputable def b (a1 : List Int) (R : Bool → O) : O :=
 slices_ContainsFunc_int_int_i2.g a1 fun r2 =>
 R (!r2)
noncomputable def g := seal_ b
theorem e : g = b := seal_eq b
noncomputable def a : Fn [.z] St := fun a1 => argSt [one (.tr 0 1 [.int .i64] (.ints a1))] [] []
noncomputable def con := conOf 16 [.z] [.b] a g m
theorem ok : Con Pg con := con_fin (fn := Tryz.f16) (c := c) (Fi := fi) (X := X) laid (ctx_of (.cons slices_ContainsFunc_int_int_i2.ok .nil) (by kernel_rfl)) (fun K => .nil) e (by kernel_rfl) (by kernel_rfl) (by kernel_rfl) (by kernel_rfl)
end impl_allRight
namespace strconv_Itoa
theorem is : ItoaIs Go.Proofs.Tryz.prog 23 := fun n h0 h1 w ht => Go.Proofs.Tryz.strconv_Itoa n h0 h1 w ht
noncomputable def g (a1 : Int) (R : ByteArray → O) : O := itoaG a1 R
noncomputable def con : FuncId × St × (List Lf → (Res → Option Res) → Option Res) := itoaC 23
theorem ok : Con Go.Proofs.Tryz.prog con := con_itoa (fn := Go.Proofs.Tryz.f23) (by kernel_rfl) (by kernel_rfl) (by kernel_rfl) is
end strconv_Itoa
namespace impl_ShowNum
noncomputable def c : Code := bodyOf Tryz.f11
noncomputable def fi : Fin := ⟨Γ0, [(.tmp 2, 9)], [[1]], [], [], []⟩
noncomputable def m : Fn [.i] (Fn [.s] Res) := fun _ r1 => ⟨[⟨false, [.str r1]⟩], [], [], [], []⟩
noncomputable def X (K : Res → O) : Ctx := cx0 [impl_NumOk.con, strconv_Itoa.con] fi true K
noncomputable def b (a1 : Int) (R : ByteArray → O) : O :=
 impl_NumOk.g a1 fun r2 =>
 bif !r2 then R (⟨#[]⟩ : ByteArray)
 else bif decide (a1 < 0) then (strconv_Itoa.g (IntKind.i64.wrap (0 - a1)) fun r3 =>
  bif decide (1 + r3.size ≤ 9223372036854775807) then R ((⟨#[95]⟩ : ByteArray) ++ r3)
  else none)
 else (strconv_Itoa.g a1 fun r4 =>
 R r4)
noncomputable def g := seal_ b
theorem e : g = b := seal_eq b
noncomputable def a : Fn [.i] St := fun a1 => argSt [oI a1] [] []
noncomputable def con := conOf 11 [.i] [.s] a g m
theorem ok : Con Pg con := con_fin (fn := Tryz.f11) (c := c) (Fi := fi) (X := X) laid (ctx_of (.cons impl_NumOk.ok (.cons strconv_Itoa.ok .nil)) (by kernel_rfl)) (fun K => .nil) e (by kernel_rfl) (by kernel_rfl) (by kernel_rfl) (by kernel_rfl)
end impl_ShowNum
namespace strings_Join
theorem is : JoinIs Go.Proofs.Tryz.prog 17 := ⟨fun a c sep w => Go.Proofs.Tryz.strings_Join_none a c sep w, fun bk o c xs sep w h1 h2 h3 h4 h5 => Go.Proofs.Tryz.strings_Join bk o c xs sep w h1 h2 h3 h4 h5⟩
noncomputable def g (a1 : List ByteArray) (a2 : ByteArray) (R : ByteArray → O) : O := joinG a1 a2 R
noncomputable def con : FuncId × St × (List Lf → (Res → Option Res) → Option Res) := joinC 17 0 1
theorem ok : Con Go.Proofs.Tryz.prog con := con_join 0 1 (fn := Go.Proofs.Tryz.f17) (by kernel_rfl) (by kernel_rfl) (by kernel_rfl) is
end strings_Join
namespace impl_ShowRow
noncomputable def c : Code := bodyOf Tryz.f6
noncomputable def fi : Fin := ⟨Γ0, [(.tmp 2, 9)], [[1]], [], [], []⟩
noncomputable def m : Fn [.z] (Fn [.s] Res) := fun _ r1 => ⟨[⟨false, [.str r1]⟩], [], [], [], []⟩
noncomputable def b0 : Code := codeAt c [1, 1, 1, 0, 1, 0, 0]
noncomputable def l0s (x3 : List Int) (x4 : Int) (rec : Int → List ByteArray → O) (k : List ByteArray → O) (x5 : Int) (x6 : List ByteArray) : O :=
 bif decide (x5 < x4) then (bif decide (0 ≤ x5) && decide (x5 < (x3.length : Int)) then (impl_ShowNum.g (x3.getD x5.toNat 0) fun r7 =>
  bif decide ((x6.length + 1) * 16 ≤ 140737488355328) then rec (IntKind.i64.wrap (x5 + 1)) (x6 ++ ([r7] : List ByteArray))
  else none)
  else none)
 else k x6
noncomputable def l0 (x3 : List Int) (x4 : Int) (k : List ByteArray → O) : Nat → Int → List ByteArray → O
 | 0, _, _ => none
 | n + 1, x5, x6 => l0s x3 x4 (l0 x3 x4 k n) k x5 x6
noncomputable def o0 : Fn [.z, .i, .t] St := fun _ _ y1 => ⟨mkT 23 [(3, one (.ow 7152))], [(7152, ⟨[.str], .strs y1, true, 0, none⟩)], []⟩
noncomputable def n0 (K : Res → O) := ent 0 [.z, .i] [.i, .t] [0, 1, 2, 3] (fun x3 x4 x5 x6 => ⟨mkT 23 [(3, one (.ow 7152)), (9, one (.tr 0 1 [.int .i64] (.ints x3))), (10, oI x4), (11, oI x5)], [(7152, ⟨[.str], .strs x6, true, 0, none⟩)], []⟩) fun x3 x4 k => l0 x3 x4 (fun y1 => k (o0 x3 x4 y1))
noncomputable def X (K : Res → O) : Ctx := { cx0 [impl_allRight.con, impl_ShowNum.con, strings_Join.con] fi true K with own := [(3, 0, 0, [.str])], cin := [(0, ⟨[3, 9, 10, 11], [(7152, 7152), (15400, 7152)], [], [], [], []⟩)], cout := [(0, ⟨[3], [(7152, 7152)], [], [], [], []⟩)], lp := lpOf [n0 K] }
noncomputable def b (a1 : List Int) (R : ByteArray → O) : O :=
 impl_allRight.g a1 fun r2 =>
 bif !r2 then R (⟨#[]⟩ : ByteArray)
 else (l0 a1 (a1.length : Int) (fun y8 =>
 strings_Join.g y8 (⟨#[32]⟩ : ByteArray) fun r9 =>
 R r9) fuel 0 ([] : List ByteArray))
noncomputable def g := seal_ b
theorem e : g = b := seal_eq b
noncomputable def a : Fn [.z] St := fun a1 => argSt [one (.tr 0 1 [.int .i64] (.ints a1))] [] []
noncomputable def con := conOf 6 [.z] [.s] a g m
theorem hx (K : Res → O) : CtxOk Pg Γ0 byt0 eqs0 (X K) [impl_allRight.con, impl_ShowNum.con, strings_Join.con] := ctx_of (X := X) (.cons impl_allRight.ok (.cons impl_ShowNum.ok (.cons strings_Join.ok .nil))) (by kernel_rfl) K
theorem w0 (K : Res → O) : LpSound Pg (X K) 0 b0 := lp_fin (L := [n0 K]) laid (hx K) .nil (.cons (ent_ok (fun x3 x4 k r => l0s x3 x4 r (fun y1 => k (o0 x3 x4 y1))) (by kernel_rfl) (by kernel_rfl) (by kernel_rfl) (by kernel_rfl) (by kernel_rfl)) .nil) (by kernel_rfl) (by kernel_rfl)
theorem ok : Con Pg con := con_fin (fn := Tryz.f6) (c := c) (Fi := fi) (X := X) laid hx (fun K => (.cons (w0 K) .nil)) e (by kernel_rfl) (by kernel_rfl) (by kernel_rfl) (by kernel_rfl)
end impl_ShowRow
namespace impl_ShowWide
noncomputable def c : Code := bodyOf Tryz.f7
noncomputable def fi : Fin := ⟨Γ0, [(.tmp 2, 3)], [[1]], [], [], []⟩
noncomputable def m : Fn [.z] (Fn [.i] Res) := fun _ r1 => ⟨[⟨false, [cI r1]⟩], [], [], [], []⟩
noncomputable def b0 : Code := codeAt c [1, 1, 1, 0, 1, 0, 0]
noncomputable def l0s (x4 : List Int) (x5 : Int) (rec : Int → Int → O) (k : Int → O) (x3 x6 : Int) : O :=
 bif decide (x6 < x5) then (bif decide (0 ≤ x6) && decide (x6 < (x4.length : Int)) then (impl_ShowNum.g (x4.getD x6.toNat 0) fun r7 =>
  rec (minmax true x3 (r7.size : Int)) (IntKind.i64.wrap (x6 + 1)))
  else none)
 else k x3
noncomputable def l0 (x4 : List Int) (x5 : Int) (k : Int → O) : Nat → Int → Int → O
 | 0, _, _ => none
 | n + 1, x3, x6 => l0s x4 x5 (l0 x4 x5 k n) k x3 x6
noncomputable def o0 : Fn [.z, .i, .i] St := fun _ _ y1 => ⟨mkT 22 [(3, oI y1)], [], []⟩
noncomputable def n0 (K : Res → O) := ent 0 [.z, .i] [.i, .i] [1, 2, 0, 3] (fun x4 x5 x3 x6 => ⟨mkT 22 [(3, oI x3), (9, one (.tr 0 1 [.int .i64] (.ints x4))), (10, oI x5), (11, oI x6)], [], []⟩) fun x4 x5 k => l0 x4 x5 (fun y1 => k (o0 x4 x5 y1))
noncomputable def X (K : Res → O) : Ctx := { cx0 [impl_allRight.con, impl_ShowNum.con] fi true K with cin := [(0, ⟨[3, 9, 10, 11], [], [], [], [], []⟩)], cout := [(0, ⟨[3], [], [], [], [], []⟩)], lp := lpOf [n0 K] }
noncomputable def b (a1 : List Int) (R : Int → O) : O :=
 impl_allRight.g a1 fun r2 =>
 bif !r2 then R (-1)
 else (l0 a1 (a1.length : Int) (fun y8 =>
 R y8) fuel 0 0)
noncomputable def g := seal_ b
theorem e : g = b := seal_eq b
noncomputable def a : Fn [.z] St := fun a1 => argSt [one (.tr 0 1 [.int .i64] (.ints a1))] [] []
noncomputable def con := conOf 7 [.z] [.i] a g m
theorem hx (K : Res → O) : CtxOk Pg Γ0 byt0 eqs0 (X K) [impl_allRight.con, impl_ShowNum.con] := ctx_of (X := X) (.cons impl_allRight.ok (.cons impl_ShowNum.ok .nil)) (by kernel_rfl) K
theorem w0 (K : Res → O) : LpSound Pg (X K) 0 b0 := lp_fin (L := [n0 K]) laid (hx K) .nil (.cons (ent_ok (fun x4 x5 k r => l0s x4 x5 r (fun y1 => k (o0 x4 x5 y1))) (by kernel_rfl) (by kernel_rfl) (by kernel_rfl) (by kernel_rfl) (by kernel_rfl)) .nil) (by kernel_rfl) (by kernel_rfl)
theorem ok : Con Pg con := con_fin (fn := Tryz.f7) (c := c) (Fi := fi) (X := X) laid hx (fun K => (.cons (w0 K) .nil)) e (by kernel_rfl) (by kernel_rfl) (by kernel_rfl) (by kernel_rfl)
end impl_ShowWide
namespace spec_l1In
noncomputable def c : Code := bodyOf Tryz.f21
noncomputable def fi : Fin := ⟨Γ0, [(.tmp 6, 4)], [[1]], [], [], []⟩
noncomputable def m : Fn [.i, .i, .i] (Fn [.b] Res) := fun _ _ _ r1 => ⟨[⟨false, [.bool r1]⟩], [], [], [], []⟩
noncomputable def X (K : Res → O) : Ctx := cx0 [] fi true K
noncomputable def b (a1 a2 a3 : Int) (R : Bool → O) : O :=
 bif decide (a2 ≤ a1) then R (decide (a1 ≤ a3))
 else R false
noncomputable def g := seal_ b
theorem e : g = b := seal_eq b
noncomputable def a : Fn [.i, .i, .i] St := fun a1 a2 a3 => argSt [oI a1, oI a2, oI a3] [] []
noncomputable def con := conOf 21 [.i, .i, .i] [.b] a g m
theorem ok : Con Pg con := con_fin (fn := Tryz.f21) (c := c) (Fi := fi) (X := X) laid (ctx_of .nil (by kernel_rfl)) (fun K => .nil) e (by kernel_rfl) (by kernel_rfl) (by kernel_rfl) (by kernel_rfl)
end spec_l1In
namespace spec_NumOk
noncomputable def c : Code := bodyOf Tryz.f10
noncomputable def fi : Fin := ⟨Γ0, [(.tmp 2, 4)], [[1]], [], [], []⟩
noncomputable def m : Fn [.i] (Fn [.b] Res) := fun _ r1 => ⟨[⟨false, [.bool r1]⟩], [], [], [], []⟩
noncomputable def X (K : Res → O) : Ctx := cx0 [spec_l1In.con] fi true K
noncomputable def b (a1 : Int) (R : Bool → O) : O :=
 spec_l1In.g a1 (-1000000000000) 1000000000000 fun r2 =>
 R r2
noncomputable def g := seal_ b
theorem e : g = b := seal_eq b
noncomputable def a : Fn [.i] St := fun a1 => argSt [oI a1] [] []
noncomputable def con := conOf 10 [.i] [.b] a g m
theorem ok : Con Pg con := con_fin (fn := Tryz.f10) (c := c) (Fi := fi) (X := X) laid (ctx_of (.cons spec_l1In.ok .nil) (by kernel_rfl)) (fun K => .nil) e (by kernel_rfl) (by kernel_rfl) (by kernel_rfl) (by kernel_rfl)
end spec_NumOk
namespace spec_l16Nums
noncomputable def c : Code := bodyOf Tryz.f18
noncomputable def fi : Fin := ⟨Γ0, [(.tmp 2, 4)], [[1]], [], [], []⟩
noncomputable def m : Fn [.z] (Fn [.b] Res) := fun _ r1 => ⟨[⟨false, [.bool r1]⟩], [], [], [], []⟩
noncomputable def b0 : Code := codeAt c [1, 0, 1, 0, 0]
noncomputable def l0s (x2 : List Int) (rec : Int → O) (k : O) (R : Bool → O) (x3 : Int) : O :=
 bif decide (x3 < (x2.length : Int)) then (bif decide (0 ≤ x3) && decide (x3 < (x2.length : Int)) then (spec_NumOk.g (x2.getD x3.toNat 0) fun r4 =>
  bif !r4 then R false
  else rec (IntKind.i64.wrap (x3 + 1)))
  else none)
 else k
noncomputable def l0 (x2 : List Int) (k : O) (R : Bool → O) : Nat → Int → O
 | 0, _ => none
 | n + 1, x3 => l0s x2 (l0 x2 k R n) k R x3
noncomputable def o0 : Fn [.z] St := fun _ => ⟨mkT 16 [], [], []⟩
noncomputable def n0 (K : Res → O) := ent 0 [.z] [.i] [0, 1] (fun x2 x3 => ⟨mkT 16 [(0, one (.tr 0 1 [.int .i64] (.ints x2))), (3, oI x3)], [], []⟩) fun x2 k => l0 x2 (k (o0 x2)) (fun r1 => K (m [] r1))
noncomputable def X (K : Res → O) : Ctx := { cx0 [spec_NumOk.con] fi true K with cin := [(0, ⟨[0, 3], [], [], [], [], []⟩)], cout := [(0, ⟨[], [], [], [], [], []⟩)], lp := lpOf [n0 K] }
noncomputable def b (a1 : List Int) (R : Bool → O) : O :=
 l0 a1 (
 R true) R fuel 0
noncomputable def g := seal_ b
theorem e : g = b := seal_eq b
noncomputable def a : Fn [.z] St := fun a1 => argSt [one (.tr 0 1 [.int .i64] (.ints a1))] [] []
noncomputable def con := conOf 18 [.z] [.b] a g m
theorem hx (K : Res → O) : CtxOk Pg Γ0 byt0 eqs0 (X K) [spec_NumOk.con] := ctx_of (X := X) (.cons spec_NumOk.ok .nil) (by kernel_rfl) K
theorem w0 (K : Res → O) : LpSound Pg (X K) 0 b0 := lp_fin (L := [n0 K]) laid (hx K) .nil (.cons (ent_ok (fun x2 k r => l0s x2 r (k (o0 x2)) (fun r1 => K (m [] r1))) (by kernel_rfl) (by kernel_rfl) (by kernel_rfl) (by kernel_rfl) (by kernel_rfl)) .nil) (by kernel_rfl) (by kernel_rfl)
theorem ok : Con Pg con := con_fin (fn := Tryz.f18) (c := c) (Fi := fi) (X := X) laid hx (fun K => (.cons (w0 K) .nil)) e (by kernel_rfl) (by kernel_rfl) (by kernel_rfl) (by kernel_rfl)
end spec_l16Nums
-- GROUP spec_l8Digits
namespace spec_l8Digits
noncomputable def c : Code := bodyOf Tryz.f19
noncomputable def fi : Fin := ⟨Γ0, [(.tmp 2, 9)], [[1]], [], [], []⟩
noncomputable def m : Fn [.i] (Fn [.s] Res) := fun _ r1 => ⟨[⟨false, [.str r1]⟩], [], [], [], []⟩
noncomputable def b0 : Code := codeAt c [1, 1, 1, 1, 0, 0, 0]
noncomputable abbrev T : Type := Int → (ByteArray → O) → O
noncomputable def a : Fn [.i] St := fun a1 => argSt [oI a1] [] []
noncomputable def conz (h : T) := conOf 19 [.i] [.s] a h m
end spec_l8Digits
noncomputable abbrev Z_spec_l8Digits : Type := spec_l8Digits.T
noncomputable def Gd_spec_l8Digits (z : Z_spec_l8Digits) : Prop := Con Pg (spec_l8Digits.conz z)
namespace spec_l8Digits
noncomputable def l0s  (rec : Int → ByteArray → O) (k : ByteArray → O) (x3 : Int) (x4 : ByteArray) : O :=
 bif decide (0 < x3) then (bif decide ((strOf ([IntKind.u8.wrap (IntKind.i64.wrap (48 + (x3.tmod 10)))] : List Int)).size + x4.size ≤ 9223372036854775807) then rec (IntKind.i64.wrap (x3.tdiv 10)) ((strOf ([IntKind.u8.wrap (IntKind.i64.wrap (48 + (x3.tmod 10)))] : List Int)) ++ x4)
  else none)
 else k x4
noncomputable def l0  (k : ByteArray → O) : Nat → Int → ByteArray → O
 | 0, _, _ => none
 | n + 1, x3, x4 => l0s (l0 k n) k x3 x4
noncomputable def o0 : Fn [.s] St := fun y1 => ⟨mkT 25 [(3, one (.str y1))], [], []⟩
noncomputable def n0 (K : Res → O) := ent 0 [] [.i, .s] [0, 1] (fun x3 x4 => ⟨mkT 25 [(0, oI x3), (3, one (.str x4))], [], []⟩) fun k => l0 (fun y1 => k (o0 y1))
noncomputable def X (z : Z_spec_l8Digits) (K : Res → O) : Ctx := { cx0 [spec_l8Digits.conz z] fi true K with cin := [(0, ⟨[0, 3], [], [], [], [], []⟩)], cout := [(0, ⟨[3], [], [], [], [], []⟩)], lp := lpOf [n0 K] }
noncomputable def g (z : Z_spec_l8Digits) (a1 : Int) (R : ByteArray → O) : O :=
 bif decide (a1 < 0) then (z (IntKind.i64.wrap (0 - a1)) fun r2 =>
  bif decide (1 + r2.size ≤ 9223372036854775807) then R ((⟨#[95]⟩ : ByteArray) ++ r2)
  else none)
 else bif (a1 == 0) then R (⟨#[48]⟩ : ByteArray)
 else (l0 (fun y5 =>
 R y5) fuel a1 (⟨#[]⟩ : ByteArray))
theorem hx (z : Z_spec_l8Digits) (hz : Gd_spec_l8Digits z) (K : Res → O) : CtxOk Pg Γ0 byt0 eqs0 ((X z) K) [spec_l8Digits.conz z] := ctx_of (X := (X z)) (.cons hz .nil) (by kernel_rfl) K
theorem w0 (z : Z_spec_l8Digits) (hz : Gd_spec_l8Digits z) (K : Res → O) : LpSound Pg ((X z) K) 0 b0 := lp_fin (L := [n0 K]) laid ((hx z hz) K) .nil (.cons (ent_ok (fun k r => l0s r (fun y1 => k (o0 y1))) (by kernel_rfl) (by kernel_rfl) (by kernel_rfl) (by kernel_rfl) (by kernel_rfl)) .nil) (by kernel_rfl) (by kernel_rfl)
theorem ok (z : Z_spec_l8Digits) (hz : Gd_spec_l8Digits z) : Con Pg (conz (g z)) := con_fin (fn := Tryz.f19) (c := c) (Fi := fi) (X := (X z)) laid (hx z hz) (fun K => (.cons ((w0 z hz) K) .nil)) rfl (by kernel_rfl) (by kernel_rfl) (by kernel_rfl) (by kernel_rfl)
end spec_l8Digits
noncomputable def rec_spec_l8Digits : Nat → Z_spec_l8Digits
 | 0 => (fun _ _ => none)
 | n + 1 => spec_l8Digits.g (rec_spec_l8Digits n)
theorem good_spec_l8Digits : ∀ n, Gd_spec_l8Digits (rec_spec_l8Digits n)
 | 0 => con_cst rfl
 | n + 1 => spec_l8Digits.ok _ (good_spec_l8Digits n)
namespace spec_l8Digits
noncomputable def gn (n : Nat) (a1 : Int) (R : ByteArray → O) : O := (rec_spec_l8Digits n) a1 R
noncomputable def G : T := seal_ (gn fuel)
theorem Ge : G = gn fuel := seal_eq _
theorem gn_succ (n : Nat) (a1 : Int) (R : ByteArray → O) : gn (n + 1) a1 R = g (rec_spec_l8Digits n) a1 R := rfl
noncomputable def con := conz G
theorem okG : Con Pg con := by
 unfold con; rw [Ge]; exact (good_spec_l8Digits fuel)
end spec_l8Digits
-- END GROUP
namespace spec_ShowRow
noncomputable def c : Code := bodyOf Tryz.f8
noncomputable def fi : Fin := ⟨Γ0, [(.tmp 2, 9)], [[1]], [], [], []⟩
noncomputable def m : Fn [.z] (Fn [.s] Res) := fun _ r1 => ⟨[⟨false, [.str r1]⟩], [], [], [], []⟩
noncomputable def b0 : Code := codeAt c [1, 1, 0, 1, 0, 0]
noncomputable def l0s (x2 : List Int) (rec : ByteArray → Int → O) (k : ByteArray → O) (x3 : ByteArray) (x4 : Int) : O :=
 bif decide (x4 < (x2.length : Int)) then (spec_l16Nums.g x2 fun r5 =>
  bif r5 then (bif decide (0 < x4) then (bif decide (x3.size + 1 ≤ 9223372036854775807) then (bif decide (0 ≤ x4) && decide (x4 < (x2.length : Int)) then (spec_l8Digits.G (x2.getD x4.toNat 0) fun r6 =>
   bif decide ((x3 ++ (⟨#[32]⟩ : ByteArray)).size + r6.size ≤ 9223372036854775807) then rec ((x3 ++ (⟨#[32]⟩ : ByteArray)) ++ r6) (IntKind.i64.wrap (x4 + 1))
   else none)
   else none)
   else none)
   else bif decide (0 ≤ x4) && decide (x4 < (x2.length : Int)) then (spec_l8Digits.G (x2.getD x4.toNat 0) fun r7 =>
    bif decide (x3.size + r7.size ≤ 9223372036854775807) then rec (x3 ++ r7) (IntKind.i64.wrap (x4 + 1))
    else none)
   else none)
  else k x3)
 else k x3
noncomputable def l0 (x2 : List Int) (k : ByteArray → O) : Nat → ByteArray → Int → O
 | 0, _, _ => none
 | n + 1, x3, x4 => l0s x2 (l0 x2 k n) k x3 x4
noncomputable def o0 : Fn [.z, .s] St := fun _ y1 => ⟨mkT 27 [(3, one (.str y1))], [], []⟩
noncomputable def n0 (K : Res → O) := ent 0 [.z] [.s, .i] [0, 1, 2] (fun x2 x3 x4 => ⟨mkT 27 [(0, one (.tr 0 1 [.int .i64] (.ints x2))), (3, one (.str x3)), (4, oI x4)], [], []⟩) fun x2 k => l0 x2 (fun y1 => k (o0 x2 y1))
noncomputable def X (K : Res → O) : Ctx := { cx0 [spec_l16Nums.con, spec_l8Digits.con] fi true K with cin := [(0, ⟨[0, 3, 4], [], [], [], [], []⟩)], cout := [(0, ⟨[3], [], [], [], [], []⟩)], lp := lpOf [n0 K] }
noncomputable def b (a1 : List Int) (R : ByteArray → O) : O :=
 l0 a1 (fun y8 =>
 R y8) fuel (⟨#[]⟩ : ByteArray) 0
noncomputable def g := seal_ b
theorem e : g = b := seal_eq b
noncomputable def a : Fn [.z] St := fun a1 => argSt [one (.tr 0 1 [.int .i64] (.ints a1))] [] []
noncomputable def con := conOf 8 [.z] [.s] a g m
theorem hx (K : Res → O) : CtxOk Pg Γ0 byt0 eqs0 (X K) [spec_l16Nums.con, spec_l8Digits.con] := ctx_of (X := X) (.cons spec_l16Nums.ok (.cons spec_l8Digits.okG .nil)) (by kernel_rfl) K
theorem w0 (K : Res → O) : LpSound Pg (X K) 0 b0 := lp_fin (L := [n0 K]) laid (hx K) .nil (.cons (ent_ok (fun x2 k r => l0s x2 r (fun y1 => k (o0 x2 y1))) (by kernel_rfl) (by kernel_rfl) (by kernel_rfl) (by kernel_rfl) (by kernel_rfl)) .nil) (by kernel_rfl) (by kernel_rfl)
theorem ok : Con Pg con := con_fin (fn := Tryz.f8) (c := c) (Fi := fi) (X := X) laid hx (fun K => (.cons (w0 K) .nil)) e (by kernel_rfl) (by kernel_rfl) (by kernel_rfl) (by kernel_rfl)
end spec_ShowRow
namespace spec_l1Max
noncomputable def c : Code := bodyOf Tryz.f20
noncomputable def fi : Fin := ⟨Γ0, [(.tmp 4, 3)], [[1]], [], [], []⟩
noncomputable def m : Fn [.i, .i] (Fn [.i] Res) := fun _ _ r1 => ⟨[⟨false, [cI r1]⟩], [], [], [], []⟩
noncomputable def X (K : Res → O) : Ctx := cx0 [] fi true K
noncomputable def b (a1 a2 : Int) (R : Int → O) : O :=
 bif decide (a2 < a1) then R a1
 else R a2
noncomputable def g := seal_ b
theorem e : g = b := seal_eq b
noncomputable def a : Fn [.i, .i] St := fun a1 a2 => argSt [oI a1, oI a2] [] []
noncomputable def con := conOf 20 [.i, .i] [.i] a g m
theorem ok : Con Pg con := con_fin (fn := Tryz.f20) (c := c) (Fi := fi) (X := X) laid (ctx_of .nil (by kernel_rfl)) (fun K => .nil) e (by kernel_rfl) (by kernel_rfl) (by kernel_rfl) (by kernel_rfl)
end spec_l1Max
namespace spec_ShowWide
noncomputable def c : Code := bodyOf Tryz.f9
noncomputable def fi : Fin := ⟨Γ0, [(.tmp 2, 3)], [[1]], [], [], []⟩
noncomputable def m : Fn [.z] (Fn [.i] Res) := fun _ r1 => ⟨[⟨false, [cI r1]⟩], [], [], [], []⟩
noncomputable def b0 : Code := codeAt c [1, 1, 1, 0, 1, 0, 0]
noncomputable def l0s (x3 : List Int) (rec : Int → Int → O) (k : Int → O) (x4 x5 : Int) : O :=
 bif decide (x5 < (x3.length : Int)) then (bif decide (0 ≤ x5) && decide (x5 < (x3.length : Int)) then (spec_l8Digits.G (x3.getD x5.toNat 0) fun r6 =>
  spec_l1Max.g x4 (r6.size : Int) fun r7 =>
  rec r7 (IntKind.i64.wrap (x5 + 1)))
  else none)
 else k x4
noncomputable def l0 (x3 : List Int) (k : Int → O) : Nat → Int → Int → O
 | 0, _, _ => none
 | n + 1, x4, x5 => l0s x3 (l0 x3 k n) k x4 x5
noncomputable def o0 : Fn [.z, .i] St := fun _ y1 => ⟨mkT 23 [(3, oI y1)], [], []⟩
noncomputable def n0 (K : Res → O) := ent 0 [.z] [.i, .i] [0, 1, 2] (fun x3 x4 x5 => ⟨mkT 23 [(0, one (.tr 0 1 [.int .i64] (.ints x3))), (3, oI x4), (4, oI x5)], [], []⟩) fun x3 k => l0 x3 (fun y1 => k (o0 x3 y1))
noncomputable def X (K : Res → O) : Ctx := { cx0 [spec_l16Nums.con, spec_l8Digits.con, spec_l1Max.con] fi true K with cin := [(0, ⟨[0, 3, 4], [], [], [], [], []⟩)], cout := [(0, ⟨[3], [], [], [], [], []⟩)], lp := lpOf [n0 K] }
noncomputable def b (a1 : List Int) (R : Int → O) : O :=
 spec_l16Nums.g a1 fun r2 =>
 bif !r2 then R (-1)
 else (l0 a1 (fun y8 =>
 R y8) fuel 0 0)
noncomputable def g := seal_ b
theorem e : g = b := seal_eq b
noncomputable def a : Fn [.z] St := fun a1 => argSt [one (.tr 0 1 [.int .i64] (.ints a1))] [] []
noncomputable def con := conOf 9 [.z] [.i] a g m
theorem hx (K : Res → O) : CtxOk Pg Γ0 byt0 eqs0 (X K) [spec_l16Nums.con, spec_l8Digits.con, spec_l1Max.con] := ctx_of (X := X) (.cons spec_l16Nums.ok (.cons spec_l8Digits.okG (.cons spec_l1Max.ok .nil))) (by kernel_rfl) K
theorem w0 (K : Res → O) : LpSound Pg (X K) 0 b0 := lp_fin (L := [n0 K]) laid (hx K) .nil (.cons (ent_ok (fun x3 k r => l0s x3 r (fun y1 => k (o0 x3 y1))) (by kernel_rfl) (by kernel_rfl) (by kernel_rfl) (by kernel_rfl) (by kernel_rfl)) .nil) (by kernel_rfl) (by kernel_rfl)
theorem ok : Con Pg con := con_fin (fn := Tryz.f9) (c := c) (Fi := fi) (X := X) laid hx (fun K => (.cons (w0 K) .nil)) e (by kernel_rfl) (by kernel_rfl) (by kernel_rfl) (by kernel_rfl)
end spec_ShowWide
namespace impl_VarsNew
noncomputable def c : Code := bodyOf Tryz.f13
noncomputable def fi : Fin := ⟨Γ0, [(.tmp 0, 30)], [[1]], [], [], []⟩
noncomputable def m : Fn [] (Fn [.l] Res) := fun r1 => ⟨[⟨false, [.ow 1000]⟩], [], [⟨e_0, .cells r1, true, 0, none⟩], [], []⟩
noncomputable def X (K : Res → O) : Ctx := cx0 [] fi true K
noncomputable def b  (R : List (List Cl) → O) : O :=
 R (List.replicate 26 ([.b false, .l [], .l []] : List Cl))
noncomputable def g := seal_ b
theorem e : g = b := seal_eq b
noncomputable def a : Fn [] St := argSt [] [] []
noncomputable def con := conOf 13 [] [.l] a g m
theorem ok : Con Pg con := con_fin (fn := Tryz.f13) (c := c) (Fi := fi) (X := X) laid (ctx_of .nil (by kernel_rfl)) (fun K => .nil) e (by kernel_rfl) (by kernel_rfl) (by kernel_rfl) (by kernel_rfl)
end impl_VarsNew
namespace impl_SizeOf
noncomputable def c : Code := bodyOf Tryz.f71
noncomputable def fi : Fin := ⟨Γ0, [(.tmp 2, 3)], [[1]], [], [], []⟩
noncomputable def m : Fn [.z] (Fn [.i] Res) := fun _ r1 => ⟨[⟨false, [cI r1]⟩], [], [], [], []⟩
noncomputable def b0 : Code := codeAt c [1, 1, 1, 0, 1, 0, 0]
noncomputable def l0s (x3 : List Int) (x4 : Int) (rec : Int → Int → O) (k : Int → O) (R : Int → O) (x2 x5 : Int) : O :=
 bif decide (x5 < x4) then (bif decide (0 ≤ x5) && decide (x5 < (x3.length : Int)) then (impl_within.g (x3.getD x5.toNat 0) 0 300 fun r6 =>
  bif !r6 then R (-1)
  else rec (IntKind.i64.wrap (x2 * (x3.getD x5.toNat 0))) (IntKind.i64.wrap (x5 + 1)))
  else none)
 else k x2
noncomputable def l0 (x3 : List Int) (x4 : Int) (k : Int → O) (R : Int → O) : Nat → Int → Int → O
 | 0, _, _ => none
 | n + 1, x2, x5 => l0s x3 x4 (l0 x3 x4 k R n) k R x2 x5
noncomputable def o0 : Fn [.z, .i, .i] St := fun _ _ y1 => ⟨mkT 25 [(3, oI y1)], [], []⟩
noncomputable def n0 (K : Res → O) := ent 0 [.z, .i] [.i, .i] [1, 2, 0, 3] (fun x3 x4 x2 x5 => ⟨mkT 25 [(3, oI x2), (9, one (.tr 0 1 [.int .i64] (.ints x3))), (10, oI x4), (11, oI x5)], [], []⟩) fun x3 x4 k => l0 x3 x4 (fun y1 => k (o0 x3 x4 y1)) (fun r1 => K (m [] r1))
noncomputable def X (K : Res → O) : Ctx := { cx0 [impl_within.con] fi true K with cin := [(0, ⟨[3, 9, 10, 11], [], [], [], [], []⟩)], cout := [(0, ⟨[3], [], [], [], [], []⟩)], lp := lpOf [n0 K] }
noncomputable def b (a1 : List Int) (R : Int → O) : O :=
 bif decide (3 < (a1.length : Int)) then R (-1)
 else (l0 a1 (a1.length : Int) (fun y7 =>
 bif decide (300 < y7) then R (-1)
 else R y7) R fuel 1 0)
noncomputable def g := seal_ b
theorem e : g = b := seal_eq b
noncomputable def a : Fn [.z] St := fun a1 => argSt [one (.tr 0 1 [.int .i64] (.ints a1))] [] []
noncomputable def con := conOf 71 [.z] [.i] a g m
theorem hx (K : Res → O) : CtxOk Pg Γ0 byt0 eqs0 (X K) [impl_within.con] := ctx_of (X := X) (.cons impl_within.ok .nil) (by kernel_rfl) K
theorem w0 (K : Res → O) : LpSound Pg (X K) 0 b0 := lp_fin (L := [n0 K]) laid (hx K) .nil (.cons (ent_ok (fun x3 x4 k r => l0s x3 x4 r (fun y1 => k (o0 x3 x4 y1)) (fun r1 => K (m [] r1))) (by kernel_rfl) (by kernel_rfl) (by kernel_rfl) (by kernel_rfl) (by kernel_rfl)) .nil) (by kernel_rfl) (by kernel_rfl)
theorem ok : Con Pg con := con_fin (fn := Tryz.f71) (c := c) (Fi := fi) (X := X) laid hx (fun K => (.cons (w0 K) .nil)) e (by kernel_rfl) (by kernel_rfl) (by kernel_rfl) (by kernel_rfl)
end impl_SizeOf
namespace impl_ArrayOk_1
noncomputable def c : Code := bodyOf Tryz.f72
noncomputable def fi : Fin := ⟨Γ0, [(.tmp 2, 4)], [[1]], [], [], []⟩
noncomputable def m : Fn [.i] (Fn [.b] Res) := fun _ r1 => ⟨[⟨false, [.bool r1]⟩], [], [], [], []⟩
noncomputable def X (K : Res → O) : Ctx := cx0 [impl_NumOk.con] fi true K
noncomputable def b (a1 : Int) (R : Bool → O) : O :=
 impl_NumOk.g a1 fun r2 =>
 R (!r2)
noncomputable def g := seal_ b
theorem e : g = b := seal_eq b
noncomputable def a : Fn [.i] St := fun a1 => argSt [oI a1] [] []
noncomputable def con := conOf 72 [.i] [.b] a g m
theorem ok : Con Pg con := con_fin (fn := Tryz.f72) (c := c) (Fi := fi) (X := X) laid (ctx_of (.cons impl_NumOk.ok .nil) (by kernel_rfl)) (fun K => .nil) e (by kernel_rfl) (by kernel_rfl) (by kernel_rfl) (by kernel_rfl)
end impl_ArrayOk_1
namespace slices_IndexFunc_int_int
noncomputable def c : Code := bodyOf Tryz.f66
noncomputable def fi : Fin := ⟨Γ0, [(.tmp 4, 3)], [[1]], [], [], []⟩
noncomputable def m : Fn [.z] (Fn [.i] Res) := fun _ r1 => ⟨[⟨false, [cI r1]⟩], [], [], [], []⟩
noncomputable def b0 : Code := codeAt c [1, 0, 1, 0, 0]
noncomputable def l0s (x2 : List Int) (x3 : Int) (rec : Int → O) (k : O) (R : Int → O) (x4 : Int) : O :=
 bif decide (x4 < x3) then (bif decide (0 ≤ x4) && decide (x4 < (x2.length : Int)) then (impl_ArrayOk_1.g (x2.getD x4.toNat 0) fun r5 =>
  bif r5 then R x4
  else rec (IntKind.i64.wrap (x4 + 1)))
  else none)
 else k
noncomputable def l0 (x2 : List Int) (x3 : Int) (k : O) (R : Int → O) : Nat → Int → O
 | 0, _ => none
 | n + 1, x4 => l0s x2 x3 (l0 x2 x3 k R n) k R x4
noncomputable def o0 : Fn [.z, .i] St := fun _ _ => ⟨mkT 19 [], [], []⟩
noncomputable def n0 (K : Res → O) := ent 0 [.z, .i] [.i] [0, 1, 2] (fun x2 x3 x4 => ⟨mkT 19 [(0, one (.tr 0 1 [.int .i64] (.ints x2))), (1, one (.fn 72 [])), (7, oI x3), (8, oI x4)], [], []⟩) fun x2 x3 k => l0 x2 x3 (k (o0 x2 x3)) (fun r1 => K (m [] r1))
noncomputable def X (K : Res → O) : Ctx := { cx0 [impl_ArrayOk_1.con] fi true K with cin := [(0, ⟨[0, 1, 7, 8], [], [], [], [], []⟩)], cout := [(0, ⟨[], [], [], [], [], []⟩)], lp := lpOf [n0 K] }
noncomputable def b (a1 : List Int) (R : Int → O) : O :=
 l0 a1 (a1.length : Int) (
 R (-1)) R fuel 0
noncomputable def g := seal_ b
theorem e : g = b := seal_eq b
noncomputable def a : Fn [.z] St := fun a1 => argSt [one (.tr 0 1 [.int .i64] (.ints a1)), one (.fn 72 [])] [] []
noncomputable def con := conOf 66 [.z] [.i] a g m
theorem hx (K : Res → O) : CtxOk Pg Γ0 byt0 eqs0 (X K) [impl_ArrayOk_1.con] := ctx_of (X := X) (.cons impl_ArrayOk_1.ok .nil) (by kernel_rfl) K
theorem w0 (K : Res → O) : LpSound Pg (X K) 0 b0 := lp_fin (L := [n0 K]) laid (hx K) .nil (.cons (ent_ok (fun x2 x3 k r => l0s x2 x3 r (k (o0 x2 x3)) (fun r1 => K (m [] r1))) (by kernel_rfl) (by kernel_rfl) (by kernel_rfl) (by kernel_rfl) (by kernel_rfl)) .nil) (by kernel_rfl) (by kernel_rfl)
theorem ok : Con Pg con := con_fin (fn := Tryz.f66) (c := c) (Fi := fi) (X := X) laid hx (fun K => (.cons (w0 K) .nil)) e (by kernel_rfl) (by kernel_rfl) (by kernel_rfl) (by kernel_rfl)
end slices_IndexFunc_int_int
namespace slices_ContainsFunc_int_int
noncomputable def c : Code := bodyOf Tryz.f37
noncomputable def fi : Fin := ⟨Γ0, [(.tmp 4, 4)], [[1]], [], [], []⟩
noncomputable def m : Fn [.z] (Fn [.b] Res) := fun _ r1 => ⟨[⟨false, [.bool r1]⟩], [], [], [], []⟩
noncomputable def X (K : Res → O) : Ctx := cx0 [slices_IndexFunc_int_int.con] fi true K
noncomputable def b (a1 : List Int) (R : Bool → O) : O :=
 slices_IndexFunc_int_int.g a1 fun r2 =>
 R (decide (0 ≤ r2))
noncomputable def g := seal_ b
theorem e : g = b := seal_eq b
noncomputable def a : Fn [.z] St := fun a1 => argSt [one (.tr 0 1 [.int .i64] (.ints a1)), one (.fn 72 [])] [] []
noncomputable def con := conOf 37 [.z] [.b] a g m
theorem ok : Con Pg con := con_fin (fn := Tryz.f37) (c := c) (Fi := fi) (X := X) laid (ctx_of (.cons slices_IndexFunc_int_int.ok .nil) (by kernel_rfl)) (fun K => .nil) e (by kernel_rfl) (by kernel_rfl) (by kernel_rfl) (by kernel_rfl)
end slices_ContainsFunc_int_int
namespace impl_ArrayOk
noncomputable def c : Code := bodyOf Tryz.f46
noncomputable def fi : Fin := ⟨Γ0, [(.tmp 2, 4)], [[1]], [], [], []⟩
noncomputable def m : Fn [.z, .z] (Fn [.b] Res) := fun _ _ r1 => ⟨[⟨false, [.bool r1]⟩], [], [], [], []⟩
noncomputable def X (K : Res → O) : Ctx := cx0 [impl_SizeOf.con, slices_ContainsFunc_int_int.con] fi true K
noncomputable def b (a1 a2 : List Int) (R : Bool → O) : O :=
 impl_SizeOf.g a1 fun r3 =>
 bif ((a2.length : Int) == r3) then (slices_ContainsFunc_int_int.g a2 fun r4 =>
  R (!r4))
 else R false
noncomputable def g := seal_ b
theorem e : g = b := seal_eq b
noncomputable def a : Fn [.z, .z] St := fun a1 a2 => argSt [.v ⟨true, [.tr 0 1 [.int .i64] (.ints a1), .tr 0 1 [.int .i64] (.ints a2)]⟩] [] []
noncomputable def con := conOf 46 [.z, .z] [.b] a g m
theorem ok : Con Pg con := con_fin (fn := Tryz.f46) (c := c) (Fi := fi) (X := X) laid (ctx_of (.cons impl_SizeOf.ok (.cons slices_ContainsFunc_int_int.ok .nil)) (by kernel_rfl)) (fun K => .nil) e (by kernel_rfl) (by kernel_rfl) (by kernel_rfl) (by kernel_rfl)
end impl_ArrayOk
namespace impl_VarsOk_1
noncomputable def c : Code := bodyOf Tryz.f45
noncomputable def fi : Fin := ⟨Γ0, [(.tmp 2, 4)], [[1]], [], [], []⟩
noncomputable def m : Fn [.b, .z, .z] (Fn [.b] Res) := fun _ _ _ r1 => ⟨[⟨false, [.bool r1]⟩], [], [], [], []⟩
noncomputable def X (K : Res → O) : Ctx := cx0 [impl_ArrayOk.con] fi true K
noncomputable def b (a1 : Bool) (a2 a3 : List Int) (R : Bool → O) : O :=
 bif a1 then (impl_ArrayOk.g a2 a3 fun r4 =>
  bif !r4 then R true
  else bif !a1 then R (decide (0 < IntKind.i64.wrap ((a2.length : Int) + (a3.length : Int))))
  else R false)
 else bif !a1 then R (decide (0 < IntKind.i64.wrap ((a2.length : Int) + (a3.length : Int))))
 else R false
noncomputable def g := seal_ b
theorem e : g = b := seal_eq b
noncomputable def a : Fn [.b, .z, .z] St := fun a1 a2 a3 => argSt [.v ⟨true, [.bool a1, .tr 0 1 [.int .i64] (.ints a2), .tr 0 1 [.int .i64] (.ints a3)]⟩] [] []
noncomputable def con := conOf 45 [.b, .z, .z] [.b] a g m
theorem ok : Con Pg con := con_fin (fn := Tryz.f45) (c := c) (Fi := fi) (X := X) laid (ctx_of (.cons impl_ArrayOk.ok .nil) (by kernel_rfl)) (fun K => .nil) e (by kernel_rfl) (by kernel_rfl) (by kernel_rfl) (by kernel_rfl)
end impl_VarsOk_1
namespace slices_IndexFunc_impl_Var_impl_Var
noncomputable def c : Code := bodyOf Tryz.f70
noncomputable def fi : Fin := ⟨Γ0, [(.tmp 4, 3)], [[1]], [], [], []⟩
noncomputable def m : Fn [.l] (Fn [.i] Res) := fun _ r1 => ⟨[⟨false, [cI r1]⟩], [], [], [], []⟩
noncomputable def b0 : Code := codeAt c [1, 0, 1, 0, 0]
noncomputable def l0s (x2 : List (List Cl)) (x3 : Int) (rec : Int → O) (k : O) (R : Int → O) (x4 : Int) : O :=
 bif decide (x4 < x3) then (bif decide (0 ≤ x4) && decide (x4 < (x2.length : Int)) then (impl_VarsOk_1.g (((x2.getD x4.toNat []).getD 0 (.i 0)).toB) (((x2.getD x4.toNat []).getD 1 (.i 0)).toL) (((x2.getD x4.toNat []).getD 2 (.i 0)).toL) fun r5 =>
  bif r5 then R x4
  else rec (IntKind.i64.wrap (x4 + 1)))
  else none)
 else k
noncomputable def l0 (x2 : List (List Cl)) (x3 : Int) (k : O) (R : Int → O) : Nat → Int → O
 | 0, _ => none
 | n + 1, x4 => l0s x2 x3 (l0 x2 x3 k R n) k R x4
noncomputable def o0 : Fn [.l, .i] St := fun _ _ => ⟨mkT 19 [], [], []⟩
noncomputable def n0 (K : Res → O) := ent 0 [.l, .i] [.i] [0, 1, 2] (fun x2 x3 x4 => ⟨mkT 19 [(0, one (.tr 0 1 e_0 (.cells x2))), (1, one (.fn 45 [])), (7, oI x3), (8, oI x4)], [], []⟩) fun x2 x3 k => l0 x2 x3 (k (o0 x2 x3)) (fun r1 => K (m [] r1))
noncomputable def X (K : Res → O) : Ctx := { cx0 [impl_VarsOk_1.con] fi true K with cin := [(0, ⟨[0, 1, 7, 8], [], [], [], [], []⟩)], cout := [(0, ⟨[], [], [], [], [], []⟩)], lp := lpOf [n0 K] }
noncomputable def b (a1 : List (List Cl)) (R : Int → O) : O :=
 l0 a1 (a1.length : Int) (
 R (-1)) R fuel 0
noncomputable def g := seal_ b
theorem e : g = b := seal_eq b
noncomputable def a : Fn [.l] St := fun a1 => argSt [one (.tr 0 1 e_0 (.cells a1)), one (.fn 45 [])] [] []
noncomputable def con := conOf 70 [.l] [.i] a g m
theorem hx (K : Res → O) : CtxOk Pg Γ0 byt0 eqs0 (X K) [impl_VarsOk_1.con] := ctx_of (X := X) (.cons impl_VarsOk_1.ok .nil) (by kernel_rfl) K
theorem w0 (K : Res → O) : LpSound Pg (X K) 0 b0 := lp_fin (L := [n0 K]) laid (hx K) .nil (.cons (ent_ok (fun x2 x3 k r => l0s x2 x3 r (k (o0 x2 x3)) (fun r1 => K (m [] r1))) (by kernel_rfl) (by kernel_rfl) (by kernel_rfl) (by kernel_rfl) (by kernel_rfl)) .nil) (by kernel_rfl) (by kernel_rfl)
theorem ok : Con Pg con := con_fin (fn := Tryz.f70) (c := c) (Fi := fi) (X := X) laid hx (fun K => (.cons (w0 K) .nil)) e (by kernel_rfl) (by kernel_rfl) (by kernel_rfl) (by kernel_rfl)
end slices_IndexFunc_impl_Var_impl_Var
namespace slices_ContainsFunc_impl_Var_impl_Var
noncomputable def c : Code := bodyOf Tryz.f44
noncomputable def fi : Fin := ⟨Γ0, [(.tmp 4, 4)], [[1]], [], [], []⟩
noncomputable def m : Fn [.l] (Fn [.b] Res) := fun _ r1 => ⟨[⟨false, [.bool r1]⟩], [], [], [], []⟩
noncomputable def X (K : Res → O) : Ctx := cx0 [slices_IndexFunc_impl_Var_impl_Var.con] fi true K
noncomputable def b (a1 : List (List Cl)) (R : Bool → O) : O :=
 slices_IndexFunc_impl_Var_impl_Var.g a1 fun r2 =>
 R (decide (0 ≤ r2))
noncomputable def g := seal_ b
theorem e : g = b := seal_eq b
noncomputable def a : Fn [.l] St := fun a1 => argSt [one (.tr 0 1 e_0 (.cells a1)), one (.fn 45 [])] [] []
noncomputable def con := conOf 44 [.l] [.b] a g m
theorem ok : Con Pg con := con_fin (fn := Tryz.f44) (c := c) (Fi := fi) (X := X) laid (ctx_of (.cons slices_IndexFunc_impl_Var_impl_Var.ok .nil) (by kernel_rfl)) (fun K => .nil) e (by kernel_rfl) (by kernel_rfl) (by kernel_rfl) (by kernel_rfl)
end slices_ContainsFunc_impl_Var_impl_Var
namespace impl_VarsOk
noncomputable def c : Code := bodyOf Tryz.f24
noncomputable def fi : Fin := ⟨Γ0, [(.tmp 2, 4)], [[1]], [], [], []⟩
noncomputable def m : Fn [.l] (Fn [.b] Res) := fun _ r1 => ⟨[⟨false, [.bool r1]⟩], [], [], [], []⟩
noncomputable def X (K : Res → O) : Ctx := cx0 [slices_ContainsFunc_impl_Var_impl_Var.con] fi true K
noncomputable def b (a1 : List (List Cl)) (R : Bool → O) : O :=
 bif ((a1.length : Int) == 26) then (slices_ContainsFunc_impl_Var_impl_Var.g a1 fun r2 =>
  R (!r2))
 else R false
noncomputable def g := seal_ b
theorem e : g = b := seal_eq b
noncomputable def a : Fn [.l] St := fun a1 => argSt [one (.tr 0 1 e_0 (.cells a1))] [] []
noncomputable def con := conOf 24 [.l] [.b] a g m
theorem ok : Con Pg con := con_fin (fn := Tryz.f24) (c := c) (Fi := fi) (X := X) laid (ctx_of (.cons slices_ContainsFunc_impl_Var_impl_Var.ok .nil) (by kernel_rfl)) (fun K => .nil) e (by kernel_rfl) (by kernel_rfl) (by kernel_rfl) (by kernel_rfl)
end impl_VarsOk
namespace impl_copyArray
noncomputable def c : Code := bodyOf Tryz.f47
noncomputable def fi : Fin := ⟨Γ0, [(.cell 2 47, 47)], [[1, 1]], [], [], []⟩
noncomputable def m : Fn [.z, .z] (Fn [] Res) := fun a1 a2 => ⟨[⟨true, [.ow 1000, .ow 1001]⟩], [], [⟨[.int .i64], .ints a1, true, 0, none⟩, ⟨[.int .i64], .ints a2, true, 0, none⟩], [], []⟩
noncomputable def X (K : Res → O) : Ctx := cx0 [] fi true K
noncomputable def b (a1 a2 : List Int) (R : O) : O :=
 bif decide (a1.length * 8 ≤ 140737488355328) then (bif decide (a2.length * 8 ≤ 140737488355328) then R
  else none)
 else none
noncomputable def g := seal_ b
theorem e : g = b := seal_eq b
noncomputable def a : Fn [.z, .z] St := fun a1 a2 => argSt [.v ⟨true, [.tr 0 1 [.int .i64] (.ints a1), .tr 0 1 [.int .i64] (.ints a2)]⟩] [] []
noncomputable def con := conOf 47 [.z, .z] [] a g m
theorem ok : Con Pg con := con_fin (fn := Tryz.f47) (c := c) (Fi := fi) (X := X) laid (ctx_of .nil (by kernel_rfl)) (fun K => .nil) e (by kernel_rfl) (by kernel_rfl) (by kernel_rfl) (by kernel_rfl)
end impl_copyArray
namespace impl_copyVars
noncomputable def c : Code := bodyOf Tryz.f25
noncomputable def fi : Fin := ⟨Γ0, [(.tmp 2, 30)], [[1]], [], [], []⟩
noncomputable def m : Fn [.l] (Fn [.l] Res) := fun _ r1 => ⟨[⟨false, [.ow 1000]⟩], [], [⟨e_0, .cells r1, true, 0, none⟩], [], []⟩
noncomputable def b0 : Code := codeAt c [1, 1, 0, 1, 0, 0]
noncomputable def l0s (x2 : List (List Cl)) (x3 : Int) (rec : Int → List (List Cl) → O) (k : List (List Cl) → O) (x4 : Int) (x5 : List (List Cl)) : O :=
 bif decide (x4 < x3) then (bif decide (0 ≤ x4) && decide (x4 < (x2.length : Int)) then (impl_copyArray.g (((x2.getD x4.toNat []).getD 1 (.i 0)).toL) (((x2.getD x4.toNat []).getD 2 (.i 0)).toL) (
  bif decide ((x5.length + 1) * 56 ≤ 140737488355328) then rec (IntKind.i64.wrap (x4 + 1)) (x5 ++ ([[.b (((x2.getD x4.toNat []).getD 0 (.i 0)).toB), .l (((x2.getD x4.toNat []).getD 1 (.i 0)).toL), .l (((x2.getD x4.toNat []).getD 2 (.i 0)).toL)]] : List (List Cl)))
  else none))
  else none)
 else k x5
noncomputable def l0 (x2 : List (List Cl)) (x3 : Int) (k : List (List Cl) → O) : Nat → Int → List (List Cl) → O
 | 0, _, _ => none
 | n + 1, x4, x5 => l0s x2 x3 (l0 x2 x3 k n) k x4 x5
noncomputable def o0 : Fn [.l, .i, .l] St := fun _ _ y1 => ⟨mkT 23 [(3, one (.ow 3056))], [(3056, ⟨e_0, .cells y1, true, 0, none⟩)], []⟩
noncomputable def n0 (K : Res → O) := ent 0 [.l, .i] [.i, .l] [0, 1, 2, 3] (fun x2 x3 x4 x5 => ⟨mkT 23 [(3, one (.ow 3056)), (6, one (.tr 0 1 e_0 (.cells x2))), (7, oI x3), (8, oI x4)], [(3056, ⟨e_0, .cells x5, true, 0, none⟩)], []⟩) fun x2 x3 k => l0 x2 x3 (fun y1 => k (o0 x2 x3 y1))
noncomputable def X (K : Res → O) : Ctx := { cx0 [impl_copyArray.con] fi true K with own := [(1, 0, 0, e_0)], cin := [(0, ⟨[3, 6, 7, 8], [(3056, 3056), (11368, 3056)], [], [], [], []⟩)], cout := [(0, ⟨[3], [(3056, 3056)], [], [], [], []⟩)], lp := lpOf [n0 K] }
noncomputable def b (a1 : List (List Cl)) (R : List (List Cl) → O) : O :=
 l0 a1 (a1.length : Int) (fun y6 =>
 R y6) fuel 0 ([] : List (List Cl))
noncomputable def g := seal_ b
theorem e : g = b := seal_eq b
noncomputable def a : Fn [.l] St := fun a1 => argSt [one (.tr 0 1 e_0 (.cells a1))] [] []
noncomputable def con := conOf 25 [.l] [.l] a g m
theorem hx (K : Res → O) : CtxOk Pg Γ0 byt0 eqs0 (X K) [impl_copyArray.con] := ctx_of (X := X) (.cons impl_copyArray.ok .nil) (by kernel_rfl) K
theorem w0 (K : Res → O) : LpSound Pg (X K) 0 b0 := lp_fin (L := [n0 K]) laid (hx K) .nil (.cons (ent_ok (fun x2 x3 k r => l0s x2 x3 r (fun y1 => k (o0 x2 x3 y1))) (by kernel_rfl) (by kernel_rfl) (by kernel_rfl) (by kernel_rfl) (by kernel_rfl)) .nil) (by kernel_rfl) (by kernel_rfl)
theorem ok : Con Pg con := con_fin (fn := Tryz.f25) (c := c) (Fi := fi) (X := X) laid hx (fun K => (.cons (w0 K) .nil)) e (by kernel_rfl) (by kernel_rfl) (by kernel_rfl) (by kernel_rfl)
end impl_copyVars
namespace strings_trimRightByte
noncomputable def c : Code := bodyOf Tryz.f49
noncomputable def fi : Fin := ⟨Γ0, [(.tmp 4, 9)], [[1]], [], [], []⟩
noncomputable def m : Fn [.s, .i] (Fn [.s] Res) := fun _ _ r1 => ⟨[⟨false, [.str r1]⟩], [], [], [], []⟩
noncomputable def b0 : Code := codeAt c [1, 0, 0, 0]
noncomputable def l0s (x4 : Int) (rec : ByteArray → O) (k : ByteArray → O) (x3 : ByteArray) : O :=
 bif decide (0 < (x3.size : Int)) then (bif decide (0 ≤ IntKind.i64.wrap ((x3.size : Int) - 1)) && decide (IntKind.i64.wrap ((x3.size : Int) - 1) < (x3.size : Int)) then (bif ((bytesOf x3).getD ((IntKind.i64.wrap ((x3.size : Int) - 1)).toNat) 0 == x4) then (bif decide (0 ≤ IntKind.i64.wrap ((x3.size : Int) - 1)) && decide (IntKind.i64.wrap ((x3.size : Int) - 1) ≤ (x3.size : Int)) then rec (x3.extract 0 ((IntKind.i64.wrap ((x3.size : Int) - 1)).toNat))
  else none)
  else k x3)
  else none)
 else k x3
noncomputable def l0 (x4 : Int) (k : ByteArray → O) : Nat → ByteArray → O
 | 0, _ => none
 | n + 1, x3 => l0s x4 (l0 x4 k n) k x3
noncomputable def o0 : Fn [.i, .s] St := fun _ y1 => ⟨mkT 23 [(0, one (.str y1))], [], []⟩
noncomputable def n0 (K : Res → O) := ent 0 [.i] [.s] [1, 0] (fun x4 x3 => ⟨mkT 23 [(0, one (.str x3)), (1, one (.int .u8 x4))], [], []⟩) fun x4 k => l0 x4 (fun y1 => k (o0 x4 y1))
noncomputable def X (K : Res → O) : Ctx := { cx0 [] fi true K with cin := [(0, ⟨[0, 1], [], [], [], [], []⟩)], cout := [(0, ⟨[0], [], [], [], [], []⟩)], lp := lpOf [n0 K] }
noncomputable def b (a1 : ByteArray) (a2 : Int) (R : ByteArray → O) : O :=
 l0 a2 (fun y5 =>
 R y5) fuel a1
noncomputable def g := seal_ b
theorem e : g = b := seal_eq b
noncomputable def a : Fn [.s, .i] St := fun a1 a2 => argSt [one (.str a1), one (.int .u8 a2)] [] []
noncomputable def con := conOf 49 [.s, .i] [.s] a g m
theorem hx (K : Res → O) : CtxOk Pg Γ0 byt0 eqs0 (X K) [] := ctx_of (X := X) .nil (by kernel_rfl) K
theorem w0 (K : Res → O) : LpSound Pg (X K) 0 b0 := lp_fin (L := [n0 K]) laid (hx K) .nil (.cons (ent_ok (fun x4 k r => l0s x4 r (fun y1 => k (o0 x4 y1))) (by kernel_rfl) (by kernel_rfl) (by kernel_rfl) (by kernel_rfl) (by kernel_rfl)) .nil) (by kernel_rfl) (by kernel_rfl)
theorem ok : Con Pg con := con_fin (fn := Tryz.f49) (c := c) (Fi := fi) (X := X) laid hx (fun K => (.cons (w0 K) .nil)) e (by kernel_rfl) (by kernel_rfl) (by kernel_rfl) (by kernel_rfl)
end strings_trimRightByte
namespace strings_trimLeftByte
noncomputable def c : Code := bodyOf Tryz.f48
noncomputable def fi : Fin := ⟨Γ0, [(.tmp 4, 9)], [[1]], [], [], []⟩
noncomputable def m : Fn [.s, .i] (Fn [.s] Res) := fun _ _ r1 => ⟨[⟨false, [.str r1]⟩], [], [], [], []⟩
noncomputable def b0 : Code := codeAt c [1, 0, 0, 0]
noncomputable def l0s (x4 : Int) (rec : ByteArray → O) (k : ByteArray → O) (x3 : ByteArray) : O :=
 bif decide (0 < (x3.size : Int)) then (bif decide (0 < (x3.size : Int)) then (bif ((bytesOf x3).getD 0 0 == x4) then (bif decide (1 ≤ (x3.size : Int)) then rec (x3.extract 1 x3.size)
  else none)
  else k x3)
  else none)
 else k x3
noncomputable def l0 (x4 : Int) (k : ByteArray → O) : Nat → ByteArray → O
 | 0, _ => none
 | n + 1, x3 => l0s x4 (l0 x4 k n) k x3
noncomputable def o0 : Fn [.i, .s] St := fun _ y1 => ⟨mkT 17 [(0, one (.str y1))], [], []⟩
noncomputable def n0 (K : Res → O) := ent 0 [.i] [.s] [1, 0] (fun x4 x3 => ⟨mkT 17 [(0, one (.str x3)), (1, one (.int .u8 x4))], [], []⟩) fun x4 k => l0 x4 (fun y1 => k (o0 x4 y1))
noncomputable def X (K : Res → O) : Ctx := { cx0 [] fi true K with cin := [(0, ⟨[0, 1], [], [], [], [], []⟩)], cout := [(0, ⟨[0], [], [], [], [], []⟩)], lp := lpOf [n0 K] }
noncomputable def b (a1 : ByteArray) (a2 : Int) (R : ByteArray → O) : O :=
 l0 a2 (fun y5 =>
 R y5) fuel a1
noncomputable def g := seal_ b
theorem e : g = b := seal_eq b
noncomputable def a : Fn [.s, .i] St := fun a1 a2 => argSt [one (.str a1), one (.int .u8 a2)] [] []
noncomputable def con := conOf 48 [.s, .i] [.s] a g m
theorem hx (K : Res → O) : CtxOk Pg Γ0 byt0 eqs0 (X K) [] := ctx_of (X := X) .nil (by kernel_rfl) K
theorem w0 (K : Res → O) : LpSound Pg (X K) 0 b0 := lp_fin (L := [n0 K]) laid (hx K) .nil (.cons (ent_ok (fun x4 k r => l0s x4 r (fun y1 => k (o0 x4 y1))) (by kernel_rfl) (by kernel_rfl) (by kernel_rfl) (by kernel_rfl) (by kernel_rfl)) .nil) (by kernel_rfl) (by kernel_rfl)
theorem ok : Con Pg con := con_fin (fn := Tryz.f48) (c := c) (Fi := fi) (X := X) laid hx (fun K => (.cons (w0 K) .nil)) e (by kernel_rfl) (by kernel_rfl) (by kernel_rfl) (by kernel_rfl)
end strings_trimLeftByte
namespace strings_Trim
noncomputable def c : Code := bodyOf Tryz.f26
noncomputable def fi : Fin := ⟨Γ0, [(.tmp 4, 9)], [[1]], [], [], []⟩
noncomputable def m : Fn [.s, .s] (Fn [.s] Res) := fun _ _ r1 => ⟨[⟨false, [.str r1]⟩], [], [], [], []⟩
noncomputable def X (K : Res → O) : Ctx := cx0 [strings_trimRightByte.con, strings_trimLeftByte.con] fi true K
noncomputable def b (a1 a2 : ByteArray) (R : ByteArray → O) : O :=
 bif (a1.toList == (⟨#[]⟩ : ByteArray).toList) then R a1
 else bif (a2.toList == (⟨#[]⟩ : ByteArray).toList) then R a1
 else bif ((a2.size : Int) == 1) then (bif decide (0 < (a2.size : Int)) then (bif decide ((bytesOf a2).getD 0 0 < 128) then (bif decide (0 < (a2.size : Int)) then (strings_trimRightByte.g a1 ((bytesOf a2).getD 0 0) fun r3 =>
  bif decide (0 < (a2.size : Int)) then (strings_trimLeftByte.g r3 ((bytesOf a2).getD 0 0) fun r4 =>
   R r4)
  else none)
  else none)
  else none)
  else none)
 else none
noncomputable def g := seal_ b
theorem e : g = b := seal_eq b
noncomputable def a : Fn [.s, .s] St := fun a1 a2 => argSt [one (.str a1), one (.str a2)] [] []
noncomputable def con := conOf 26 [.s, .s] [.s] a g m
theorem ok : Con Pg con := con_fin (fn := Tryz.f26) (c := c) (Fi := fi) (X := X) laid (ctx_of (.cons strings_trimRightByte.ok (.cons strings_trimLeftByte.ok .nil)) (by kernel_rfl)) (fun K => .nil) e (by kernel_rfl) (by kernel_rfl) (by kernel_rfl) (by kernel_rfl)
end strings_Trim
namespace impl_isDigit
noncomputable def c : Code := bodyOf Tryz.f99
noncomputable def fi : Fin := ⟨Γ0, [(.tmp 2, 4)], [[1]], [], [], []⟩
noncomputable def m : Fn [.i] (Fn [.b] Res) := fun _ r1 => ⟨[⟨false, [.bool r1]⟩], [], [], [], []⟩
noncomputable def X (K : Res → O) : Ctx := cx0 [] fi true K
noncomputable def b (a1 : Int) (R : Bool → O) : O :=
 bif decide (48 ≤ a1) then R (decide (a1 ≤ 57))
 else R false
noncomputable def g := seal_ b
theorem e : g = b := seal_eq b
noncomputable def a : Fn [.i] St := fun a1 => argSt [one (.int .u8 a1)] [] []
noncomputable def con := conOf 99 [.i] [.b] a g m
theorem ok : Con Pg con := con_fin (fn := Tryz.f99) (c := c) (Fi := fi) (X := X) laid (ctx_of .nil (by kernel_rfl)) (fun K => .nil) e (by kernel_rfl) (by kernel_rfl) (by kernel_rfl) (by kernel_rfl)
end impl_isDigit
namespace impl_lexNum
noncomputable def c : Code := bodyOf Tryz.f100
noncomputable def fi : Fin := ⟨Γ0, [(.cell 4 115, 115), (.tmp 5, 3), (.tmp 6, 3)], [[1, 1], [1], [1]], [], [], []⟩
noncomputable def m : Fn [.s, .i] (Fn [.i, .i, .i, .i] Res) := fun _ _ r1 r2 r3 r4 => ⟨[⟨true, [cI r1, cI r2]⟩, ⟨false, [cI r3]⟩, ⟨false, [cI r4]⟩], [], [], [], []⟩
noncomputable def b0 : Code := codeAt c [1, 1, 1, 1, 1, 0, 0, 0]
noncomputable def l0s (x3 : ByteArray) (x4 x5 x8 x9 : Int) (rec : Int → Int → O) (k : Int → Int → O) (x6 x7 : Int) : O :=
 bif decide (x6 < (x3.size : Int)) then (bif decide (0 ≤ x6) && decide (x6 < (x3.size : Int)) then (impl_isDigit.g ((bytesOf x3).getD x6.toNat 0) fun r10 =>
  bif r10 then (bif decide (0 ≤ x6) && decide (x6 < (x3.size : Int)) then rec (IntKind.i64.wrap (x6 + 1)) (minmax false (IntKind.i64.wrap ((IntKind.i64.wrap (10 * x7)) + (IntKind.i64.wrap (IntKind.u8.wrap (((bytesOf x3).getD x6.toNat 0) - 48))))) 1000000000001)
   else none)
  else k x6 x7)
  else none)
 else k x6 x7
noncomputable def l0 (x3 : ByteArray) (x4 x5 x8 x9 : Int) (k : Int → Int → O) : Nat → Int → Int → O
 | 0, _, _ => none
 | n + 1, x6, x7 => l0s x3 x4 x5 x8 x9 (l0 x3 x4 x5 x8 x9 k n) k x6 x7
noncomputable def o0 : Fn [.s, .i, .i, .i, .i, .i, .i] St := fun _ x4 x5 x8 x9 y3 y4 => ⟨mkT 59 [(1, oI x4), (4, one (.bp 1000 0)), (7, oI x5), (8, oI y3), (9, oI y4)], [], [(1000, [cI x8, cI x9])]⟩
noncomputable def n0 (K : Res → O) := ent 0 [.s, .i, .i, .i, .i] [.i, .i] [0, 1, 2, 5, 6, 3, 4] (fun x3 x4 x5 x8 x9 x6 x7 => ⟨mkT 59 [(0, one (.str x3)), (1, oI x4), (4, one (.bp 1000 0)), (7, oI x5), (8, oI x6), (9, oI x7)], [], [(1000, [cI x8, cI x9])]⟩) fun x3 x4 x5 x8 x9 k => l0 x3 x4 x5 x8 x9 (fun y3 y4 => k (o0 x3 x4 x5 x8 x9 y3 y4))
noncomputable def X (K : Res → O) : Ctx := { cx0 [impl_isDigit.con] fi true K with cin := [(0, ⟨[0, 1, 4, 7, 8, 9], [], [1000], [], [], []⟩)], cout := [(0, ⟨[1, 4, 7, 8, 9], [], [1000], [], [], []⟩)], lp := lpOf [n0 K] }
noncomputable def b (a1 : ByteArray) (a2 : Int) (R : Int → Int → Int → Int → O) : O :=
 bif decide (0 ≤ a2) && decide (a2 < (a1.size : Int)) then (bif ((bytesOf a1).getD a2.toNat 0 == 95) then (l0 a1 a2 (IntKind.i64.wrap (a2 + 1)) 0 0 (fun y11 y12 =>
  bif (y11 == IntKind.i64.wrap (a2 + 1)) then R 0 0 a2 8
  else bif decide (1000000000000 < y12) then R 0 0 a2 6
  else bif decide (a2 < IntKind.i64.wrap (a2 + 1)) then R 1 (IntKind.i64.wrap (0 - y12)) y11 0
  else R 1 y12 y11 0) fuel (IntKind.i64.wrap (a2 + 1)) 0)
  else (l0 a1 a2 a2 0 0 (fun y13 y14 =>
  bif (y13 == a2) then R 0 0 a2 8
  else bif decide (1000000000000 < y14) then R 0 0 a2 6
  else bif decide (a2 < a2) then R 1 (IntKind.i64.wrap (0 - y14)) y13 0
  else R 1 y14 y13 0) fuel a2 0))
 else none
noncomputable def g := seal_ b
theorem e : g = b := seal_eq b
noncomputable def a : Fn [.s, .i] St := fun a1 a2 => argSt [one (.str a1), oI a2] [] []
noncomputable def con := conOf 100 [.s, .i] [.i, .i, .i, .i] a g m
theorem hx (K : Res → O) : CtxOk Pg Γ0 byt0 eqs0 (X K) [impl_isDigit.con] := ctx_of (X := X) (.cons impl_isDigit.ok .nil) (by kernel_rfl) K
theorem w0 (K : Res → O) : LpSound Pg (X K) 0 b0 := lp_fin (L := [n0 K]) laid (hx K) .nil (.cons (ent_ok (fun x3 x4 x5 x8 x9 k r => l0s x3 x4 x5 x8 x9 r (fun y3 y4 => k (o0 x3 x4 x5 x8 x9 y3 y4))) (by kernel_rfl) (by kernel_rfl) (by kernel_rfl) (by kernel_rfl) (by kernel_rfl)) .nil) (by kernel_rfl) (by kernel_rfl)
theorem ok : Con Pg con := con_fin (fn := Tryz.f100) (c := c) (Fi := fi) (X := X) laid hx (fun K => (.cons (w0 K) .nil)) e (by kernel_rfl) (by kernel_rfl) (by kernel_rfl) (by kernel_rfl)
end impl_lexNum
namespace impl_hasSign
noncomputable def c : Code := bodyOf Tryz.f101
noncomputable def fi : Fin := ⟨Γ0, [(.tmp 4, 4)], [[1]], [], [], []⟩
noncomputable def m : Fn [.s, .i] (Fn [.b] Res) := fun _ _ r1 => ⟨[⟨false, [.bool r1]⟩], [], [], [], []⟩
noncomputable def b0 : Code := codeAt c [1, 0, 1, 0, 0]
noncomputable def l0s (x3 : ByteArray) (x4 : Int) (rec : Int → O) (k : O) (R : Bool → O) (x5 : Int) : O :=
 bif decide (x5 < (x3.size : Int)) then (bif decide (0 ≤ x5) && decide (x5 < (x3.size : Int)) then (bif (IntKind.i64.wrap ((bytesOf x3).getD x5.toNat 0) == x4) then R true
  else rec (IntKind.i64.wrap (x5 + 1)))
  else none)
 else k
noncomputable def l0 (x3 : ByteArray) (x4 : Int) (k : O) (R : Bool → O) : Nat → Int → O
 | 0, _ => none
 | n + 1, x5 => l0s x3 x4 (l0 x3 x4 k R n) k R x5
noncomputable def o0 : Fn [.s, .i] St := fun _ _ => ⟨mkT 18 [], [], []⟩
noncomputable def n0 (K : Res → O) := ent 0 [.s, .i] [.i] [0, 1, 2] (fun x3 x4 x5 => ⟨mkT 18 [(0, one (.str x3)), (1, oI x4), (5, oI x5)], [], []⟩) fun x3 x4 k => l0 x3 x4 (k (o0 x3 x4)) (fun r1 => K (m ByteArray.empty (0 : Int) r1))
noncomputable def X (K : Res → O) : Ctx := { cx0 [] fi true K with cin := [(0, ⟨[0, 1, 5], [], [], [], [], []⟩)], cout := [(0, ⟨[], [], [], [], [], []⟩)], lp := lpOf [n0 K] }
noncomputable def b (a1 : ByteArray) (a2 : Int) (R : Bool → O) : O :=
 l0 a1 a2 (
 R false) R fuel 0
noncomputable def g := seal_ b
theorem e : g = b := seal_eq b
noncomputable def a : Fn [.s, .i] St := fun a1 a2 => argSt [one (.str a1), oI a2] [] []
noncomputable def con := conOf 101 [.s, .i] [.b] a g m
theorem hx (K : Res → O) : CtxOk Pg Γ0 byt0 eqs0 (X K) [] := ctx_of (X := X) .nil (by kernel_rfl) K
theorem w0 (K : Res → O) : LpSound Pg (X K) 0 b0 := lp_fin (L := [n0 K]) laid (hx K) .nil (.cons (ent_ok (fun x3 x4 k r => l0s x3 x4 r (k (o0 x3 x4)) (fun r1 => K (m ByteArray.empty (0 : Int) r1))) (by kernel_rfl) (by kernel_rfl) (by kernel_rfl) (by kernel_rfl) (by kernel_rfl)) .nil) (by kernel_rfl) (by kernel_rfl)
theorem ok : Con Pg con := con_fin (fn := Tryz.f101) (c := c) (Fi := fi) (X := X) laid hx (fun K => (.cons (w0 K) .nil)) e (by kernel_rfl) (by kernel_rfl) (by kernel_rfl) (by kernel_rfl)
end impl_hasSign
namespace impl_lexOne
noncomputable def c : Code := bodyOf Tryz.f77
noncomputable def fi : Fin := ⟨Γ0, [(.cell 4 115, 115), (.tmp 5, 3), (.tmp 6, 3)], [[1, 1], [1], [1]], [], [], []⟩
noncomputable def m : Fn [.s, .i] (Fn [.i, .i, .i, .i] Res) := fun _ _ r1 r2 r3 r4 => ⟨[⟨true, [cI r1, cI r2]⟩, ⟨false, [cI r3]⟩, ⟨false, [cI r4]⟩], [], [], [], []⟩
noncomputable def X (K : Res → O) : Ctx := cx0 [impl_isDigit.con, impl_lexNum.con, impl_hasSign.con] fi true K
noncomputable def b (a1 : ByteArray) (a2 : Int) (R : Int → Int → Int → Int → O) : O :=
 bif decide (0 ≤ a2) && decide (a2 < (a1.size : Int)) then (impl_isDigit.g ((bytesOf a1).getD a2.toNat 0) fun r3 =>
  bif r3 then (impl_lexNum.g a1 a2 fun r4 r5 r6 r7 =>
   R r4 r5 r6 r7)
  else bif ((bytesOf a1).getD a2.toNat 0 == 95) then (impl_lexNum.g a1 a2 fun r8 r9 r10 r11 =>
   R r8 r9 r10 r11)
  else bif decide (65 ≤ (bytesOf a1).getD a2.toNat 0) then (bif decide ((bytesOf a1).getD a2.toNat 0 ≤ 90) then R 2 (IntKind.i64.wrap (IntKind.u8.wrap (((bytesOf a1).getD a2.toNat 0) - 65))) (IntKind.i64.wrap (a2 + 1)) 0
   else bif ((bytesOf a1).getD a2.toNat 0 == 40) then R 4 0 (IntKind.i64.wrap (a2 + 1)) 0
   else bif ((bytesOf a1).getD a2.toNat 0 == 41) then R 5 0 (IntKind.i64.wrap (a2 + 1)) 0
   else bif ((bytesOf a1).getD a2.toNat 0 == 58) then R 6 0 (IntKind.i64.wrap (a2 + 1)) 0
   else (impl_hasSign.g (⟨#[43, 45, 42, 37, 124, 38, 94, 61, 60, 62, 126, 105, 35, 44, 116, 100, 114, 122, 64, 63, 103, 36, 101, 47, 92, 46, 111]⟩ : ByteArray) (IntKind.i64.wrap ((bytesOf a1).getD a2.toNat 0)) fun r12 =>
   bif r12 then R 3 (IntKind.i64.wrap ((bytesOf a1).getD a2.toNat 0)) (IntKind.i64.wrap (a2 + 1)) 0
   else R 0 0 a2 8))
  else bif ((bytesOf a1).getD a2.toNat 0 == 40) then R 4 0 (IntKind.i64.wrap (a2 + 1)) 0
  else bif ((bytesOf a1).getD a2.toNat 0 == 41) then R 5 0 (IntKind.i64.wrap (a2 + 1)) 0
  else bif ((bytesOf a1).getD a2.toNat 0 == 58) then R 6 0 (IntKind.i64.wrap (a2 + 1)) 0
  else (impl_hasSign.g (⟨#[43, 45, 42, 37, 124, 38, 94, 61, 60, 62, 126, 105, 35, 44, 116, 100, 114, 122, 64, 63, 103, 36, 101, 47, 92, 46, 111]⟩ : ByteArray) (IntKind.i64.wrap ((bytesOf a1).getD a2.toNat 0)) fun r13 =>
  bif r13 then R 3 (IntKind.i64.wrap ((bytesOf a1).getD a2.toNat 0)) (IntKind.i64.wrap (a2 + 1)) 0
  else R 0 0 a2 8))
 else none
noncomputable def g := seal_ b
theorem e : g = b := seal_eq b
noncomputable def a : Fn [.s, .i] St := fun a1 a2 => argSt [one (.str a1), oI a2] [] []
noncomputable def con := conOf 77 [.s, .i] [.i, .i, .i, .i] a g m
theorem ok : Con Pg con := con_fin (fn := Tryz.f77) (c := c) (Fi := fi) (X := X) laid (ctx_of (.cons impl_isDigit.ok (.cons impl_lexNum.ok (.cons impl_hasSign.ok .nil))) (by kernel_rfl)) (fun K => .nil) e (by kernel_rfl) (by kernel_rfl) (by kernel_rfl) (by kernel_rfl)
end impl_lexOne
namespace impl_Lex
noncomputable def c : Code := bodyOf Tryz.f55
noncomputable def fi : Fin := ⟨Γ0, [(.tmp 2, 84), (.tmp 3, 3), (.tmp 4, 3)], [[1], [1], [1]], [], [], []⟩
noncomputable def m : Fn [.s] (Fn [.l, .i, .i] Res) := fun _ r1 r2 r3 => ⟨[⟨false, [.ow 1000]⟩, ⟨false, [cI r2]⟩, ⟨false, [cI r3]⟩], [], [⟨e_1, .cells r1, true, 0, none⟩], [], []⟩
noncomputable def b0 : Code := codeAt c [1, 1, 1, 0, 1, 0, 0]
noncomputable def l0s (x2 : ByteArray) (rec : Int → List (List Cl) → O) (k : List (List Cl) → O) (R : List (List Cl) → Int → Int → O) (x3 : Int) (x4 : List (List Cl)) : O :=
 bif decide (x3 < (x2.size : Int)) then (bif decide (0 ≤ x3) && decide (x3 < (x2.size : Int)) then (bif ((bytesOf x2).getD x3.toNat 0 == 32) then rec (IntKind.i64.wrap (x3 + 1)) x4
  else (impl_lexOne.g x2 x3 fun r5 r6 r7 r8 =>
  bif (r8 != 0) then R ([] : List (List Cl)) r8 x3
  else bif decide ((x4.length + 1) * 16 ≤ 140737488355328) then rec r7 (x4 ++ ([[.i r5, .i r6]] : List (List Cl)))
  else none))
  else none)
 else k x4
noncomputable def l0 (x2 : ByteArray) (k : List (List Cl) → O) (R : List (List Cl) → Int → Int → O) : Nat → Int → List (List Cl) → O
 | 0, _, _ => none
 | n + 1, x3, x4 => l0s x2 (l0 x2 k R n) k R x3 x4
noncomputable def o0 : Fn [.s, .l] St := fun x2 y2 => ⟨mkT 42 [(0, one (.str x2)), (5, one (.ow 7152))], [(7152, ⟨e_1, .cells y2, true, 0, none⟩)], []⟩
noncomputable def n0 (K : Res → O) := ent 0 [.s] [.i, .l] [0, 1, 2] (fun x2 x3 x4 => ⟨mkT 42 [(0, one (.str x2)), (5, one (.ow 7152)), (6, oI x3)], [(7152, ⟨e_1, .cells x4, true, 0, none⟩)], []⟩) fun x2 k => l0 x2 (fun y2 => k (o0 x2 y2)) (fun r1 r2 r3 => K (m ByteArray.empty r1 r2 r3))
noncomputable def X (K : Res → O) : Ctx := { cx0 [impl_lexOne.con] fi true K with own := [(3, 0, 0, e_1)], cin := [(0, ⟨[0, 5, 6], [(7152, 7152), (23576, 7152)], [], [], [], []⟩)], cout := [(0, ⟨[0, 5], [(7152, 7152)], [], [], [], []⟩)], lp := lpOf [n0 K] }
noncomputable def b (a1 : ByteArray) (R : List (List Cl) → Int → Int → O) : O :=
 bif decide (300 < (a1.size : Int)) then R ([] : List (List Cl)) 6 0
 else (l0 a1 (fun y9 =>
 R y9 0 (a1.size : Int)) R fuel 0 ([] : List (List Cl)))
noncomputable def g := seal_ b
theorem e : g = b := seal_eq b
noncomputable def a : Fn [.s] St := fun a1 => argSt [one (.str a1)] [] []
noncomputable def con := conOf 55 [.s] [.l, .i, .i] a g m
theorem hx (K : Res → O) : CtxOk Pg Γ0 byt0 eqs0 (X K) [impl_lexOne.con] := ctx_of (X := X) (.cons impl_lexOne.ok .nil) (by kernel_rfl) K
theorem w0 (K : Res → O) : LpSound Pg (X K) 0 b0 := lp_fin (L := [n0 K]) laid (hx K) .nil (.cons (ent_ok (fun x2 k r => l0s x2 r (fun y2 => k (o0 x2 y2)) (fun r1 r2 r3 => K (m ByteArray.empty r1 r2 r3))) (by kernel_rfl) (by kernel_rfl) (by kernel_rfl) (by kernel_rfl) (by kernel_rfl)) .nil) (by kernel_rfl) (by kernel_rfl)
theorem ok : Con Pg con := con_fin (fn := Tryz.f55) (c := c) (Fi := fi) (X := X) laid hx (fun K => (.cons (w0 K) .nil)) e (by kernel_rfl) (by kernel_rfl) (by kernel_rfl) (by kernel_rfl)
end impl_Lex
namespace impl_TokenOk
noncomputable def c : Code := bodyOf Tryz.f104
noncomputable def fi : Fin := ⟨Γ0, [(.tmp 2, 4)], [[1]], [], [], []⟩
noncomputable def m : Fn [.i, .i] (Fn [.b] Res) := fun _ _ r1 => ⟨[⟨false, [.bool r1]⟩], [], [], [], []⟩
noncomputable def X (K : Res → O) : Ctx := cx0 [impl_NumOk.con, impl_within.con, impl_hasSign.con] fi true K
noncomputable def b (a1 a2 : Int) (R : Bool → O) : O :=
 bif (a1 == 1) then (impl_NumOk.g a2 fun r3 =>
  R r3)
 else bif (a1 == 2) then (impl_within.g a2 0 25 fun r4 =>
  R r4)
 else bif (a1 == 3) then (impl_hasSign.g (⟨#[43, 45, 42, 37, 124, 38, 94, 61, 60, 62, 126, 105, 35, 44, 116, 100, 114, 122, 64, 63, 103, 36, 101, 47, 92, 46, 111]⟩ : ByteArray) a2 fun r5 =>
  R r5)
 else bif (a1 == 4) then R (a2 == 0)
 else bif (a1 == 5) then R (a2 == 0)
 else bif (a1 == 6) then R (a2 == 0)
 else R false
noncomputable def g := seal_ b
theorem e : g = b := seal_eq b
noncomputable def a : Fn [.i, .i] St := fun a1 a2 => argSt [.v ⟨true, [cI a1, cI a2]⟩] [] []
noncomputable def con := conOf 104 [.i, .i] [.b] a g m
theorem ok : Con Pg con := con_fin (fn := Tryz.f104) (c := c) (Fi := fi) (X := X) laid (ctx_of (.cons impl_NumOk.ok (.cons impl_within.ok (.cons impl_hasSign.ok .nil))) (by kernel_rfl)) (fun K => .nil) e (by kernel_rfl) (by kernel_rfl) (by kernel_rfl) (by kernel_rfl)
end impl_TokenOk
namespace impl_tokensOk_1
noncomputable def c : Code := bodyOf Tryz.f103
noncomputable def fi : Fin := ⟨Γ0, [(.tmp 2, 4)], [[1]], [], [], []⟩
noncomputable def m : Fn [.i, .i] (Fn [.b] Res) := fun _ _ r1 => ⟨[⟨false, [.bool r1]⟩], [], [], [], []⟩
noncomputable def X (K : Res → O) : Ctx := cx0 [impl_TokenOk.con] fi true K
noncomputable def b (a1 a2 : Int) (R : Bool → O) : O :=
 impl_TokenOk.g a1 a2 fun r3 =>
 R (!r3)
noncomputable def g := seal_ b
theorem e : g = b := seal_eq b
noncomputable def a : Fn [.i, .i] St := fun a1 a2 => argSt [.v ⟨true, [cI a1, cI a2]⟩] [] []
noncomputable def con := conOf 103 [.i, .i] [.b] a g m
theorem ok : Con Pg con := con_fin (fn := Tryz.f103) (c := c) (Fi := fi) (X := X) laid (ctx_of (.cons impl_TokenOk.ok .nil) (by kernel_rfl)) (fun K => .nil) e (by kernel_rfl) (by kernel_rfl) (by kernel_rfl) (by kernel_rfl)
end impl_tokensOk_1
namespace slices_IndexFunc_impl_Token_impl_Token
noncomputable def c : Code := bodyOf Tryz.f135
noncomputable def fi : Fin := ⟨Γ0, [(.tmp 4, 3)], [[1]], [], [], []⟩
noncomputable def m : Fn [.l] (Fn [.i] Res) := fun _ r1 => ⟨[⟨false, [cI r1]⟩], [], [], [], []⟩
noncomputable def b0 : Code := codeAt c [1, 0, 1, 0, 0]
noncomputable def l0s (x2 : List (List Cl)) (x3 : Int) (rec : Int → O) (k : O) (R : Int → O) (x4 : Int) : O :=
 bif decide (x4 < x3) then (bif decide (0 ≤ x4) && decide (x4 < (x2.length : Int)) then (impl_tokensOk_1.g (((x2.getD x4.toNat []).getD 0 (.i 0)).toI) (((x2.getD x4.toNat []).getD 1 (.i 0)).toI) fun r5 =>
  bif r5 then R x4
  else rec (IntKind.i64.wrap (x4 + 1)))
  else none)
 else k
noncomputable def l0 (x2 : List (List Cl)) (x3 : Int) (k : O) (R : Int → O) : Nat → Int → O
 | 0, _ => none
 | n + 1, x4 => l0s x2 x3 (l0 x2 x3 k R n) k R x4
noncomputable def o0 : Fn [.l, .i] St := fun _ _ => ⟨mkT 19 [], [], []⟩
noncomputable def n0 (K : Res → O) := ent 0 [.l, .i] [.i] [0, 1, 2] (fun x2 x3 x4 => ⟨mkT 19 [(0, one (.tr 0 1 e_1 (.cells x2))), (1, one (.fn 103 [])), (7, oI x3), (8, oI x4)], [], []⟩) fun x2 x3 k => l0 x2 x3 (k (o0 x2 x3)) (fun r1 => K (m [] r1))
noncomputable def X (K : Res → O) : Ctx := { cx0 [impl_tokensOk_1.con] fi true K with cin := [(0, ⟨[0, 1, 7, 8], [], [], [], [], []⟩)], cout := [(0, ⟨[], [], [], [], [], []⟩)], lp := lpOf [n0 K] }
noncomputable def b (a1 : List (List Cl)) (R : Int → O) : O :=
 l0 a1 (a1.length : Int) (
 R (-1)) R fuel 0
noncomputable def g := seal_ b
theorem e : g = b := seal_eq b
noncomputable def a : Fn [.l] St := fun a1 => argSt [one (.tr 0 1 e_1 (.cells a1)), one (.fn 103 [])] [] []
noncomputable def con := conOf 135 [.l] [.i] a g m
theorem hx (K : Res → O) : CtxOk Pg Γ0 byt0 eqs0 (X K) [impl_tokensOk_1.con] := ctx_of (X := X) (.cons impl_tokensOk_1.ok .nil) (by kernel_rfl) K
theorem w0 (K : Res → O) : LpSound Pg (X K) 0 b0 := lp_fin (L := [n0 K]) laid (hx K) .nil (.cons (ent_ok (fun x2 x3 k r => l0s x2 x3 r (k (o0 x2 x3)) (fun r1 => K (m [] r1))) (by kernel_rfl) (by kernel_rfl) (by kernel_rfl) (by kernel_rfl) (by kernel_rfl)) .nil) (by kernel_rfl) (by kernel_rfl)
theorem ok : Con Pg con := con_fin (fn := Tryz.f135) (c := c) (Fi := fi) (X := X) laid hx (fun K => (.cons (w0 K) .nil)) e (by kernel_rfl) (by kernel_rfl) (by kernel_rfl) (by kernel_rfl)
end slices_IndexFunc_impl_Token_impl_Token
namespace slices_ContainsFunc_impl_Token_impl_Token
noncomputable def c : Code := bodyOf Tryz.f102
noncomputable def fi : Fin := ⟨Γ0, [(.tmp 4, 4)], [[1]], [], [], []⟩
noncomputable def m : Fn [.l] (Fn [.b] Res) := fun _ r1 => ⟨[⟨false, [.bool r1]⟩], [], [], [], []⟩
noncomputable def X (K : Res → O) : Ctx := cx0 [slices_IndexFunc_impl_Token_impl_Token.con] fi true K
noncomputable def b (a1 : List (List Cl)) (R : Bool → O) : O :=
 slices_IndexFunc_impl_Token_impl_Token.g a1 fun r2 =>
 R (decide (0 ≤ r2))
noncomputable def g := seal_ b
theorem e : g = b := seal_eq b
noncomputable def a : Fn [.l] St := fun a1 => argSt [one (.tr 0 1 e_1 (.cells a1)), one (.fn 103 [])] [] []
noncomputable def con := conOf 102 [.l] [.b] a g m
theorem ok : Con Pg con := con_fin (fn := Tryz.f102) (c := c) (Fi := fi) (X := X) laid (ctx_of (.cons slices_IndexFunc_impl_Token_impl_Token.ok .nil) (by kernel_rfl)) (fun K => .nil) e (by kernel_rfl) (by kernel_rfl) (by kernel_rfl) (by kernel_rfl)
end slices_ContainsFunc_impl_Token_impl_Token
namespace impl_tokensOk
noncomputable def c : Code := bodyOf Tryz.f78
noncomputable def fi : Fin := ⟨Γ0, [(.tmp 2, 4)], [[1]], [], [], []⟩
noncomputable def m : Fn [.l] (Fn [.b] Res) := fun _ r1 => ⟨[⟨false, [.bool r1]⟩], [], [], [], []⟩
noncomputable def X (K : Res → O) : Ctx := cx0 [slices_ContainsFunc_impl_Token_impl_Token.con] fi true K
noncomputable def b (a1 : List (List Cl)) (R : Bool → O) : O :=
 bif decide ((a1.length : Int) ≤ 300) then (slices_ContainsFunc_impl_Token_impl_Token.g a1 fun r2 =>
  R (!r2))
 else R false
noncomputable def g := seal_ b
theorem e : g = b := seal_eq b
noncomputable def a : Fn [.l] St := fun a1 => argSt [one (.tr 0 1 e_1 (.cells a1))] [] []
noncomputable def con := conOf 78 [.l] [.b] a g m
theorem ok : Con Pg con := con_fin (fn := Tryz.f78) (c := c) (Fi := fi) (X := X) laid (ctx_of (.cons slices_ContainsFunc_impl_Token_impl_Token.ok .nil) (by kernel_rfl)) (fun K => .nil) e (by kernel_rfl) (by kernel_rfl) (by kernel_rfl) (by kernel_rfl)
end impl_tokensOk
namespace impl_parser_kind
noncomputable def c : Code := bodyOf Tryz.f105
noncomputable def fi : Fin := ⟨Γ0, [(.tmp 4, 3)], [[1]], [true], [([.sl e_1 16, .int .i64, .sl e_2 72, .bool], [0, 1, 2, 1])], []⟩
noncomputable def m : Fn [.i, .l, .l, .i, .b] (Fn [.i] Res) := fun _ a2 a3 a4 a5 r1 => ⟨[⟨false, [cI r1]⟩], [some ⟨e_2, .cells a2, true, 0, none⟩], [], [[.tr 2 2 e_1 (.cells a3), cI a4, .ow 0, .bool a5]], []⟩
noncomputable def X (K : Res → O) : Ctx := cx0 [] fi true K
noncomputable def b (a1 : Int) (a2 a3 : List (List Cl)) (a4 : Int) (a5 : Bool) (R : Int → O) : O :=
 bif decide ((a3.length : Int) ≤ IntKind.i64.wrap (a4 + a1)) then R 0
 else bif decide (0 ≤ IntKind.i64.wrap (a4 + a1)) && decide (IntKind.i64.wrap (a4 + a1) < (a3.length : Int)) then R (((a3.getD ((IntKind.i64.wrap (a4 + a1)).toNat) []).getD 0 (.i 0)).toI)
 else none
noncomputable def g := seal_ b
theorem e : g = b := seal_eq b
noncomputable def a : Fn [.i, .l, .l, .i, .b] St := fun a1 a2 a3 a4 a5 => argSt [one (.bp 0 0), oI a1] [⟨e_2, .cells a2, true, 0, none⟩] [[.tr 2 2 e_1 (.cells a3), cI a4, .ow 0, .bool a5]]
noncomputable def con := conOf 105 [.i, .l, .l, .i, .b] [.i] a g m
theorem ok : Con Pg con := con_fin (fn := Tryz.f105) (c := c) (Fi := fi) (X := X) laid (ctx_of .nil (by kernel_rfl)) (fun K => .nil) e (by kernel_rfl) (by kernel_rfl) (by kernel_rfl) (by kernel_rfl)
end impl_parser_kind
namespace impl_parser_put_i2
noncomputable def c : Code := bodyOf Tryz.f106
noncomputable def fi : Fin := ⟨Γ0, [(.tmp 4, 3)], [[1]], [false], [([.sl e_1 16, .int .i64, .sl e_2 72, .bool], [0, 1, 1, 1])], []⟩
noncomputable def m : Fn [.i, .i, .i, .i, .i, .i, .l, .l, .i, .b] (Fn [.i, .l] Res) := fun _ _ _ _ _ _ _ a8 a9 a10 r1 r4 => ⟨[⟨false, [cI r1]⟩], [none], [⟨e_2, .cells r4, true, 0, none⟩], [[.tr 2 2 e_1 (.cells a8), cI a9, .ow 1000, .bool a10]], []⟩
noncomputable def X (K : Res → O) : Ctx := cx0 [] fi true K
noncomputable def b (a1 a2 a3 a4 a5 a6 : Int) (a7 a8 : List (List Cl)) (a9 : Int) (a10 : Bool) (R : Int → List (List Cl) → O) : O :=
 bif decide ((a7.length + 1) * 72 ≤ 140737488355328) then R (IntKind.i64.wrap (((a7 ++ ([[.i a1, .i a2, .i a3, .i a4, .i a5, .i a6, .l ([] : List Int)]] : List (List Cl))).length : Int) - 1)) (a7 ++ ([[.i a1, .i a2, .i a3, .i a4, .i a5, .i a6, .l ([] : List Int)]] : List (List Cl)))
 else none
noncomputable def g := seal_ b
theorem e : g = b := seal_eq b
noncomputable def a : Fn [.i, .i, .i, .i, .i, .i, .l, .l, .i, .b] St := fun a1 a2 a3 a4 a5 a6 a7 a8 a9 a10 => argSt [one (.bp 0 0), .v ⟨true, [cI a1, cI a2, cI a3, cI a4, cI a5, cI a6, .nil]⟩] [⟨e_2, .cells a7, true, 0, none⟩] [[.tr 2 2 e_1 (.cells a8), cI a9, .ow 0, .bool a10]]
noncomputable def con := conOf 106 [.i, .i, .i, .i, .i, .i, .l, .l, .i, .b] [.i, .l] a g m
theorem ok : Con Pg con := con_fin (fn := Tryz.f106) (c := c) (Fi := fi) (X := X) laid (ctx_of .nil (by kernel_rfl)) (fun K => .nil) e (by kernel_rfl) (by kernel_rfl) (by kernel_rfl) (by kernel_rfl)
end impl_parser_put_i2
namespace impl_parser_sign
noncomputable def c : Code := bodyOf Tryz.f136
noncomputable def fi : Fin := ⟨Γ0, [(.tmp 4, 3)], [[1]], [true], [([.sl e_1 16, .int .i64, .sl e_2 72, .bool], [0, 1, 2, 1])], []⟩
noncomputable def m : Fn [.i, .l, .l, .i, .b] (Fn [.i] Res) := fun _ a2 a3 a4 a5 r1 => ⟨[⟨false, [cI r1]⟩], [some ⟨e_2, .cells a2, true, 0, none⟩], [], [[.tr 2 2 e_1 (.cells a3), cI a4, .ow 0, .bool a5]], []⟩
noncomputable def X (K : Res → O) : Ctx := cx0 [impl_parser_kind.con] fi true K
noncomputable def b (a1 : Int) (a2 a3 : List (List Cl)) (a4 : Int) (a5 : Bool) (R : Int → O) : O :=
 impl_parser_kind.g a1 a2 a3 a4 a5 fun r6 =>
 bif (r6 != 3) then R 0
 else bif decide (0 ≤ IntKind.i64.wrap (a4 + a1)) && decide (IntKind.i64.wrap (a4 + a1) < (a3.length : Int)) then R (((a3.getD ((IntKind.i64.wrap (a4 + a1)).toNat) []).getD 1 (.i 0)).toI)
 else none
noncomputable def g := seal_ b
theorem e : g = b := seal_eq b
noncomputable def a : Fn [.i, .l, .l, .i, .b] St := fun a1 a2 a3 a4 a5 => argSt [one (.bp 0 0), oI a1] [⟨e_2, .cells a2, true, 0, none⟩] [[.tr 2 2 e_1 (.cells a3), cI a4, .ow 0, .bool a5]]
noncomputable def con := conOf 136 [.i, .l, .l, .i, .b] [.i] a g m
theorem ok : Con Pg con := con_fin (fn := Tryz.f136) (c := c) (Fi := fi) (X := X) laid (ctx_of (.cons impl_parser_kind.ok .nil) (by kernel_rfl)) (fun K => .nil) e (by kernel_rfl) (by kernel_rfl) (by kernel_rfl) (by kernel_rfl)
end impl_parser_sign
namespace impl_parser_function
noncomputable def c : Code := bodyOf Tryz.f107
noncomputable def fi : Fin := ⟨Γ0, [(.cell 2 51, 51)], [[1, 1, 1]], [true], [([.sl e_1 16, .int .i64, .sl e_2 72, .bool], [0, 1, 2, 1])], []⟩
noncomputable def m : Fn [.l, .l, .i, .b] (Fn [.i, .i, .i, .i, .b] Res) := fun a1 a2 _ _ r1 r2 r3 r6 r7 => ⟨[⟨true, [cI r1, cI r2, cI r3]⟩], [some ⟨e_2, .cells a1, true, 0, none⟩], [], [[.tr 2 2 e_1 (.cells a2), cI r6, .ow 0, .bool r7]], []⟩
noncomputable def X (K : Res → O) : Ctx := cx0 [impl_parser_sign.con] fi true K
noncomputable def b (a1 a2 : List (List Cl)) (a3 : Int) (a4 : Bool) (R : Int → Int → Int → Int → Bool → O) : O :=
 impl_parser_sign.g 0 a1 a2 a3 a4 fun r5 =>
 impl_parser_sign.g 1 a1 a2 a3 a4 fun r6 =>
 impl_parser_sign.g 2 a1 a2 a3 a4 fun r7 =>
 bif (r5 == 0) then R r5 0 0 (IntKind.i64.wrap (a3 + 1)) true
 else bif (r5 == 111) then (bif (r6 != 0) then R r6 111 0 (IntKind.i64.wrap (a3 + 2)) a4
  else bif (r6 == 47) then R r5 r6 0 (IntKind.i64.wrap (a3 + 2)) a4
  else bif (r6 == 92) then R r5 r6 0 (IntKind.i64.wrap (a3 + 2)) a4
  else bif (r6 == 46) then (bif (r7 != 0) then R r5 46 r7 (IntKind.i64.wrap (a3 + 3)) a4
   else R r5 0 0 (IntKind.i64.wrap (a3 + 1)) a4)
  else R r5 0 0 (IntKind.i64.wrap (a3 + 1)) a4)
 else bif (r6 == 47) then R r5 r6 0 (IntKind.i64.wrap (a3 + 2)) a4
 else bif (r6 == 92) then R r5 r6 0 (IntKind.i64.wrap (a3 + 2)) a4
 else bif (r6 == 46) then (bif (r7 != 0) then R r5 46 r7 (IntKind.i64.wrap (a3 + 3)) a4
  else R r5 0 0 (IntKind.i64.wrap (a3 + 1)) a4)
 else R r5 0 0 (IntKind.i64.wrap (a3 + 1)) a4
noncomputable def g := seal_ b
theorem e : g = b := seal_eq b
noncomputable def a : Fn [.l, .l, .i, .b] St := fun a1 a2 a3 a4 => argSt [one (.bp 0 0)] [⟨e_2, .cells a1, true, 0, none⟩] [[.tr 2 2 e_1 (.cells a2), cI a3, .ow 0, .bool a4]]
noncomputable def con := conOf 107 [.l, .l, .i, .b] [.i, .i, .i, .i, .b] a g m
theorem ok : Con Pg con := con_fin (fn := Tryz.f107) (c := c) (Fi := fi) (X := X) laid (ctx_of (.cons impl_parser_sign.ok .nil) (by kernel_rfl)) (fun K => .nil) e (by kernel_rfl) (by kernel_rfl) (by kernel_rfl) (by kernel_rfl)
end impl_parser_function
namespace impl_oneSign
noncomputable def c : Code := bodyOf Tryz.f137
noncomputable def fi : Fin := ⟨Γ0, [(.tmp 2, 4)], [[1]], [], [], []⟩
noncomputable def m : Fn [.i] (Fn [.b] Res) := fun _ r1 => ⟨[⟨false, [.bool r1]⟩], [], [], [], []⟩
noncomputable def X (K : Res → O) : Ctx := cx0 [impl_hasSign.con] fi true K
noncomputable def b (a1 : Int) (R : Bool → O) : O :=
 impl_hasSign.g (⟨#[43, 45, 42, 124, 126]⟩ : ByteArray) a1 fun r2 =>
 R r2
noncomputable def g := seal_ b
theorem e : g = b := seal_eq b
noncomputable def a : Fn [.i] St := fun a1 => argSt [oI a1] [] []
noncomputable def con := conOf 137 [.i] [.b] a g m
theorem ok : Con Pg con := con_fin (fn := Tryz.f137) (c := c) (Fi := fi) (X := X) laid (ctx_of (.cons impl_hasSign.ok .nil) (by kernel_rfl)) (fun K => .nil) e (by kernel_rfl) (by kernel_rfl) (by kernel_rfl) (by kernel_rfl)
end impl_oneSign
namespace impl_twoSign
noncomputable def c : Code := bodyOf Tryz.f138
noncomputable def fi : Fin := ⟨Γ0, [(.tmp 2, 4)], [[1]], [], [], []⟩
noncomputable def m : Fn [.i] (Fn [.b] Res) := fun _ r1 => ⟨[⟨false, [.bool r1]⟩], [], [], [], []⟩
noncomputable def X (K : Res → O) : Ctx := cx0 [impl_hasSign.con] fi true K
noncomputable def b (a1 : Int) (R : Bool → O) : O :=
 impl_hasSign.g (⟨#[43, 45, 42, 37, 124, 38, 94, 61, 60, 62]⟩ : ByteArray) a1 fun r2 =>
 R r2
noncomputable def g := seal_ b
theorem e : g = b := seal_eq b
noncomputable def a : Fn [.i] St := fun a1 => argSt [oI a1] [] []
noncomputable def con := conOf 138 [.i] [.b] a g m
theorem ok : Con Pg con := con_fin (fn := Tryz.f138) (c := c) (Fi := fi) (X := X) laid (ctx_of (.cons impl_hasSign.ok .nil) (by kernel_rfl)) (fun K => .nil) e (by kernel_rfl) (by kernel_rfl) (by kernel_rfl) (by kernel_rfl)
end impl_twoSign
namespace impl_FunOne
noncomputable def c : Code := bodyOf Tryz.f108
noncomputable def fi : Fin := ⟨Γ0, [(.tmp 2, 4)], [[1]], [], [], []⟩
noncomputable def m : Fn [.i, .i, .i] (Fn [.b] Res) := fun _ _ _ r1 => ⟨[⟨false, [.bool r1]⟩], [], [], [], []⟩
noncomputable def X (K : Res → O) : Ctx := cx0 [impl_oneSign.con, impl_hasSign.con, impl_twoSign.con] fi true K
noncomputable def b (a1 a2 a3 : Int) (R : Bool → O) : O :=
 bif (a2 == 0) then (bif (a3 == 0) then (impl_oneSign.g a1 fun r4 =>
  bif r4 then R true
  else (impl_hasSign.g (⟨#[105, 35, 44, 114, 122, 103]⟩ : ByteArray) a1 fun r5 =>
  R r5))
  else R false)
 else bif (a2 == 47) then (bif (a3 == 0) then (impl_twoSign.g a1 fun r6 =>
  R r6)
  else R false)
 else bif (a2 == 92) then (bif (a3 == 0) then (impl_twoSign.g a1 fun r7 =>
  R r7)
  else R false)
 else R false
noncomputable def g := seal_ b
theorem e : g = b := seal_eq b
noncomputable def a : Fn [.i, .i, .i] St := fun a1 a2 a3 => argSt [.v ⟨true, [cI a1, cI a2, cI a3]⟩] [] []
noncomputable def con := conOf 108 [.i, .i, .i] [.b] a g m
theorem ok : Con Pg con := con_fin (fn := Tryz.f108) (c := c) (Fi := fi) (X := X) laid (ctx_of (.cons impl_oneSign.ok (.cons impl_hasSign.ok (.cons impl_twoSign.ok .nil))) (by kernel_rfl)) (fun K => .nil) e (by kernel_rfl) (by kernel_rfl) (by kernel_rfl) (by kernel_rfl)
end impl_FunOne
namespace impl_parser_operandEnd
noncomputable def c : Code := bodyOf Tryz.f109
noncomputable def fi : Fin := ⟨Γ0, [(.tmp 2, 3), (.tmp 3, 4)], [[1], [1]], [true], [([.sl e_1 16, .int .i64, .sl e_2 72, .bool], [0, 1, 2, 1])], []⟩
noncomputable def m : Fn [.l, .l, .i, .b] (Fn [.i, .b, .l, .l, .i, .b] Res) := fun _ _ _ _ r1 r2 r3 r4 r5 r6 => ⟨[⟨false, [cI r1]⟩, ⟨false, [.bool r2]⟩], [some ⟨e_2, .cells r3, true, 0, none⟩], [], [[.tr 2 2 e_1 (.cells r4), cI r5, .ow 0, .bool r6]], []⟩
noncomputable def b1 : Code := codeAt c [1, 0, 1, 0, 1, 0, 1, 0, 0, 0]
noncomputable def b3 : Code := codeAt c [1, 0, 1, 0, 1, 1, 1, 1, 1, 0, 1, 1, 0, 0]
noncomputable def l1s (x7 x8 : List (List Cl)) (x9 : Int) (x10 : Bool) (rec : Int → O) (k : Int → O) (x6 : Int) : O :=
 impl_parser_kind.g x6 x7 x8 x9 x10 fun r11 =>
 bif (r11 == 1) then rec (IntKind.i64.wrap (x6 + 1))
 else k x6
noncomputable def l1 (x7 x8 : List (List Cl)) (x9 : Int) (x10 : Bool) (k : Int → O) : Nat → Int → O
 | 0, _ => none
 | n + 1, x6 => l1s x7 x8 x9 x10 (l1 x7 x8 x9 x10 k n) k x6
noncomputable def o1 : Fn [.l, .l, .i, .b, .i] St := fun x7 x8 x9 x10 y1 => ⟨mkT 65 [(0, one (.bp 0 0)), (4, oI y1)], [(0, ⟨e_2, .cells x7, true, 0, none⟩)], [(0, [.tr 2 2 e_1 (.cells x8), cI x9, .ow 0, .bool x10])]⟩
noncomputable def n1 (K : Res → O) := ent 1 [.l, .l, .i, .b] [.i] [1, 2, 3, 4, 0] (fun x7 x8 x9 x10 x6 => ⟨mkT 65 [(0, one (.bp 0 0)), (4, oI x6)], [(0, ⟨e_2, .cells x7, true, 0, none⟩)], [(0, [.tr 2 2 e_1 (.cells x8), cI x9, .ow 0, .bool x10])]⟩) fun x7 x8 x9 x10 k => l1 x7 x8 x9 x10 (fun y1 => k (o1 x7 x8 x9 x10 y1))
noncomputable def l3s (x15 x16 : List (List Cl)) (x17 : Int) (x18 : Bool) (rec : Int → Int → O) (k : O) (R : Int → Bool → List (List Cl) → List (List Cl) → Int → Bool → O) (x13 x14 : Int) : O :=
 bif decide (x14 < (x16.length : Int)) then (bif decide (0 ≤ x14) && decide (x14 < (x16.length : Int)) then (bif (((x16.getD x14.toNat []).getD 0 (.i 0)).toI == 4) then (bif (IntKind.i64.wrap (x13 + 1) == 0) then R (IntKind.i64.wrap (x14 + 1)) true x15 x16 x17 x18
  else rec (IntKind.i64.wrap (x13 + 1)) (IntKind.i64.wrap (x14 + 1)))
  else bif (((x16.getD x14.toNat []).getD 0 (.i 0)).toI == 5) then (bif (IntKind.i64.wrap (x13 - 1) == 0) then R (IntKind.i64.wrap (x14 + 1)) true x15 x16 x17 x18
   else rec (IntKind.i64.wrap (x13 - 1)) (IntKind.i64.wrap (x14 + 1)))
  else bif (x13 == 0) then R (IntKind.i64.wrap (x14 + 1)) true x15 x16 x17 x18
  else rec x13 (IntKind.i64.wrap (x14 + 1)))
  else none)
 else k
noncomputable def l3 (x15 x16 : List (List Cl)) (x17 : Int) (x18 : Bool) (k : O) (R : Int → Bool → List (List Cl) → List (List Cl) → Int → Bool → O) : Nat → Int → Int → O
 | 0, _, _ => none
 | n + 1, x13, x14 => l3s x15 x16 x17 x18 (l3 x15 x16 x17 x18 k R n) k R x13 x14
noncomputable def o3 : Fn [.l, .l, .i, .b] St := fun x15 x16 x17 x18 => ⟨mkT 65 [], [(0, ⟨e_2, .cells x15, true, 0, none⟩)], [(0, [.tr 2 2 e_1 (.cells x16), cI x17, .ow 0, .bool x18])]⟩
noncomputable def n3 (K : Res → O) := ent 3 [.l, .l, .i, .b] [.i, .i] [2, 3, 4, 5, 0, 1] (fun x15 x16 x17 x18 x13 x14 => ⟨mkT 65 [(0, one (.bp 0 0)), (5, oI x13), (6, oI x14)], [(0, ⟨e_2, .cells x15, true, 0, none⟩)], [(0, [.tr 2 2 e_1 (.cells x16), cI x17, .ow 0, .bool x18])]⟩) fun x15 x16 x17 x18 k => l3 x15 x16 x17 x18 (k (o3 x15 x16 x17 x18)) (fun r1 r2 r3 r4 r5 r6 => K (m [] [] (0 : Int) false r1 r2 r3 r4 r5 r6))
noncomputable def X (K : Res → O) : Ctx := { cx0 [impl_parser_kind.con] fi true K with cin := [(1, ⟨[0, 4], [(0, 0)], [0], [], [], []⟩), (3, ⟨[0, 5, 6], [(0, 0)], [0], [], [], []⟩)], cout := [(1, ⟨[0, 4], [(0, 0)], [0], [], [], []⟩), (3, ⟨[], [(0, 0)], [0], [], [], []⟩)], lp := lpOf [n1 K, n3 K] }
noncomputable def b (a1 a2 : List (List Cl)) (a3 : Int) (a4 : Bool) (R : Int → Bool → List (List Cl) → List (List Cl) → Int → Bool → O) : O :=
 impl_parser_kind.g 0 a1 a2 a3 a4 fun r5 =>
 bif (r5 == 1) then (l1 a1 a2 a3 a4 (fun y12 =>
  R (IntKind.i64.wrap (a3 + y12)) true a1 a2 a3 a4) fuel 1)
 else bif (r5 == 2) then R (IntKind.i64.wrap (a3 + 1)) true a1 a2 a3 a4
 else bif (r5 == 4) then (l3 a1 a2 a3 a4 (
  R 0 false a1 a2 a3 a4) R fuel 0 a3)
 else R 0 false a1 a2 a3 a4
noncomputable def g := seal_ b
theorem e : g = b := seal_eq b
noncomputable def a : Fn [.l, .l, .i, .b] St := fun a1 a2 a3 a4 => argSt [one (.bp 0 0)] [⟨e_2, .cells a1, true, 0, none⟩] [[.tr 2 2 e_1 (.cells a2), cI a3, .ow 0, .bool a4]]
noncomputable def con := conOf 109 [.l, .l, .i, .b] [.i, .b, .l, .l, .i, .b] a g m
theorem hx (K : Res → O) : CtxOk Pg Γ0 byt0 eqs0 (X K) [impl_parser_kind.con] := ctx_of (X := X) (.cons impl_parser_kind.ok .nil) (by kernel_rfl) K
theorem w3 (K : Res → O) : LpSound Pg (X K) 3 b3 := lp_fin (L := [n1 K, n3 K]) laid (hx K) .nil (.skip rfl (.cons (ent_ok (fun x15 x16 x17 x18 k r => l3s x15 x16 x17 x18 r (k (o3 x15 x16 x17 x18)) (fun r1 r2 r3 r4 r5 r6 => K (m [] [] (0 : Int) false r1 r2 r3 r4 r5 r6))) (by kernel_rfl) (by kernel_rfl) (by kernel_rfl) (by kernel_rfl) (by kernel_rfl)) .nil)) (by kernel_rfl) (by kernel_rfl)
theorem w1 (K : Res → O) : LpSound Pg (X K) 1 b1 := lp_fin (L := [n1 K, n3 K]) laid (hx K) .nil (.cons (ent_ok (fun x7 x8 x9 x10 k r => l1s x7 x8 x9 x10 r (fun y1 => k (o1 x7 x8 x9 x10 y1))) (by kernel_rfl) (by kernel_rfl) (by kernel_rfl) (by kernel_rfl) (by kernel_rfl)) (.skip rfl .nil)) (by kernel_rfl) (by kernel_rfl)
theorem ok : Con Pg con := con_fin (fn := Tryz.f109) (c := c) (Fi := fi) (X := X) laid hx (fun K => (.cons (w1 K) (.cons (w3 K) .nil))) e (by kernel_rfl) (by kernel_rfl) (by kernel_rfl) (by kernel_rfl)
end impl_parser_operandEnd
namespace impl_parser_put_i3
noncomputable def c : Code := bodyOf Tryz.f106
noncomputable def fi : Fin := ⟨Γ0, [(.tmp 4, 3)], [[1]], [true, false], [([.sl e_1 16, .int .i64, .sl e_2 72, .bool], [0, 1, 1, 1])], []⟩
noncomputable def m : Fn [.i, .i, .i, .i, .i, .i, .z, .l, .l, .i, .b] (Fn [.i, .l] Res) := fun _ _ _ _ _ _ a7 _ a9 a10 a11 r1 r5 => ⟨[⟨false, [cI r1]⟩], [some ⟨[.int .i64], .ints a7, true, 2, none⟩, none], [⟨e_2, .cells r5, true, 0, none⟩], [[.tr 2 2 e_1 (.cells a9), cI a10, .ow 1000, .bool a11]], []⟩
noncomputable def X (K : Res → O) : Ctx := cx0 [] fi true K
noncomputable def b (a1 a2 a3 a4 a5 a6 : Int) (a7 : List Int) (a8 a9 : List (List Cl)) (a10 : Int) (a11 : Bool) (R : Int → List (List Cl) → O) : O :=
 bif decide ((a8.length + 1) * 72 ≤ 140737488355328) then R (IntKind.i64.wrap (((a8 ++ ([[.i a1, .i a2, .i a3, .i a4, .i a5, .i a6, .l a7]] : List (List Cl))).length : Int) - 1)) (a8 ++ ([[.i a1, .i a2, .i a3, .i a4, .i a5, .i a6, .l a7]] : List (List Cl)))
 else none
noncomputable def g := seal_ b
theorem e : g = b := seal_eq b
noncomputable def a : Fn [.i, .i, .i, .i, .i, .i, .z, .l, .l, .i, .b] St := fun a1 a2 a3 a4 a5 a6 a7 a8 a9 a10 a11 => argSt [one (.bp 0 0), .v ⟨true, [cI a1, cI a2, cI a3, cI a4, cI a5, cI a6, .ow 0]⟩] [⟨[.int .i64], .ints a7, true, 0, none⟩, ⟨e_2, .cells a8, true, 0, none⟩] [[.tr 2 2 e_1 (.cells a9), cI a10, .ow 1, .bool a11]]
noncomputable def con := conOf 106 [.i, .i, .i, .i, .i, .i, .z, .l, .l, .i, .b] [.i, .l] a g m
theorem ok : Con Pg con := con_fin (fn := Tryz.f106) (c := c) (Fi := fi) (X := X) laid (ctx_of .nil (by kernel_rfl)) (fun K => .nil) e (by kernel_rfl) (by kernel_rfl) (by kernel_rfl) (by kernel_rfl)
end impl_parser_put_i3
namespace impl_FunTwo
noncomputable def c : Code := bodyOf Tryz.f111
noncomputable def fi : Fin := ⟨Γ0, [(.tmp 2, 4)], [[1]], [], [], []⟩
noncomputable def m : Fn [.i, .i, .i] (Fn [.b] Res) := fun _ _ _ r1 => ⟨[⟨false, [.bool r1]⟩], [], [], [], []⟩
noncomputable def X (K : Res → O) : Ctx := cx0 [impl_twoSign.con, impl_hasSign.con] fi true K
noncomputable def b (a1 a2 a3 : Int) (R : Bool → O) : O :=
 bif (a2 == 0) then (bif (a3 == 0) then (impl_twoSign.g a1 fun r4 =>
  bif r4 then R true
  else (impl_hasSign.g (⟨#[35, 44, 116, 100, 114, 64, 63, 36, 101]⟩ : ByteArray) a1 fun r5 =>
  R r5))
  else R false)
 else bif (a2 == 111) then (bif (a3 == 0) then (impl_twoSign.g a1 fun r6 =>
  R r6)
  else R false)
 else bif (a2 == 46) then (impl_twoSign.g a1 fun r7 =>
  bif r7 then (impl_twoSign.g a3 fun r8 =>
   R r8)
  else R false)
 else R false
noncomputable def g := seal_ b
theorem e : g = b := seal_eq b
noncomputable def a : Fn [.i, .i, .i] St := fun a1 a2 a3 => argSt [.v ⟨true, [cI a1, cI a2, cI a3]⟩] [] []
noncomputable def con := conOf 111 [.i, .i, .i] [.b] a g m
theorem ok : Con Pg con := con_fin (fn := Tryz.f111) (c := c) (Fi := fi) (X := X) laid (ctx_of (.cons impl_twoSign.ok (.cons impl_hasSign.ok .nil)) (by kernel_rfl)) (fun K => .nil) e (by kernel_rfl) (by kernel_rfl) (by kernel_rfl) (by kernel_rfl)
end impl_FunTwo
-- GROUP impl_parser_operand impl_parser_line
namespace impl_parser_operand
noncomputable def c : Code := bodyOf Tryz.f110
noncomputable def fi : Fin := ⟨Γ0, [(.tmp 6, 3)], [[1]], [false], [([.sl e_1 16, .int .i64, .sl e_2 72, .bool], [0, 1, 1, 1])], []⟩
noncomputable def m : Fn [.i, .i, .l, .l, .i, .b] (Fn [.i, .l, .i, .l, .b] Res) := fun _ _ _ _ _ _ r1 r2 r3 r4 r5 => ⟨[⟨false, [cI r1]⟩], [none], [⟨e_2, .cells r4, true, 0, none⟩], [[.tr 2 2 e_1 (.cells r2), cI r3, .ow 1000, .bool r5]], []⟩
noncomputable def b1 : Code := codeAt c [1, 1, 0, 1, 0, 1, 1, 1, 0, 1, 0, 1, 0, 0]
noncomputable abbrev T : Type := Int → Int → List (List Cl) → List (List Cl) → Int → Bool → (Int → List (List Cl) → Int → List (List Cl) → Bool → O) → O
noncomputable def a : Fn [.i, .i, .l, .l, .i, .b] St := fun a1 a2 a3 a4 a5 a6 => argSt [one (.bp 0 0), oI a1, oI a2] [⟨e_2, .cells a3, true, 0, none⟩] [[.tr 2 2 e_1 (.cells a4), cI a5, .ow 0, .bool a6]]
noncomputable def conz (h : T) := conOf 110 [.i, .i, .l, .l, .i, .b] [.i, .l, .i, .l, .b] a h m
end impl_parser_operand
namespace impl_parser_line
noncomputable def c : Code := bodyOf Tryz.f79
noncomputable def fi : Fin := ⟨Γ0, [(.tmp 2, 3)], [[1]], [false], [([.sl e_1 16, .int .i64, .sl e_2 72, .bool], [0, 1, 3, 1])], []⟩
noncomputable def m : Fn [.l, .l, .i, .b] (Fn [.i, .l, .i, .l, .b] Res) := fun _ _ _ _ r1 r2 r3 r4 r5 => ⟨[⟨false, [cI r1]⟩], [none], [⟨e_2, .cells r4, true, 0, none⟩], [[.tr 2 2 e_1 (.cells r2), cI r3, .ow 1000, .bool r5]], []⟩
noncomputable abbrev T : Type := List (List Cl) → List (List Cl) → Int → Bool → (Int → List (List Cl) → Int → List (List Cl) → Bool → O) → O
noncomputable def a : Fn [.l, .l, .i, .b] St := fun a1 a2 a3 a4 => argSt [one (.bp 0 0)] [⟨e_2, .cells a1, true, 0, none⟩] [[.tr 2 2 e_1 (.cells a2), cI a3, .ow 0, .bool a4]]
noncomputable def conz (h : T) := conOf 79 [.l, .l, .i, .b] [.i, .l, .i, .l, .b] a h m
end impl_parser_line
noncomputable abbrev Z_impl_parser_operand : Type := impl_parser_operand.T × impl_parser_line.T
noncomputable def Gd_impl_parser_operand (z : Z_impl_parser_operand) : Prop := Con Pg (impl_parser_operand.conz z.1) ∧ Con Pg (impl_parser_line.conz z.2)
namespace impl_parser_operand
noncomputable def l1s (x9 : List (List Cl)) (x10 : Int) (x12 x14 : List (List Cl)) (x15 : Int) (x16 : Bool) (x17 x18 x19 x20 x21 x22 : Int) (rec : Int → List Int → O) (k : List Int → O) (x11 : Int) (x13 : List Int) : O :=
 bif decide (x11 < x10) then (bif decide (0 ≤ x11) && decide (x11 < (x9.length : Int)) then (bif decide ((x13.length + 1) * 8 ≤ 140737488355328) then rec (IntKind.i64.wrap (x11 + 1)) (x13 ++ ([((x9.getD x11.toNat []).getD 1 (.i 0)).toI] : List Int))
  else none)
  else none)
 else k x13
noncomputable def l1 (x9 : List (List Cl)) (x10 : Int) (x12 x14 : List (List Cl)) (x15 : Int) (x16 : Bool) (x17 x18 x19 x20 x21 x22 : Int) (k : List Int → O) : Nat → Int → List Int → O
 | 0, _, _ => none
 | n + 1, x11, x13 => l1s x9 x10 x12 x14 x15 x16 x17 x18 x19 x20 x21 x22 (l1 x9 x10 x12 x14 x15 x16 x17 x18 x19 x20 x21 x22 k n) k x11 x13
noncomputable def o1 : Fn [.l, .i, .l, .l, .i, .b, .i, .i, .i, .i, .i, .i, .z] St := fun _ _ x12 x14 x15 x16 x17 x18 x19 x20 x21 x22 y2 => ⟨mkT 93 [(0, one (.bp 0 0)), (8, one (.bp 13304 0))], [(0, ⟨e_2, .cells x12, true, 0, none⟩), (13302, ⟨[.int .i64], .ints y2, true, 0, none⟩)], [(0, [.tr 2 2 e_1 (.cells x14), cI x15, .ow 0, .bool x16]), (13304, [cI x17, cI x18, cI x19, cI x20, cI x21, cI x22, .ow 13302])]⟩
noncomputable def n1 (K : Res → O) := ent 1 [.l, .i, .l, .l, .i, .b, .i, .i, .i, .i, .i, .i] [.i, .z] [0, 1, 3, 5, 6, 7, 8, 9, 10, 11, 12, 13, 2, 4] (fun x9 x10 x12 x14 x15 x16 x17 x18 x19 x20 x21 x22 x11 x13 => ⟨mkT 93 [(0, one (.bp 0 0)), (8, one (.bp 13304 0)), (38, one (.tr 2 2 e_1 (.cells x9))), (39, oI x10), (40, oI x11)], [(0, ⟨e_2, .cells x12, true, 0, none⟩), (13302, ⟨[.int .i64], .ints x13, true, 0, none⟩)], [(0, [.tr 2 2 e_1 (.cells x14), cI x15, .ow 0, .bool x16]), (13304, [cI x17, cI x18, cI x19, cI x20, cI x21, cI x22, .ow 13302])]⟩) fun x9 x10 x12 x14 x15 x16 x17 x18 x19 x20 x21 x22 k => l1 x9 x10 x12 x14 x15 x16 x17 x18 x19 x20 x21 x22 (fun y2 => k (o1 x9 x10 x12 x14 x15 x16 x17 x18 x19 x20 x21 x22 y2))
noncomputable def X (z : Z_impl_parser_operand) (K : Res → O) : Ctx := { cx0 [impl_parser_put_i2.con, impl_parser_put_i3.con, impl_parser_line.conz z.2] fi true K with io := [(106, [⟨false, 0, 1⟩, ⟨true, 0, 1⟩])], bun := [(4, 4)], own := [(6, 0, 6, [.int .i64])], cin := [(1, ⟨[0, 8, 38, 39, 40], [(0, 0), (13302, 13302), (21560, 13302)], [0, 13304], [], [], []⟩)], cout := [(1, ⟨[0, 8], [(0, 0), (13302, 13302)], [0, 13304], [], [], []⟩)], lp := lpOf [n1 K] }
noncomputable def g (z : Z_impl_parser_operand) (a1 a2 : Int) (a3 a4 : List (List Cl)) (a5 : Int) (a6 : Bool) (R : Int → List (List Cl) → Int → List (List Cl) → Bool → O) : O :=
 bif decide (0 ≤ a1) && decide (a1 < (a4.length : Int)) then (bif (((a4.getD a1.toNat []).getD 0 (.i 0)).toI == 2) then (impl_parser_put_i2.g 2 (((a4.getD a1.toNat []).getD 1 (.i 0)).toI) 0 0 0 0 a3 a4 a5 a6 fun r7 r8 =>
  R r7 a4 a5 r8 a6)
  else bif (((a4.getD a1.toNat []).getD 0 (.i 0)).toI == 1) then (bif decide (0 ≤ a1) && decide (a1 ≤ a2) && decide (a2 ≤ (a4.length : Int)) then (l1 ((a4.drop a1.toNat).take (a2.toNat - a1.toNat)) (((a4.drop a1.toNat).take (a2.toNat - a1.toNat)).length : Int) a3 a4 a5 a6 1 0 0 0 0 0 (fun y23 =>
   impl_parser_put_i3.g 1 0 0 0 0 0 y23 a3 a4 a5 a6 fun r24 r25 =>
   R r24 a4 a5 r25 a6) fuel 0 ([] : List Int))
   else none)
  else bif decide (0 ≤ IntKind.i64.wrap (a2 - 1)) && decide (IntKind.i64.wrap (a2 - 1) ≤ (a4.length : Int)) then (z.2 a3 (a4.take ((IntKind.i64.wrap (a2 - 1)).toNat)) (IntKind.i64.wrap (a1 + 1)) false fun r26 r27 r28 r29 r30 =>
   bif a6 then R r26 a4 a5 r29 true
   else R r26 a4 a5 r29 r30)
  else none)
 else none
theorem hx (z : Z_impl_parser_operand) (hz : Gd_impl_parser_operand z) (K : Res → O) : CtxOk Pg Γ0 byt0 eqs0 ((X z) K) [impl_parser_put_i2.con, impl_parser_put_i3.con, impl_parser_line.conz z.2] := ctx_of (X := (X z)) (.cons impl_parser_put_i2.ok (.cons impl_parser_put_i3.ok (.cons hz.2 .nil))) (by kernel_rfl) K
theorem w1 (z : Z_impl_parser_operand) (hz : Gd_impl_parser_operand z) (K : Res → O) : LpSound Pg ((X z) K) 1 b1 := lp_fin (L := [n1 K]) laid ((hx z hz) K) .nil (.cons (ent_ok (fun x9 x10 x12 x14 x15 x16 x17 x18 x19 x20 x21 x22 k r => l1s x9 x10 x12 x14 x15 x16 x17 x18 x19 x20 x21 x22 r (fun y2 => k (o1 x9 x10 x12 x14 x15 x16 x17 x18 x19 x20 x21 x22 y2))) (by kernel_rfl) (by kernel_rfl) (by kernel_rfl) (by kernel_rfl) (by kernel_rfl)) .nil) (by kernel_rfl) (by kernel_rfl)
theorem ok (z : Z_impl_parser_operand) (hz : Gd_impl_parser_operand z) : Con Pg (conz (g z)) := con_fin (fn := Tryz.f110) (c := c) (Fi := fi) (X := (X z)) laid (hx z hz) (fun K => (.cons ((w1 z hz) K) .nil)) rfl (by kernel_rfl) (by kernel_rfl) (by kernel_rfl) (by kernel_rfl)
end impl_parser_operand
namespace impl_parser_line
noncomputable def X (z : Z_impl_parser_operand) (K : Res → O) : Ctx := { cx0 [impl_parser_kind.con, impl_parser_line.conz z.2, impl_parser_put_i2.con, impl_parser_function.con, impl_FunOne.con, impl_parser_operandEnd.con, impl_parser_operand.conz z.1, impl_FunTwo.con] fi true K with io := [(106, [⟨false, 0, 1⟩, ⟨true, 0, 1⟩])], bun := [(8, 4), (13, 4), (28, 5)] }
noncomputable def g (z : Z_impl_parser_operand) (a1 a2 : List (List Cl)) (a3 : Int) (a4 : Bool) (R : Int → List (List Cl) → Int → List (List Cl) → Bool → O) : O :=
 bif a4 then R 0 a2 a3 a1 true
 else bif decide ((a2.length : Int) ≤ a3) then R 0 a2 a3 a1 true
 else (impl_parser_kind.g 0 a1 a2 a3 a4 fun r5 =>
 bif (r5 == 2) then (impl_parser_kind.g 1 a1 a2 a3 a4 fun r6 =>
  bif (r6 == 6) then (bif decide (0 ≤ a3) && decide (a3 < (a2.length : Int)) then (z.2 a1 a2 (IntKind.i64.wrap (a3 + 2)) a4 fun r7 r8 r9 r10 r11 =>
   impl_parser_put_i2.g 3 (((a2.getD a3.toNat []).getD 1 (.i 0)).toI) r7 0 0 0 r10 r8 r9 r11 fun r12 r13 =>
   R r12 r8 r9 r13 r11)
   else none)
  else (impl_parser_kind.g 0 a1 a2 a3 a4 fun r14 =>
  bif (r14 == 3) then (impl_parser_function.g a1 a2 a3 a4 fun r15 r16 r17 r18 r19 =>
   z.2 a1 a2 r18 r19 fun r20 r21 r22 r23 r24 =>
   bif r24 then (impl_parser_put_i2.g 4 0 r20 r15 r16 r17 r23 r21 r22 true fun r25 r26 =>
    R r25 r21 r22 r26 true)
   else (impl_FunOne.g r15 r16 r17 fun r27 =>
   impl_parser_put_i2.g 4 0 r20 r15 r16 r17 r23 r21 r22 (!r27) fun r28 r29 =>
   R r28 r21 r22 r29 (!r27)))
  else (impl_parser_operandEnd.g a1 a2 a3 a4 fun r30 r31 r32 r33 r34 r35 =>
  bif !r31 then R 0 r33 r34 r32 true
  else bif (r30 == (r33.length : Int)) then (z.1 a3 r30 r32 r33 r34 r35 fun r36 r37 r38 r39 r40 =>
   R r36 r37 r38 r39 r40)
  else (impl_parser_function.g r32 r33 r30 r35 fun r41 r42 r43 r44 r45 =>
  z.2 r32 r33 r44 r45 fun r46 r47 r48 r49 r50 =>
  bif r50 then R 0 r47 r48 r49 true
  else (impl_FunTwo.g r41 r42 r43 fun r51 =>
  bif !r51 then R 0 r47 r48 r49 (!r51)
  else (z.1 a3 r30 r49 r47 r48 (!r51) fun r52 r53 r54 r55 r56 =>
  impl_parser_put_i2.g 5 r52 r46 r41 r42 r43 r55 r53 r54 r56 fun r57 r58 =>
  R r57 r53 r54 r58 r56))))))
 else (impl_parser_kind.g 0 a1 a2 a3 a4 fun r59 =>
 bif (r59 == 3) then (impl_parser_function.g a1 a2 a3 a4 fun r60 r61 r62 r63 r64 =>
  z.2 a1 a2 r63 r64 fun r65 r66 r67 r68 r69 =>
  bif r69 then (impl_parser_put_i2.g 4 0 r65 r60 r61 r62 r68 r66 r67 true fun r70 r71 =>
   R r70 r66 r67 r71 true)
  else (impl_FunOne.g r60 r61 r62 fun r72 =>
  impl_parser_put_i2.g 4 0 r65 r60 r61 r62 r68 r66 r67 (!r72) fun r73 r74 =>
  R r73 r66 r67 r74 (!r72)))
 else (impl_parser_operandEnd.g a1 a2 a3 a4 fun r75 r76 r77 r78 r79 r80 =>
 bif !r76 then R 0 r78 r79 r77 true
 else bif (r75 == (r78.length : Int)) then (z.1 a3 r75 r77 r78 r79 r80 fun r81 r82 r83 r84 r85 =>
  R r81 r82 r83 r84 r85)
 else (impl_parser_function.g r77 r78 r75 r80 fun r86 r87 r88 r89 r90 =>
 z.2 r77 r78 r89 r90 fun r91 r92 r93 r94 r95 =>
 bif r95 then R 0 r92 r93 r94 true
 else (impl_FunTwo.g r86 r87 r88 fun r96 =>
 bif !r96 then R 0 r92 r93 r94 (!r96)
 else (z.1 a3 r75 r94 r92 r93 (!r96) fun r97 r98 r99 r100 r101 =>
 impl_parser_put_i2.g 5 r97 r91 r86 r87 r88 r100 r98 r99 r101 fun r102 r103 =>
 R r102 r98 r99 r103 r101))))))
theorem ok (z : Z_impl_parser_operand) (hz : Gd_impl_parser_operand z) : Con Pg (conz (g z)) := con_fin (fn := Tryz.f79) (c := c) (Fi := fi) (X := (X z)) laid (ctx_of (.cons impl_parser_kind.ok (.cons hz.2 (.cons impl_parser_put_i2.ok (.cons impl_parser_function.ok (.cons impl_FunOne.ok (.cons impl_parser_operandEnd.ok (.cons hz.1 (.cons impl_FunTwo.ok .nil)))))))) (by kernel_rfl)) (fun K => .nil) rfl (by kernel_rfl) (by kernel_rfl) (by kernel_rfl) (by kernel_rfl)
end impl_parser_line
noncomputable def rec_impl_parser_operand : Nat → Z_impl_parser_operand
 | 0 => ((fun _ _ _ _ _ _ _ => none), (fun _ _ _ _ _ => none))
 | n + 1 => (impl_parser_operand.g (rec_impl_parser_operand n), impl_parser_line.g (rec_impl_parser_operand n))
theorem good_impl_parser_operand : ∀ n, Gd_impl_parser_operand (rec_impl_parser_operand n)
 | 0 => ⟨con_cst rfl, con_cst rfl⟩
 | n + 1 => ⟨impl_parser_operand.ok _ (good_impl_parser_operand n), impl_parser_line.ok _ (good_impl_parser_operand n)⟩
namespace impl_parser_operand
noncomputable def gn (n : Nat) (a1 a2 : Int) (a3 a4 : List (List Cl)) (a5 : Int) (a6 : Bool) (R : Int → List (List Cl) → Int → List (List Cl) → Bool → O) : O := (rec_impl_parser_operand n).1 a1 a2 a3 a4 a5 a6 R
noncomputable def G : T := seal_ (gn fuel)
theorem Ge : G = gn fuel := seal_eq _
theorem gn_succ (n : Nat) (a1 a2 : Int) (a3 a4 : List (List Cl)) (a5 : Int) (a6 : Bool) (R : Int → List (List Cl) → Int → List (List Cl) → Bool → O) : gn (n + 1) a1 a2 a3 a4 a5 a6 R = g (rec_impl_parser_operand n) a1 a2 a3 a4 a5 a6 R := rfl
noncomputable def con := conz G
theorem okG : Con Pg con := by
 unfold con; rw [Ge]; exact (good_impl_parser_operand fuel).1
end impl_parser_operand
namespace impl_parser_line
noncomputable def gn (n : Nat) (a1 a2 : List (List Cl)) (a3 : Int) (a4 : Bool) (R : Int → List (List Cl) → Int → List (List Cl) → Bool → O) : O := (rec_impl_parser_operand n).2 a1 a2 a3 a4 R
noncomputable def G : T := seal_ (gn fuel)
theorem Ge : G = gn fuel := seal_eq _
theorem gn_succ (n : Nat) (a1 a2 : List (List Cl)) (a3 : Int) (a4 : Bool) (R : Int → List (List Cl) → Int → List (List Cl) → Bool → O) : gn (n + 1) a1 a2 a3 a4 R = g (rec_impl_parser_operand n) a1 a2 a3 a4 R := rfl
noncomputable def con := conz G
theorem okG : Con Pg con := by
 unfold con; rw [Ge]; exact (good_impl_parser_operand fuel).2
end impl_parser_line
-- END GROUP
namespace impl_Parse
noncomputable def c : Code := bodyOf Tryz.f56
noncomputable def fi : Fin := ⟨Γ0, [(.cell 2 89, 89), (.tmp 3, 3)], [[1], [1]], [], [], []⟩
noncomputable def m : Fn [.l] (Fn [.l, .i] Res) := fun _ r1 r2 => ⟨[⟨true, [.ow 1000]⟩, ⟨false, [cI r2]⟩], [], [⟨e_2, .cells r1, true, 0, none⟩], [], []⟩
noncomputable def X (K : Res → O) : Ctx := { cx0 [impl_tokensOk.con, impl_parser_line.con] fi true K with own := [(3, 1, 2, e_2)] }
noncomputable def b (a1 : List (List Cl)) (R : List (List Cl) → Int → O) : O :=
 impl_tokensOk.g a1 fun r2 =>
 bif !r2 then R ([] : List (List Cl)) 1
 else (impl_parser_line.G ([] : List (List Cl)) a1 0 false fun r3 r4 r5 r6 r7 =>
 bif r7 then R ([] : List (List Cl)) 8
 else bif decide (60 < (r6.length : Int)) then R ([] : List (List Cl)) 6
 else R r6 0)
noncomputable def g := seal_ b
theorem e : g = b := seal_eq b
noncomputable def a : Fn [.l] St := fun a1 => argSt [one (.tr 2 2 e_1 (.cells a1))] [] []
noncomputable def con := conOf 56 [.l] [.l, .i] a g m
theorem ok : Con Pg con := con_fin (fn := Tryz.f56) (c := c) (Fi := fi) (X := X) laid (ctx_of (.cons impl_tokensOk.ok (.cons impl_parser_line.okG .nil)) (by kernel_rfl)) (fun K => .nil) e (by kernel_rfl) (by kernel_rfl) (by kernel_rfl) (by kernel_rfl)
end impl_Parse
namespace impl_numsOk_1
noncomputable def c : Code := bodyOf Tryz.f140
noncomputable def fi : Fin := ⟨Γ0, [(.tmp 2, 4)], [[1]], [], [], []⟩
noncomputable def m : Fn [.i] (Fn [.b] Res) := fun _ r1 => ⟨[⟨false, [.bool r1]⟩], [], [], [], []⟩
noncomputable def X (K : Res → O) : Ctx := cx0 [impl_NumOk.con] fi true K
noncomputable def b (a1 : Int) (R : Bool → O) : O :=
 impl_NumOk.g a1 fun r2 =>
 R (!r2)
noncomputable def g := seal_ b
theorem e : g = b := seal_eq b
noncomputable def a : Fn [.i] St := fun a1 => argSt [oI a1] [] []
noncomputable def con := conOf 140 [.i] [.b] a g m
theorem ok : Con Pg con := con_fin (fn := Tryz.f140) (c := c) (Fi := fi) (X := X) laid (ctx_of (.cons impl_NumOk.ok .nil) (by kernel_rfl)) (fun K => .nil) e (by kernel_rfl) (by kernel_rfl) (by kernel_rfl) (by kernel_rfl)
end impl_numsOk_1
namespace slices_IndexFunc_int_int_i3
noncomputable def c : Code := bodyOf Tryz.f66
noncomputable def fi : Fin := ⟨Γ0, [(.tmp 4, 3)], [[1]], [], [], []⟩
noncomputable def m : Fn [.z] (Fn [.i] Res) := fun _ r1 => ⟨[⟨false, [cI r1]⟩], [], [], [], []⟩
noncomputable def b0 : Code := codeAt c [1, 0, 1, 0, 0]
noncomputable def l0s (x2 : List Int) (x3 : Int) (rec : Int → O) (k : O) (R : Int → O) (x4 : Int) : O :=
 bif decide (x4 < x3) then (bif decide (0 ≤ x4) && decide (x4 < (x2.length : Int)) then (impl_numsOk_1.g (x2.getD x4.toNat 0) fun r5 =>
  bif r5 then R x4
  else rec (IntKind.i64.wrap (x4 + 1)))
  else none)
 else k
noncomputable def l0 (x2 : List Int) (x3 : Int) (k : O) (R : Int → O) : Nat → Int → O
 | 0, _ => none
 | n + 1, x4 => l0s x2 x3 (l0 x2 x3 k R n) k R x4
noncomputable def o0 : Fn [.z, .i] St := fun _ _ => ⟨mkT 19 [], [], []⟩
noncomputable def n0 (K : Res → O) := ent 0 [.z, .i] [.i] [0, 1, 2] (fun x2 x3 x4 => ⟨mkT 19 [(0, one (.tr 0 1 [.int .i64] (.ints x2))), (1, one (.fn 140 [])), (7, oI x3), (8, oI x4)], [], []⟩) fun x2 x3 k => l0 x2 x3 (k (o0 x2 x3)) (fun r1 => K (m [] r1))
noncomputable def X (K : Res → O) : Ctx := { cx0 [impl_numsOk_1.con] fi true K with cin := [(0, ⟨[0, 1, 7, 8], [], [], [], [], []⟩)], cout := [(0, ⟨[], [], [], [], [], []⟩)], lp := lpOf [n0 K] }
noncomputable def b (a1 : List Int) (R : Int → O) : O :=
 l0 a1 (a1.length : Int) (
 R (-1)) R fuel 0
noncomputable def g := seal_ b
theorem e : g = b := seal_eq b
noncomputable def a : Fn [.z] St := fun a1 => argSt [one (.tr 0 1 [.int .i64] (.ints a1)), one (.fn 140 [])] [] []
noncomputable def con := conOf 66 [.z] [.i] a g m
theorem hx (K : Res → O) : CtxOk Pg Γ0 byt0 eqs0 (X K) [impl_numsOk_1.con] := ctx_of (X := X) (.cons impl_numsOk_1.ok .nil) (by kernel_rfl) K
theorem w0 (K : Res → O) : LpSound Pg (X K) 0 b0 := lp_fin (L := [n0 K]) laid (hx K) .nil (.cons (ent_ok (fun x2 x3 k r => l0s x2 x3 r (k (o0 x2 x3)) (fun r1 => K (m [] r1))) (by kernel_rfl) (by kernel_rfl) (by kernel_rfl) (by kernel_rfl) (by kernel_rfl)) .nil) (by kernel_rfl) (by kernel_rfl)
theorem ok : Con Pg con := con_fin (fn := Tryz.f66) (c := c) (Fi := fi) (X := X) laid hx (fun K => (.cons (w0 K) .nil)) e (by kernel_rfl) (by kernel_rfl) (by kernel_rfl) (by kernel_rfl)
end slices_IndexFunc_int_int_i3
namespace slices_ContainsFunc_int_int_i3
noncomputable def c : Code := bodyOf Tryz.f37
noncomputable def fi : Fin := ⟨Γ0, [(.tmp 4, 4)], [[1]], [], [], []⟩
noncomputable def m : Fn [.z] (Fn [.b] Res) := fun _ r1 => ⟨[⟨false, [.bool r1]⟩], [], [], [], []⟩
noncomputable def X (K : Res → O) : Ctx := cx0 [slices_IndexFunc_int_int_i3.con] fi true K
noncomputable def b (a1 : List Int) (R : Bool → O) : O :=
 slices_IndexFunc_int_int_i3.g a1 fun r2 =>
 R (decide (0 ≤ r2))
noncomputable def g := seal_ b
theorem e : g = b := seal_eq b
noncomputable def a : Fn [.z] St := fun a1 => argSt [one (.tr 0 1 [.int .i64] (.ints a1)), one (.fn 140 [])] [] []
noncomputable def con := conOf 37 [.z] [.b] a g m
theorem ok : Con Pg con := con_fin (fn := Tryz.f37) (c := c) (Fi := fi) (X := X) laid (ctx_of (.cons slices_IndexFunc_int_int_i3.ok .nil) (by kernel_rfl)) (fun K => .nil) e (by kernel_rfl) (by kernel_rfl) (by kernel_rfl) (by kernel_rfl)
end slices_ContainsFunc_int_int_i3
namespace impl_numsOk
noncomputable def c : Code := bodyOf Tryz.f117
noncomputable def fi : Fin := ⟨Γ0, [(.tmp 2, 4)], [[1]], [], [], []⟩
noncomputable def m : Fn [.z] (Fn [.b] Res) := fun _ r1 => ⟨[⟨false, [.bool r1]⟩], [], [], [], []⟩
noncomputable def X (K : Res → O) : Ctx := cx0 [impl_within.con, slices_ContainsFunc_int_int_i3.con] fi true K
noncomputable def b (a1 : List Int) (R : Bool → O) : O :=
 impl_within.g (a1.length : Int) 1 300 fun r2 =>
 bif r2 then (slices_ContainsFunc_int_int_i3.g a1 fun r3 =>
  R (!r3))
 else R false
noncomputable def g := seal_ b
theorem e : g = b := seal_eq b
noncomputable def a : Fn [.z] St := fun a1 => argSt [one (.tr 0 1 [.int .i64] (.ints a1))] [] []
noncomputable def con := conOf 117 [.z] [.b] a g m
theorem ok : Con Pg con := con_fin (fn := Tryz.f117) (c := c) (Fi := fi) (X := X) laid (ctx_of (.cons impl_within.ok (.cons slices_ContainsFunc_int_int_i3.ok .nil)) (by kernel_rfl)) (fun K => .nil) e (by kernel_rfl) (by kernel_rfl) (by kernel_rfl) (by kernel_rfl)
end impl_numsOk
namespace impl_nodeOk
noncomputable def c : Code := bodyOf Tryz.f114
noncomputable def fi : Fin := ⟨Γ0, [(.tmp 2, 4)], [[1]], [], [], []⟩
noncomputable def m : Fn [.i, .i, .i, .i, .i, .i, .z] (Fn [.b] Res) := fun _ _ _ _ _ _ _ r1 => ⟨[⟨false, [.bool r1]⟩], [], [], [], []⟩
noncomputable def X (K : Res → O) : Ctx := cx0 [impl_numsOk.con, impl_within.con, impl_FunOne.con, impl_FunTwo.con] fi true K
noncomputable def b (a1 a2 a3 a4 a5 a6 : Int) (a7 : List Int) (R : Bool → O) : O :=
 bif (a1 == 1) then (impl_numsOk.g a7 fun r8 =>
  bif (a2 == 0) then (bif (a3 == 0) then (bif ((a4 == 0) && ((a5 == 0) && ((a6 == 0) && true))) then R r8
   else R false)
   else R false)
  else R false)
 else bif (a1 == 2) then (impl_within.g a2 0 25 fun r9 =>
  bif r9 then (bif (a3 == 0) then (bif ((a4 == 0) && ((a5 == 0) && ((a6 == 0) && true))) then R ((a7.length : Int) == 0)
   else R false)
   else R false)
  else R false)
 else bif (a1 == 3) then (impl_within.g a2 0 25 fun r10 =>
  bif r10 then (bif ((a4 == 0) && ((a5 == 0) && ((a6 == 0) && true))) then R ((a7.length : Int) == 0)
   else R false)
  else R false)
 else bif (a1 == 4) then (impl_FunOne.g a4 a5 a6 fun r11 =>
  bif (a2 == 0) then (bif r11 then R ((a7.length : Int) == 0)
   else R false)
  else R false)
 else bif (a1 == 5) then (impl_FunTwo.g a4 a5 a6 fun r12 =>
  bif r12 then R ((a7.length : Int) == 0)
  else R false)
 else R false
noncomputable def g := seal_ b
theorem e : g = b := seal_eq b
noncomputable def a : Fn [.i, .i, .i, .i, .i, .i, .z] St := fun a1 a2 a3 a4 a5 a6 a7 => argSt [.v ⟨true, [cI a1, cI a2, cI a3, cI a4, cI a5, cI a6, .tr 0 1 [.int .i64] (.ints a7)]⟩] [] []
noncomputable def con := conOf 114 [.i, .i, .i, .i, .i, .i, .z] [.b] a g m
theorem ok : Con Pg con := con_fin (fn := Tryz.f114) (c := c) (Fi := fi) (X := X) laid (ctx_of (.cons impl_numsOk.ok (.cons impl_within.ok (.cons impl_FunOne.ok (.cons impl_FunTwo.ok .nil)))) (by kernel_rfl)) (fun K => .nil) e (by kernel_rfl) (by kernel_rfl) (by kernel_rfl) (by kernel_rfl)
end impl_nodeOk
namespace impl_TreeOk_1
noncomputable def c : Code := bodyOf Tryz.f113
noncomputable def fi : Fin := ⟨Γ0, [(.tmp 2, 4)], [[1]], [], [], []⟩
noncomputable def m : Fn [.i, .i, .i, .i, .i, .i, .z] (Fn [.b] Res) := fun _ _ _ _ _ _ _ r1 => ⟨[⟨false, [.bool r1]⟩], [], [], [], []⟩
noncomputable def X (K : Res → O) : Ctx := cx0 [impl_nodeOk.con] fi true K
noncomputable def b (a1 a2 a3 a4 a5 a6 : Int) (a7 : List Int) (R : Bool → O) : O :=
 impl_nodeOk.g a1 a2 a3 a4 a5 a6 a7 fun r8 =>
 R (!r8)
noncomputable def g := seal_ b
theorem e : g = b := seal_eq b
noncomputable def a : Fn [.i, .i, .i, .i, .i, .i, .z] St := fun a1 a2 a3 a4 a5 a6 a7 => argSt [.v ⟨true, [cI a1, cI a2, cI a3, cI a4, cI a5, cI a6, .tr 0 1 [.int .i64] (.ints a7)]⟩] [] []
noncomputable def con := conOf 113 [.i, .i, .i, .i, .i, .i, .z] [.b] a g m
theorem ok : Con Pg con := con_fin (fn := Tryz.f113) (c := c) (Fi := fi) (X := X) laid (ctx_of (.cons impl_nodeOk.ok .nil) (by kernel_rfl)) (fun K => .nil) e (by kernel_rfl) (by kernel_rfl) (by kernel_rfl) (by kernel_rfl)
end impl_TreeOk_1
namespace slices_IndexFunc_impl_Expr_impl_Expr
noncomputable def c : Code := bodyOf Tryz.f139
noncomputable def fi : Fin := ⟨Γ0, [(.tmp 4, 3)], [[1]], [], [], []⟩
noncomputable def m : Fn [.l] (Fn [.i] Res) := fun _ r1 => ⟨[⟨false, [cI r1]⟩], [], [], [], []⟩
noncomputable def b0 : Code := codeAt c [1, 0, 1, 0, 0]
noncomputable def l0s (x2 : List (List Cl)) (x3 : Int) (rec : Int → O) (k : O) (R : Int → O) (x4 : Int) : O :=
 bif decide (x4 < x3) then (bif decide (0 ≤ x4) && decide (x4 < (x2.length : Int)) then (impl_TreeOk_1.g (((x2.getD x4.toNat []).getD 0 (.i 0)).toI) (((x2.getD x4.toNat []).getD 1 (.i 0)).toI) (((x2.getD x4.toNat []).getD 2 (.i 0)).toI) (((x2.getD x4.toNat []).getD 3 (.i 0)).toI) (((x2.getD x4.toNat []).getD 4 (.i 0)).toI) (((x2.getD x4.toNat []).getD 5 (.i 0)).toI) (((x2.getD x4.toNat []).getD 6 (.i 0)).toL) fun r5 =>
  bif r5 then R x4
  else rec (IntKind.i64.wrap (x4 + 1)))
  else none)
 else k
noncomputable def l0 (x2 : List (List Cl)) (x3 : Int) (k : O) (R : Int → O) : Nat → Int → O
 | 0, _ => none
 | n + 1, x4 => l0s x2 x3 (l0 x2 x3 k R n) k R x4
noncomputable def o0 : Fn [.l, .i] St := fun _ _ => ⟨mkT 19 [], [], []⟩
noncomputable def n0 (K : Res → O) := ent 0 [.l, .i] [.i] [0, 1, 2] (fun x2 x3 x4 => ⟨mkT 19 [(0, one (.tr 0 1 e_2 (.cells x2))), (1, one (.fn 113 [])), (7, oI x3), (8, oI x4)], [], []⟩) fun x2 x3 k => l0 x2 x3 (k (o0 x2 x3)) (fun r1 => K (m [] r1))
noncomputable def X (K : Res → O) : Ctx := { cx0 [impl_TreeOk_1.con] fi true K with cin := [(0, ⟨[0, 1, 7, 8], [], [], [], [], []⟩)], cout := [(0, ⟨[], [], [], [], [], []⟩)], lp := lpOf [n0 K] }
noncomputable def b (a1 : List (List Cl)) (R : Int → O) : O :=
 l0 a1 (a1.length : Int) (
 R (-1)) R fuel 0
noncomputable def g := seal_ b
theorem e : g = b := seal_eq b
noncomputable def a : Fn [.l] St := fun a1 => argSt [one (.tr 0 1 e_2 (.cells a1)), one (.fn 113 [])] [] []
noncomputable def con := conOf 139 [.l] [.i] a g m
theorem hx (K : Res → O) : CtxOk Pg Γ0 byt0 eqs0 (X K) [impl_TreeOk_1.con] := ctx_of (X := X) (.cons impl_TreeOk_1.ok .nil) (by kernel_rfl) K
theorem w0 (K : Res → O) : LpSound Pg (X K) 0 b0 := lp_fin (L := [n0 K]) laid (hx K) .nil (.cons (ent_ok (fun x2 x3 k r => l0s x2 x3 r (k (o0 x2 x3)) (fun r1 => K (m [] r1))) (by kernel_rfl) (by kernel_rfl) (by kernel_rfl) (by kernel_rfl) (by kernel_rfl)) .nil) (by kernel_rfl) (by kernel_rfl)
theorem ok : Con Pg con := con_fin (fn := Tryz.f139) (c := c) (Fi := fi) (X := X) laid hx (fun K => (.cons (w0 K) .nil)) e (by kernel_rfl) (by kernel_rfl) (by kernel_rfl) (by kernel_rfl)
end slices_IndexFunc_impl_Expr_impl_Expr
namespace slices_ContainsFunc_impl_Expr_impl_Expr
noncomputable def c : Code := bodyOf Tryz.f112
noncomputable def fi : Fin := ⟨Γ0, [(.tmp 4, 4)], [[1]], [], [], []⟩
noncomputable def m : Fn [.l] (Fn [.b] Res) := fun _ r1 => ⟨[⟨false, [.bool r1]⟩], [], [], [], []⟩
noncomputable def X (K : Res → O) : Ctx := cx0 [slices_IndexFunc_impl_Expr_impl_Expr.con] fi true K
noncomputable def b (a1 : List (List Cl)) (R : Bool → O) : O :=
 slices_IndexFunc_impl_Expr_impl_Expr.g a1 fun r2 =>
 R (decide (0 ≤ r2))
noncomputable def g := seal_ b
theorem e : g = b := seal_eq b
noncomputable def a : Fn [.l] St := fun a1 => argSt [one (.tr 0 1 e_2 (.cells a1)), one (.fn 113 [])] [] []
noncomputable def con := conOf 112 [.l] [.b] a g m
theorem ok : Con Pg con := con_fin (fn := Tryz.f112) (c := c) (Fi := fi) (X := X) laid (ctx_of (.cons slices_IndexFunc_impl_Expr_impl_Expr.ok .nil) (by kernel_rfl)) (fun K => .nil) e (by kernel_rfl) (by kernel_rfl) (by kernel_rfl) (by kernel_rfl)
end slices_ContainsFunc_impl_Expr_impl_Expr
namespace impl_owned
noncomputable def c : Code := bodyOf Tryz.f115
noncomputable def fi : Fin := ⟨Γ0, [(.tmp 2, 24), (.tmp 3, 4)], [[1], [1]], [], [], []⟩
noncomputable def m : Fn [.l] (Fn [.z, .b] Res) := fun _ r1 r2 => ⟨[⟨false, [.ow 1000]⟩, ⟨false, [.bool r2]⟩], [], [⟨[.int .i64], .ints r1, true, 0, none⟩], [], []⟩
noncomputable def b0 : Code := codeAt c [1, 1, 0, 1, 0, 0]
noncomputable def l0s (x2 : List (List Cl)) (x3 : Int) (rec : Int → List Int → O) (k : List Int → O) (R : List Int → Bool → O) (x4 : Int) (x5 : List Int) : O :=
 bif decide (x4 < x3) then (bif decide (0 ≤ x4) && decide (x4 < (x2.length : Int)) then (bif decide (3 ≤ ((x2.getD x4.toNat []).getD 0 (.i 0)).toI) then (bif (((x2.getD x4.toNat []).getD 0 (.i 0)).toI == 5) then (bif (((x2.getD x4.toNat []).getD 1 (.i 0)).toI != IntKind.i64.wrap (x4 - 1)) then R ([] : List Int) false
  else bif (x4 == 0) then R ([] : List Int) false
  else bif decide (0 ≤ ((x2.getD x4.toNat []).getD 1 (.i 0)).toI) && decide (((x2.getD x4.toNat []).getD 1 (.i 0)).toI < (x5.length : Int)) then (bif (((x2.getD x4.toNat []).getD 0 (.i 0)).toI == 5) then (bif decide (0 ≤ ((x2.getD x4.toNat []).getD 1 (.i 0)).toI) && decide (((x2.getD x4.toNat []).getD 1 (.i 0)).toI < (x5.length : Int)) then (bif decide (IntKind.i64.wrap ((IntKind.i64.wrap (x4 - 1)) - (x5.getD ((((x2.getD x4.toNat []).getD 1 (.i 0)).toI).toNat) 0)) < 0) then R ([] : List Int) false
   else bif (((x2.getD x4.toNat []).getD 2 (.i 0)).toI != IntKind.i64.wrap ((IntKind.i64.wrap (x4 - 1)) - (x5.getD ((((x2.getD x4.toNat []).getD 1 (.i 0)).toI).toNat) 0))) then R ([] : List Int) false
   else bif decide (0 ≤ IntKind.i64.wrap ((IntKind.i64.wrap (x4 - 1)) - (x5.getD ((((x2.getD x4.toNat []).getD 1 (.i 0)).toI).toNat) 0))) && decide (IntKind.i64.wrap ((IntKind.i64.wrap (x4 - 1)) - (x5.getD ((((x2.getD x4.toNat []).getD 1 (.i 0)).toI).toNat) 0)) < (x5.length : Int)) then (bif decide ((x5.length + 1) * 8 ≤ 140737488355328) then rec (IntKind.i64.wrap (x4 + 1)) (x5 ++ ([IntKind.i64.wrap ((IntKind.i64.wrap (1 + (x5.getD ((((x2.getD x4.toNat []).getD 1 (.i 0)).toI).toNat) 0))) + (x5.getD ((IntKind.i64.wrap ((IntKind.i64.wrap (x4 - 1)) - (x5.getD ((((x2.getD x4.toNat []).getD 1 (.i 0)).toI).toNat) 0))).toNat) 0))] : List Int))
    else none)
   else none)
   else none)
   else bif decide ((x5.length + 1) * 8 ≤ 140737488355328) then rec (IntKind.i64.wrap (x4 + 1)) (x5 ++ ([IntKind.i64.wrap (1 + (x5.getD ((((x2.getD x4.toNat []).getD 1 (.i 0)).toI).toNat) 0))] : List Int))
   else none)
  else none)
  else bif (((x2.getD x4.toNat []).getD 2 (.i 0)).toI != IntKind.i64.wrap (x4 - 1)) then R ([] : List Int) false
  else bif (x4 == 0) then R ([] : List Int) false
  else bif decide (0 ≤ ((x2.getD x4.toNat []).getD 2 (.i 0)).toI) && decide (((x2.getD x4.toNat []).getD 2 (.i 0)).toI < (x5.length : Int)) then (bif (((x2.getD x4.toNat []).getD 0 (.i 0)).toI == 5) then (bif decide (0 ≤ ((x2.getD x4.toNat []).getD 1 (.i 0)).toI) && decide (((x2.getD x4.toNat []).getD 1 (.i 0)).toI < (x5.length : Int)) then (bif decide (IntKind.i64.wrap ((IntKind.i64.wrap (x4 - 1)) - (x5.getD ((((x2.getD x4.toNat []).getD 1 (.i 0)).toI).toNat) 0)) < 0) then R ([] : List Int) false
   else bif (((x2.getD x4.toNat []).getD 2 (.i 0)).toI != IntKind.i64.wrap ((IntKind.i64.wrap (x4 - 1)) - (x5.getD ((((x2.getD x4.toNat []).getD 1 (.i 0)).toI).toNat) 0))) then R ([] : List Int) false
   else bif decide (0 ≤ IntKind.i64.wrap ((IntKind.i64.wrap (x4 - 1)) - (x5.getD ((((x2.getD x4.toNat []).getD 1 (.i 0)).toI).toNat) 0))) && decide (IntKind.i64.wrap ((IntKind.i64.wrap (x4 - 1)) - (x5.getD ((((x2.getD x4.toNat []).getD 1 (.i 0)).toI).toNat) 0)) < (x5.length : Int)) then (bif decide ((x5.length + 1) * 8 ≤ 140737488355328) then rec (IntKind.i64.wrap (x4 + 1)) (x5 ++ ([IntKind.i64.wrap ((IntKind.i64.wrap (1 + (x5.getD ((((x2.getD x4.toNat []).getD 2 (.i 0)).toI).toNat) 0))) + (x5.getD ((IntKind.i64.wrap ((IntKind.i64.wrap (x4 - 1)) - (x5.getD ((((x2.getD x4.toNat []).getD 1 (.i 0)).toI).toNat) 0))).toNat) 0))] : List Int))
    else none)
   else none)
   else none)
   else bif decide ((x5.length + 1) * 8 ≤ 140737488355328) then rec (IntKind.i64.wrap (x4 + 1)) (x5 ++ ([IntKind.i64.wrap (1 + (x5.getD ((((x2.getD x4.toNat []).getD 2 (.i 0)).toI).toNat) 0))] : List Int))
   else none)
  else none)
  else bif (((x2.getD x4.toNat []).getD 0 (.i 0)).toI == 5) then (bif decide (0 ≤ ((x2.getD x4.toNat []).getD 1 (.i 0)).toI) && decide (((x2.getD x4.toNat []).getD 1 (.i 0)).toI < (x5.length : Int)) then (bif decide (IntKind.i64.wrap ((IntKind.i64.wrap (x4 - 1)) - (x5.getD ((((x2.getD x4.toNat []).getD 1 (.i 0)).toI).toNat) 0)) < 0) then R ([] : List Int) false
   else bif (((x2.getD x4.toNat []).getD 2 (.i 0)).toI != IntKind.i64.wrap ((IntKind.i64.wrap (x4 - 1)) - (x5.getD ((((x2.getD x4.toNat []).getD 1 (.i 0)).toI).toNat) 0))) then R ([] : List Int) false
   else bif decide (0 ≤ IntKind.i64.wrap ((IntKind.i64.wrap (x4 - 1)) - (x5.getD ((((x2.getD x4.toNat []).getD 1 (.i 0)).toI).toNat) 0))) && decide (IntKind.i64.wrap ((IntKind.i64.wrap (x4 - 1)) - (x5.getD ((((x2.getD x4.toNat []).getD 1 (.i 0)).toI).toNat) 0)) < (x5.length : Int)) then (bif decide ((x5.length + 1) * 8 ≤ 140737488355328) then rec (IntKind.i64.wrap (x4 + 1)) (x5 ++ ([IntKind.i64.wrap (1 + (x5.getD ((IntKind.i64.wrap ((IntKind.i64.wrap (x4 - 1)) - (x5.getD ((((x2.getD x4.toNat []).getD 1 (.i 0)).toI).toNat) 0))).toNat) 0))] : List Int))
    else none)
   else none)
   else none)
  else bif decide ((x5.length + 1) * 8 ≤ 140737488355328) then rec (IntKind.i64.wrap (x4 + 1)) (x5 ++ ([1] : List Int))
  else none)
  else none)
 else k x5
noncomputable def l0 (x2 : List (List Cl)) (x3 : Int) (k : List Int → O) (R : List Int → Bool → O) : Nat → Int → List Int → O
 | 0, _, _ => none
 | n + 1, x4, x5 => l0s x2 x3 (l0 x2 x3 k R n) k R x4 x5
noncomputable def o0 : Fn [.l, .i, .z] St := fun _ _ y1 => ⟨mkT 73 [(4, one (.ow 3056))], [(3056, ⟨[.int .i64], .ints y1, true, 0, none⟩)], []⟩
noncomputable def n0 (K : Res → O) := ent 0 [.l, .i] [.i, .z] [0, 1, 2, 3] (fun x2 x3 x4 x5 => ⟨mkT 73 [(4, one (.ow 3056)), (11, one (.tr 0 1 e_2 (.cells x2))), (12, oI x3), (13, oI x4)], [(3056, ⟨[.int .i64], .ints x5, true, 0, none⟩)], []⟩) fun x2 x3 k => l0 x2 x3 (fun y1 => k (o0 x2 x3 y1)) (fun r1 r2 => K (m [] r1 r2))
noncomputable def X (K : Res → O) : Ctx := { cx0 [] fi true K with own := [(1, 0, 0, [.int .i64])], cin := [(0, ⟨[4, 11, 12, 13], [(3056, 3056), (37912, 3056)], [], [], [], []⟩)], cout := [(0, ⟨[4], [(3056, 3056)], [], [], [], []⟩)], lp := lpOf [n0 K] }
noncomputable def b (a1 : List (List Cl)) (R : List Int → Bool → O) : O :=
 l0 a1 (a1.length : Int) (fun y6 =>
 R y6 true) R fuel 0 ([] : List Int)
noncomputable def g := seal_ b
theorem e : g = b := seal_eq b
noncomputable def a : Fn [.l] St := fun a1 => argSt [.v ⟨true, [.tr 0 1 e_2 (.cells a1)]⟩] [] []
noncomputable def con := conOf 115 [.l] [.z, .b] a g m
theorem hx (K : Res → O) : CtxOk Pg Γ0 byt0 eqs0 (X K) [] := ctx_of (X := X) .nil (by kernel_rfl) K
theorem w0 (K : Res → O) : LpSound Pg (X K) 0 b0 := lp_fin (L := [n0 K]) laid (hx K) .nil (.cons (ent_ok (fun x2 x3 k r => l0s x2 x3 r (fun y1 => k (o0 x2 x3 y1)) (fun r1 r2 => K (m [] r1 r2))) (by kernel_rfl) (by kernel_rfl) (by kernel_rfl) (by kernel_rfl) (by kernel_rfl)) .nil) (by kernel_rfl) (by kernel_rfl)
theorem ok : Con Pg con := con_fin (fn := Tryz.f115) (c := c) (Fi := fi) (X := X) laid hx (fun K => (.cons (w0 K) .nil)) e (by kernel_rfl) (by kernel_rfl) (by kernel_rfl) (by kernel_rfl)
end impl_owned
namespace impl_TreeOk
noncomputable def c : Code := bodyOf Tryz.f80
noncomputable def fi : Fin := ⟨Γ0, [(.tmp 2, 4)], [[1]], [], [], []⟩
noncomputable def m : Fn [.l] (Fn [.b] Res) := fun _ r1 => ⟨[⟨false, [.bool r1]⟩], [], [], [], []⟩
noncomputable def X (K : Res → O) : Ctx := cx0 [impl_within.con, slices_ContainsFunc_impl_Expr_impl_Expr.con, impl_owned.con] fi true K
noncomputable def b (a1 : List (List Cl)) (R : Bool → O) : O :=
 impl_within.g (a1.length : Int) 1 60 fun r2 =>
 bif !r2 then R false
 else (slices_ContainsFunc_impl_Expr_impl_Expr.g a1 fun r3 =>
 bif r3 then R false
 else (impl_owned.g a1 fun r4 r5 =>
 bif r5 then (bif decide (0 ≤ IntKind.i64.wrap ((a1.length : Int) - 1)) && decide (IntKind.i64.wrap ((a1.length : Int) - 1) < (r4.length : Int)) then R (r4.getD ((IntKind.i64.wrap ((a1.length : Int) - 1)).toNat) 0 == (a1.length : Int))
  else none)
 else R false))
noncomputable def g := seal_ b
theorem e : g = b := seal_eq b
noncomputable def a : Fn [.l] St := fun a1 => argSt [.v ⟨true, [.tr 0 1 e_2 (.cells a1)]⟩] [] []
noncomputable def con := conOf 80 [.l] [.b] a g m
theorem ok : Con Pg con := con_fin (fn := Tryz.f80) (c := c) (Fi := fi) (X := X) laid (ctx_of (.cons impl_within.ok (.cons slices_ContainsFunc_impl_Expr_impl_Expr.ok (.cons impl_owned.ok .nil))) (by kernel_rfl)) (fun K => .nil) e (by kernel_rfl) (by kernel_rfl) (by kernel_rfl) (by kernel_rfl)
end impl_TreeOk
namespace impl_Compile
noncomputable def c : Code := bodyOf Tryz.f57
noncomputable def fi : Fin := ⟨Γ0, [(.tmp 2, 43), (.tmp 3, 4)], [[1], [1]], [], [], []⟩
noncomputable def m : Fn [.l] (Fn [.l, .b] Res) := fun _ r1 r2 => ⟨[⟨false, [.ow 1000]⟩, ⟨false, [.bool r2]⟩], [], [⟨e_3, .cells r1, true, 0, none⟩], [], []⟩
noncomputable def b0 : Code := codeAt c [1, 1, 1, 0, 1, 0, 0]
noncomputable def l0s (x3 : List (List Cl)) (x4 : Int) (rec : Int → List (List Cl) → O) (k : List (List Cl) → O) (x5 : Int) (x6 : List (List Cl)) : O :=
 bif decide (x5 < x4) then (bif decide (0 ≤ x5) && decide (x5 < (x3.length : Int)) then (bif decide ((((x3.getD x5.toNat []).getD 6 (.i 0)).toL).length * 8 ≤ 140737488355328) then (bif (((x3.getD x5.toNat []).getD 0 (.i 0)).toI == 2) then (bif decide ((x6.length + 1) * 64 ≤ 140737488355328) then rec (IntKind.i64.wrap (x5 + 1)) (x6 ++ ([[.i (((x3.getD x5.toNat []).getD 0 (.i 0)).toI), .i (((x3.getD x5.toNat []).getD 1 (.i 0)).toI), .i (((x3.getD x5.toNat []).getD 3 (.i 0)).toI), .i (((x3.getD x5.toNat []).getD 4 (.i 0)).toI), .i (((x3.getD x5.toNat []).getD 5 (.i 0)).toI), .l (((x3.getD x5.toNat []).getD 6 (.i 0)).toL)]] : List (List Cl)))
  else none)
  else bif (((x3.getD x5.toNat []).getD 0 (.i 0)).toI == 3) then (bif decide ((x6.length + 1) * 64 ≤ 140737488355328) then rec (IntKind.i64.wrap (x5 + 1)) (x6 ++ ([[.i (((x3.getD x5.toNat []).getD 0 (.i 0)).toI), .i (((x3.getD x5.toNat []).getD 1 (.i 0)).toI), .i (((x3.getD x5.toNat []).getD 3 (.i 0)).toI), .i (((x3.getD x5.toNat []).getD 4 (.i 0)).toI), .i (((x3.getD x5.toNat []).getD 5 (.i 0)).toI), .l (((x3.getD x5.toNat []).getD 6 (.i 0)).toL)]] : List (List Cl)))
   else none)
  else bif decide ((x6.length + 1) * 64 ≤ 140737488355328) then rec (IntKind.i64.wrap (x5 + 1)) (x6 ++ ([[.i (((x3.getD x5.toNat []).getD 0 (.i 0)).toI), .i 0, .i (((x3.getD x5.toNat []).getD 3 (.i 0)).toI), .i (((x3.getD x5.toNat []).getD 4 (.i 0)).toI), .i (((x3.getD x5.toNat []).getD 5 (.i 0)).toI), .l (((x3.getD x5.toNat []).getD 6 (.i 0)).toL)]] : List (List Cl)))
  else none)
  else none)
  else none)
 else k x6
noncomputable def l0 (x3 : List (List Cl)) (x4 : Int) (k : List (List Cl) → O) : Nat → Int → List (List Cl) → O
 | 0, _, _ => none
 | n + 1, x5, x6 => l0s x3 x4 (l0 x3 x4 k n) k x5 x6
noncomputable def o0 : Fn [.l, .i, .l] St := fun _ _ y1 => ⟨mkT 43 [(4, one (.ow 7152))], [(7152, ⟨e_3, .cells y1, true, 0, none⟩)], []⟩
noncomputable def n0 (K : Res → O) := ent 0 [.l, .i] [.i, .l] [0, 1, 2, 3] (fun x3 x4 x5 x6 => ⟨mkT 43 [(4, one (.ow 7152)), (12, one (.tr 0 1 e_2 (.cells x3))), (13, oI x4), (14, oI x5)], [(7152, ⟨e_3, .cells x6, true, 0, none⟩)], []⟩) fun x3 x4 k => l0 x3 x4 (fun y1 => k (o0 x3 x4 y1))
noncomputable def X (K : Res → O) : Ctx := { cx0 [impl_TreeOk.con] fi true K with own := [(3, 0, 0, e_3)], cin := [(0, ⟨[4, 12, 13, 14], [(7152, 7152), (21528, 7152)], [], [], [], []⟩)], cout := [(0, ⟨[4], [(7152, 7152)], [], [], [], []⟩)], lp := lpOf [n0 K] }
noncomputable def b (a1 : List (List Cl)) (R : List (List Cl) → Bool → O) : O :=
 impl_TreeOk.g a1 fun r2 =>
 bif !r2 then R ([] : List (List Cl)) false
 else (l0 a1 (a1.length : Int) (fun y7 =>
 R y7 true) fuel 0 ([] : List (List Cl)))
noncomputable def g := seal_ b
theorem e : g = b := seal_eq b
noncomputable def a : Fn [.l] St := fun a1 => argSt [.v ⟨true, [.tr 0 1 e_2 (.cells a1)]⟩] [] []
noncomputable def con := conOf 57 [.l] [.l, .b] a g m
theorem hx (K : Res → O) : CtxOk Pg Γ0 byt0 eqs0 (X K) [impl_TreeOk.con] := ctx_of (X := X) (.cons impl_TreeOk.ok .nil) (by kernel_rfl) K
theorem w0 (K : Res → O) : LpSound Pg (X K) 0 b0 := lp_fin (L := [n0 K]) laid (hx K) .nil (.cons (ent_ok (fun x3 x4 k r => l0s x3 x4 r (fun y1 => k (o0 x3 x4 y1))) (by kernel_rfl) (by kernel_rfl) (by kernel_rfl) (by kernel_rfl) (by kernel_rfl)) .nil) (by kernel_rfl) (by kernel_rfl)
theorem ok : Con Pg con := con_fin (fn := Tryz.f57) (c := c) (Fi := fi) (X := X) laid hx (fun K => (.cons (w0 K) .nil)) e (by kernel_rfl) (by kernel_rfl) (by kernel_rfl) (by kernel_rfl)
end impl_Compile
namespace impl_LineCode
noncomputable def c : Code := bodyOf Tryz.f27
noncomputable def fi : Fin := ⟨Γ0, [(.tmp 2, 43), (.tmp 3, 3)], [[1], [1]], [], [], []⟩
noncomputable def m : Fn [.s] (Fn [.l, .i] Res) := fun _ r1 r2 => ⟨[⟨false, [.ow 1000]⟩, ⟨false, [cI r2]⟩], [], [⟨e_3, .cells r1, true, 0, none⟩], [], []⟩
noncomputable def X (K : Res → O) : Ctx := { cx0 [impl_Lex.con, impl_Parse.con, impl_Compile.con] fi true K with io := [(56, [⟨false, 2, 2⟩])] }
noncomputable def b (a1 : ByteArray) (R : List (List Cl) → Int → O) : O :=
 impl_Lex.g a1 fun r2 r3 r4 =>
 bif (r3 != 0) then R ([] : List (List Cl)) r3
 else (impl_Parse.g r2 fun r5 r6 =>
 bif (r6 != 0) then R ([] : List (List Cl)) r6
 else (impl_Compile.g r5 fun r7 r8 =>
 R r7 0))
noncomputable def g := seal_ b
theorem e : g = b := seal_eq b
noncomputable def a : Fn [.s] St := fun a1 => argSt [one (.str a1)] [] []
noncomputable def con := conOf 27 [.s] [.l, .i] a g m
theorem ok : Con Pg con := con_fin (fn := Tryz.f27) (c := c) (Fi := fi) (X := X) laid (ctx_of (.cons impl_Lex.ok (.cons impl_Parse.ok (.cons impl_Compile.ok .nil))) (by kernel_rfl)) (fun K => .nil) e (by kernel_rfl) (by kernel_rfl) (by kernel_rfl) (by kernel_rfl)
end impl_LineCode
namespace impl_CodeText
noncomputable def c : Code := bodyOf Tryz.f28
noncomputable def fi : Fin := ⟨Γ0, [(.tmp 2, 9)], [[1]], [], [], []⟩
noncomputable def m : Fn [.i] (Fn [.s] Res) := fun _ r1 => ⟨[⟨false, [.str r1]⟩], [], [], [], []⟩
noncomputable def X (K : Res → O) : Ctx := cx0 [impl_within.con] fi true K
noncomputable def b (a1 : Int) (R : ByteArray → O) : O :=
 impl_within.g a1 0 10 fun r2 =>
 bif !r2 then R (⟨#[98, 97, 100]⟩ : ByteArray)
 else bif decide (0 ≤ a1) && decide (a1 < 11) then R (([(⟨#[111, 107]⟩ : ByteArray), (⟨#[98, 97, 100]⟩ : ByteArray), (⟨#[100, 111, 109, 97, 105, 110]⟩ : ByteArray), (⟨#[108, 101, 110, 103, 116, 104]⟩ : ByteArray), (⟨#[114, 97, 110, 107]⟩ : ByteArray), (⟨#[105, 110, 100, 101, 120]⟩ : ByteArray), (⟨#[108, 105, 109, 105, 116]⟩ : ByteArray), (⟨#[118, 97, 108, 117, 101]⟩ : ByteArray), (⟨#[115, 121, 110, 116, 97, 120]⟩ : ByteArray), (⟨#[102, 117, 108, 108]⟩ : ByteArray), (⟨#[115, 116, 101, 112, 115]⟩ : ByteArray)] : List ByteArray).getD a1.toNat ByteArray.empty)
 else none
noncomputable def g := seal_ b
theorem e : g = b := seal_eq b
noncomputable def a : Fn [.i] St := fun a1 => argSt [oI a1] [] []
noncomputable def con := conOf 28 [.i] [.s] a g m
theorem ok : Con Pg con := con_fin (fn := Tryz.f28) (c := c) (Fi := fi) (X := X) laid (ctx_of (.cons impl_within.ok .nil) (by kernel_rfl)) (fun K => .nil) e (by kernel_rfl) (by kernel_rfl) (by kernel_rfl) (by kernel_rfl)
end impl_CodeText
namespace impl_instrOk
noncomputable def c : Code := bodyOf Tryz.f83
noncomputable def fi : Fin := ⟨Γ0, [(.tmp 2, 4)], [[1]], [], [], []⟩
noncomputable def m : Fn [.i, .i, .i, .i, .i, .z] (Fn [.b] Res) := fun _ _ _ _ _ _ r1 => ⟨[⟨false, [.bool r1]⟩], [], [], [], []⟩
noncomputable def X (K : Res → O) : Ctx := cx0 [impl_numsOk.con, impl_within.con, impl_FunOne.con, impl_FunTwo.con] fi true K
noncomputable def b (a1 a2 a3 a4 a5 : Int) (a6 : List Int) (R : Bool → O) : O :=
 bif (a1 == 1) then (impl_numsOk.g a6 fun r7 =>
  bif (a2 == 0) then (bif ((a3 == 0) && ((a4 == 0) && ((a5 == 0) && true))) then R r7
   else R false)
  else R false)
 else bif (a1 == 2) then (impl_within.g a2 0 25 fun r8 =>
  bif r8 then (bif ((a3 == 0) && ((a4 == 0) && ((a5 == 0) && true))) then R ((a6.length : Int) == 0)
   else R false)
  else R false)
 else bif (a1 == 3) then (impl_within.g a2 0 25 fun r9 =>
  bif r9 then (bif ((a3 == 0) && ((a4 == 0) && ((a5 == 0) && true))) then R ((a6.length : Int) == 0)
   else R false)
  else R false)
 else bif (a1 == 4) then (impl_FunOne.g a3 a4 a5 fun r10 =>
  bif (a2 == 0) then (bif r10 then R ((a6.length : Int) == 0)
   else R false)
  else R false)
 else bif (a1 == 5) then (impl_FunTwo.g a3 a4 a5 fun r11 =>
  bif (a2 == 0) then (bif r11 then R ((a6.length : Int) == 0)
   else R false)
  else R false)
 else R false
noncomputable def g := seal_ b
theorem e : g = b := seal_eq b
noncomputable def a : Fn [.i, .i, .i, .i, .i, .z] St := fun a1 a2 a3 a4 a5 a6 => argSt [.v ⟨true, [cI a1, cI a2, cI a3, cI a4, cI a5, .tr 0 1 [.int .i64] (.ints a6)]⟩] [] []
noncomputable def con := conOf 83 [.i, .i, .i, .i, .i, .z] [.b] a g m
theorem ok : Con Pg con := con_fin (fn := Tryz.f83) (c := c) (Fi := fi) (X := X) laid (ctx_of (.cons impl_numsOk.ok (.cons impl_within.ok (.cons impl_FunOne.ok (.cons impl_FunTwo.ok .nil)))) (by kernel_rfl)) (fun K => .nil) e (by kernel_rfl) (by kernel_rfl) (by kernel_rfl) (by kernel_rfl)
end impl_instrOk
namespace impl_CodeOk_1
noncomputable def c : Code := bodyOf Tryz.f82
noncomputable def fi : Fin := ⟨Γ0, [(.tmp 2, 4)], [[1]], [], [], []⟩
noncomputable def m : Fn [.i, .i, .i, .i, .i, .z] (Fn [.b] Res) := fun _ _ _ _ _ _ r1 => ⟨[⟨false, [.bool r1]⟩], [], [], [], []⟩
noncomputable def X (K : Res → O) : Ctx := cx0 [impl_instrOk.con] fi true K
noncomputable def b (a1 a2 a3 a4 a5 : Int) (a6 : List Int) (R : Bool → O) : O :=
 impl_instrOk.g a1 a2 a3 a4 a5 a6 fun r7 =>
 R (!r7)
noncomputable def g := seal_ b
theorem e : g = b := seal_eq b
noncomputable def a : Fn [.i, .i, .i, .i, .i, .z] St := fun a1 a2 a3 a4 a5 a6 => argSt [.v ⟨true, [cI a1, cI a2, cI a3, cI a4, cI a5, .tr 0 1 [.int .i64] (.ints a6)]⟩] [] []
noncomputable def con := conOf 82 [.i, .i, .i, .i, .i, .z] [.b] a g m
theorem ok : Con Pg con := con_fin (fn := Tryz.f82) (c := c) (Fi := fi) (X := X) laid (ctx_of (.cons impl_instrOk.ok .nil) (by kernel_rfl)) (fun K => .nil) e (by kernel_rfl) (by kernel_rfl) (by kernel_rfl) (by kernel_rfl)
end impl_CodeOk_1
namespace slices_IndexFunc_impl_Instr_impl_Instr
noncomputable def c : Code := bodyOf Tryz.f116
noncomputable def fi : Fin := ⟨Γ0, [(.tmp 4, 3)], [[1]], [], [], []⟩
noncomputable def m : Fn [.l] (Fn [.i] Res) := fun _ r1 => ⟨[⟨false, [cI r1]⟩], [], [], [], []⟩
noncomputable def b0 : Code := codeAt c [1, 0, 1, 0, 0]
noncomputable def l0s (x2 : List (List Cl)) (x3 : Int) (rec : Int → O) (k : O) (R : Int → O) (x4 : Int) : O :=
 bif decide (x4 < x3) then (bif decide (0 ≤ x4) && decide (x4 < (x2.length : Int)) then (impl_CodeOk_1.g (((x2.getD x4.toNat []).getD 0 (.i 0)).toI) (((x2.getD x4.toNat []).getD 1 (.i 0)).toI) (((x2.getD x4.toNat []).getD 2 (.i 0)).toI) (((x2.getD x4.toNat []).getD 3 (.i 0)).toI) (((x2.getD x4.toNat []).getD 4 (.i 0)).toI) (((x2.getD x4.toNat []).getD 5 (.i 0)).toL) fun r5 =>
  bif r5 then R x4
  else rec (IntKind.i64.wrap (x4 + 1)))
  else none)
 else k
noncomputable def l0 (x2 : List (List Cl)) (x3 : Int) (k : O) (R : Int → O) : Nat → Int → O
 | 0, _ => none
 | n + 1, x4 => l0s x2 x3 (l0 x2 x3 k R n) k R x4
noncomputable def o0 : Fn [.l, .i] St := fun _ _ => ⟨mkT 19 [], [], []⟩
noncomputable def n0 (K : Res → O) := ent 0 [.l, .i] [.i] [0, 1, 2] (fun x2 x3 x4 => ⟨mkT 19 [(0, one (.tr 0 1 e_3 (.cells x2))), (1, one (.fn 82 [])), (7, oI x3), (8, oI x4)], [], []⟩) fun x2 x3 k => l0 x2 x3 (k (o0 x2 x3)) (fun r1 => K (m [] r1))
noncomputable def X (K : Res → O) : Ctx := { cx0 [impl_CodeOk_1.con] fi true K with cin := [(0, ⟨[0, 1, 7, 8], [], [], [], [], []⟩)], cout := [(0, ⟨[], [], [], [], [], []⟩)], lp := lpOf [n0 K] }
noncomputable def b (a1 : List (List Cl)) (R : Int → O) : O :=
 l0 a1 (a1.length : Int) (
 R (-1)) R fuel 0
noncomputable def g := seal_ b
theorem e : g = b := seal_eq b
noncomputable def a : Fn [.l] St := fun a1 => argSt [one (.tr 0 1 e_3 (.cells a1)), one (.fn 82 [])] [] []
noncomputable def con := conOf 116 [.l] [.i] a g m
theorem hx (K : Res → O) : CtxOk Pg Γ0 byt0 eqs0 (X K) [impl_CodeOk_1.con] := ctx_of (X := X) (.cons impl_CodeOk_1.ok .nil) (by kernel_rfl) K
theorem w0 (K : Res → O) : LpSound Pg (X K) 0 b0 := lp_fin (L := [n0 K]) laid (hx K) .nil (.cons (ent_ok (fun x2 x3 k r => l0s x2 x3 r (k (o0 x2 x3)) (fun r1 => K (m [] r1))) (by kernel_rfl) (by kernel_rfl) (by kernel_rfl) (by kernel_rfl) (by kernel_rfl)) .nil) (by kernel_rfl) (by kernel_rfl)
theorem ok : Con Pg con := con_fin (fn := Tryz.f116) (c := c) (Fi := fi) (X := X) laid hx (fun K => (.cons (w0 K) .nil)) e (by kernel_rfl) (by kernel_rfl) (by kernel_rfl) (by kernel_rfl)
end slices_IndexFunc_impl_Instr_impl_Instr
namespace slices_ContainsFunc_impl_Instr_impl_Instr
noncomputable def c : Code := bodyOf Tryz.f81
noncomputable def fi : Fin := ⟨Γ0, [(.tmp 4, 4)], [[1]], [], [], []⟩
noncomputable def m : Fn [.l] (Fn [.b] Res) := fun _ r1 => ⟨[⟨false, [.bool r1]⟩], [], [], [], []⟩
noncomputable def X (K : Res → O) : Ctx := cx0 [slices_IndexFunc_impl_Instr_impl_Instr.con] fi true K
noncomputable def b (a1 : List (List Cl)) (R : Bool → O) : O :=
 slices_IndexFunc_impl_Instr_impl_Instr.g a1 fun r2 =>
 R (decide (0 ≤ r2))
noncomputable def g := seal_ b
theorem e : g = b := seal_eq b
noncomputable def a : Fn [.l] St := fun a1 => argSt [one (.tr 0 1 e_3 (.cells a1)), one (.fn 82 [])] [] []
noncomputable def con := conOf 81 [.l] [.b] a g m
theorem ok : Con Pg con := con_fin (fn := Tryz.f81) (c := c) (Fi := fi) (X := X) laid (ctx_of (.cons slices_IndexFunc_impl_Instr_impl_Instr.ok .nil) (by kernel_rfl)) (fun K => .nil) e (by kernel_rfl) (by kernel_rfl) (by kernel_rfl) (by kernel_rfl)
end slices_ContainsFunc_impl_Instr_impl_Instr
namespace impl_takes
noncomputable def c : Code := bodyOf Tryz.f88
noncomputable def fi : Fin := ⟨Γ0, [(.tmp 2, 3)], [[1]], [], [], []⟩
noncomputable def m : Fn [.i, .i, .i, .i, .i, .z] (Fn [.i] Res) := fun _ _ _ _ _ _ r1 => ⟨[⟨false, [cI r1]⟩], [], [], [], []⟩
noncomputable def X (K : Res → O) : Ctx := cx0 [] fi true K
noncomputable def b (a1 a2 a3 a4 a5 : Int) (a6 : List Int) (R : Int → O) : O :=
 bif (a1 == 3) then R 1
 else bif (a1 == 4) then R 1
 else bif (a1 == 5) then R 2
 else R 0
noncomputable def g := seal_ b
theorem e : g = b := seal_eq b
noncomputable def a : Fn [.i, .i, .i, .i, .i, .z] St := fun a1 a2 a3 a4 a5 a6 => argSt [.v ⟨true, [cI a1, cI a2, cI a3, cI a4, cI a5, .tr 0 1 [.int .i64] (.ints a6)]⟩] [] []
noncomputable def con := conOf 88 [.i, .i, .i, .i, .i, .z] [.i] a g m
theorem ok : Con Pg con := con_fin (fn := Tryz.f88) (c := c) (Fi := fi) (X := X) laid (ctx_of .nil (by kernel_rfl)) (fun K => .nil) e (by kernel_rfl) (by kernel_rfl) (by kernel_rfl) (by kernel_rfl)
end impl_takes
namespace impl_deep
noncomputable def c : Code := bodyOf Tryz.f84
noncomputable def fi : Fin := ⟨Γ0, [(.tmp 2, 24), (.tmp 3, 4)], [[1], [1]], [], [], []⟩
noncomputable def m : Fn [.l] (Fn [.z, .b] Res) := fun _ r1 r2 => ⟨[⟨false, [.ow 1000]⟩, ⟨false, [.bool r2]⟩], [], [⟨[.int .i64], .ints r1, true, 0, none⟩], [], []⟩
noncomputable def b0 : Code := codeAt c [1, 1, 0, 1, 0, 0]
noncomputable def l0s (x2 : List (List Cl)) (x3 : Int) (rec : Int → List Int → O) (k : List Int → O) (R : List Int → Bool → O) (x4 : Int) (x5 : List Int) : O :=
 bif decide (x4 < x3) then (bif decide (0 ≤ x4) && decide (x4 < (x2.length : Int)) then (bif decide (0 ≤ x4) && decide (x4 < (x5.length : Int)) then (impl_takes.g (((x2.getD x4.toNat []).getD 0 (.i 0)).toI) (((x2.getD x4.toNat []).getD 1 (.i 0)).toI) (((x2.getD x4.toNat []).getD 2 (.i 0)).toI) (((x2.getD x4.toNat []).getD 3 (.i 0)).toI) (((x2.getD x4.toNat []).getD 4 (.i 0)).toI) (((x2.getD x4.toNat []).getD 5 (.i 0)).toL) fun r6 =>
  bif decide (x5.getD x4.toNat 0 < r6) then R ([] : List Int) false
  else bif decide (0 ≤ x4) && decide (x4 < (x5.length : Int)) then (impl_takes.g (((x2.getD x4.toNat []).getD 0 (.i 0)).toI) (((x2.getD x4.toNat []).getD 1 (.i 0)).toI) (((x2.getD x4.toNat []).getD 2 (.i 0)).toI) (((x2.getD x4.toNat []).getD 3 (.i 0)).toI) (((x2.getD x4.toNat []).getD 4 (.i 0)).toI) (((x2.getD x4.toNat []).getD 5 (.i 0)).toL) fun r7 =>
   bif decide ((x5.length + 1) * 8 ≤ 140737488355328) then rec (IntKind.i64.wrap (x4 + 1)) (x5 ++ ([IntKind.i64.wrap ((IntKind.i64.wrap ((x5.getD x4.toNat 0) - r7)) + 1)] : List Int))
   else none)
  else none)
  else none)
  else none)
 else k x5
noncomputable def l0 (x2 : List (List Cl)) (x3 : Int) (k : List Int → O) (R : List Int → Bool → O) : Nat → Int → List Int → O
 | 0, _, _ => none
 | n + 1, x4, x5 => l0s x2 x3 (l0 x2 x3 k R n) k R x4 x5
noncomputable def o0 : Fn [.l, .i, .z] St := fun _ _ y1 => ⟨mkT 35 [(4, one (.ow 3048))], [(3048, ⟨[.int .i64], .ints y1, true, 0, none⟩)], []⟩
noncomputable def n0 (K : Res → O) := ent 0 [.l, .i] [.i, .z] [0, 1, 2, 3] (fun x2 x3 x4 x5 => ⟨mkT 35 [(4, one (.ow 3048)), (8, one (.tr 0 1 e_3 (.cells x2))), (9, oI x3), (10, oI x4)], [(3048, ⟨[.int .i64], .ints x5, true, 0, none⟩)], []⟩) fun x2 x3 k => l0 x2 x3 (fun y1 => k (o0 x2 x3 y1)) (fun r1 r2 => K (m [] r1 r2))
noncomputable def X (K : Res → O) : Ctx := { cx0 [impl_takes.con] fi true K with cin := [(0, ⟨[4, 8, 9, 10], [(3048, 3048), (15496, 3048)], [], [], [], []⟩)], cout := [(0, ⟨[4], [(3048, 3048)], [], [], [], []⟩)], lp := lpOf [n0 K] }
noncomputable def b (a1 : List (List Cl)) (R : List Int → Bool → O) : O :=
 l0 a1 (a1.length : Int) (fun y8 =>
 R y8 true) R fuel 0 ([0] : List Int)
noncomputable def g := seal_ b
theorem e : g = b := seal_eq b
noncomputable def a : Fn [.l] St := fun a1 => argSt [one (.tr 0 1 e_3 (.cells a1))] [] []
noncomputable def con := conOf 84 [.l] [.z, .b] a g m
theorem hx (K : Res → O) : CtxOk Pg Γ0 byt0 eqs0 (X K) [impl_takes.con] := ctx_of (X := X) (.cons impl_takes.ok .nil) (by kernel_rfl) K
theorem w0 (K : Res → O) : LpSound Pg (X K) 0 b0 := lp_fin (L := [n0 K]) laid (hx K) .nil (.cons (ent_ok (fun x2 x3 k r => l0s x2 x3 r (fun y1 => k (o0 x2 x3 y1)) (fun r1 r2 => K (m [] r1 r2))) (by kernel_rfl) (by kernel_rfl) (by kernel_rfl) (by kernel_rfl) (by kernel_rfl)) .nil) (by kernel_rfl) (by kernel_rfl)
theorem ok : Con Pg con := con_fin (fn := Tryz.f84) (c := c) (Fi := fi) (X := X) laid hx (fun K => (.cons (w0 K) .nil)) e (by kernel_rfl) (by kernel_rfl) (by kernel_rfl) (by kernel_rfl)
end impl_deep
namespace impl_CodeOk
noncomputable def c : Code := bodyOf Tryz.f58
noncomputable def fi : Fin := ⟨Γ0, [(.tmp 2, 4)], [[1]], [], [], []⟩
noncomputable def m : Fn [.l] (Fn [.b] Res) := fun _ r1 => ⟨[⟨false, [.bool r1]⟩], [], [], [], []⟩
noncomputable def X (K : Res → O) : Ctx := cx0 [impl_within.con, slices_ContainsFunc_impl_Instr_impl_Instr.con, impl_deep.con] fi true K
noncomputable def b (a1 : List (List Cl)) (R : Bool → O) : O :=
 impl_within.g (a1.length : Int) 1 60 fun r2 =>
 bif !r2 then R false
 else (slices_ContainsFunc_impl_Instr_impl_Instr.g a1 fun r3 =>
 bif r3 then R false
 else (impl_deep.g a1 fun r4 r5 =>
 bif r5 then (bif decide (0 ≤ (a1.length : Int)) && decide ((a1.length : Int) < (r4.length : Int)) then R (r4.getD ((a1.length : Int).toNat) 0 == 1)
  else none)
 else R false))
noncomputable def g := seal_ b
theorem e : g = b := seal_eq b
noncomputable def a : Fn [.l] St := fun a1 => argSt [one (.tr 0 1 e_3 (.cells a1))] [] []
noncomputable def con := conOf 58 [.l] [.b] a g m
theorem ok : Con Pg con := con_fin (fn := Tryz.f58) (c := c) (Fi := fi) (X := X) laid (ctx_of (.cons impl_within.ok (.cons slices_ContainsFunc_impl_Instr_impl_Instr.ok (.cons impl_deep.ok .nil))) (by kernel_rfl)) (fun K => .nil) e (by kernel_rfl) (by kernel_rfl) (by kernel_rfl) (by kernel_rfl)
end impl_CodeOk
namespace impl_MachineNew
noncomputable def c : Code := bodyOf Tryz.f59
noncomputable def fi : Fin := ⟨Γ0, [(.cell 4 97, 97)], [[1, 1, 1, 1, 1]], [], [], []⟩
noncomputable def m : Fn [.l, .i] (Fn [.i, .l, .l, .i] Res) := fun _ a2 r1 r2 r3 r5 => ⟨[⟨true, [cI r1, .ow 1000, .ow 1001, cI a2, cI r5]⟩], [], [⟨e_4, .cells r2, true, 0, none⟩, ⟨e_0, .cells r3, true, 0, none⟩], [], []⟩
noncomputable def X (K : Res → O) : Ctx := cx0 [impl_copyVars.con] fi true K
noncomputable def b (a1 : List (List Cl)) (a2 : Int) (R : Int → List (List Cl) → List (List Cl) → Int → O) : O :=
 impl_copyVars.g a1 fun r3 =>
 R 0 ([] : List (List Cl)) r3 0
noncomputable def g := seal_ b
theorem e : g = b := seal_eq b
noncomputable def a : Fn [.l, .i] St := fun a1 a2 => argSt [one (.tr 0 1 e_0 (.cells a1)), oI a2] [] []
noncomputable def con := conOf 59 [.l, .i] [.i, .l, .l, .i] a g m
theorem ok : Con Pg con := con_fin (fn := Tryz.f59) (c := c) (Fi := fi) (X := X) laid (ctx_of (.cons impl_copyVars.ok .nil) (by kernel_rfl)) (fun K => .nil) e (by kernel_rfl) (by kernel_rfl) (by kernel_rfl) (by kernel_rfl)
end impl_MachineNew
namespace impl_machineOk_1
noncomputable def c : Code := bodyOf Tryz.f119
noncomputable def fi : Fin := ⟨Γ0, [(.tmp 2, 4)], [[1]], [], [], []⟩
noncomputable def m : Fn [.z, .z] (Fn [.b] Res) := fun _ _ r1 => ⟨[⟨false, [.bool r1]⟩], [], [], [], []⟩
noncomputable def X (K : Res → O) : Ctx := cx0 [impl_ArrayOk.con] fi true K
noncomputable def b (a1 a2 : List Int) (R : Bool → O) : O :=
 impl_ArrayOk.g a1 a2 fun r3 =>
 R (!r3)
noncomputable def g := seal_ b
theorem e : g = b := seal_eq b
noncomputable def a : Fn [.z, .z] St := fun a1 a2 => argSt [.v ⟨true, [.tr 0 1 [.int .i64] (.ints a1), .tr 0 1 [.int .i64] (.ints a2)]⟩] [] []
noncomputable def con := conOf 119 [.z, .z] [.b] a g m
theorem ok : Con Pg con := con_fin (fn := Tryz.f119) (c := c) (Fi := fi) (X := X) laid (ctx_of (.cons impl_ArrayOk.ok .nil) (by kernel_rfl)) (fun K => .nil) e (by kernel_rfl) (by kernel_rfl) (by kernel_rfl) (by kernel_rfl)
end impl_machineOk_1
namespace slices_IndexFunc_impl_Array_impl_Array
noncomputable def c : Code := bodyOf Tryz.f141
noncomputable def fi : Fin := ⟨Γ0, [(.tmp 4, 3)], [[1]], [], [], []⟩
noncomputable def m : Fn [.l] (Fn [.i] Res) := fun _ r1 => ⟨[⟨false, [cI r1]⟩], [], [], [], []⟩
noncomputable def b0 : Code := codeAt c [1, 0, 1, 0, 0]
noncomputable def l0s (x2 : List (List Cl)) (x3 : Int) (rec : Int → O) (k : O) (R : Int → O) (x4 : Int) : O :=
 bif decide (x4 < x3) then (bif decide (0 ≤ x4) && decide (x4 < (x2.length : Int)) then (impl_machineOk_1.g (((x2.getD x4.toNat []).getD 0 (.i 0)).toL) (((x2.getD x4.toNat []).getD 1 (.i 0)).toL) fun r5 =>
  bif r5 then R x4
  else rec (IntKind.i64.wrap (x4 + 1)))
  else none)
 else k
noncomputable def l0 (x2 : List (List Cl)) (x3 : Int) (k : O) (R : Int → O) : Nat → Int → O
 | 0, _ => none
 | n + 1, x4 => l0s x2 x3 (l0 x2 x3 k R n) k R x4
noncomputable def o0 : Fn [.l, .i] St := fun _ _ => ⟨mkT 19 [], [], []⟩
noncomputable def n0 (K : Res → O) := ent 0 [.l, .i] [.i] [0, 1, 2] (fun x2 x3 x4 => ⟨mkT 19 [(0, one (.tr 0 1 e_4 (.cells x2))), (1, one (.fn 119 [])), (7, oI x3), (8, oI x4)], [], []⟩) fun x2 x3 k => l0 x2 x3 (k (o0 x2 x3)) (fun r1 => K (m [] r1))
noncomputable def X (K : Res → O) : Ctx := { cx0 [impl_machineOk_1.con] fi true K with cin := [(0, ⟨[0, 1, 7, 8], [], [], [], [], []⟩)], cout := [(0, ⟨[], [], [], [], [], []⟩)], lp := lpOf [n0 K] }
noncomputable def b (a1 : List (List Cl)) (R : Int → O) : O :=
 l0 a1 (a1.length : Int) (
 R (-1)) R fuel 0
noncomputable def g := seal_ b
theorem e : g = b := seal_eq b
noncomputable def a : Fn [.l] St := fun a1 => argSt [one (.tr 0 1 e_4 (.cells a1)), one (.fn 119 [])] [] []
noncomputable def con := conOf 141 [.l] [.i] a g m
theorem hx (K : Res → O) : CtxOk Pg Γ0 byt0 eqs0 (X K) [impl_machineOk_1.con] := ctx_of (X := X) (.cons impl_machineOk_1.ok .nil) (by kernel_rfl) K
theorem w0 (K : Res → O) : LpSound Pg (X K) 0 b0 := lp_fin (L := [n0 K]) laid (hx K) .nil (.cons (ent_ok (fun x2 x3 k r => l0s x2 x3 r (k (o0 x2 x3)) (fun r1 => K (m [] r1))) (by kernel_rfl) (by kernel_rfl) (by kernel_rfl) (by kernel_rfl) (by kernel_rfl)) .nil) (by kernel_rfl) (by kernel_rfl)
theorem ok : Con Pg con := con_fin (fn := Tryz.f141) (c := c) (Fi := fi) (X := X) laid hx (fun K => (.cons (w0 K) .nil)) e (by kernel_rfl) (by kernel_rfl) (by kernel_rfl) (by kernel_rfl)
end slices_IndexFunc_impl_Array_impl_Array
namespace slices_ContainsFunc_impl_Array_impl_Array
noncomputable def c : Code := bodyOf Tryz.f118
noncomputable def fi : Fin := ⟨Γ0, [(.tmp 4, 4)], [[1]], [], [], []⟩
noncomputable def m : Fn [.l] (Fn [.b] Res) := fun _ r1 => ⟨[⟨false, [.bool r1]⟩], [], [], [], []⟩
noncomputable def X (K : Res → O) : Ctx := cx0 [slices_IndexFunc_impl_Array_impl_Array.con] fi true K
noncomputable def b (a1 : List (List Cl)) (R : Bool → O) : O :=
 slices_IndexFunc_impl_Array_impl_Array.g a1 fun r2 =>
 R (decide (0 ≤ r2))
noncomputable def g := seal_ b
theorem e : g = b := seal_eq b
noncomputable def a : Fn [.l] St := fun a1 => argSt [one (.tr 0 1 e_4 (.cells a1)), one (.fn 119 [])] [] []
noncomputable def con := conOf 118 [.l] [.b] a g m
theorem ok : Con Pg con := con_fin (fn := Tryz.f118) (c := c) (Fi := fi) (X := X) laid (ctx_of (.cons slices_IndexFunc_impl_Array_impl_Array.ok .nil) (by kernel_rfl)) (fun K => .nil) e (by kernel_rfl) (by kernel_rfl) (by kernel_rfl) (by kernel_rfl)
end slices_ContainsFunc_impl_Array_impl_Array
namespace impl_machineOk
noncomputable def c : Code := bodyOf Tryz.f85
noncomputable def fi : Fin := ⟨Γ0, [(.tmp 4, 4)], [[1]], [], [], []⟩
noncomputable def m : Fn [.l, .i, .l, .l, .i, .i] (Fn [.b] Res) := fun _ _ _ _ _ _ r1 => ⟨[⟨false, [.bool r1]⟩], [], [], [], []⟩
noncomputable def X (K : Res → O) : Ctx := cx0 [impl_CodeOk.con, impl_within.con, impl_VarsOk.con, impl_deep.con, slices_ContainsFunc_impl_Array_impl_Array.con] fi true K
noncomputable def b (a1 : List (List Cl)) (a2 : Int) (a3 a4 : List (List Cl)) (a5 a6 : Int) (R : Bool → O) : O :=
 impl_CodeOk.g a1 fun r7 =>
 bif !r7 then R false
 else (impl_within.g a2 0 (a1.length : Int) fun r8 =>
 bif !r8 then R false
 else (impl_VarsOk.g a4 fun r9 =>
 bif !r9 then R false
 else bif decide (a5 < 0) then R false
 else (impl_deep.g a1 fun r10 r11 =>
 bif decide (0 ≤ a2) && decide (a2 < (r10.length : Int)) then (bif ((a3.length : Int) == r10.getD a2.toNat 0) then (slices_ContainsFunc_impl_Array_impl_Array.g a3 fun r12 =>
  R (!r12))
  else R false)
 else none)))
noncomputable def g := seal_ b
theorem e : g = b := seal_eq b
noncomputable def a : Fn [.l, .i, .l, .l, .i, .i] St := fun a1 a2 a3 a4 a5 a6 => argSt [one (.tr 0 1 e_3 (.cells a1)), .v ⟨true, [cI a2, .tr 0 1 e_4 (.cells a3), .tr 0 1 e_0 (.cells a4), cI a5, cI a6]⟩] [] []
noncomputable def con := conOf 85 [.l, .i, .l, .l, .i, .i] [.b] a g m
theorem ok : Con Pg con := con_fin (fn := Tryz.f85) (c := c) (Fi := fi) (X := X) laid (ctx_of (.cons impl_CodeOk.ok (.cons impl_within.ok (.cons impl_VarsOk.ok (.cons impl_deep.ok (.cons slices_ContainsFunc_impl_Array_impl_Array.ok .nil))))) (by kernel_rfl)) (fun K => .nil) e (by kernel_rfl) (by kernel_rfl) (by kernel_rfl) (by kernel_rfl)
end impl_machineOk
namespace impl_copyMachine
noncomputable def c : Code := bodyOf Tryz.f86
noncomputable def fi : Fin := ⟨Γ0, [(.cell 2 97, 97)], [[1, 1, 1, 1, 1]], [], [], []⟩
noncomputable def m : Fn [.i, .l, .l, .i, .i] (Fn [.i, .l, .l, .i, .i] Res) := fun _ _ _ _ _ r1 r2 r3 r4 r5 => ⟨[⟨true, [cI r1, .ow 1000, .ow 1001, cI r4, cI r5]⟩], [], [⟨e_4, .cells r2, true, 0, none⟩, ⟨e_0, .cells r3, true, 0, none⟩], [], []⟩
noncomputable def b0 : Code := codeAt c [1, 1, 1, 0, 1, 0, 0]
noncomputable def l0s (x7 : List (List Cl)) (x8 : Int) (x10 : List (List Cl)) (x12 x13 x14 x15 x16 x17 : Int) (rec : Int → List (List Cl) → O) (k : List (List Cl) → O) (x9 : Int) (x11 : List (List Cl)) : O :=
 bif decide (x9 < x8) then (bif decide (0 ≤ x9) && decide (x9 < (x7.length : Int)) then (impl_copyArray.g (((x7.getD x9.toNat []).getD 0 (.i 0)).toL) (((x7.getD x9.toNat []).getD 1 (.i 0)).toL) (
  bif decide ((x11.length + 1) * 48 ≤ 140737488355328) then rec (IntKind.i64.wrap (x9 + 1)) (x11 ++ ([[.l (((x7.getD x9.toNat []).getD 0 (.i 0)).toL), .l (((x7.getD x9.toNat []).getD 1 (.i 0)).toL)]] : List (List Cl)))
  else none))
  else none)
 else k x11
noncomputable def l0 (x7 : List (List Cl)) (x8 : Int) (x10 : List (List Cl)) (x12 x13 x14 x15 x16 x17 : Int) (k : List (List Cl) → O) : Nat → Int → List (List Cl) → O
 | 0, _, _ => none
 | n + 1, x9, x11 => l0s x7 x8 x10 x12 x13 x14 x15 x16 x17 (l0 x7 x8 x10 x12 x13 x14 x15 x16 x17 k n) k x9 x11
noncomputable def o0 : Fn [.l, .i, .l, .i, .i, .i, .i, .i, .i, .l] St := fun _ _ x10 x12 x13 x14 x15 x16 x17 y1 => ⟨mkT 28 [(1, one (.bp 1000 0)), (2, one (.bp 1016 0))], [(5168, ⟨e_4, .cells y1, true, 0, none⟩), (5129, ⟨e_0, .cells x10, true, 0, none⟩)], [(1000, [cI x12, .ow 5168, .ow 5129, cI x13, cI x14]), (1016, [cI x15, .nil, .nil, cI x16, cI x17])]⟩
noncomputable def n0 (K : Res → O) := ent 0 [.l, .i, .l, .i, .i, .i, .i, .i, .i] [.i, .l] [0, 1, 3, 5, 6, 7, 8, 9, 10, 2, 4] (fun x7 x8 x10 x12 x13 x14 x15 x16 x17 x9 x11 => ⟨mkT 28 [(1, one (.bp 1000 0)), (2, one (.bp 1016 0)), (13, one (.tr 0 1 e_4 (.cells x7))), (14, oI x8), (15, oI x9)], [(5129, ⟨e_0, .cells x10, true, 0, none⟩), (5168, ⟨e_4, .cells x11, true, 0, none⟩)], [(1000, [cI x12, .ow 5168, .ow 5129, cI x13, cI x14]), (1016, [cI x15, .nil, .nil, cI x16, cI x17])]⟩) fun x7 x8 x10 x12 x13 x14 x15 x16 x17 k => l0 x7 x8 x10 x12 x13 x14 x15 x16 x17 (fun y1 => k (o0 x7 x8 x10 x12 x13 x14 x15 x16 x17 y1))
noncomputable def X (K : Res → O) : Ctx := { cx0 [impl_copyVars.con, impl_copyArray.con] fi true K with own := [(2, 4, 0, e_4)], cin := [(0, ⟨[1, 2, 13, 14, 15], [(5129, 5129), (5168, 5168), (13368, 5168)], [1000, 1016], [], [], []⟩)], cout := [(0, ⟨[1, 2], [(5168, 5168), (5129, 5129)], [1000, 1016], [], [], []⟩)], lp := lpOf [n0 K] }
noncomputable def b (a1 : Int) (a2 a3 : List (List Cl)) (a4 a5 : Int) (R : Int → List (List Cl) → List (List Cl) → Int → Int → O) : O :=
 impl_copyVars.g a3 fun r6 =>
 l0 a2 (a2.length : Int) r6 a1 a4 a5 0 0 0 (fun y18 =>
 R a1 y18 r6 a4 a5) fuel 0 ([] : List (List Cl))
noncomputable def g := seal_ b
theorem e : g = b := seal_eq b
noncomputable def a : Fn [.i, .l, .l, .i, .i] St := fun a1 a2 a3 a4 a5 => argSt [.v ⟨true, [cI a1, .tr 0 1 e_4 (.cells a2), .tr 0 1 e_0 (.cells a3), cI a4, cI a5]⟩] [] []
noncomputable def con := conOf 86 [.i, .l, .l, .i, .i] [.i, .l, .l, .i, .i] a g m
theorem hx (K : Res → O) : CtxOk Pg Γ0 byt0 eqs0 (X K) [impl_copyVars.con, impl_copyArray.con] := ctx_of (X := X) (.cons impl_copyVars.ok (.cons impl_copyArray.ok .nil)) (by kernel_rfl) K
theorem w0 (K : Res → O) : LpSound Pg (X K) 0 b0 := lp_fin (L := [n0 K]) laid (hx K) .nil (.cons (ent_ok (fun x7 x8 x10 x12 x13 x14 x15 x16 x17 k r => l0s x7 x8 x10 x12 x13 x14 x15 x16 x17 r (fun y1 => k (o0 x7 x8 x10 x12 x13 x14 x15 x16 x17 y1))) (by kernel_rfl) (by kernel_rfl) (by kernel_rfl) (by kernel_rfl) (by kernel_rfl)) .nil) (by kernel_rfl) (by kernel_rfl)
theorem ok : Con Pg con := con_fin (fn := Tryz.f86) (c := c) (Fi := fi) (X := X) laid hx (fun K => (.cons (w0 K) .nil)) e (by kernel_rfl) (by kernel_rfl) (by kernel_rfl) (by kernel_rfl)
end impl_copyMachine
namespace impl_vector
noncomputable def c : Code := bodyOf Tryz.f142
noncomputable def fi : Fin := ⟨Γ0, [(.cell 2 47, 47)], [[1, 1]], [], [], []⟩
noncomputable def m : Fn [.z] (Fn [.z] Res) := fun a1 r1 => ⟨[⟨true, [.ow 1000, .ow 1001]⟩], [], [⟨[.int .i64], .ints r1, true, 0, none⟩, ⟨[.int .i64], .ints a1, true, 0, none⟩], [], []⟩
noncomputable def X (K : Res → O) : Ctx := cx0 [] fi true K
noncomputable def b (a1 : List Int) (R : List Int → O) : O :=
 bif decide (a1.length * 8 ≤ 140737488355328) then R ([(a1.length : Int)] : List Int)
 else none
noncomputable def g := seal_ b
theorem e : g = b := seal_eq b
noncomputable def a : Fn [.z] St := fun a1 => argSt [one (.tr 0 1 [.int .i64] (.ints a1))] [] []
noncomputable def con := conOf 142 [.z] [.z] a g m
theorem ok : Con Pg con := con_fin (fn := Tryz.f142) (c := c) (Fi := fi) (X := X) laid (ctx_of .nil (by kernel_rfl)) (fun K => .nil) e (by kernel_rfl) (by kernel_rfl) (by kernel_rfl) (by kernel_rfl)
end impl_vector
namespace impl_numsArray
noncomputable def c : Code := bodyOf Tryz.f120
noncomputable def fi : Fin := ⟨Γ0, [(.cell 2 47, 47)], [[1, 1]], [], [], []⟩
noncomputable def m : Fn [.z] (Fn [.z, .z] Res) := fun _ r1 r2 => ⟨[⟨true, [.ow 1000, .ow 1001]⟩], [], [⟨[.int .i64], .ints r1, true, 0, none⟩, ⟨[.int .i64], .ints r2, true, 0, none⟩], [], []⟩
noncomputable def X (K : Res → O) : Ctx := cx0 [impl_vector.con] fi true K
noncomputable def b (a1 : List Int) (R : List Int → List Int → O) : O :=
 bif ((a1.length : Int) == 1) then (bif decide (0 < (a1.length : Int)) then R ([] : List Int) ([a1.getD 0 0] : List Int)
  else none)
 else (impl_vector.g a1 fun r2 =>
 R r2 a1)
noncomputable def g := seal_ b
theorem e : g = b := seal_eq b
noncomputable def a : Fn [.z] St := fun a1 => argSt [one (.tr 0 1 [.int .i64] (.ints a1))] [] []
noncomputable def con := conOf 120 [.z] [.z, .z] a g m
theorem ok : Con Pg con := con_fin (fn := Tryz.f120) (c := c) (Fi := fi) (X := X) laid (ctx_of (.cons impl_vector.ok .nil) (by kernel_rfl)) (fun K => .nil) e (by kernel_rfl) (by kernel_rfl) (by kernel_rfl) (by kernel_rfl)
end impl_numsArray
namespace impl_done
noncomputable def c : Code := bodyOf Tryz.f87
noncomputable def fi : Fin := ⟨Γ0, [(.cell 6 47, 47), (.tmp 7, 3)], [[4, 4], [1]], [], [], []⟩
noncomputable def m : Fn [.i, .i, .i, .i, .i, .z, .l, .l] (Fn [.z, .z, .i] Res) := fun _ _ _ _ _ _ _ _ r1 r2 r3 => ⟨[⟨true, [.tr 1 1 [.int .i64] (.ints r1), .tr 1 1 [.int .i64] (.ints r2)]⟩, ⟨false, [cI r3]⟩], [], [], [], []⟩
noncomputable def X (K : Res → O) : Ctx := cx0 [impl_numsArray.con] fi true K
noncomputable def b (a1 a2 a3 a4 a5 : Int) (a6 : List Int) (a7 a8 : List (List Cl)) (R : List Int → List Int → Int → O) : O :=
 bif (a1 == 1) then (impl_numsArray.g a6 fun r9 r10 =>
  R r9 r10 0)
 else bif (a1 == 2) then (bif decide (0 ≤ a2) && decide (a2 < (a8.length : Int)) then (bif !(((a8.getD a2.toNat []).getD 0 (.i 0)).toB) then R ([] : List Int) ([] : List Int) 7
  else bif decide (0 ≤ a2) && decide (a2 < (a8.length : Int)) then R (((a8.getD a2.toNat []).getD 1 (.i 0)).toL) (((a8.getD a2.toNat []).getD 2 (.i 0)).toL) 0
  else none)
  else none)
 else bif (a1 == 3) then (bif decide (0 ≤ IntKind.i64.wrap ((a7.length : Int) - 1)) && decide (IntKind.i64.wrap ((a7.length : Int) - 1) < (a7.length : Int)) then R (((a7.getD ((IntKind.i64.wrap ((a7.length : Int) - 1)).toNat) []).getD 0 (.i 0)).toL) (((a7.getD ((IntKind.i64.wrap ((a7.length : Int) - 1)).toNat) []).getD 1 (.i 0)).toL) 0
  else none)
 else bif (a1 == 4) then (bif decide (0 ≤ IntKind.i64.wrap ((a7.length : Int) - 1)) && decide (IntKind.i64.wrap ((a7.length : Int) - 1) < (a7.length : Int)) then none
  else none)
 else bif decide (0 ≤ IntKind.i64.wrap ((a7.length : Int) - 1)) && decide (IntKind.i64.wrap ((a7.length : Int) - 1) < (a7.length : Int)) then (bif decide (0 ≤ IntKind.i64.wrap ((a7.length : Int) - 2)) && decide (IntKind.i64.wrap ((a7.length : Int) - 2) < (a7.length : Int)) then none
  else none)
 else none
noncomputable def g := seal_ b
theorem e : g = b := seal_eq b
noncomputable def a : Fn [.i, .i, .i, .i, .i, .z, .l, .l] St := fun a1 a2 a3 a4 a5 a6 a7 a8 => argSt [.v ⟨true, [cI a1, cI a2, cI a3, cI a4, cI a5, .tr 0 1 [.int .i64] (.ints a6)]⟩, one (.tr 0 1 e_4 (.cells a7)), one (.tr 0 1 e_0 (.cells a8))] [] []
noncomputable def con := conOf 87 [.i, .i, .i, .i, .i, .z, .l, .l] [.z, .z, .i] a g m
theorem ok : Con Pg con := con_fin (fn := Tryz.f87) (c := c) (Fi := fi) (X := X) laid (ctx_of (.cons impl_numsArray.ok .nil) (by kernel_rfl)) (fun K => .nil) e (by kernel_rfl) (by kernel_rfl) (by kernel_rfl) (by kernel_rfl)
end impl_done
namespace impl_MachineStep
noncomputable def c : Code := bodyOf Tryz.f60
noncomputable def fi : Fin := ⟨Γ0, [(.cell 4 97, 97)], [[1, 1, 1, 1, 1]], [], [], []⟩
noncomputable def m : Fn [.l, .i, .l, .l, .i, .i] (Fn [.i, .l, .l, .i, .i] Res) := fun _ _ _ _ _ _ r1 r2 r3 r4 r5 => ⟨[⟨true, [cI r1, .ow 1000, .ow 1001, cI r4, cI r5]⟩], [], [⟨e_4, .cells r2, true, 0, none⟩, ⟨e_0, .cells r3, true, 0, none⟩], [], []⟩
noncomputable def X (K : Res → O) : Ctx := cx0 [impl_machineOk.con, impl_copyMachine.con, impl_done.con, impl_takes.con, impl_copyArray.con] fi true K
noncomputable def b (a1 : List (List Cl)) (a2 : Int) (a3 a4 : List (List Cl)) (a5 a6 : Int) (R : Int → List (List Cl) → List (List Cl) → Int → Int → O) : O :=
 impl_machineOk.g a1 a2 a3 a4 a5 a6 fun r7 =>
 bif !r7 then R 0 ([] : List (List Cl)) ([] : List (List Cl)) 0 1
 else (impl_copyMachine.g a2 a3 a4 a5 a6 fun r8 r9 r10 r11 r12 =>
 bif (a6 != 0) then R r8 r9 r10 r11 r12
 else bif (a2 == (a1.length : Int)) then R r8 r9 r10 r11 r12
 else bif (a5 == 0) then R r8 r9 r10 r11 10
 else bif decide (0 ≤ a2) && decide (a2 < (a1.length : Int)) then (impl_done.g (((a1.getD a2.toNat []).getD 0 (.i 0)).toI) (((a1.getD a2.toNat []).getD 1 (.i 0)).toI) (((a1.getD a2.toNat []).getD 2 (.i 0)).toI) (((a1.getD a2.toNat []).getD 3 (.i 0)).toI) (((a1.getD a2.toNat []).getD 4 (.i 0)).toI) (((a1.getD a2.toNat []).getD 5 (.i 0)).toL) r9 r10 fun r13 r14 r15 =>
  bif (r15 != 0) then R r8 r9 r10 (IntKind.i64.wrap (r11 - 1)) r15
  else (impl_takes.g (((a1.getD a2.toNat []).getD 0 (.i 0)).toI) (((a1.getD a2.toNat []).getD 1 (.i 0)).toI) (((a1.getD a2.toNat []).getD 2 (.i 0)).toI) (((a1.getD a2.toNat []).getD 3 (.i 0)).toI) (((a1.getD a2.toNat []).getD 4 (.i 0)).toI) (((a1.getD a2.toNat []).getD 5 (.i 0)).toL) fun r16 =>
  bif decide (0 ≤ IntKind.i64.wrap ((r9.length : Int) - r16)) && decide (IntKind.i64.wrap ((r9.length : Int) - r16) ≤ (r9.length : Int)) then (impl_copyArray.g r13 r14 (
   bif decide (((IntKind.i64.wrap ((r9.length : Int) - r16)).toNat + 1) * 48 ≤ 140737488355328) then (bif (((a1.getD a2.toNat []).getD 0 (.i 0)).toI == 3) then (impl_copyArray.g r13 r14 (
    bif decide (0 ≤ ((a1.getD a2.toNat []).getD 1 (.i 0)).toI) && decide (((a1.getD a2.toNat []).getD 1 (.i 0)).toI < (r10.length : Int)) then R (IntKind.i64.wrap (r8 + 1)) ((r9.take ((IntKind.i64.wrap ((r9.length : Int) - r16)).toNat)) ++ ([[.l r13, .l r14]] : List (List Cl))) (r10.set ((((a1.getD a2.toNat []).getD 1 (.i 0)).toI).toNat) [.b true, .l r13, .l r14]) (IntKind.i64.wrap (r11 - 1)) r12
    else none))
    else R (IntKind.i64.wrap (r8 + 1)) ((r9.take ((IntKind.i64.wrap ((r9.length : Int) - r16)).toNat)) ++ ([[.l r13, .l r14]] : List (List Cl))) r10 (IntKind.i64.wrap (r11 - 1)) r12)
   else none))
  else none))
 else none)
noncomputable def g := seal_ b
theorem e : g = b := seal_eq b
noncomputable def a : Fn [.l, .i, .l, .l, .i, .i] St := fun a1 a2 a3 a4 a5 a6 => argSt [one (.tr 0 1 e_3 (.cells a1)), .v ⟨true, [cI a2, .tr 0 1 e_4 (.cells a3), .tr 0 1 e_0 (.cells a4), cI a5, cI a6]⟩] [] []
noncomputable def con := conOf 60 [.l, .i, .l, .l, .i, .i] [.i, .l, .l, .i, .i] a g m
theorem ok : Con Pg con := con_fin (fn := Tryz.f60) (c := c) (Fi := fi) (X := X) laid (ctx_of (.cons impl_machineOk.ok (.cons impl_copyMachine.ok (.cons impl_done.ok (.cons impl_takes.ok (.cons impl_copyArray.ok .nil))))) (by kernel_rfl)) (fun K => .nil) e (by kernel_rfl) (by kernel_rfl) (by kernel_rfl) (by kernel_rfl)
end impl_MachineStep
namespace impl_Run
noncomputable def c : Code := bodyOf Tryz.f29
noncomputable def fi : Fin := ⟨Γ0, [(.cell 6 47, 47), (.tmp 7, 30), (.tmp 8, 3), (.tmp 9, 3)], [[4, 4], [1], [1], [1]], [], [], []⟩
noncomputable def m : Fn [.l, .l, .i] (Fn [.z, .z, .l, .i, .i] Res) := fun _ _ _ r1 r2 r3 r4 r5 => ⟨[⟨true, [.tr 1 1 [.int .i64] (.ints r1), .tr 1 1 [.int .i64] (.ints r2)]⟩, ⟨false, [.ow 1000]⟩, ⟨false, [cI r4]⟩, ⟨false, [cI r5]⟩], [], [⟨e_0, .cells r3, true, 0, none⟩], [], []⟩
noncomputable def b0 : Code := codeAt c [1, 1, 1, 0, 0, 0]
noncomputable def l0s (x10 x11 : List (List Cl)) (rec : List (List Cl) → List (List Cl) → Int → Int → Int → O) (k : List (List Cl) → List (List Cl) → Int → Int → Int → O) (x12 x13 : List (List Cl)) (x14 x15 x16 : Int) : O :=
 bif (x16 == 0) then (bif decide (x14 < (x10.length : Int)) then (impl_MachineStep.g x10 x14 x12 x13 x15 x16 fun r17 r18 r19 r20 r21 =>
  rec r18 r19 r17 r20 r21)
  else k x12 x13 x14 x15 x16)
 else k x12 x13 x14 x15 x16
noncomputable def l0 (x10 x11 : List (List Cl)) (k : List (List Cl) → List (List Cl) → Int → Int → Int → O) : Nat → List (List Cl) → List (List Cl) → Int → Int → Int → O
 | 0, _, _, _, _, _ => none
 | n + 1, x12, x13, x14, x15, x16 => l0s x10 x11 (l0 x10 x11 k n) k x12 x13 x14 x15 x16
noncomputable def o0 : Fn [.l, .l, .l, .l, .i, .i, .i] St := fun _ x11 y2 y3 y4 y5 y6 => ⟨mkT 58 [(1, one (.tr 0 1 e_0 (.cells x11))), (6, one (.bp 1000 0)), (10, one (.bp 7192 0))], [(7177, ⟨e_4, .cells y2, true, 0, none⟩), (7178, ⟨e_0, .cells y3, true, 0, none⟩)], [(1000, [.nil, .nil]), (7192, [cI y4, .ow 7177, .ow 7178, cI y5, cI y6])]⟩
noncomputable def n0 (K : Res → O) := ent 0 [.l, .l] [.l, .l, .i, .i, .i] [0, 1, 2, 3, 4, 5, 6] (fun x10 x11 x12 x13 x14 x15 x16 => ⟨mkT 58 [(0, one (.tr 0 1 e_3 (.cells x10))), (1, one (.tr 0 1 e_0 (.cells x11))), (6, one (.bp 1000 0)), (10, one (.bp 7192 0))], [(7177, ⟨e_4, .cells x12, true, 0, none⟩), (7178, ⟨e_0, .cells x13, true, 0, none⟩)], [(1000, [.nil, .nil]), (7192, [cI x14, .ow 7177, .ow 7178, cI x15, cI x16])]⟩) fun x10 x11 k => l0 x10 x11 (fun y2 y3 y4 y5 y6 => k (o0 x10 x11 y2 y3 y4 y5 y6))
noncomputable def X (K : Res → O) : Ctx := { cx0 [impl_CodeOk.con, impl_VarsOk.con, impl_MachineNew.con, impl_MachineStep.con, impl_copyVars.con] fi true K with cin := [(0, ⟨[0, 1, 6, 10], [(7177, 7177), (11273, 7177), (7178, 7178), (11274, 7178)], [1000, 7192], [], [], []⟩)], cout := [(0, ⟨[1, 6, 10], [(7177, 7177), (7178, 7178)], [1000, 7192], [], [], []⟩)], lp := lpOf [n0 K] }
noncomputable def b (a1 a2 : List (List Cl)) (a3 : Int) (R : List Int → List Int → List (List Cl) → Int → Int → O) : O :=
 impl_CodeOk.g a1 fun r4 =>
 bif !r4 then R ([] : List Int) ([] : List Int) ([] : List (List Cl)) 1 0
 else (impl_VarsOk.g a2 fun r5 =>
 bif !r5 then R ([] : List Int) ([] : List Int) ([] : List (List Cl)) 1 0
 else bif decide (a3 < 0) then R ([] : List Int) ([] : List Int) ([] : List (List Cl)) 1 0
 else (impl_MachineNew.g a2 a3 fun r6 r7 r8 r9 =>
 l0 a1 a2 (fun y22 y23 y24 y25 y26 =>
 bif (y26 != 0) then (impl_copyVars.g a2 fun r27 =>
  R ([] : List Int) ([] : List Int) r27 y26 y25)
 else bif decide (0 < (y22.length : Int)) then R (((y22.getD 0 []).getD 0 (.i 0)).toL) (((y22.getD 0 []).getD 1 (.i 0)).toL) y23 0 y25
 else none) fuel r7 r8 r6 a3 r9))
noncomputable def g := seal_ b
theorem e : g = b := seal_eq b
noncomputable def a : Fn [.l, .l, .i] St := fun a1 a2 a3 => argSt [one (.tr 0 1 e_3 (.cells a1)), one (.tr 0 1 e_0 (.cells a2)), oI a3] [] []
noncomputable def con := conOf 29 [.l, .l, .i] [.z, .z, .l, .i, .i] a g m
theorem hx (K : Res → O) : CtxOk Pg Γ0 byt0 eqs0 (X K) [impl_CodeOk.con, impl_VarsOk.con, impl_MachineNew.con, impl_MachineStep.con, impl_copyVars.con] := ctx_of (X := X) (.cons impl_CodeOk.ok (.cons impl_VarsOk.ok (.cons impl_MachineNew.ok (.cons impl_MachineStep.ok (.cons impl_copyVars.ok .nil))))) (by kernel_rfl) K
theorem w0 (K : Res → O) : LpSound Pg (X K) 0 b0 := lp_fin (L := [n0 K]) laid (hx K) .nil (.cons (ent_ok (fun x10 x11 k r => l0s x10 x11 r (fun y2 y3 y4 y5 y6 => k (o0 x10 x11 y2 y3 y4 y5 y6))) (by kernel_rfl) (by kernel_rfl) (by kernel_rfl) (by kernel_rfl) (by kernel_rfl)) .nil) (by kernel_rfl) (by kernel_rfl)
theorem ok : Con Pg con := con_fin (fn := Tryz.f29) (c := c) (Fi := fi) (X := X) laid hx (fun K => (.cons (w0 K) .nil)) e (by kernel_rfl) (by kernel_rfl) (by kernel_rfl) (by kernel_rfl)
end impl_Run
namespace impl_Rows
noncomputable def c : Code := bodyOf Tryz.f62
noncomputable def fi : Fin := ⟨Γ0, [(.tmp 2, 95)], [[1]], [], [], []⟩
noncomputable def m : Fn [.z, .z] (Fn [.l] Res) := fun _ _ r1 => ⟨[⟨false, [.ow 1000]⟩], [], [⟨e_4, .cells r1, true, 0, none⟩], [], []⟩
noncomputable def b0 : Code := codeAt c [1, 1, 1, 1, 0, 1, 0, 0]
noncomputable def l0s (x5 : Int) (x8 x9 : List Int) (rec : Int → List (List Cl) → O) (k : List (List Cl) → O) (x6 : Int) (x7 : List (List Cl)) : O :=
 bif decide (0 < (x8.length : Int)) then (bif decide (x6 < x8.getD 0 0) then (bif decide (1 ≤ (x8.length : Int)) then (bif decide (0 ≤ IntKind.i64.wrap (x6 * x5)) && decide (IntKind.i64.wrap (x6 * x5) ≤ IntKind.i64.wrap ((IntKind.i64.wrap (x6 + 1)) * x5)) && decide (IntKind.i64.wrap ((IntKind.i64.wrap (x6 + 1)) * x5) ≤ (x9.length : Int)) then (impl_copyArray.g (x8.drop 1) ((x9.drop ((IntKind.i64.wrap (x6 * x5)).toNat)).take (((IntKind.i64.wrap ((IntKind.i64.wrap (x6 + 1)) * x5)).toNat) - ((IntKind.i64.wrap (x6 * x5)).toNat))) (
  bif decide ((x7.length + 1) * 48 ≤ 140737488355328) then rec (IntKind.i64.wrap (x6 + 1)) (x7 ++ ([[.l (x8.drop 1), .l ((x9.drop ((IntKind.i64.wrap (x6 * x5)).toNat)).take (((IntKind.i64.wrap ((IntKind.i64.wrap (x6 + 1)) * x5)).toNat) - ((IntKind.i64.wrap (x6 * x5)).toNat)))]] : List (List Cl)))
  else none))
  else none)
  else none)
  else k x7)
 else none
noncomputable def l0 (x5 : Int) (x8 x9 : List Int) (k : List (List Cl) → O) : Nat → Int → List (List Cl) → O
 | 0, _, _ => none
 | n + 1, x6, x7 => l0s x5 x8 x9 (l0 x5 x8 x9 k n) k x6 x7
noncomputable def o0 : Fn [.i, .z, .z, .l] St := fun _ _ _ y1 => ⟨mkT 46 [(4, one (.ow 9200))], [(9200, ⟨e_4, .cells y1, true, 0, none⟩)], []⟩
noncomputable def n0 (K : Res → O) := ent 0 [.i, .z, .z] [.i, .l] [0, 3, 4, 1, 2] (fun x5 x8 x9 x6 x7 => ⟨mkT 46 [(1, one (.bp 1000 0)), (3, oI x5), (4, one (.ow 9200)), (5, oI x6)], [(9200, ⟨e_4, .cells x7, true, 0, none⟩)], [(1000, [.tr 0 1 [.int .i64] (.ints x8), .tr 0 1 [.int .i64] (.ints x9)])]⟩) fun x5 x8 x9 k => l0 x5 x8 x9 (fun y1 => k (o0 x5 x8 x9 y1))
noncomputable def X (K : Res → O) : Ctx := { cx0 [impl_ArrayOk.con, impl_SizeOf.con, impl_copyArray.con] fi true K with own := [(4, 0, 0, e_4)], cin := [(0, ⟨[1, 3, 4, 5], [(9200, 9200), (17656, 9200)], [1000], [], [], []⟩)], cout := [(0, ⟨[4], [(9200, 9200)], [], [], [], []⟩)], lp := lpOf [n0 K] }
noncomputable def b (a1 a2 : List Int) (R : List (List Cl) → O) : O :=
 impl_ArrayOk.g a1 a2 fun r3 =>
 bif !r3 then R ([] : List (List Cl))
 else bif ((a1.length : Int) == 0) then R ([] : List (List Cl))
 else bif decide (1 ≤ (a1.length : Int)) then (impl_SizeOf.g (a1.drop 1) fun r4 =>
  l0 r4 a1 a2 (fun y10 =>
  R y10) fuel 0 ([] : List (List Cl)))
 else none
noncomputable def g := seal_ b
theorem e : g = b := seal_eq b
noncomputable def a : Fn [.z, .z] St := fun a1 a2 => argSt [.v ⟨true, [.tr 0 1 [.int .i64] (.ints a1), .tr 0 1 [.int .i64] (.ints a2)]⟩] [] []
noncomputable def con := conOf 62 [.z, .z] [.l] a g m
theorem hx (K : Res → O) : CtxOk Pg Γ0 byt0 eqs0 (X K) [impl_ArrayOk.con, impl_SizeOf.con, impl_copyArray.con] := ctx_of (X := X) (.cons impl_ArrayOk.ok (.cons impl_SizeOf.ok (.cons impl_copyArray.ok .nil))) (by kernel_rfl) K
theorem w0 (K : Res → O) : LpSound Pg (X K) 0 b0 := lp_fin (L := [n0 K]) laid (hx K) .nil (.cons (ent_ok (fun x5 x8 x9 k r => l0s x5 x8 x9 r (fun y1 => k (o0 x5 x8 x9 y1))) (by kernel_rfl) (by kernel_rfl) (by kernel_rfl) (by kernel_rfl) (by kernel_rfl)) .nil) (by kernel_rfl) (by kernel_rfl)
theorem ok : Con Pg con := con_fin (fn := Tryz.f62) (c := c) (Fi := fi) (X := X) laid hx (fun K => (.cons (w0 K) .nil)) e (by kernel_rfl) (by kernel_rfl) (by kernel_rfl) (by kernel_rfl)
end impl_Rows
namespace strings_Repeat
theorem is : RepIs Go.Proofs.Tryz.prog 89 := ⟨fun s w => Go.Proofs.Tryz.strings_Repeat_zero s w, fun s w => Go.Proofs.Tryz.strings_Repeat_one s w, fun s c w h1 h2 h3 h4 => Go.Proofs.Tryz.strings_Repeat_main s c w h1 h2 h3 h4⟩
noncomputable def g (a1 : ByteArray) (a2 : Int) (R : ByteArray → O) : O := repG a1 a2 R
noncomputable def con : FuncId × St × (List Lf → (Res → Option Res) → Option Res) := repC 89
theorem ok : Con Go.Proofs.Tryz.prog con := con_rep (fn := Go.Proofs.Tryz.f89) (by kernel_rfl) (by kernel_rfl) (by kernel_rfl) is
end strings_Repeat
namespace impl_lines
noncomputable def c : Code := bodyOf Tryz.f61
noncomputable def fi : Fin := ⟨Γ0, [(.tmp 4, 9)], [[1]], [], [], []⟩
noncomputable def m : Fn [.z, .z, .i] (Fn [.s] Res) := fun _ _ _ r1 => ⟨[⟨false, [.str r1]⟩], [], [], [], []⟩
noncomputable def b0 : Code := codeAt c [1, 1, 0, 1, 0, 0]
noncomputable def b2 : Code := codeAt c [1, 1, 0, 1, 0, 0, 1, 1, 0, 0, 1, 1, 0, 1, 0, 0]
noncomputable def l2s (x10 x11 x12 : Int) (x13 : List Int) (x14 : Int) (x16 : List (List Cl)) (x18 : List ByteArray) (rec : Int → List ByteArray → O) (k : List ByteArray → O) (x15 : Int) (x17 : List ByteArray) : O :=
 bif decide (x15 < x14) then (bif decide (0 ≤ x15) && decide (x15 < (x13.length : Int)) then (impl_ShowNum.g (x13.getD x15.toNat 0) fun r19 =>
  strings_Repeat.g (⟨#[32]⟩ : ByteArray) (IntKind.i64.wrap (x10 - (r19.size : Int))) fun r20 =>
  bif decide (r20.size + r19.size ≤ 9223372036854775807) then (bif decide ((x17.length + 1) * 16 ≤ 140737488355328) then rec (IntKind.i64.wrap (x15 + 1)) (x17 ++ ([r20 ++ r19] : List ByteArray))
   else none)
  else none)
  else none)
 else k x17
noncomputable def l2 (x10 x11 x12 : Int) (x13 : List Int) (x14 : Int) (x16 : List (List Cl)) (x18 : List ByteArray) (k : List ByteArray → O) : Nat → Int → List ByteArray → O
 | 0, _, _ => none
 | n + 1, x15, x17 => l2s x10 x11 x12 x13 x14 x16 x18 (l2 x10 x11 x12 x13 x14 x16 x18 k n) k x15 x17
noncomputable def o2 : Fn [.i, .i, .i, .z, .i, .l, .t, .t] St := fun x10 x11 x12 _ _ x16 x18 y4 => ⟨mkT 47 [(1, oI x10), (5, one (.ow 3056)), (8, one (.ow 11248)), (13, one (.ow 5113)), (14, oI x11), (15, oI x12)], [(11248, ⟨[.str], .strs y4, true, 0, none⟩), (5113, ⟨e_4, .cells x16, true, 0, none⟩), (3056, ⟨[.str], .strs x18, true, 0, none⟩)], []⟩
noncomputable def n2 (K : Res → O) := ent 2 [.i, .i, .i, .z, .i, .l, .t] [.i, .t] [0, 1, 2, 3, 4, 6, 8, 5, 7] (fun x10 x11 x12 x13 x14 x16 x18 x15 x17 => ⟨mkT 47 [(1, oI x10), (5, one (.ow 3056)), (8, one (.ow 11248)), (13, one (.ow 5113)), (14, oI x11), (15, oI x12), (20, one (.tr 1 2 [.int .i64] (.ints x13))), (21, oI x14), (22, oI x15)], [(5113, ⟨e_4, .cells x16, true, 0, none⟩), (11248, ⟨[.str], .strs x17, true, 0, none⟩), (3056, ⟨[.str], .strs x18, true, 0, none⟩)], []⟩) fun x10 x11 x12 x13 x14 x16 x18 k => l2 x10 x11 x12 x13 x14 x16 x18 (fun y4 => k (o2 x10 x11 x12 x13 x14 x16 x18 y4))
noncomputable def l0s (x5 x6 : Int) (x8 : List (List Cl)) (rec : Int → List ByteArray → O) (k : List ByteArray → O) (x7 : Int) (x9 : List ByteArray) : O :=
 bif decide (x7 < x6) then (bif decide (0 ≤ x7) && decide (x7 < (x8.length : Int)) then (l2 x5 x6 x7 (((x8.getD x7.toNat []).getD 1 (.i 0)).toL) ((((x8.getD x7.toNat []).getD 1 (.i 0)).toL).length : Int) x8 x9 (fun y21 =>
  strings_Join.g y21 (⟨#[32]⟩ : ByteArray) fun r22 =>
  bif decide ((x9.length + 1) * 16 ≤ 140737488355328) then rec (IntKind.i64.wrap (x7 + 1)) (x9 ++ ([r22] : List ByteArray))
  else none) fuel 0 ([] : List ByteArray))
  else none)
 else k x9
noncomputable def l0 (x5 x6 : Int) (x8 : List (List Cl)) (k : List ByteArray → O) : Nat → Int → List ByteArray → O
 | 0, _, _ => none
 | n + 1, x7, x9 => l0s x5 x6 x8 (l0 x5 x6 x8 k n) k x7 x9
noncomputable def o0 : Fn [.i, .i, .l, .t] St := fun _ _ _ y1 => ⟨mkT 47 [(5, one (.ow 3056))], [(3056, ⟨[.str], .strs y1, true, 0, none⟩)], []⟩
noncomputable def n0 (K : Res → O) := ent 0 [.i, .i, .l] [.i, .t] [0, 1, 3, 2, 4] (fun x5 x6 x8 x7 x9 => ⟨mkT 47 [(1, oI x5), (5, one (.ow 3056)), (13, one (.ow 5113)), (14, oI x6), (15, oI x7)], [(5113, ⟨e_4, .cells x8, true, 0, none⟩), (3056, ⟨[.str], .strs x9, true, 0, none⟩)], []⟩) fun x5 x6 x8 k => l0 x5 x6 x8 (fun y1 => k (o0 x5 x6 x8 y1))
noncomputable def X (K : Res → O) : Ctx := { cx0 [impl_Rows.con, impl_ShowNum.con, strings_Repeat.con, strings_Join.con] fi true K with own := [(5, 0, 0, [.str]), (1, 0, 0, [.str])], cin := [(2, ⟨[1, 5, 8, 13, 14, 15, 20, 21, 22], [(5113, 5113), (11248, 11248), (21624, 11248), (3056, 3056)], [], [], [], []⟩), (0, ⟨[1, 5, 13, 14, 15], [(5113, 5113), (3056, 3056), (25640, 3056)], [], [], [], []⟩)], cout := [(2, ⟨[1, 5, 8, 13, 14, 15], [(11248, 11248), (5113, 5113), (3056, 3056)], [], [], [], []⟩), (0, ⟨[5], [(3056, 3056)], [], [], [], []⟩)], lp := lpOf [n2 K, n0 K] }
noncomputable def b (a1 a2 : List Int) (a3 : Int) (R : ByteArray → O) : O :=
 impl_Rows.g a1 a2 fun r4 =>
 l0 a3 (r4.length : Int) r4 (fun y23 =>
 strings_Join.g y23 (⟨#[10]⟩ : ByteArray) fun r24 =>
 R r24) fuel 0 ([] : List ByteArray)
noncomputable def g := seal_ b
theorem e : g = b := seal_eq b
noncomputable def a : Fn [.z, .z, .i] St := fun a1 a2 a3 => argSt [.v ⟨true, [.tr 0 1 [.int .i64] (.ints a1), .tr 0 1 [.int .i64] (.ints a2)]⟩, oI a3] [] []
noncomputable def con := conOf 61 [.z, .z, .i] [.s] a g m
theorem hx (K : Res → O) : CtxOk Pg Γ0 byt0 eqs0 (X K) [impl_Rows.con, impl_ShowNum.con, strings_Repeat.con, strings_Join.con] := ctx_of (X := X) (.cons impl_Rows.ok (.cons impl_ShowNum.ok (.cons strings_Repeat.ok (.cons strings_Join.ok .nil)))) (by kernel_rfl) K
theorem w2 (K : Res → O) : LpSound Pg (X K) 2 b2 := lp_fin (L := [n2 K, n0 K]) laid (hx K) .nil (.cons (ent_ok (fun x10 x11 x12 x13 x14 x16 x18 k r => l2s x10 x11 x12 x13 x14 x16 x18 r (fun y4 => k (o2 x10 x11 x12 x13 x14 x16 x18 y4))) (by kernel_rfl) (by kernel_rfl) (by kernel_rfl) (by kernel_rfl) (by kernel_rfl)) (.skip rfl .nil)) (by kernel_rfl) (by kernel_rfl)
theorem w0 (K : Res → O) : LpSound Pg (X K) 0 b0 := lp_fin (L := [n2 K, n0 K]) laid (hx K) (.cons (w2 K) .nil) (.skip rfl (.cons (ent_ok (fun x5 x6 x8 k r => l0s x5 x6 x8 r (fun y1 => k (o0 x5 x6 x8 y1))) (by kernel_rfl) (by kernel_rfl) (by kernel_rfl) (by kernel_rfl) (by kernel_rfl)) .nil)) (by kernel_rfl) (by kernel_rfl)
theorem ok : Con Pg con := con_fin (fn := Tryz.f61) (c := c) (Fi := fi) (X := X) laid hx (fun K => (.cons (w0 K) (.cons (w2 K) .nil))) e (by kernel_rfl) (by kernel_rfl) (by kernel_rfl) (by kernel_rfl)
end impl_lines
namespace impl_Show
noncomputable def c : Code := bodyOf Tryz.f30
noncomputable def fi : Fin := ⟨Γ0, [(.tmp 2, 9)], [[1]], [], [], []⟩
noncomputable def m : Fn [.z, .z] (Fn [.s] Res) := fun _ _ r1 => ⟨[⟨false, [.str r1]⟩], [], [], [], []⟩
noncomputable def b1 : Code := codeAt c [1, 1, 1, 0, 1, 0, 1, 1, 1, 0, 1, 0, 1, 0, 0]
noncomputable def l1s (x7 x8 : Int) (x10 : List (List Cl)) (rec : Int → List ByteArray → O) (k : List ByteArray → O) (x9 : Int) (x11 : List ByteArray) : O :=
 bif decide (x9 < x8) then (bif decide (0 ≤ x9) && decide (x9 < (x10.length : Int)) then (impl_lines.g (((x10.getD x9.toNat []).getD 0 (.i 0)).toL) (((x10.getD x9.toNat []).getD 1 (.i 0)).toL) x7 fun r12 =>
  bif decide ((x11.length + 1) * 16 ≤ 140737488355328) then rec (IntKind.i64.wrap (x9 + 1)) (x11 ++ ([r12] : List ByteArray))
  else none)
  else none)
 else k x11
noncomputable def l1 (x7 x8 : Int) (x10 : List (List Cl)) (k : List ByteArray → O) : Nat → Int → List ByteArray → O
 | 0, _, _ => none
 | n + 1, x9, x11 => l1s x7 x8 x10 (l1 x7 x8 x10 k n) k x9 x11
noncomputable def o1 : Fn [.i, .i, .l, .t] St := fun _ _ _ y1 => ⟨mkT 42 [(4, one (.ow 17392))], [(17392, ⟨[.str], .strs y1, true, 0, none⟩)], []⟩
noncomputable def n1 (K : Res → O) := ent 1 [.i, .i, .l] [.i, .t] [0, 1, 3, 2, 4] (fun x7 x8 x10 x9 x11 => ⟨mkT 42 [(3, oI x7), (4, one (.ow 17392)), (24, one (.ow 19449)), (25, oI x8), (26, oI x9)], [(19449, ⟨e_4, .cells x10, true, 0, none⟩), (17392, ⟨[.str], .strs x11, true, 0, none⟩)], []⟩) fun x7 x8 x10 k => l1 x7 x8 x10 (fun y1 => k (o1 x7 x8 x10 y1))
noncomputable def X (K : Res → O) : Ctx := { cx0 [impl_ArrayOk.con, impl_ShowWide.con, impl_lines.con, impl_Rows.con, strings_Join.con, impl_ShowRow.con] fi true K with own := [(8, 0, 0, [.str])], cin := [(1, ⟨[3, 4, 24, 25, 26], [(19449, 19449), (17392, 17392), (25656, 17392)], [], [], [], []⟩)], cout := [(1, ⟨[4], [(17392, 17392)], [], [], [], []⟩)], lp := lpOf [n1 K] }
noncomputable def b (a1 a2 : List Int) (R : ByteArray → O) : O :=
 impl_ArrayOk.g a1 a2 fun r3 =>
 bif !r3 then R (⟨#[]⟩ : ByteArray)
 else (impl_ShowWide.g a2 fun r4 =>
 bif ((a1.length : Int) == 2) then (impl_lines.g a1 a2 r4 fun r5 =>
  R r5)
 else bif ((a1.length : Int) == 3) then (impl_Rows.g a1 a2 fun r6 =>
  l1 r4 (r6.length : Int) r6 (fun y13 =>
  strings_Join.g y13 (⟨#[10, 10]⟩ : ByteArray) fun r14 =>
  R r14) fuel 0 ([] : List ByteArray))
 else (impl_ShowRow.g a2 fun r15 =>
 R r15))
noncomputable def g := seal_ b
theorem e : g = b := seal_eq b
noncomputable def a : Fn [.z, .z] St := fun a1 a2 => argSt [.v ⟨true, [.tr 0 1 [.int .i64] (.ints a1), .tr 0 1 [.int .i64] (.ints a2)]⟩] [] []
noncomputable def con := conOf 30 [.z, .z] [.s] a g m
theorem hx (K : Res → O) : CtxOk Pg Γ0 byt0 eqs0 (X K) [impl_ArrayOk.con, impl_ShowWide.con, impl_lines.con, impl_Rows.con, strings_Join.con, impl_ShowRow.con] := ctx_of (X := X) (.cons impl_ArrayOk.ok (.cons impl_ShowWide.ok (.cons impl_lines.ok (.cons impl_Rows.ok (.cons strings_Join.ok (.cons impl_ShowRow.ok .nil)))))) (by kernel_rfl) K
theorem w1 (K : Res → O) : LpSound Pg (X K) 1 b1 := lp_fin (L := [n1 K]) laid (hx K) .nil (.cons (ent_ok (fun x7 x8 x10 k r => l1s x7 x8 x10 r (fun y1 => k (o1 x7 x8 x10 y1))) (by kernel_rfl) (by kernel_rfl) (by kernel_rfl) (by kernel_rfl) (by kernel_rfl)) .nil) (by kernel_rfl) (by kernel_rfl)
theorem ok : Con Pg con := con_fin (fn := Tryz.f30) (c := c) (Fi := fi) (X := X) laid hx (fun K => (.cons (w1 K) .nil)) e (by kernel_rfl) (by kernel_rfl) (by kernel_rfl) (by kernel_rfl)
end impl_Show
namespace impl_TypeLine
noncomputable def c : Code := bodyOf Tryz.f12
noncomputable def fi : Fin := ⟨Γ0, [(.tmp 4, 30), (.tmp 5, 9)], [[1], [1]], [], [], []⟩
noncomputable def m : Fn [.l, .s] (Fn [.l, .s] Res) := fun _ _ r1 r2 => ⟨[⟨false, [.ow 1000]⟩, ⟨false, [.str r2]⟩], [], [⟨e_0, .cells r1, true, 0, none⟩], [], []⟩
noncomputable def X (K : Res → O) : Ctx := cx0 [impl_VarsOk.con, impl_copyVars.con, strings_Trim.con, impl_LineCode.con, impl_CodeText.con, impl_Run.con, impl_Show.con] fi true K
noncomputable def b (a1 : List (List Cl)) (a2 : ByteArray) (R : List (List Cl) → ByteArray → O) : O :=
 impl_VarsOk.g a1 fun r3 =>
 bif !r3 then (impl_copyVars.g a1 fun r4 =>
  R r4 (⟨#[98, 97, 100]⟩ : ByteArray))
 else (strings_Trim.g a2 (⟨#[32]⟩ : ByteArray) fun r5 =>
 bif (r5.toList == (⟨#[]⟩ : ByteArray).toList) then (impl_copyVars.g a1 fun r6 =>
  R r6 (⟨#[]⟩ : ByteArray))
 else (impl_LineCode.g a2 fun r7 r8 =>
 bif (r8 != 0) then (impl_copyVars.g a1 fun r9 =>
  impl_CodeText.g r8 fun r10 =>
  R r9 r10)
 else (impl_Run.g r7 a1 100 fun r11 r12 r13 r14 r15 =>
 bif (r14 != 0) then (impl_copyVars.g a1 fun r16 =>
  impl_CodeText.g r14 fun r17 =>
  R r16 r17)
 else bif decide (0 ≤ IntKind.i64.wrap ((r7.length : Int) - 1)) && decide (IntKind.i64.wrap ((r7.length : Int) - 1) < (r7.length : Int)) then (bif (((r7.getD ((IntKind.i64.wrap ((r7.length : Int) - 1)).toNat) []).getD 0 (.i 0)).toI == 3) then R r13 (⟨#[]⟩ : ByteArray)
  else (impl_Show.g r11 r12 fun r18 =>
  R r13 r18))
 else none)))
noncomputable def g := seal_ b
theorem e : g = b := seal_eq b
noncomputable def a : Fn [.l, .s] St := fun a1 a2 => argSt [one (.tr 0 1 e_0 (.cells a1)), one (.str a2)] [] []
noncomputable def con := conOf 12 [.l, .s] [.l, .s] a g m
theorem ok : Con Pg con := con_fin (fn := Tryz.f12) (c := c) (Fi := fi) (X := X) laid (ctx_of (.cons impl_VarsOk.ok (.cons impl_copyVars.ok (.cons strings_Trim.ok (.cons impl_LineCode.ok (.cons impl_CodeText.ok (.cons impl_Run.ok (.cons impl_Show.ok .nil))))))) (by kernel_rfl)) (fun K => .nil) e (by kernel_rfl) (by kernel_rfl) (by kernel_rfl) (by kernel_rfl)
end impl_TypeLine
namespace laws_sameInts
noncomputable def c : Code := bodyOf Tryz.f63
noncomputable def fi : Fin := ⟨Γ0, [(.tmp 4, 4)], [[1]], [], [], []⟩
noncomputable def m : Fn [.z, .z] (Fn [.b] Res) := fun _ _ r1 => ⟨[⟨false, [.bool r1]⟩], [], [], [], []⟩
noncomputable def b0 : Code := codeAt c [1, 1, 0, 1, 0, 0]
noncomputable def l0s (x3 x4 : List Int) (rec : Int → O) (k : O) (R : Bool → O) (x5 : Int) : O :=
 bif decide (x5 < (x3.length : Int)) then (bif decide (0 ≤ x5) && decide (x5 < (x3.length : Int)) then (bif decide (0 ≤ x5) && decide (x5 < (x4.length : Int)) then (bif (x3.getD x5.toNat 0 != x4.getD x5.toNat 0) then R false
  else rec (IntKind.i64.wrap (x5 + 1)))
  else none)
  else none)
 else k
noncomputable def l0 (x3 x4 : List Int) (k : O) (R : Bool → O) : Nat → Int → O
 | 0, _ => none
 | n + 1, x5 => l0s x3 x4 (l0 x3 x4 k R n) k R x5
noncomputable def o0 : Fn [.z, .z] St := fun _ _ => ⟨mkT 26 [], [], []⟩
noncomputable def n0 (K : Res → O) := ent 0 [.z, .z] [.i] [0, 1, 2] (fun x3 x4 x5 => ⟨mkT 26 [(0, one (.tr 0 1 [.int .i64] (.ints x3))), (1, one (.tr 0 1 [.int .i64] (.ints x4))), (5, oI x5)], [], []⟩) fun x3 x4 k => l0 x3 x4 (k (o0 x3 x4)) (fun r1 => K (m [] [] r1))
noncomputable def X (K : Res → O) : Ctx := { cx0 [] fi true K with cin := [(0, ⟨[0, 1, 5], [], [], [], [], []⟩)], cout := [(0, ⟨[], [], [], [], [], []⟩)], lp := lpOf [n0 K] }
noncomputable def b (a1 a2 : List Int) (R : Bool → O) : O :=
 bif ((a1.length : Int) != (a2.length : Int)) then R false
 else (l0 a1 a2 (
 R true) R fuel 0)
noncomputable def g := seal_ b
theorem e : g = b := seal_eq b
noncomputable def a : Fn [.z, .z] St := fun a1 a2 => argSt [one (.tr 0 1 [.int .i64] (.ints a1)), one (.tr 0 1 [.int .i64] (.ints a2))] [] []
noncomputable def con := conOf 63 [.z, .z] [.b] a g m
theorem hx (K : Res → O) : CtxOk Pg Γ0 byt0 eqs0 (X K) [] := ctx_of (X := X) .nil (by kernel_rfl) K
theorem w0 (K : Res → O) : LpSound Pg (X K) 0 b0 := lp_fin (L := [n0 K]) laid (hx K) .nil (.cons (ent_ok (fun x3 x4 k r => l0s x3 x4 r (k (o0 x3 x4)) (fun r1 => K (m [] [] r1))) (by kernel_rfl) (by kernel_rfl) (by kernel_rfl) (by kernel_rfl) (by kernel_rfl)) .nil) (by kernel_rfl) (by kernel_rfl)
theorem ok : Con Pg con := con_fin (fn := Tryz.f63) (c := c) (Fi := fi) (X := X) laid hx (fun K => (.cons (w0 K) .nil)) e (by kernel_rfl) (by kernel_rfl) (by kernel_rfl) (by kernel_rfl)
end laws_sameInts
namespace laws_sameArray
noncomputable def c : Code := bodyOf Tryz.f31
noncomputable def fi : Fin := ⟨Γ0, [(.tmp 4, 4)], [[1]], [], [], []⟩
noncomputable def m : Fn [.z, .z, .z, .z] (Fn [.b] Res) := fun _ _ _ _ r1 => ⟨[⟨false, [.bool r1]⟩], [], [], [], []⟩
noncomputable def X (K : Res → O) : Ctx := cx0 [laws_sameInts.con] fi true K
noncomputable def b (a1 a2 a3 a4 : List Int) (R : Bool → O) : O :=
 laws_sameInts.g a1 a3 fun r5 =>
 bif r5 then (laws_sameInts.g a2 a4 fun r6 =>
  R r6)
 else R false
noncomputable def g := seal_ b
theorem e : g = b := seal_eq b
noncomputable def a : Fn [.z, .z, .z, .z] St := fun a1 a2 a3 a4 => argSt [.v ⟨true, [.tr 0 1 [.int .i64] (.ints a1), .tr 0 1 [.int .i64] (.ints a2)]⟩, .v ⟨true, [.tr 0 1 [.int .i64] (.ints a3), .tr 0 1 [.int .i64] (.ints a4)]⟩] [] []
noncomputable def con := conOf 31 [.z, .z, .z, .z] [.b] a g m
theorem ok : Con Pg con := con_fin (fn := Tryz.f31) (c := c) (Fi := fi) (X := X) laid (ctx_of (.cons laws_sameInts.ok .nil) (by kernel_rfl)) (fun K => .nil) e (by kernel_rfl) (by kernel_rfl) (by kernel_rfl) (by kernel_rfl)
end laws_sameArray
namespace laws_sameVars
noncomputable def c : Code := bodyOf Tryz.f14
noncomputable def fi : Fin := ⟨Γ0, [(.tmp 4, 4)], [[1]], [], [], []⟩
noncomputable def m : Fn [.l, .l] (Fn [.b] Res) := fun _ _ r1 => ⟨[⟨false, [.bool r1]⟩], [], [], [], []⟩
noncomputable def b0 : Code := codeAt c [1, 1, 0, 1, 0, 0]
noncomputable def l0s (x3 x4 : List (List Cl)) (rec : Int → O) (k : O) (R : Bool → O) (x5 : Int) : O :=
 bif decide (x5 < (x3.length : Int)) then (bif decide (0 ≤ x5) && decide (x5 < (x3.length : Int)) then (bif decide (0 ≤ x5) && decide (x5 < (x4.length : Int)) then (bif ((((x3.getD x5.toNat []).getD 0 (.i 0)).toB) != (((x4.getD x5.toNat []).getD 0 (.i 0)).toB)) then R false
  else bif decide (0 ≤ x5) && decide (x5 < (x3.length : Int)) then (bif decide (0 ≤ x5) && decide (x5 < (x4.length : Int)) then (laws_sameArray.g (((x3.getD x5.toNat []).getD 1 (.i 0)).toL) (((x3.getD x5.toNat []).getD 2 (.i 0)).toL) (((x4.getD x5.toNat []).getD 1 (.i 0)).toL) (((x4.getD x5.toNat []).getD 2 (.i 0)).toL) fun r6 =>
   bif !r6 then R false
   else rec (IntKind.i64.wrap (x5 + 1)))
   else none)
  else none)
  else none)
  else none)
 else k
noncomputable def l0 (x3 x4 : List (List Cl)) (k : O) (R : Bool → O) : Nat → Int → O
 | 0, _ => none
 | n + 1, x5 => l0s x3 x4 (l0 x3 x4 k R n) k R x5
noncomputable def o0 : Fn [.l, .l] St := fun _ _ => ⟨mkT 42 [], [], []⟩
noncomputable def n0 (K : Res → O) := ent 0 [.l, .l] [.i] [0, 1, 2] (fun x3 x4 x5 => ⟨mkT 42 [(0, one (.tr 0 1 e_0 (.cells x3))), (1, one (.tr 0 1 e_0 (.cells x4))), (5, oI x5)], [], []⟩) fun x3 x4 k => l0 x3 x4 (k (o0 x3 x4)) (fun r1 => K (m [] [] r1))
noncomputable def X (K : Res → O) : Ctx := { cx0 [laws_sameArray.con] fi true K with cin := [(0, ⟨[0, 1, 5], [], [], [], [], []⟩)], cout := [(0, ⟨[], [], [], [], [], []⟩)], lp := lpOf [n0 K] }
noncomputable def b (a1 a2 : List (List Cl)) (R : Bool → O) : O :=
 bif ((a1.length : Int) != (a2.length : Int)) then R false
 else (l0 a1 a2 (
 R true) R fuel 0)
noncomputable def g := seal_ b
theorem e : g = b := seal_eq b
noncomputable def a : Fn [.l, .l] St := fun a1 a2 => argSt [one (.tr 0 1 e_0 (.cells a1)), one (.tr 0 1 e_0 (.cells a2))] [] []
noncomputable def con := conOf 14 [.l, .l] [.b] a g m
theorem hx (K : Res → O) : CtxOk Pg Γ0 byt0 eqs0 (X K) [laws_sameArray.con] := ctx_of (X := X) (.cons laws_sameArray.ok .nil) (by kernel_rfl) K
theorem w0 (K : Res → O) : LpSound Pg (X K) 0 b0 := lp_fin (L := [n0 K]) laid (hx K) .nil (.cons (ent_ok (fun x3 x4 k r => l0s x3 x4 r (k (o0 x3 x4)) (fun r1 => K (m [] [] r1))) (by kernel_rfl) (by kernel_rfl) (by kernel_rfl) (by kernel_rfl) (by kernel_rfl)) .nil) (by kernel_rfl) (by kernel_rfl)
theorem ok : Con Pg con := con_fin (fn := Tryz.f14) (c := c) (Fi := fi) (X := X) laid hx (fun K => (.cons (w0 K) .nil)) e (by kernel_rfl) (by kernel_rfl) (by kernel_rfl) (by kernel_rfl)
end laws_sameVars
namespace laws_FnShown
noncomputable def c : Code := bodyOf Tryz.f3
noncomputable def fi : Fin := ⟨Γ0, [(.tmp 2, 4)], [[1]], [], [], []⟩
noncomputable def m : Fn [.z] (Fn [.b] Res) := fun _ r1 => ⟨[⟨false, [.bool r1]⟩], [], [], [], []⟩
noncomputable def b0 : Code := codeAt c [1, 1, 1, 1, 1, 1, 0, 1, 0, 0]
noncomputable def b2 : Code := codeAt c [1, 1, 1, 1, 1, 1, 1, 0, 1, 0, 0]
noncomputable def l0s (x8 : ByteArray) (x9 : Int) (x11 : List Int) (rec : Int → O) (k : O) (R : Bool → O) (x10 : Int) : O :=
 bif decide (x10 < (x11.length : Int)) then (bif decide (0 ≤ x10) && decide (x10 < (x11.length : Int)) then (spec_NumOk.g (x11.getD x10.toNat 0) fun r12 =>
  bif !r12 then (bif (x8.toList == (⟨#[]⟩ : ByteArray).toList) then R (x9 == (-1))
   else R false)
  else rec (IntKind.i64.wrap (x10 + 1)))
  else none)
 else k
noncomputable def l0 (x8 : ByteArray) (x9 : Int) (x11 : List Int) (k : O) (R : Bool → O) : Nat → Int → O
 | 0, _ => none
 | n + 1, x10 => l0s x8 x9 x11 (l0 x8 x9 x11 k R n) k R x10
noncomputable def o0 : Fn [.s, .i, .z] St := fun x8 x9 x11 => ⟨mkT 83 [(3, one (.ow 7161)), (4, one (.str x8)), (5, oI x9)], [(7161, ⟨[.int .i64], .ints x11, true, 0, none⟩)], []⟩
noncomputable def n0 (K : Res → O) := ent 0 [.s, .i, .z] [.i] [0, 1, 3, 2] (fun x8 x9 x11 x10 => ⟨mkT 83 [(3, one (.ow 7161)), (4, one (.str x8)), (5, oI x9), (6, oI x10)], [(7161, ⟨[.int .i64], .ints x11, true, 0, none⟩)], []⟩) fun x8 x9 x11 k => l0 x8 x9 x11 (k (o0 x8 x9 x11)) (fun r1 => K (m [] r1))
noncomputable def l2s (x13 : ByteArray) (x14 : Int) (x16 : List Int) (rec : Int → O) (k : O) (R : Bool → O) (x15 : Int) : O :=
 bif decide (x15 < (x16.length : Int)) then (bif decide (0 ≤ x15) && decide (x15 < (x16.length : Int)) then (impl_ShowNum.g (x16.getD x15.toNat 0) fun r17 =>
  bif decide (x14 < (r17.size : Int)) then R false
  else rec (IntKind.i64.wrap (x15 + 1)))
  else none)
 else k
noncomputable def l2 (x13 : ByteArray) (x14 : Int) (x16 : List Int) (k : O) (R : Bool → O) : Nat → Int → O
 | 0, _ => none
 | n + 1, x15 => l2s x13 x14 x16 (l2 x13 x14 x16 k R n) k R x15
noncomputable def o2 : Fn [.s, .i, .z] St := fun x13 x14 x16 => ⟨mkT 83 [(3, one (.ow 7161)), (4, one (.str x13)), (5, oI x14)], [(7161, ⟨[.int .i64], .ints x16, true, 0, none⟩)], []⟩
noncomputable def n2 (K : Res → O) := ent 2 [.s, .i, .z] [.i] [0, 1, 3, 2] (fun x13 x14 x16 x15 => ⟨mkT 83 [(3, one (.ow 7161)), (4, one (.str x13)), (5, oI x14), (7, oI x15)], [(7161, ⟨[.int .i64], .ints x16, true, 0, none⟩)], []⟩) fun x13 x14 x16 k => l2 x13 x14 x16 (k (o2 x13 x14 x16)) (fun r1 => K (m [] r1))
noncomputable def X (K : Res → O) : Ctx := { cx0 [laws_big.con, spec_DrawShowRow.con, impl_ShowRow.con, impl_ShowWide.con, spec_ShowRow.con, spec_ShowWide.con, spec_NumOk.con, impl_ShowNum.con, impl_VarsNew.con, impl_TypeLine.con, laws_sameVars.con] fi true K with io := [(5, [⟨false, 2, 1⟩])], cin := [(0, ⟨[3, 4, 5, 6], [(7161, 7161)], [], [], [], []⟩), (2, ⟨[3, 4, 5, 7], [(7161, 7161)], [], [], [], []⟩)], cout := [(0, ⟨[3, 4, 5], [(7161, 7161)], [], [], [], []⟩), (2, ⟨[3, 4, 5], [(7161, 7161)], [], [], [], []⟩)], lp := lpOf [n0 K, n2 K] }
noncomputable def b (a1 : List Int) (R : Bool → O) : O :=
 laws_big.g a1 fun r2 =>
 bif r2 then R true
 else (spec_DrawShowRow.g a1 fun r3 =>
 impl_ShowRow.g r3 fun r4 =>
 impl_ShowWide.g r3 fun r5 =>
 spec_ShowRow.g r3 fun r6 =>
 bif !(r4.toList == r6.toList) then R false
 else (spec_ShowWide.g r3 fun r7 =>
 bif (r5 != r7) then R false
 else (l0 r4 r5 r3 (
 l2 r4 r5 r3 (
 bif ((r3.length : Int) == 0) then (bif (r4.toList == (⟨#[]⟩ : ByteArray).toList) then R (r5 == 0)
  else R false)
 else (impl_VarsNew.g fun r18 =>
 impl_TypeLine.g r18 r4 fun r19 r20 =>
 bif (r20.toList == r4.toList) then (impl_VarsNew.g fun r21 =>
  laws_sameVars.g r19 r21 fun r22 =>
  R r22)
 else R false)) R fuel 0) R fuel 0)))
noncomputable def g := seal_ b
theorem e : g = b := seal_eq b
noncomputable def a : Fn [.z] St := fun a1 => argSt [one (.tr 2 2 [.int .u8] (.ints a1))] [] []
noncomputable def con := conOf 3 [.z] [.b] a g m
theorem hx (K : Res → O) : CtxOk Pg Γ0 byt0 eqs0 (X K) [laws_big.con, spec_DrawShowRow.con, impl_ShowRow.con, impl_ShowWide.con, spec_ShowRow.con, spec_ShowWide.con, spec_NumOk.con, impl_ShowNum.con, impl_VarsNew.con, impl_TypeLine.con, laws_sameVars.con] := ctx_of (X := X) (.cons laws_big.ok (.cons spec_DrawShowRow.ok (.cons impl_ShowRow.ok (.cons impl_ShowWide.ok (.cons spec_ShowRow.ok (.cons spec_ShowWide.ok (.cons spec_NumOk.ok (.cons impl_ShowNum.ok (.cons impl_VarsNew.ok (.cons impl_TypeLine.ok (.cons laws_sameVars.ok .nil))))))))))) (by kernel_rfl) K
theorem w2 (K : Res → O) : LpSound Pg (X K) 2 b2 := lp_fin (L := [n0 K, n2 K]) laid (hx K) .nil (.skip rfl (.cons (ent_ok (fun x13 x14 x16 k r => l2s x13 x14 x16 r (k (o2 x13 x14 x16)) (fun r1 => K (m [] r1))) (by kernel_rfl) (by kernel_rfl) (by kernel_rfl) (by kernel_rfl) (by kernel_rfl)) .nil)) (by kernel_rfl) (by kernel_rfl)
theorem w0 (K : Res → O) : LpSound Pg (X K) 0 b0 := lp_fin (L := [n0 K, n2 K]) laid (hx K) .nil (.cons (ent_ok (fun x8 x9 x11 k r => l0s x8 x9 x11 r (k (o0 x8 x9 x11)) (fun r1 => K (m [] r1))) (by kernel_rfl) (by kernel_rfl) (by kernel_rfl) (by kernel_rfl) (by kernel_rfl)) (.skip rfl .nil)) (by kernel_rfl) (by kernel_rfl)
theorem ok : Con Pg con := con_fin (fn := Tryz.f3) (c := c) (Fi := fi) (X := X) laid hx (fun K => (.cons (w0 K) (.cons (w2 K) .nil))) e (by kernel_rfl) (by kernel_rfl) (by kernel_rfl) (by kernel_rfl)
end laws_FnShown
end Go.Tv.F
