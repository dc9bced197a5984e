/- The law's functions, printed by a program of ours, each with its contract. They hold without condition. -/
import Derived.Test.YtafjnlpfnjoebaaGreatProg
import Derived.Test.YtafjnlpfnjoebaaGreatTvC
set_option linter.unusedVariables false
set_option linter.unusedSectionVars false
set_option linter.unusedSimpArgs false
set_option linter.unnecessarySimpa false
set_option maxRecDepth 100000
set_option autoImplicit false
namespace Go.Tv.F
open Go Go.Tv
open Go.Proofs
noncomputable abbrev Pg := Go.Proofs.Tryz.prog
instance envI : Env := envT [3, 5, 11]
noncomputable abbrev e_0 : List Ct := [.int .i64, .int .i64]
noncomputable abbrev e_1 : List Ct := [.int .i64, .int .i64, .int .i64, .int .i64, .int .i64, .int .i64, .ints .i64]
noncomputable abbrev e_2 : List Ct := [.int .i64, .int .i64, .int .i64, .int .i64, .int .i64, .ints .i64]
noncomputable abbrev e_3 : List Ct := [.bool, .ints .i64, .ints .i64]
noncomputable abbrev e_4 : List Ct := [.ints .i64, .ints .i64]
noncomputable def Γ0 : List (Nat × TI) := [(2, ⟨false, [.int .i64], []⟩),
 (3, ⟨false, [.int .i64], []⟩),
 (4, ⟨false, [.bool], []⟩),
 (5, ⟨false, [.int .u8], []⟩),
 (6, ⟨false, [.int .u8], []⟩),
 (9, ⟨false, [.str], []⟩),
 (10, ⟨false, [.str], []⟩),
 (11, ⟨false, [.str], []⟩),
 (12, ⟨false, [.int .u64], []⟩),
 (21, ⟨false, [.int .i32], []⟩),
 (22, ⟨false, [.sl [.int .u8] 1], []⟩),
 (24, ⟨false, [.sl e_2 64], []⟩),
 (26, ⟨true, [.int .i64, .int .i64], [(0, 1, false), (1, 1, false)]⟩),
 (27, ⟨false, [.sl e_3 56], []⟩),
 (30, ⟨false, [.sl [.int .i64] 8], []⟩),
 (32, ⟨true, [.sl [.int .i64] 8, .sl [.int .i64] 8], [(0, 1, false), (1, 1, false)]⟩),
 (38, ⟨false, [.ptr], []⟩),
 (41, ⟨false, [.sl e_0 16], []⟩),
 (54, ⟨false, [.sl e_4 48], []⟩),
 (56, ⟨true, [.int .i64, .sl e_4 48, .sl e_3 56, .int .i64, .int .i64], [(0, 1, false), (1, 1, false), (2, 1, false), (3, 1, false), (4, 1, false)]⟩),
 (62, ⟨true, [.sl [.int .u8] 1, .int .i64, .int .i64], [(0, 1, false), (1, 1, false), (2, 1, false)]⟩),
 (64, ⟨true, [.int .i64, .int .i64, .int .i64], [(0, 1, false), (1, 1, false), (2, 1, false)]⟩),
 (66, ⟨true, [.int .i64, .int .i64, .int .i64, .int .i64, .int .i64, .sl [.int .i64] 8], [(0, 1, false), (1, 1, false), (2, 3, true), (5, 1, false)]⟩),
 (72, ⟨false, [.sl e_1 72], []⟩),
 (74, ⟨true, [.sl e_1 72], [(0, 1, false)]⟩),
 (77, ⟨true, [.bool, .sl [.int .i64] 8, .sl [.int .i64] 8], [(0, 1, false), (1, 2, true)]⟩),
 (80, ⟨false, [.fn], []⟩),
 (81, ⟨false, [.fn], []⟩),
 (90, ⟨false, [.fn], []⟩),
 (104, ⟨true, [.int .i64, .int .i64, .int .i64, .int .i64, .int .i64, .int .i64, .sl [.int .i64] 8], [(0, 1, false), (1, 1, false), (2, 1, false), (3, 3, true), (6, 1, false)]⟩),
 (105, ⟨false, [.sl e_0 16], []⟩),
 (111, ⟨false, [.int .u64], []⟩),
 (117, ⟨false, [.fn], []⟩),
 (130, ⟨true, [.int .i64, .int .i64], [(0, 1, false), (1, 1, false)]⟩),
 (135, ⟨false, [.sl [.str] 16], []⟩),
 (138, ⟨false, [.ptr], []⟩),
 (140, ⟨true, [.sl e_0 16, .int .i64, .sl e_1 72], [(0, 1, false), (1, 1, false), (2, 1, false)]⟩),
 (183, ⟨false, [.int .u32], []⟩),
 (184, ⟨false, [.int .u8], []⟩),
 (185, ⟨false, [.int .u8], []⟩),
 (188, ⟨false, [.int .i32], []⟩),
 (189, ⟨false, [.int .i32], []⟩)]
noncomputable def byt0 : List TypeId := [22]
noncomputable def eqs0 : List TypeId := [26, 64, 130]
theorem laid : Laid Pg Γ0 byt0 eqs0 := ⟨by kernel_rfl, by kernel_rfl, by kernel_rfl, by kernel_rfl⟩
noncomputable def cx0 (os : List (FuncId × St × (List Lf → (Res → O) → O))) (fi : Fin) (nk : Bool) (K : Res → O) : Ctx := { Γ := Γ0, orc := orcOf os, lp := lpOf [], kl := Env.kl, nk := nk, eqs := eqs0, byt := byt0, fin := finK fi K }
namespace laws_big
noncomputable def c : Code := bodyOf Tryz.f4
noncomputable def fi : Fin := ⟨Γ0, [(.tmp 2, 4)], [[1]], [], [], []⟩
noncomputable def m : Fn [.z] (Fn [.b] Res) := fun _ r1 => ⟨[⟨false, [.bool r1]⟩], [], [], [], []⟩
noncomputable def X (K : Res → O) : Ctx := cx0 [] fi true K
noncomputable def b (a1 : List Int) (R : Bool → O) : O :=
 R (decide (1048576 < (a1.length : Int)))
noncomputable def g := seal_ b
theorem e : g = b := seal_eq b
noncomputable def a : Fn [.z] St := fun a1 => argSt [one (.tr 0 1 [.int .u8] (.ints a1))] [] []
noncomputable def con := conOf 4 [.z] [.b] a g m
theorem ok : Con Pg con := con_fin (fn := Tryz.f4) (c := c) (Fi := fi) (X := X) laid (ctx_of .nil (by kernel_rfl)) (fun K => .nil) e (by kernel_rfl) (by kernel_rfl) (by kernel_rfl) (by kernel_rfl)
end laws_big
namespace spec_l1New
noncomputable def c : Code := bodyOf Tryz.f10
noncomputable def fi : Fin := ⟨Γ0, [(.tmp 2, 38)], [[1]], [], [], [(2, [.sl [.int .u8] 1, .int .i64, .int .i64], [0, 1, 1])]⟩
noncomputable def m : Fn [.z] (Fn [.z, .i, .i] Res) := fun _ r1 r2 r3 => ⟨[⟨false, [.bp 1000 0]⟩], [], [], [], [[.tr 2 2 [.int .u8] (.ints r1), cI r2, cI r3]]⟩
noncomputable def b0 : Code := codeAt c [1, 1, 0, 1, 0, 0]
noncomputable def l0s (x2 : List Int) (rec : Int → Int → O) (k : Int → O) (x3 x4 : Int) : O :=
 bif decide (x4 < (x2.length : Int)) then (bif decide (x4 < 4000) then (bif decide (0 ≤ x4) && decide (x4 < (x2.length : Int)) then rec (arith.bits .and .i64 (IntKind.i64.wrap ((IntKind.i64.wrap ((IntKind.i64.wrap (x3 * 131)) + (IntKind.i64.wrap (x2.getD x4.toNat 0)))) + 7)) 1073741823) (IntKind.i64.wrap (x4 + 1))
  else none)
  else k x3)
 else k x3
noncomputable def l0 (x2 : List Int) (k : Int → O) : Nat → Int → Int → O
 | 0, _, _ => none
 | n + 1, x3, x4 => l0s x2 (l0 x2 k n) k x3 x4
noncomputable def o0 : Fn [.z, .i] St := fun x2 y2 => ⟨mkT 32 [(0, one (.tr 2 1 [.int .u8] (.ints x2))), (3, oI y2)], [], []⟩
noncomputable def n0 (K : Res → O) := ent 0 [.z] [.i, .i] [0, 1, 2] (fun x2 x3 x4 => ⟨mkT 32 [(0, one (.tr 2 1 [.int .u8] (.ints x2))), (3, oI x3), (4, oI x4)], [], []⟩) fun x2 k => l0 x2 (fun y2 => k (o0 x2 y2))
noncomputable def X (K : Res → O) : Ctx := { cx0 [] fi true K with cin := [(0, ⟨[0, 3, 4], [], [], [], [], []⟩)], cout := [(0, ⟨[0, 3], [], [], [], [], []⟩)], lp := lpOf [n0 K] }
noncomputable def b (a1 : List Int) (R : List Int → Int → Int → O) : O :=
 l0 a1 (fun y5 =>
 R a1 0 y5) fuel (IntKind.i64.wrap (18218 + (a1.length : Int))) 0
noncomputable def g := seal_ b
theorem e : g = b := seal_eq b
noncomputable def a : Fn [.z] St := fun a1 => argSt [one (.tr 2 1 [.int .u8] (.ints a1))] [] []
noncomputable def con := conOf 10 [.z] [.z, .i, .i] a g m
theorem hx (K : Res → O) : CtxOk Pg Γ0 byt0 eqs0 (X K) [] := ctx_of (X := X) .nil (by kernel_rfl) K
theorem w0 (K : Res → O) : LpSound Pg (X K) 0 b0 := lp_fin (L := [n0 K]) laid (hx K) .nil (.cons (ent_ok (fun x2 k r => l0s x2 r (fun y2 => k (o0 x2 y2))) (by kernel_rfl) (by kernel_rfl) (by kernel_rfl) (by kernel_rfl) (by kernel_rfl)) .nil) (by kernel_rfl) (by kernel_rfl)
theorem ok : Con Pg con := con_fin (fn := Tryz.f10) (c := c) (Fi := fi) (X := X) laid hx (fun K => (.cons (w0 K) .nil)) e (by kernel_rfl) (by kernel_rfl) (by kernel_rfl) (by kernel_rfl)
end spec_l1New
namespace spec_l1Byte
noncomputable def c : Code := bodyOf Tryz.f36
noncomputable def fi : Fin := ⟨Γ0, [(.tmp 2, 3)], [[1]], [], [([.sl [.int .u8] 1, .int .i64, .int .i64], [0, 1, 1])], []⟩
noncomputable def m : Fn [.z, .i, .i] (Fn [.i, .i, .i] Res) := fun a1 _ _ r1 r3 r4 => ⟨[⟨false, [cI r1]⟩], [], [], [[.tr 2 2 [.int .u8] (.ints a1), cI r3, cI r4]], []⟩
noncomputable def X (K : Res → O) : Ctx := cx0 [] fi true K
noncomputable def b (a1 : List Int) (a2 a3 : Int) (R : Int → Int → Int → O) : O :=
 bif decide (a2 < (a1.length : Int)) then (bif decide (0 ≤ a2) && decide (a2 < (a1.length : Int)) then R (arith.bits .and .i64 (IntKind.i64.wrap ((arith.bits .and .i64 (arith.bits .xor .i64 ((IntKind.i64.wrap ((IntKind.i64.wrap (a3 * 6364136223846793005)) + 1442695040888963407)).fdiv (2 ^ 33)) ((IntKind.i64.wrap ((IntKind.i64.wrap (a3 * 6364136223846793005)) + 1442695040888963407)).fdiv (2 ^ 45))) 255) + (IntKind.i64.wrap (a1.getD a2.toNat 0)))) 255) (IntKind.i64.wrap (a2 + 1)) (IntKind.i64.wrap ((IntKind.i64.wrap (a3 * 6364136223846793005)) + 1442695040888963407))
  else none)
 else R (arith.bits .and .i64 (arith.bits .xor .i64 ((IntKind.i64.wrap ((IntKind.i64.wrap (a3 * 6364136223846793005)) + 1442695040888963407)).fdiv (2 ^ 33)) ((IntKind.i64.wrap ((IntKind.i64.wrap (a3 * 6364136223846793005)) + 1442695040888963407)).fdiv (2 ^ 45))) 255) a2 (IntKind.i64.wrap ((IntKind.i64.wrap (a3 * 6364136223846793005)) + 1442695040888963407))
noncomputable def g := seal_ b
theorem e : g = b := seal_eq b
noncomputable def a : Fn [.z, .i, .i] St := fun a1 a2 a3 => argSt [one (.bp 0 0)] [] [[.tr 2 2 [.int .u8] (.ints a1), cI a2, cI a3]]
noncomputable def con := conOf 36 [.z, .i, .i] [.i, .i, .i] a g m
theorem ok : Con Pg con := con_fin (fn := Tryz.f36) (c := c) (Fi := fi) (X := X) laid (ctx_of .nil (by kernel_rfl)) (fun K => .nil) e (by kernel_rfl) (by kernel_rfl) (by kernel_rfl) (by kernel_rfl)
end spec_l1Byte
namespace spec_l1Below
noncomputable def c : Code := bodyOf Tryz.f14
noncomputable def fi : Fin := ⟨Γ0, [(.tmp 4, 3)], [[1]], [], [([.sl [.int .u8] 1, .int .i64, .int .i64], [0, 1, 1])], []⟩
noncomputable def m : Fn [.i, .z, .i, .i] (Fn [.i, .i, .i] Res) := fun _ a2 _ _ r1 r3 r4 => ⟨[⟨false, [cI r1]⟩], [], [], [[.tr 2 2 [.int .u8] (.ints a2), cI r3, cI r4]], []⟩
noncomputable def X (K : Res → O) : Ctx := cx0 [spec_l1Byte.con] fi true K
noncomputable def b (a1 : Int) (a2 : List Int) (a3 a4 : Int) (R : Int → Int → Int → O) : O :=
 bif decide (a1 ≤ 0) then R 0 a3 a4
 else bif decide (a1 ≤ 256) then (spec_l1Byte.g a2 a3 a4 fun r5 r6 r7 =>
  bif decide (a1 = 0) then none
  else R (r5.tmod a1) r6 r7)
 else (spec_l1Byte.g a2 a3 a4 fun r8 r9 r10 =>
 spec_l1Byte.g a2 r9 r10 fun r11 r12 r13 =>
 spec_l1Byte.g a2 r12 r13 fun r14 r15 r16 =>
 spec_l1Byte.g a2 r15 r16 fun r17 r18 r19 =>
 bif decide (a1 = 0) then none
 else R ((IntKind.i64.wrap ((IntKind.i64.wrap ((IntKind.i64.wrap ((IntKind.i64.wrap (r8 * 16777216)) + (IntKind.i64.wrap (r11 * 65536)))) + (IntKind.i64.wrap (r14 * 256)))) + r17)).tmod a1) r18 r19)
noncomputable def g := seal_ b
theorem e : g = b := seal_eq b
noncomputable def a : Fn [.i, .z, .i, .i] St := fun a1 a2 a3 a4 => argSt [one (.bp 0 0), oI a1] [] [[.tr 2 2 [.int .u8] (.ints a2), cI a3, cI a4]]
noncomputable def con := conOf 14 [.i, .z, .i, .i] [.i, .i, .i] a g m
theorem ok : Con Pg con := con_fin (fn := Tryz.f14) (c := c) (Fi := fi) (X := X) laid (ctx_of (.cons spec_l1Byte.ok .nil) (by kernel_rfl)) (fun K => .nil) e (by kernel_rfl) (by kernel_rfl) (by kernel_rfl) (by kernel_rfl)
end spec_l1Below
namespace spec_l1Once
noncomputable def c : Code := bodyOf Tryz.f15
noncomputable def fi : Fin := ⟨Γ0, [(.tmp 4, 4)], [[1]], [], [([.sl [.int .u8] 1, .int .i64, .int .i64], [0, 1, 1])], []⟩
noncomputable def m : Fn [.i, .z, .i, .i] (Fn [.b, .i, .i] Res) := fun _ a2 _ _ r1 r3 r4 => ⟨[⟨false, [.bool r1]⟩], [], [], [[.tr 2 2 [.int .u8] (.ints a2), cI r3, cI r4]], []⟩
noncomputable def X (K : Res → O) : Ctx := cx0 [spec_l1Below.con] fi true K
noncomputable def b (a1 : Int) (a2 : List Int) (a3 a4 : Int) (R : Bool → Int → Int → O) : O :=
 spec_l1Below.g a1 a2 a3 a4 fun r5 r6 r7 =>
 R (r5 == 0) r6 r7
noncomputable def g := seal_ b
theorem e : g = b := seal_eq b
noncomputable def a : Fn [.i, .z, .i, .i] St := fun a1 a2 a3 a4 => argSt [one (.bp 0 0), oI a1] [] [[.tr 2 2 [.int .u8] (.ints a2), cI a3, cI a4]]
noncomputable def con := conOf 15 [.i, .z, .i, .i] [.b, .i, .i] a g m
theorem ok : Con Pg con := con_fin (fn := Tryz.f15) (c := c) (Fi := fi) (X := X) laid (ctx_of (.cons spec_l1Below.ok .nil) (by kernel_rfl)) (fun K => .nil) e (by kernel_rfl) (by kernel_rfl) (by kernel_rfl) (by kernel_rfl)
end spec_l1Once
namespace spec_l1Pick
noncomputable def c : Code := bodyOf Tryz.f113
noncomputable def fi : Fin := ⟨Γ0, [(.tmp 4, 9)], [[1]], [], [([.sl [.int .u8] 1, .int .i64, .int .i64], [0, 1, 1])], []⟩
noncomputable def m : Fn [.t, .z, .i, .i] (Fn [.s, .i, .i] Res) := fun _ a2 _ _ r1 r3 r4 => ⟨[⟨false, [.str r1]⟩], [], [], [[.tr 2 2 [.int .u8] (.ints a2), cI r3, cI r4]], []⟩
noncomputable def X (K : Res → O) : Ctx := cx0 [spec_l1Below.con] fi true K
noncomputable def b (a1 : List ByteArray) (a2 : List Int) (a3 a4 : Int) (R : ByteArray → Int → Int → O) : O :=
 spec_l1Below.g (a1.length : Int) a2 a3 a4 fun r5 r6 r7 =>
 bif decide (0 ≤ r5) && decide (r5 < (a1.length : Int)) then R (a1.getD r5.toNat ByteArray.empty) r6 r7
 else none
noncomputable def g := seal_ b
theorem e : g = b := seal_eq b
noncomputable def a : Fn [.t, .z, .i, .i] St := fun a1 a2 a3 a4 => argSt [one (.bp 0 0), one (.tr 0 1 [.str] (.strs a1))] [] [[.tr 2 2 [.int .u8] (.ints a2), cI a3, cI a4]]
noncomputable def con := conOf 113 [.t, .z, .i, .i] [.s, .i, .i] a g m
theorem ok : Con Pg con := con_fin (fn := Tryz.f113) (c := c) (Fi := fi) (X := X) laid (ctx_of (.cons spec_l1Below.ok .nil) (by kernel_rfl)) (fun K => .nil) e (by kernel_rfl) (by kernel_rfl) (by kernel_rfl) (by kernel_rfl)
end spec_l1Pick
namespace spec_l1PickInt
noncomputable def c : Code := bodyOf Tryz.f66
noncomputable def fi : Fin := ⟨Γ0, [(.tmp 4, 3)], [[1]], [], [([.sl [.int .u8] 1, .int .i64, .int .i64], [0, 1, 1])], []⟩
noncomputable def m : Fn [.z, .z, .i, .i] (Fn [.i, .i, .i] Res) := fun _ a2 _ _ r1 r3 r4 => ⟨[⟨false, [cI r1]⟩], [], [], [[.tr 2 2 [.int .u8] (.ints a2), cI r3, cI r4]], []⟩
noncomputable def X (K : Res → O) : Ctx := cx0 [spec_l1Below.con] fi true K
noncomputable def b (a1 a2 : List Int) (a3 a4 : Int) (R : Int → Int → Int → O) : O :=
 spec_l1Below.g (a1.length : Int) a2 a3 a4 fun r5 r6 r7 =>
 bif decide (0 ≤ r5) && decide (r5 < (a1.length : Int)) then R (a1.getD r5.toNat 0) r6 r7
 else none
noncomputable def g := seal_ b
theorem e : g = b := seal_eq b
noncomputable def a : Fn [.z, .z, .i, .i] St := fun a1 a2 a3 a4 => argSt [one (.bp 0 0), one (.tr 0 1 [.int .i64] (.ints a1))] [] [[.tr 2 2 [.int .u8] (.ints a2), cI a3, cI a4]]
noncomputable def con := conOf 66 [.z, .z, .i, .i] [.i, .i, .i] a g m
theorem ok : Con Pg con := con_fin (fn := Tryz.f66) (c := c) (Fi := fi) (X := X) laid (ctx_of (.cons spec_l1Below.ok .nil) (by kernel_rfl)) (fun K => .nil) e (by kernel_rfl) (by kernel_rfl) (by kernel_rfl) (by kernel_rfl)
end spec_l1PickInt
namespace spec_l1DrawNum
noncomputable def c : Code := bodyOf Tryz.f67
noncomputable def fi : Fin := ⟨Γ0, [(.tmp 2, 3)], [[1]], [], [([.sl [.int .u8] 1, .int .i64, .int .i64], [0, 1, 1])], []⟩
noncomputable def m : Fn [.z, .i, .i] (Fn [.i, .i, .i] Res) := fun a1 _ _ r1 r3 r4 => ⟨[⟨false, [cI r1]⟩], [], [], [[.tr 2 2 [.int .u8] (.ints a1), cI r3, cI r4]], []⟩
noncomputable def X (K : Res → O) : Ctx := cx0 [spec_l1Once.con, spec_l1PickInt.con, spec_l1Below.con] fi true K
noncomputable def b (a1 : List Int) (a2 a3 : Int) (R : Int → Int → Int → O) : O :=
 spec_l1Once.g 12 a1 a2 a3 fun r4 r5 r6 =>
 bif r4 then (spec_l1PickInt.g ([1000000000000, (-1000000000000), 999999999999, 1000000, (-1000000), 1000001, 999999999999] : List Int) a1 r5 r6 fun r7 r8 r9 =>
  R r7 r8 r9)
 else (spec_l1Below.g 20 a1 r5 r6 fun r10 r11 r12 =>
 R (IntKind.i64.wrap (r10 - 6)) r11 r12)
noncomputable def g := seal_ b
theorem e : g = b := seal_eq b
noncomputable def a : Fn [.z, .i, .i] St := fun a1 a2 a3 => argSt [one (.bp 0 0)] [] [[.tr 2 2 [.int .u8] (.ints a1), cI a2, cI a3]]
noncomputable def con := conOf 67 [.z, .i, .i] [.i, .i, .i] a g m
theorem ok : Con Pg con := con_fin (fn := Tryz.f67) (c := c) (Fi := fi) (X := X) laid (ctx_of (.cons spec_l1Once.ok (.cons spec_l1PickInt.ok (.cons spec_l1Below.ok .nil))) (by kernel_rfl)) (fun K => .nil) e (by kernel_rfl) (by kernel_rfl) (by kernel_rfl) (by kernel_rfl)
end spec_l1DrawNum
-- GROUP spec_l8Digits
namespace spec_l8Digits
noncomputable def c : Code := bodyOf Tryz.f149
noncomputable def fi : Fin := ⟨Γ0, [(.tmp 2, 9)], [[1]], [], [], []⟩
noncomputable def m : Fn [.i] (Fn [.s] Res) := fun _ r1 => ⟨[⟨false, [.str r1]⟩], [], [], [], []⟩
noncomputable def b0 : Code := codeAt c [1, 1, 1, 1, 0, 0, 0]
noncomputable abbrev T : Type := Int → (ByteArray → O) → O
noncomputable def a : Fn [.i] St := fun a1 => argSt [oI a1] [] []
noncomputable def conz (h : T) := conOf 149 [.i] [.s] a h m
end spec_l8Digits
noncomputable abbrev Z_spec_l8Digits : Type := spec_l8Digits.T
noncomputable def Gd_spec_l8Digits (z : Z_spec_l8Digits) : Prop := Con Pg (spec_l8Digits.conz z)
namespace spec_l8Digits
noncomputable def l0s  (rec : Int → ByteArray → O) (k : ByteArray → O) (x3 : Int) (x4 : ByteArray) : O :=
 bif decide (0 < x3) then (bif decide ((strOf ([IntKind.u8.wrap (IntKind.i64.wrap (48 + (x3.tmod 10)))] : List Int)).size + x4.size ≤ 9223372036854775807) then rec (IntKind.i64.wrap (x3.tdiv 10)) ((strOf ([IntKind.u8.wrap (IntKind.i64.wrap (48 + (x3.tmod 10)))] : List Int)) ++ x4)
  else none)
 else k x4
noncomputable def l0  (k : ByteArray → O) : Nat → Int → ByteArray → O
 | 0, _, _ => none
 | n + 1, x3, x4 => l0s (l0 k n) k x3 x4
noncomputable def o0 : Fn [.s] St := fun y1 => ⟨mkT 25 [(3, one (.str y1))], [], []⟩
noncomputable def n0 (K : Res → O) := ent 0 [] [.i, .s] [0, 1] (fun x3 x4 => ⟨mkT 25 [(0, oI x3), (3, one (.str x4))], [], []⟩) fun k => l0 (fun y1 => k (o0 y1))
noncomputable def X (z : Z_spec_l8Digits) (K : Res → O) : Ctx := { cx0 [spec_l8Digits.conz z] fi true K with cin := [(0, ⟨[0, 3], [], [], [], [], []⟩)], cout := [(0, ⟨[3], [], [], [], [], []⟩)], lp := lpOf [n0 K] }
noncomputable def g (z : Z_spec_l8Digits) (a1 : Int) (R : ByteArray → O) : O :=
 bif decide (a1 < 0) then (z (IntKind.i64.wrap (0 - a1)) fun r2 =>
  bif decide (1 + r2.size ≤ 9223372036854775807) then R ((⟨#[95]⟩ : ByteArray) ++ r2)
  else none)
 else bif (a1 == 0) then R (⟨#[48]⟩ : ByteArray)
 else (l0 (fun y5 =>
 R y5) fuel a1 (⟨#[]⟩ : ByteArray))
theorem hx (z : Z_spec_l8Digits) (hz : Gd_spec_l8Digits z) (K : Res → O) : CtxOk Pg Γ0 byt0 eqs0 ((X z) K) [spec_l8Digits.conz z] := ctx_of (X := (X z)) (.cons hz .nil) (by kernel_rfl) K
theorem w0 (z : Z_spec_l8Digits) (hz : Gd_spec_l8Digits z) (K : Res → O) : LpSound Pg ((X z) K) 0 b0 := lp_fin (L := [n0 K]) laid ((hx z hz) K) .nil (.cons (ent_ok (fun k r => l0s r (fun y1 => k (o0 y1))) (by kernel_rfl) (by kernel_rfl) (by kernel_rfl) (by kernel_rfl) (by kernel_rfl)) .nil) (by kernel_rfl) (by kernel_rfl)
theorem ok (z : Z_spec_l8Digits) (hz : Gd_spec_l8Digits z) : Con Pg (conz (g z)) := con_fin (fn := Tryz.f149) (c := c) (Fi := fi) (X := (X z)) laid (hx z hz) (fun K => (.cons ((w0 z hz) K) .nil)) rfl (by kernel_rfl) (by kernel_rfl) (by kernel_rfl) (by kernel_rfl)
end spec_l8Digits
noncomputable def rec_spec_l8Digits : Nat → Z_spec_l8Digits
 | 0 => (fun _ _ => none)
 | n + 1 => spec_l8Digits.g (rec_spec_l8Digits n)
theorem good_spec_l8Digits : ∀ n, Gd_spec_l8Digits (rec_spec_l8Digits n)
 | 0 => con_cst rfl
 | n + 1 => spec_l8Digits.ok _ (good_spec_l8Digits n)
namespace spec_l8Digits
noncomputable def gn (n : Nat) (a1 : Int) (R : ByteArray → O) : O := (rec_spec_l8Digits n) a1 R
noncomputable def G : T := seal_ (gn fuel)
theorem Ge : G = gn fuel := seal_eq _
theorem gn_succ (n : Nat) (a1 : Int) (R : ByteArray → O) : gn (n + 1) a1 R = g (rec_spec_l8Digits n) a1 R := rfl
noncomputable def con := conz G
theorem okG : Con Pg con := by
 unfold con; rw [Ge]; exact (good_spec_l8Digits fuel)
end spec_l8Digits
-- END GROUP
namespace spec_l8DrawFun
noncomputable def c : Code := bodyOf Tryz.f114
noncomputable def fi : Fin := ⟨Γ0, [(.tmp 4, 9)], [[1]], [], [([.sl [.int .u8] 1, .int .i64, .int .i64], [0, 1, 1])], []⟩
noncomputable def m : Fn [.b, .z, .i, .i] (Fn [.s, .i, .i] Res) := fun _ a2 _ _ r1 r3 r4 => ⟨[⟨false, [.str r1]⟩], [], [], [[.tr 2 2 [.int .u8] (.ints a2), cI r3, cI r4]], []⟩
noncomputable def X (K : Res → O) : Ctx := cx0 [spec_l1Pick.con, spec_l1Once.con] fi true K
noncomputable def b (a1 : Bool) (a2 : List Int) (a3 a4 : Int) (R : ByteArray → Int → Int → O) : O :=
 spec_l1Pick.g ([(⟨#[43]⟩ : ByteArray), (⟨#[45]⟩ : ByteArray), (⟨#[42]⟩ : ByteArray), (⟨#[37]⟩ : ByteArray), (⟨#[124]⟩ : ByteArray), (⟨#[38]⟩ : ByteArray), (⟨#[94]⟩ : ByteArray), (⟨#[61]⟩ : ByteArray), (⟨#[60]⟩ : ByteArray), (⟨#[62]⟩ : ByteArray)] : List ByteArray) a2 a3 a4 fun r5 r6 r7 =>
 bif a1 then (spec_l1Once.g 6 a2 r6 r7 fun r8 r9 r10 =>
  bif r8 then (bif decide (2 + r5.size ≤ 9223372036854775807) then R ((⟨#[111, 32]⟩ : ByteArray) ++ r5) r9 r10
   else none)
  else bif a1 then (spec_l1Once.g 7 a2 r9 r10 fun r11 r12 r13 =>
   bif r11 then (bif decide (r5.size + 3 ≤ 9223372036854775807) then (spec_l1Pick.g ([(⟨#[43]⟩ : ByteArray), (⟨#[45]⟩ : ByteArray), (⟨#[42]⟩ : ByteArray), (⟨#[38]⟩ : ByteArray), (⟨#[94]⟩ : ByteArray), (⟨#[61]⟩ : ByteArray)] : List ByteArray) a2 r12 r13 fun r14 r15 r16 =>
    bif decide ((r5 ++ (⟨#[32, 46, 32]⟩ : ByteArray)).size + r14.size ≤ 9223372036854775807) then R ((r5 ++ (⟨#[32, 46, 32]⟩ : ByteArray)) ++ r14) r15 r16
    else none)
    else none)
   else bif a1 then (spec_l1Once.g 2 a2 r12 r13 fun r17 r18 r19 =>
    bif r17 then R r5 r18 r19
    else bif a1 then (spec_l1Pick.g ([(⟨#[35]⟩ : ByteArray), (⟨#[44]⟩ : ByteArray), (⟨#[116]⟩ : ByteArray), (⟨#[100]⟩ : ByteArray), (⟨#[114]⟩ : ByteArray), (⟨#[64]⟩ : ByteArray), (⟨#[63]⟩ : ByteArray), (⟨#[36]⟩ : ByteArray), (⟨#[101]⟩ : ByteArray)] : List ByteArray) a2 r18 r19 fun r20 r21 r22 =>
     R r20 r21 r22)
    else (spec_l1Once.g 4 a2 r18 r19 fun r23 r24 r25 =>
    bif r23 then (bif decide (r5.size + 1 ≤ 9223372036854775807) then (spec_l1Pick.g ([(⟨#[47]⟩ : ByteArray), (⟨#[92]⟩ : ByteArray)] : List ByteArray) a2 r24 r25 fun r26 r27 r28 =>
     bif decide ((r5 ++ (⟨#[32]⟩ : ByteArray)).size + r26.size ≤ 9223372036854775807) then R ((r5 ++ (⟨#[32]⟩ : ByteArray)) ++ r26) r27 r28
     else none)
     else none)
    else (spec_l1Pick.g ([(⟨#[105]⟩ : ByteArray), (⟨#[35]⟩ : ByteArray), (⟨#[44]⟩ : ByteArray), (⟨#[114]⟩ : ByteArray), (⟨#[122]⟩ : ByteArray), (⟨#[103]⟩ : ByteArray), (⟨#[43]⟩ : ByteArray), (⟨#[45]⟩ : ByteArray), (⟨#[42]⟩ : ByteArray), (⟨#[124]⟩ : ByteArray), (⟨#[126]⟩ : ByteArray)] : List ByteArray) a2 r24 r25 fun r29 r30 r31 =>
    R r29 r30 r31)))
   else bif a1 then (spec_l1Pick.g ([(⟨#[35]⟩ : ByteArray), (⟨#[44]⟩ : ByteArray), (⟨#[116]⟩ : ByteArray), (⟨#[100]⟩ : ByteArray), (⟨#[114]⟩ : ByteArray), (⟨#[64]⟩ : ByteArray), (⟨#[63]⟩ : ByteArray), (⟨#[36]⟩ : ByteArray), (⟨#[101]⟩ : ByteArray)] : List ByteArray) a2 r12 r13 fun r32 r33 r34 =>
    R r32 r33 r34)
   else (spec_l1Once.g 4 a2 r12 r13 fun r35 r36 r37 =>
   bif r35 then (bif decide (r5.size + 1 ≤ 9223372036854775807) then (spec_l1Pick.g ([(⟨#[47]⟩ : ByteArray), (⟨#[92]⟩ : ByteArray)] : List ByteArray) a2 r36 r37 fun r38 r39 r40 =>
    bif decide ((r5 ++ (⟨#[32]⟩ : ByteArray)).size + r38.size ≤ 9223372036854775807) then R ((r5 ++ (⟨#[32]⟩ : ByteArray)) ++ r38) r39 r40
    else none)
    else none)
   else (spec_l1Pick.g ([(⟨#[105]⟩ : ByteArray), (⟨#[35]⟩ : ByteArray), (⟨#[44]⟩ : ByteArray), (⟨#[114]⟩ : ByteArray), (⟨#[122]⟩ : ByteArray), (⟨#[103]⟩ : ByteArray), (⟨#[43]⟩ : ByteArray), (⟨#[45]⟩ : ByteArray), (⟨#[42]⟩ : ByteArray), (⟨#[124]⟩ : ByteArray), (⟨#[126]⟩ : ByteArray)] : List ByteArray) a2 r36 r37 fun r41 r42 r43 =>
   R r41 r42 r43)))
  else bif a1 then (spec_l1Once.g 2 a2 r9 r10 fun r44 r45 r46 =>
   bif r44 then R r5 r45 r46
   else bif a1 then (spec_l1Pick.g ([(⟨#[35]⟩ : ByteArray), (⟨#[44]⟩ : ByteArray), (⟨#[116]⟩ : ByteArray), (⟨#[100]⟩ : ByteArray), (⟨#[114]⟩ : ByteArray), (⟨#[64]⟩ : ByteArray), (⟨#[63]⟩ : ByteArray), (⟨#[36]⟩ : ByteArray), (⟨#[101]⟩ : ByteArray)] : List ByteArray) a2 r45 r46 fun r47 r48 r49 =>
    R r47 r48 r49)
   else (spec_l1Once.g 4 a2 r45 r46 fun r50 r51 r52 =>
   bif r50 then (bif decide (r5.size + 1 ≤ 9223372036854775807) then (spec_l1Pick.g ([(⟨#[47]⟩ : ByteArray), (⟨#[92]⟩ : ByteArray)] : List ByteArray) a2 r51 r52 fun r53 r54 r55 =>
    bif decide ((r5 ++ (⟨#[32]⟩ : ByteArray)).size + r53.size ≤ 9223372036854775807) then R ((r5 ++ (⟨#[32]⟩ : ByteArray)) ++ r53) r54 r55
    else none)
    else none)
   else (spec_l1Pick.g ([(⟨#[105]⟩ : ByteArray), (⟨#[35]⟩ : ByteArray), (⟨#[44]⟩ : ByteArray), (⟨#[114]⟩ : ByteArray), (⟨#[122]⟩ : ByteArray), (⟨#[103]⟩ : ByteArray), (⟨#[43]⟩ : ByteArray), (⟨#[45]⟩ : ByteArray), (⟨#[42]⟩ : ByteArray), (⟨#[124]⟩ : ByteArray), (⟨#[126]⟩ : ByteArray)] : List ByteArray) a2 r51 r52 fun r56 r57 r58 =>
   R r56 r57 r58)))
  else bif a1 then (spec_l1Pick.g ([(⟨#[35]⟩ : ByteArray), (⟨#[44]⟩ : ByteArray), (⟨#[116]⟩ : ByteArray), (⟨#[100]⟩ : ByteArray), (⟨#[114]⟩ : ByteArray), (⟨#[64]⟩ : ByteArray), (⟨#[63]⟩ : ByteArray), (⟨#[36]⟩ : ByteArray), (⟨#[101]⟩ : ByteArray)] : List ByteArray) a2 r9 r10 fun r59 r60 r61 =>
   R r59 r60 r61)
  else (spec_l1Once.g 4 a2 r9 r10 fun r62 r63 r64 =>
  bif r62 then (bif decide (r5.size + 1 ≤ 9223372036854775807) then (spec_l1Pick.g ([(⟨#[47]⟩ : ByteArray), (⟨#[92]⟩ : ByteArray)] : List ByteArray) a2 r63 r64 fun r65 r66 r67 =>
   bif decide ((r5 ++ (⟨#[32]⟩ : ByteArray)).size + r65.size ≤ 9223372036854775807) then R ((r5 ++ (⟨#[32]⟩ : ByteArray)) ++ r65) r66 r67
   else none)
   else none)
  else (spec_l1Pick.g ([(⟨#[105]⟩ : ByteArray), (⟨#[35]⟩ : ByteArray), (⟨#[44]⟩ : ByteArray), (⟨#[114]⟩ : ByteArray), (⟨#[122]⟩ : ByteArray), (⟨#[103]⟩ : ByteArray), (⟨#[43]⟩ : ByteArray), (⟨#[45]⟩ : ByteArray), (⟨#[42]⟩ : ByteArray), (⟨#[124]⟩ : ByteArray), (⟨#[126]⟩ : ByteArray)] : List ByteArray) a2 r63 r64 fun r68 r69 r70 =>
  R r68 r69 r70)))
 else bif a1 then (spec_l1Once.g 7 a2 r6 r7 fun r71 r72 r73 =>
  bif r71 then (bif decide (r5.size + 3 ≤ 9223372036854775807) then (spec_l1Pick.g ([(⟨#[43]⟩ : ByteArray), (⟨#[45]⟩ : ByteArray), (⟨#[42]⟩ : ByteArray), (⟨#[38]⟩ : ByteArray), (⟨#[94]⟩ : ByteArray), (⟨#[61]⟩ : ByteArray)] : List ByteArray) a2 r72 r73 fun r74 r75 r76 =>
   bif decide ((r5 ++ (⟨#[32, 46, 32]⟩ : ByteArray)).size + r74.size ≤ 9223372036854775807) then R ((r5 ++ (⟨#[32, 46, 32]⟩ : ByteArray)) ++ r74) r75 r76
   else none)
   else none)
  else bif a1 then (spec_l1Once.g 2 a2 r72 r73 fun r77 r78 r79 =>
   bif r77 then R r5 r78 r79
   else bif a1 then (spec_l1Pick.g ([(⟨#[35]⟩ : ByteArray), (⟨#[44]⟩ : ByteArray), (⟨#[116]⟩ : ByteArray), (⟨#[100]⟩ : ByteArray), (⟨#[114]⟩ : ByteArray), (⟨#[64]⟩ : ByteArray), (⟨#[63]⟩ : ByteArray), (⟨#[36]⟩ : ByteArray), (⟨#[101]⟩ : ByteArray)] : List ByteArray) a2 r78 r79 fun r80 r81 r82 =>
    R r80 r81 r82)
   else (spec_l1Once.g 4 a2 r78 r79 fun r83 r84 r85 =>
   bif r83 then (bif decide (r5.size + 1 ≤ 9223372036854775807) then (spec_l1Pick.g ([(⟨#[47]⟩ : ByteArray), (⟨#[92]⟩ : ByteArray)] : List ByteArray) a2 r84 r85 fun r86 r87 r88 =>
    bif decide ((r5 ++ (⟨#[32]⟩ : ByteArray)).size + r86.size ≤ 9223372036854775807) then R ((r5 ++ (⟨#[32]⟩ : ByteArray)) ++ r86) r87 r88
    else none)
    else none)
   else (spec_l1Pick.g ([(⟨#[105]⟩ : ByteArray), (⟨#[35]⟩ : ByteArray), (⟨#[44]⟩ : ByteArray), (⟨#[114]⟩ : ByteArray), (⟨#[122]⟩ : ByteArray), (⟨#[103]⟩ : ByteArray), (⟨#[43]⟩ : ByteArray), (⟨#[45]⟩ : ByteArray), (⟨#[42]⟩ : ByteArray), (⟨#[124]⟩ : ByteArray), (⟨#[126]⟩ : ByteArray)] : List ByteArray) a2 r84 r85 fun r89 r90 r91 =>
   R r89 r90 r91)))
  else bif a1 then (spec_l1Pick.g ([(⟨#[35]⟩ : ByteArray), (⟨#[44]⟩ : ByteArray), (⟨#[116]⟩ : ByteArray), (⟨#[100]⟩ : ByteArray), (⟨#[114]⟩ : ByteArray), (⟨#[64]⟩ : ByteArray), (⟨#[63]⟩ : ByteArray), (⟨#[36]⟩ : ByteArray), (⟨#[101]⟩ : ByteArray)] : List ByteArray) a2 r72 r73 fun r92 r93 r94 =>
   R r92 r93 r94)
  else (spec_l1Once.g 4 a2 r72 r73 fun r95 r96 r97 =>
  bif r95 then (bif decide (r5.size + 1 ≤ 9223372036854775807) then (spec_l1Pick.g ([(⟨#[47]⟩ : ByteArray), (⟨#[92]⟩ : ByteArray)] : List ByteArray) a2 r96 r97 fun r98 r99 r100 =>
   bif decide ((r5 ++ (⟨#[32]⟩ : ByteArray)).size + r98.size ≤ 9223372036854775807) then R ((r5 ++ (⟨#[32]⟩ : ByteArray)) ++ r98) r99 r100
   else none)
   else none)
  else (spec_l1Pick.g ([(⟨#[105]⟩ : ByteArray), (⟨#[35]⟩ : ByteArray), (⟨#[44]⟩ : ByteArray), (⟨#[114]⟩ : ByteArray), (⟨#[122]⟩ : ByteArray), (⟨#[103]⟩ : ByteArray), (⟨#[43]⟩ : ByteArray), (⟨#[45]⟩ : ByteArray), (⟨#[42]⟩ : ByteArray), (⟨#[124]⟩ : ByteArray), (⟨#[126]⟩ : ByteArray)] : List ByteArray) a2 r96 r97 fun r101 r102 r103 =>
  R r101 r102 r103)))
 else bif a1 then (spec_l1Once.g 2 a2 r6 r7 fun r104 r105 r106 =>
  bif r104 then R r5 r105 r106
  else bif a1 then (spec_l1Pick.g ([(⟨#[35]⟩ : ByteArray), (⟨#[44]⟩ : ByteArray), (⟨#[116]⟩ : ByteArray), (⟨#[100]⟩ : ByteArray), (⟨#[114]⟩ : ByteArray), (⟨#[64]⟩ : ByteArray), (⟨#[63]⟩ : ByteArray), (⟨#[36]⟩ : ByteArray), (⟨#[101]⟩ : ByteArray)] : List ByteArray) a2 r105 r106 fun r107 r108 r109 =>
   R r107 r108 r109)
  else (spec_l1Once.g 4 a2 r105 r106 fun r110 r111 r112 =>
  bif r110 then (bif decide (r5.size + 1 ≤ 9223372036854775807) then (spec_l1Pick.g ([(⟨#[47]⟩ : ByteArray), (⟨#[92]⟩ : ByteArray)] : List ByteArray) a2 r111 r112 fun r113 r114 r115 =>
   bif decide ((r5 ++ (⟨#[32]⟩ : ByteArray)).size + r113.size ≤ 9223372036854775807) then R ((r5 ++ (⟨#[32]⟩ : ByteArray)) ++ r113) r114 r115
   else none)
   else none)
  else (spec_l1Pick.g ([(⟨#[105]⟩ : ByteArray), (⟨#[35]⟩ : ByteArray), (⟨#[44]⟩ : ByteArray), (⟨#[114]⟩ : ByteArray), (⟨#[122]⟩ : ByteArray), (⟨#[103]⟩ : ByteArray), (⟨#[43]⟩ : ByteArray), (⟨#[45]⟩ : ByteArray), (⟨#[42]⟩ : ByteArray), (⟨#[124]⟩ : ByteArray), (⟨#[126]⟩ : ByteArray)] : List ByteArray) a2 r111 r112 fun r116 r117 r118 =>
  R r116 r117 r118)))
 else bif a1 then (spec_l1Pick.g ([(⟨#[35]⟩ : ByteArray), (⟨#[44]⟩ : ByteArray), (⟨#[116]⟩ : ByteArray), (⟨#[100]⟩ : ByteArray), (⟨#[114]⟩ : ByteArray), (⟨#[64]⟩ : ByteArray), (⟨#[63]⟩ : ByteArray), (⟨#[36]⟩ : ByteArray), (⟨#[101]⟩ : ByteArray)] : List ByteArray) a2 r6 r7 fun r119 r120 r121 =>
  R r119 r120 r121)
 else (spec_l1Once.g 4 a2 r6 r7 fun r122 r123 r124 =>
 bif r122 then (bif decide (r5.size + 1 ≤ 9223372036854775807) then (spec_l1Pick.g ([(⟨#[47]⟩ : ByteArray), (⟨#[92]⟩ : ByteArray)] : List ByteArray) a2 r123 r124 fun r125 r126 r127 =>
  bif decide ((r5 ++ (⟨#[32]⟩ : ByteArray)).size + r125.size ≤ 9223372036854775807) then R ((r5 ++ (⟨#[32]⟩ : ByteArray)) ++ r125) r126 r127
  else none)
  else none)
 else (spec_l1Pick.g ([(⟨#[105]⟩ : ByteArray), (⟨#[35]⟩ : ByteArray), (⟨#[44]⟩ : ByteArray), (⟨#[114]⟩ : ByteArray), (⟨#[122]⟩ : ByteArray), (⟨#[103]⟩ : ByteArray), (⟨#[43]⟩ : ByteArray), (⟨#[45]⟩ : ByteArray), (⟨#[42]⟩ : ByteArray), (⟨#[124]⟩ : ByteArray), (⟨#[126]⟩ : ByteArray)] : List ByteArray) a2 r123 r124 fun r128 r129 r130 =>
 R r128 r129 r130))
noncomputable def g := seal_ b
theorem e : g = b := seal_eq b
noncomputable def a : Fn [.b, .z, .i, .i] St := fun a1 a2 a3 a4 => argSt [one (.bp 0 0), one (.bool a1)] [] [[.tr 2 2 [.int .u8] (.ints a2), cI a3, cI a4]]
noncomputable def con := conOf 114 [.b, .z, .i, .i] [.s, .i, .i] a g m
theorem ok : Con Pg con := con_fin (fn := Tryz.f114) (c := c) (Fi := fi) (X := X) laid (ctx_of (.cons spec_l1Pick.ok (.cons spec_l1Once.ok .nil)) (by kernel_rfl)) (fun K => .nil) e (by kernel_rfl) (by kernel_rfl) (by kernel_rfl) (by kernel_rfl)
end spec_l8DrawFun
-- GROUP spec_l8DrawOperand spec_l8DrawLine
namespace spec_l8DrawOperand
noncomputable def c : Code := bodyOf Tryz.f112
noncomputable def fi : Fin := ⟨Γ0, [(.tmp 4, 9)], [[1]], [], [([.sl [.int .u8] 1, .int .i64, .int .i64], [0, 1, 1])], []⟩
noncomputable def m : Fn [.i, .z, .i, .i] (Fn [.s, .z, .i, .i] Res) := fun _ _ _ _ r1 r2 r3 r4 => ⟨[⟨false, [.str r1]⟩], [], [], [[.tr 2 2 [.int .u8] (.ints r2), cI r3, cI r4]], []⟩
noncomputable def b0 : Code := codeAt c [1, 1, 1, 1, 0, 1, 0, 0]
noncomputable abbrev T : Type := Int → List Int → Int → Int → (ByteArray → List Int → Int → Int → O) → O
noncomputable def a : Fn [.i, .z, .i, .i] St := fun a1 a2 a3 a4 => argSt [one (.bp 0 0), oI a1] [] [[.tr 2 2 [.int .u8] (.ints a2), cI a3, cI a4]]
noncomputable def conz (h : T) := conOf 112 [.i, .z, .i, .i] [.s, .z, .i, .i] a h m
end spec_l8DrawOperand
namespace spec_l8DrawLine
noncomputable def c : Code := bodyOf Tryz.f72
noncomputable def fi : Fin := ⟨Γ0, [(.tmp 4, 9)], [[1]], [], [([.sl [.int .u8] 1, .int .i64, .int .i64], [0, 1, 1])], []⟩
noncomputable def m : Fn [.i, .z, .i, .i] (Fn [.s, .z, .i, .i] Res) := fun _ _ _ _ r1 r2 r3 r4 => ⟨[⟨false, [.str r1]⟩], [], [], [[.tr 2 2 [.int .u8] (.ints r2), cI r3, cI r4]], []⟩
noncomputable abbrev T : Type := Int → List Int → Int → Int → (ByteArray → List Int → Int → Int → O) → O
noncomputable def a : Fn [.i, .z, .i, .i] St := fun a1 a2 a3 a4 => argSt [one (.bp 0 0), oI a1] [] [[.tr 2 2 [.int .u8] (.ints a2), cI a3, cI a4]]
noncomputable def conz (h : T) := conOf 72 [.i, .z, .i, .i] [.s, .z, .i, .i] a h m
end spec_l8DrawLine
noncomputable abbrev Z_spec_l8DrawOperand : Type := spec_l8DrawOperand.T × spec_l8DrawLine.T
noncomputable def Gd_spec_l8DrawOperand (z : Z_spec_l8DrawOperand) : Prop := Con Pg (spec_l8DrawOperand.conz z.1) ∧ Con Pg (spec_l8DrawLine.conz z.2)
namespace spec_l8DrawOperand
noncomputable def l0s (x24 : List Int) (rec : ByteArray → Int → Int → Int → O) (k : ByteArray → Int → Int → O) (x22 : ByteArray) (x23 x25 x26 : Int) : O :=
 spec_l1Below.g 4 x24 x25 x26 fun r27 r28 r29 =>
 bif decide (x23 < r27) then (bif decide (x22.size + 1 ≤ 9223372036854775807) then (spec_l1Below.g 9 x24 r28 r29 fun r30 r31 r32 =>
  spec_l8Digits.G (IntKind.i64.wrap (r30 - 2)) fun r33 =>
  bif decide ((x22 ++ (⟨#[32]⟩ : ByteArray)).size + r33.size ≤ 9223372036854775807) then rec ((x22 ++ (⟨#[32]⟩ : ByteArray)) ++ r33) (IntKind.i64.wrap (x23 + 1)) r31 r32
  else none)
  else none)
 else k x22 r28 r29
noncomputable def l0 (x24 : List Int) (k : ByteArray → Int → Int → O) : Nat → ByteArray → Int → Int → Int → O
 | 0, _, _, _, _ => none
 | n + 1, x22, x23, x25, x26 => l0s x24 (l0 x24 k n) k x22 x23 x25 x26
noncomputable def o0 : Fn [.z, .s, .i, .i] St := fun x24 y1 y3 y4 => ⟨mkT 46 [(0, one (.bp 0 0)), (5, one (.str y1))], [], [(0, [.tr 2 2 [.int .u8] (.ints x24), cI y3, cI y4])]⟩
noncomputable def n0 (K : Res → O) := ent 0 [.z] [.s, .i, .i, .i] [2, 0, 1, 3, 4] (fun x24 x22 x23 x25 x26 => ⟨mkT 46 [(0, one (.bp 0 0)), (5, one (.str x22)), (6, oI x23)], [], [(0, [.tr 2 2 [.int .u8] (.ints x24), cI x25, cI x26])]⟩) fun x24 k => l0 x24 (fun y1 y3 y4 => k (o0 x24 y1 y3 y4))
noncomputable def X (z : Z_spec_l8DrawOperand) (K : Res → O) : Ctx := { cx0 [spec_l1Once.con, spec_l8DrawLine.conz z.2, spec_l1Pick.con, spec_l1DrawNum.con, spec_l8Digits.con, spec_l1Below.con] fi true K with cin := [(0, ⟨[0, 5, 6], [], [0], [], [], []⟩)], cout := [(0, ⟨[0, 5], [], [0], [], [], []⟩)], lp := lpOf [n0 K] }
noncomputable def g (z : Z_spec_l8DrawOperand) (a1 : Int) (a2 : List Int) (a3 a4 : Int) (R : ByteArray → List Int → Int → Int → O) : O :=
 bif decide (0 < a1) then (spec_l1Once.g 4 a2 a3 a4 fun r5 r6 r7 =>
  bif r5 then (z.2 (IntKind.i64.wrap (a1 - 1)) a2 r6 r7 fun r8 r9 r10 r11 =>
   bif decide (2 + r8.size ≤ 9223372036854775807) then (bif decide (((⟨#[40, 32]⟩ : ByteArray) ++ r8).size + 2 ≤ 9223372036854775807) then R (((⟨#[40, 32]⟩ : ByteArray) ++ r8) ++ (⟨#[32, 41]⟩ : ByteArray)) r9 r10 r11
    else none)
   else none)
  else (spec_l1Once.g 3 a2 r6 r7 fun r12 r13 r14 =>
  bif r12 then (spec_l1Pick.g ([(⟨#[65]⟩ : ByteArray), (⟨#[66]⟩ : ByteArray), (⟨#[67]⟩ : ByteArray)] : List ByteArray) a2 r13 r14 fun r15 r16 r17 =>
   R r15 a2 r16 r17)
  else (spec_l1DrawNum.g a2 r13 r14 fun r18 r19 r20 =>
  spec_l8Digits.G r18 fun r21 =>
  l0 a2 (fun y34 y35 y36 =>
  spec_l1Once.g 4 a2 y35 y36 fun r37 r38 r39 =>
  bif r37 then (spec_l1Pick.g ([(⟨#[50]⟩ : ByteArray), (⟨#[51]⟩ : ByteArray), (⟨#[49]⟩ : ByteArray), (⟨#[48]⟩ : ByteArray), (⟨#[50, 32, 50]⟩ : ByteArray), (⟨#[50, 32, 51]⟩ : ByteArray)] : List ByteArray) a2 r38 r39 fun r40 r41 r42 =>
   R r40 a2 r41 r42)
  else R y34 a2 r38 r39) fuel r21 0 r19 r20)))
 else (spec_l1Once.g 3 a2 a3 a4 fun r43 r44 r45 =>
 bif r43 then (spec_l1Pick.g ([(⟨#[65]⟩ : ByteArray), (⟨#[66]⟩ : ByteArray), (⟨#[67]⟩ : ByteArray)] : List ByteArray) a2 r44 r45 fun r46 r47 r48 =>
  R r46 a2 r47 r48)
 else (spec_l1DrawNum.g a2 r44 r45 fun r49 r50 r51 =>
 spec_l8Digits.G r49 fun r52 =>
 l0 a2 (fun y53 y54 y55 =>
 spec_l1Once.g 4 a2 y54 y55 fun r56 r57 r58 =>
 bif r56 then (spec_l1Pick.g ([(⟨#[50]⟩ : ByteArray), (⟨#[51]⟩ : ByteArray), (⟨#[49]⟩ : ByteArray), (⟨#[48]⟩ : ByteArray), (⟨#[50, 32, 50]⟩ : ByteArray), (⟨#[50, 32, 51]⟩ : ByteArray)] : List ByteArray) a2 r57 r58 fun r59 r60 r61 =>
  R r59 a2 r60 r61)
 else R y53 a2 r57 r58) fuel r52 0 r50 r51))
theorem hx (z : Z_spec_l8DrawOperand) (hz : Gd_spec_l8DrawOperand z) (K : Res → O) : CtxOk Pg Γ0 byt0 eqs0 ((X z) K) [spec_l1Once.con, spec_l8DrawLine.conz z.2, spec_l1Pick.con, spec_l1DrawNum.con, spec_l8Digits.con, spec_l1Below.con] := ctx_of (X := (X z)) (.cons spec_l1Once.ok (.cons hz.2 (.cons spec_l1Pick.ok (.cons spec_l1DrawNum.ok (.cons spec_l8Digits.okG (.cons spec_l1Below.ok .nil)))))) (by kernel_rfl) K
theorem w0 (z : Z_spec_l8DrawOperand) (hz : Gd_spec_l8DrawOperand z) (K : Res → O) : LpSound Pg ((X z) K) 0 b0 := lp_fin (L := [n0 K]) laid ((hx z hz) K) .nil (.cons (ent_ok (fun x24 k r => l0s x24 r (fun y1 y3 y4 => k (o0 x24 y1 y3 y4))) (by kernel_rfl) (by kernel_rfl) (by kernel_rfl) (by kernel_rfl) (by kernel_rfl)) .nil) (by kernel_rfl) (by kernel_rfl)
theorem ok (z : Z_spec_l8DrawOperand) (hz : Gd_spec_l8DrawOperand z) : Con Pg (conz (g z)) := con_fin (fn := Tryz.f112) (c := c) (Fi := fi) (X := (X z)) laid (hx z hz) (fun K => (.cons ((w0 z hz) K) .nil)) rfl (by kernel_rfl) (by kernel_rfl) (by kernel_rfl) (by kernel_rfl)
end spec_l8DrawOperand
namespace spec_l8DrawLine
noncomputable def X (z : Z_spec_l8DrawOperand) (K : Res → O) : Ctx := cx0 [spec_l8DrawOperand.conz z.1, spec_l1Below.con, spec_l1Pick.con, spec_l8DrawLine.conz z.2, spec_l8DrawFun.con] fi true K
noncomputable def g (z : Z_spec_l8DrawOperand) (a1 : Int) (a2 : List Int) (a3 a4 : Int) (R : ByteArray → List Int → Int → Int → O) : O :=
 bif decide (a1 ≤ 0) then (z.1 0 a2 a3 a4 fun r5 r6 r7 r8 =>
  R r5 r6 r7 r8)
 else (spec_l1Below.g 8 a2 a3 a4 fun r9 r10 r11 =>
 bif (r9 == 0) then (spec_l1Pick.g ([(⟨#[65]⟩ : ByteArray), (⟨#[66]⟩ : ByteArray), (⟨#[67]⟩ : ByteArray)] : List ByteArray) a2 r10 r11 fun r12 r13 r14 =>
  bif decide (r12.size + 3 ≤ 9223372036854775807) then (z.2 (IntKind.i64.wrap (a1 - 1)) a2 r13 r14 fun r15 r16 r17 r18 =>
   bif decide ((r12 ++ (⟨#[32, 58, 32]⟩ : ByteArray)).size + r15.size ≤ 9223372036854775807) then R ((r12 ++ (⟨#[32, 58, 32]⟩ : ByteArray)) ++ r15) r16 r17 r18
   else none)
  else none)
 else bif (r9 == 1) then (spec_l8DrawFun.g false a2 r10 r11 fun r19 r20 r21 =>
  bif decide (r19.size + 1 ≤ 9223372036854775807) then (z.2 (IntKind.i64.wrap (a1 - 1)) a2 r20 r21 fun r22 r23 r24 r25 =>
   bif decide ((r19 ++ (⟨#[32]⟩ : ByteArray)).size + r22.size ≤ 9223372036854775807) then R ((r19 ++ (⟨#[32]⟩ : ByteArray)) ++ r22) r23 r24 r25
   else none)
  else none)
 else bif (r9 == 2) then (spec_l8DrawFun.g false a2 r10 r11 fun r26 r27 r28 =>
  bif decide (r26.size + 1 ≤ 9223372036854775807) then (z.2 (IntKind.i64.wrap (a1 - 1)) a2 r27 r28 fun r29 r30 r31 r32 =>
   bif decide ((r26 ++ (⟨#[32]⟩ : ByteArray)).size + r29.size ≤ 9223372036854775807) then R ((r26 ++ (⟨#[32]⟩ : ByteArray)) ++ r29) r30 r31 r32
   else none)
  else none)
 else bif (r9 == 3) then (z.1 (IntKind.i64.wrap (a1 - 1)) a2 r10 r11 fun r33 r34 r35 r36 =>
  bif decide (r33.size + 1 ≤ 9223372036854775807) then (spec_l8DrawFun.g true r34 r35 r36 fun r37 r38 r39 =>
   bif decide ((r33 ++ (⟨#[32]⟩ : ByteArray)).size + r37.size ≤ 9223372036854775807) then (bif decide (((r33 ++ (⟨#[32]⟩ : ByteArray)) ++ r37).size + 1 ≤ 9223372036854775807) then (z.2 (IntKind.i64.wrap (a1 - 1)) r34 r38 r39 fun r40 r41 r42 r43 =>
    bif decide ((((r33 ++ (⟨#[32]⟩ : ByteArray)) ++ r37) ++ (⟨#[32]⟩ : ByteArray)).size + r40.size ≤ 9223372036854775807) then R ((((r33 ++ (⟨#[32]⟩ : ByteArray)) ++ r37) ++ (⟨#[32]⟩ : ByteArray)) ++ r40) r41 r42 r43
    else none)
    else none)
   else none)
  else none)
 else bif (r9 == 4) then (z.1 (IntKind.i64.wrap (a1 - 1)) a2 r10 r11 fun r44 r45 r46 r47 =>
  bif decide (r44.size + 1 ≤ 9223372036854775807) then (spec_l8DrawFun.g true r45 r46 r47 fun r48 r49 r50 =>
   bif decide ((r44 ++ (⟨#[32]⟩ : ByteArray)).size + r48.size ≤ 9223372036854775807) then (bif decide (((r44 ++ (⟨#[32]⟩ : ByteArray)) ++ r48).size + 1 ≤ 9223372036854775807) then (z.2 (IntKind.i64.wrap (a1 - 1)) r45 r49 r50 fun r51 r52 r53 r54 =>
    bif decide ((((r44 ++ (⟨#[32]⟩ : ByteArray)) ++ r48) ++ (⟨#[32]⟩ : ByteArray)).size + r51.size ≤ 9223372036854775807) then R ((((r44 ++ (⟨#[32]⟩ : ByteArray)) ++ r48) ++ (⟨#[32]⟩ : ByteArray)) ++ r51) r52 r53 r54
    else none)
    else none)
   else none)
  else none)
 else bif (r9 == 5) then (z.1 (IntKind.i64.wrap (a1 - 1)) a2 r10 r11 fun r55 r56 r57 r58 =>
  bif decide (r55.size + 1 ≤ 9223372036854775807) then (spec_l8DrawFun.g true r56 r57 r58 fun r59 r60 r61 =>
   bif decide ((r55 ++ (⟨#[32]⟩ : ByteArray)).size + r59.size ≤ 9223372036854775807) then (bif decide (((r55 ++ (⟨#[32]⟩ : ByteArray)) ++ r59).size + 1 ≤ 9223372036854775807) then (z.2 (IntKind.i64.wrap (a1 - 1)) r56 r60 r61 fun r62 r63 r64 r65 =>
    bif decide ((((r55 ++ (⟨#[32]⟩ : ByteArray)) ++ r59) ++ (⟨#[32]⟩ : ByteArray)).size + r62.size ≤ 9223372036854775807) then R ((((r55 ++ (⟨#[32]⟩ : ByteArray)) ++ r59) ++ (⟨#[32]⟩ : ByteArray)) ++ r62) r63 r64 r65
    else none)
    else none)
   else none)
  else none)
 else bif (r9 == 6) then (spec_l1Pick.g ([(⟨#[43, 32, 47, 32, 105, 32, 53]⟩ : ByteArray), (⟨#[50, 32, 51, 32, 35, 32, 105, 32, 54]⟩ : ByteArray), (⟨#[65, 32, 58, 32, 105, 32, 52]⟩ : ByteArray), (⟨#[65, 32, 43, 32, 65, 32, 58, 32, 105, 32, 51]⟩ : ByteArray), (⟨#[40, 32, 105, 32, 51, 32, 41, 32, 111, 32, 42, 32, 105, 32, 52]⟩ : ByteArray), (⟨#[65, 32, 43, 32, 46, 32, 42, 32, 66]⟩ : ByteArray), (⟨#[66, 32, 58, 32, 50, 32, 50, 32, 35, 32, 105, 32, 52]⟩ : ByteArray), (⟨#[103, 32, 51, 32, 49, 32, 50]⟩ : ByteArray), (⟨#[43, 32, 92, 32, 105, 32, 54]⟩ : ByteArray), (⟨#[49, 32, 43, 32, 65, 32, 42, 32, 50, 32, 45, 32, 65]⟩ : ByteArray), (⟨#[126, 32, 65, 32, 61, 32, 66]⟩ : ByteArray), (⟨#[65, 32, 64, 32, 66]⟩ : ByteArray)] : List ByteArray) a2 r10 r11 fun r66 r67 r68 =>
  R r66 a2 r67 r68)
 else (z.1 (IntKind.i64.wrap (a1 - 1)) a2 r10 r11 fun r69 r70 r71 r72 =>
 R r69 r70 r71 r72))
theorem ok (z : Z_spec_l8DrawOperand) (hz : Gd_spec_l8DrawOperand z) : Con Pg (conz (g z)) := con_fin (fn := Tryz.f72) (c := c) (Fi := fi) (X := (X z)) laid (ctx_of (.cons hz.1 (.cons spec_l1Below.ok (.cons spec_l1Pick.ok (.cons hz.2 (.cons spec_l8DrawFun.ok .nil))))) (by kernel_rfl)) (fun K => .nil) rfl (by kernel_rfl) (by kernel_rfl) (by kernel_rfl) (by kernel_rfl)
end spec_l8DrawLine
noncomputable def rec_spec_l8DrawOperand : Nat → Z_spec_l8DrawOperand
 | 0 => ((fun _ _ _ _ _ => none), (fun _ _ _ _ _ => none))
 | n + 1 => (spec_l8DrawOperand.g (rec_spec_l8DrawOperand n), spec_l8DrawLine.g (rec_spec_l8DrawOperand n))
theorem good_spec_l8DrawOperand : ∀ n, Gd_spec_l8DrawOperand (rec_spec_l8DrawOperand n)
 | 0 => ⟨con_cst rfl, con_cst rfl⟩
 | n + 1 => ⟨spec_l8DrawOperand.ok _ (good_spec_l8DrawOperand n), spec_l8DrawLine.ok _ (good_spec_l8DrawOperand n)⟩
namespace spec_l8DrawOperand
noncomputable def gn (n : Nat) (a1 : Int) (a2 : List Int) (a3 a4 : Int) (R : ByteArray → List Int → Int → Int → O) : O := (rec_spec_l8DrawOperand n).1 a1 a2 a3 a4 R
noncomputable def G : T := seal_ (gn fuel)
theorem Ge : G = gn fuel := seal_eq _
theorem gn_succ (n : Nat) (a1 : Int) (a2 : List Int) (a3 a4 : Int) (R : ByteArray → List Int → Int → Int → O) : gn (n + 1) a1 a2 a3 a4 R = g (rec_spec_l8DrawOperand n) a1 a2 a3 a4 R := rfl
noncomputable def con := conz G
theorem okG : Con Pg con := by
 unfold con; rw [Ge]; exact (good_spec_l8DrawOperand fuel).1
end spec_l8DrawOperand
namespace spec_l8DrawLine
noncomputable def gn (n : Nat) (a1 : Int) (a2 : List Int) (a3 a4 : Int) (R : ByteArray → List Int → Int → Int → O) : O := (rec_spec_l8DrawOperand n).2 a1 a2 a3 a4 R
noncomputable def G : T := seal_ (gn fuel)
theorem Ge : G = gn fuel := seal_eq _
theorem gn_succ (n : Nat) (a1 : Int) (a2 : List Int) (a3 a4 : Int) (R : ByteArray → List Int → Int → Int → O) : gn (n + 1) a1 a2 a3 a4 R = g (rec_spec_l8DrawOperand n) a1 a2 a3 a4 R := rfl
noncomputable def con := conz G
theorem okG : Con Pg con := by
 unfold con; rw [Ge]; exact (good_spec_l8DrawOperand fuel).2
end spec_l8DrawLine
-- END GROUP
namespace spec_l8Digit
noncomputable def c : Code := bodyOf Tryz.f109
noncomputable def fi : Fin := ⟨Γ0, [(.tmp 4, 4)], [[1]], [], [], []⟩
noncomputable def m : Fn [.s, .i] (Fn [.b] Res) := fun _ _ r1 => ⟨[⟨false, [.bool r1]⟩], [], [], [], []⟩
noncomputable def X (K : Res → O) : Ctx := cx0 [] fi true K
noncomputable def b (a1 : ByteArray) (a2 : Int) (R : Bool → O) : O :=
 bif decide (a2 < (a1.size : Int)) then (bif decide (0 ≤ a2) && decide (a2 < (a1.size : Int)) then (bif decide (48 ≤ (bytesOf a1).getD a2.toNat 0) then (bif decide (0 ≤ a2) && decide (a2 < (a1.size : Int)) then R (decide ((bytesOf a1).getD a2.toNat 0 ≤ 57))
  else none)
  else R false)
  else none)
 else R false
noncomputable def g := seal_ b
theorem e : g = b := seal_eq b
noncomputable def a : Fn [.s, .i] St := fun a1 a2 => argSt [one (.str a1), oI a2] [] []
noncomputable def con := conOf 109 [.s, .i] [.b] a g m
theorem ok : Con Pg con := con_fin (fn := Tryz.f109) (c := c) (Fi := fi) (X := X) laid (ctx_of .nil (by kernel_rfl)) (fun K => .nil) e (by kernel_rfl) (by kernel_rfl) (by kernel_rfl) (by kernel_rfl)
end spec_l8Digit
namespace spec_l1Min
noncomputable def c : Code := bodyOf Tryz.f125
noncomputable def fi : Fin := ⟨Γ0, [(.tmp 4, 3)], [[1]], [], [], []⟩
noncomputable def m : Fn [.i, .i] (Fn [.i] Res) := fun _ _ r1 => ⟨[⟨false, [cI r1]⟩], [], [], [], []⟩
noncomputable def X (K : Res → O) : Ctx := cx0 [] fi true K
noncomputable def b (a1 a2 : Int) (R : Int → O) : O :=
 bif decide (a1 < a2) then R a1
 else R a2
noncomputable def g := seal_ b
theorem e : g = b := seal_eq b
noncomputable def a : Fn [.i, .i] St := fun a1 a2 => argSt [oI a1, oI a2] [] []
noncomputable def con := conOf 125 [.i, .i] [.i] a g m
theorem ok : Con Pg con := con_fin (fn := Tryz.f125) (c := c) (Fi := fi) (X := X) laid (ctx_of .nil (by kernel_rfl)) (fun K => .nil) e (by kernel_rfl) (by kernel_rfl) (by kernel_rfl) (by kernel_rfl)
end spec_l1Min
namespace spec_l1In
noncomputable def c : Code := bodyOf Tryz.f51
noncomputable def fi : Fin := ⟨Γ0, [(.tmp 6, 4)], [[1]], [], [], []⟩
noncomputable def m : Fn [.i, .i, .i] (Fn [.b] Res) := fun _ _ _ r1 => ⟨[⟨false, [.bool r1]⟩], [], [], [], []⟩
noncomputable def X (K : Res → O) : Ctx := cx0 [] fi true K
noncomputable def b (a1 a2 a3 : Int) (R : Bool → O) : O :=
 bif decide (a2 ≤ a1) then R (decide (a1 ≤ a3))
 else R false
noncomputable def g := seal_ b
theorem e : g = b := seal_eq b
noncomputable def a : Fn [.i, .i, .i] St := fun a1 a2 a3 => argSt [oI a1, oI a2, oI a3] [] []
noncomputable def con := conOf 51 [.i, .i, .i] [.b] a g m
theorem ok : Con Pg con := con_fin (fn := Tryz.f51) (c := c) (Fi := fi) (X := X) laid (ctx_of .nil (by kernel_rfl)) (fun K => .nil) e (by kernel_rfl) (by kernel_rfl) (by kernel_rfl) (by kernel_rfl)
end spec_l1In
namespace spec_NumOk
noncomputable def c : Code := bodyOf Tryz.f92
noncomputable def fi : Fin := ⟨Γ0, [(.tmp 2, 4)], [[1]], [], [], []⟩
noncomputable def m : Fn [.i] (Fn [.b] Res) := fun _ r1 => ⟨[⟨false, [.bool r1]⟩], [], [], [], []⟩
noncomputable def X (K : Res → O) : Ctx := cx0 [spec_l1In.con] fi true K
noncomputable def b (a1 : Int) (R : Bool → O) : O :=
 spec_l1In.g a1 (-1000000000000) 1000000000000 fun r2 =>
 R r2
noncomputable def g := seal_ b
theorem e : g = b := seal_eq b
noncomputable def a : Fn [.i] St := fun a1 => argSt [oI a1] [] []
noncomputable def con := conOf 92 [.i] [.b] a g m
theorem ok : Con Pg con := con_fin (fn := Tryz.f92) (c := c) (Fi := fi) (X := X) laid (ctx_of (.cons spec_l1In.ok .nil) (by kernel_rfl)) (fun K => .nil) e (by kernel_rfl) (by kernel_rfl) (by kernel_rfl) (by kernel_rfl)
end spec_NumOk
namespace spec_l8Num
noncomputable def c : Code := bodyOf Tryz.f110
noncomputable def fi : Fin := ⟨Γ0, [(.tmp 4, 3), (.tmp 5, 3), (.tmp 6, 3)], [[1], [1], [1]], [], [], []⟩
noncomputable def m : Fn [.s, .i] (Fn [.i, .i, .i] Res) := fun _ _ r1 r2 r3 => ⟨[⟨false, [cI r1]⟩, ⟨false, [cI r2]⟩, ⟨false, [cI r3]⟩], [], [], [], []⟩
noncomputable def b0 : Code := codeAt c [1, 1, 1, 1, 1, 0, 0, 0]
noncomputable def l0s (x4 : ByteArray) (x6 : Bool) (rec : Int → Int → O) (k : Int → Int → O) (x5 x7 : Int) : O :=
 spec_l8Digit.g x4 x5 fun r8 =>
 bif r8 then (bif decide (0 ≤ x5) && decide (x5 < (x4.size : Int)) then (spec_l1Min.g (IntKind.i64.wrap ((IntKind.i64.wrap ((IntKind.i64.wrap (10 * x7)) + (IntKind.i64.wrap ((bytesOf x4).getD x5.toNat 0)))) - 48)) 1000000000001 fun r9 =>
  rec (IntKind.i64.wrap (x5 + 1)) r9)
  else none)
 else k x5 x7
noncomputable def l0 (x4 : ByteArray) (x6 : Bool) (k : Int → Int → O) : Nat → Int → Int → O
 | 0, _, _ => none
 | n + 1, x5, x7 => l0s x4 x6 (l0 x4 x6 k n) k x5 x7
noncomputable def o0 : Fn [.s, .b, .i, .i] St := fun _ x6 y1 y3 => ⟨mkT 44 [(1, oI y1), (7, one (.bool x6)), (8, oI y3)], [], []⟩
noncomputable def n0 (K : Res → O) := ent 0 [.s, .b] [.i, .i] [0, 2, 1, 3] (fun x4 x6 x5 x7 => ⟨mkT 44 [(0, one (.str x4)), (1, oI x5), (7, one (.bool x6)), (8, oI x7)], [], []⟩) fun x4 x6 k => l0 x4 x6 (fun y1 y3 => k (o0 x4 x6 y1 y3))
noncomputable def X (K : Res → O) : Ctx := { cx0 [spec_l8Digit.con, spec_l1Min.con, spec_NumOk.con] fi true K with cin := [(0, ⟨[0, 1, 7, 8], [], [], [], [], []⟩)], cout := [(0, ⟨[1, 7, 8], [], [], [], [], []⟩)], lp := lpOf [n0 K] }
noncomputable def b (a1 : ByteArray) (a2 : Int) (R : Int → Int → Int → O) : O :=
 bif decide (0 ≤ a2) && decide (a2 < (a1.size : Int)) then (bif ((bytesOf a1).getD a2.toNat 0 == 95) then (spec_l8Digit.g a1 (IntKind.i64.wrap (a2 + 1)) fun r3 =>
  bif !r3 then R 0 (IntKind.i64.wrap (a2 + 1)) 8
  else (l0 a1 ((bytesOf a1).getD a2.toNat 0 == 95) (fun y10 y11 =>
  spec_NumOk.g y11 fun r12 =>
  bif !r12 then R 0 y10 6
  else bif ((bytesOf a1).getD a2.toNat 0 == 95) then R (IntKind.i64.wrap (0 - y11)) y10 0
  else R y11 y10 0) fuel (IntKind.i64.wrap (a2 + 1)) 0))
  else (spec_l8Digit.g a1 a2 fun r13 =>
  bif !r13 then R 0 a2 8
  else (l0 a1 ((bytesOf a1).getD a2.toNat 0 == 95) (fun y14 y15 =>
  spec_NumOk.g y15 fun r16 =>
  bif !r16 then R 0 y14 6
  else bif ((bytesOf a1).getD a2.toNat 0 == 95) then R (IntKind.i64.wrap (0 - y15)) y14 0
  else R y15 y14 0) fuel a2 0)))
 else none
noncomputable def g := seal_ b
theorem e : g = b := seal_eq b
noncomputable def a : Fn [.s, .i] St := fun a1 a2 => argSt [one (.str a1), oI a2] [] []
noncomputable def con := conOf 110 [.s, .i] [.i, .i, .i] a g m
theorem hx (K : Res → O) : CtxOk Pg Γ0 byt0 eqs0 (X K) [spec_l8Digit.con, spec_l1Min.con, spec_NumOk.con] := ctx_of (X := X) (.cons spec_l8Digit.ok (.cons spec_l1Min.ok (.cons spec_NumOk.ok .nil))) (by kernel_rfl) K
theorem w0 (K : Res → O) : LpSound Pg (X K) 0 b0 := lp_fin (L := [n0 K]) laid (hx K) .nil (.cons (ent_ok (fun x4 x6 k r => l0s x4 x6 r (fun y1 y3 => k (o0 x4 x6 y1 y3))) (by kernel_rfl) (by kernel_rfl) (by kernel_rfl) (by kernel_rfl) (by kernel_rfl)) .nil) (by kernel_rfl) (by kernel_rfl)
theorem ok : Con Pg con := con_fin (fn := Tryz.f110) (c := c) (Fi := fi) (X := X) laid hx (fun K => (.cons (w0 K) .nil)) e (by kernel_rfl) (by kernel_rfl) (by kernel_rfl) (by kernel_rfl)
end spec_l8Num
namespace spec_l8Sign
noncomputable def c : Code := bodyOf Tryz.f111
noncomputable def fi : Fin := ⟨Γ0, [(.tmp 2, 4)], [[1]], [], [], []⟩
noncomputable def m : Fn [.i] (Fn [.b] Res) := fun _ r1 => ⟨[⟨false, [.bool r1]⟩], [], [], [], []⟩
noncomputable def b0 : Code := codeAt c [1, 1, 0, 1, 0, 0]
noncomputable def l0s (x2 : Int) (x3 : ByteArray) (rec : Int → O) (k : O) (R : Bool → O) (x4 : Int) : O :=
 bif decide (x4 < (x3.size : Int)) then (bif decide (0 ≤ x4) && decide (x4 < (x3.size : Int)) then (bif (IntKind.i64.wrap ((bytesOf x3).getD x4.toNat 0) == x2) then R true
  else rec (IntKind.i64.wrap (x4 + 1)))
  else none)
 else k
noncomputable def l0 (x2 : Int) (x3 : ByteArray) (k : O) (R : Bool → O) : Nat → Int → O
 | 0, _ => none
 | n + 1, x4 => l0s x2 x3 (l0 x2 x3 k R n) k R x4
noncomputable def o0 : Fn [.i, .s] St := fun _ _ => ⟨mkT 17 [], [], []⟩
noncomputable def n0 (K : Res → O) := ent 0 [.i, .s] [.i] [0, 1, 2] (fun x2 x3 x4 => ⟨mkT 17 [(0, oI x2), (3, one (.str x3)), (4, oI x4)], [], []⟩) fun x2 x3 k => l0 x2 x3 (k (o0 x2 x3)) (fun r1 => K (m (0 : Int) r1))
noncomputable def X (K : Res → O) : Ctx := { cx0 [] fi true K with cin := [(0, ⟨[0, 3, 4], [], [], [], [], []⟩)], cout := [(0, ⟨[], [], [], [], [], []⟩)], lp := lpOf [n0 K] }
noncomputable def b (a1 : Int) (R : Bool → O) : O :=
 l0 a1 (⟨#[43, 45, 42, 37, 124, 38, 94, 61, 60, 62, 126, 105, 35, 44, 116, 100, 114, 122, 64, 63, 103, 36, 101, 47, 92, 46, 111]⟩ : ByteArray) (
 R false) R fuel 0
noncomputable def g := seal_ b
theorem e : g = b := seal_eq b
noncomputable def a : Fn [.i] St := fun a1 => argSt [oI a1] [] []
noncomputable def con := conOf 111 [.i] [.b] a g m
theorem hx (K : Res → O) : CtxOk Pg Γ0 byt0 eqs0 (X K) [] := ctx_of (X := X) .nil (by kernel_rfl) K
theorem w0 (K : Res → O) : LpSound Pg (X K) 0 b0 := lp_fin (L := [n0 K]) laid (hx K) .nil (.cons (ent_ok (fun x2 x3 k r => l0s x2 x3 r (k (o0 x2 x3)) (fun r1 => K (m (0 : Int) r1))) (by kernel_rfl) (by kernel_rfl) (by kernel_rfl) (by kernel_rfl) (by kernel_rfl)) .nil) (by kernel_rfl) (by kernel_rfl)
theorem ok : Con Pg con := con_fin (fn := Tryz.f111) (c := c) (Fi := fi) (X := X) laid hx (fun K => (.cons (w0 K) .nil)) e (by kernel_rfl) (by kernel_rfl) (by kernel_rfl) (by kernel_rfl)
end spec_l8Sign
namespace spec_Lex
noncomputable def c : Code := bodyOf Tryz.f71
noncomputable def fi : Fin := ⟨Γ0, [(.tmp 2, 105), (.tmp 3, 3), (.tmp 4, 3)], [[1], [1], [1]], [], [], []⟩
noncomputable def m : Fn [.s] (Fn [.l, .i, .i] Res) := fun _ r1 r2 r3 => ⟨[⟨false, [.ow 1000]⟩, ⟨false, [cI r2]⟩, ⟨false, [cI r3]⟩], [], [⟨e_0, .cells r1, true, 0, none⟩], [], []⟩
noncomputable def b0 : Code := codeAt c [1, 1, 1, 1, 0, 0, 0]
noncomputable def l0s (x2 : ByteArray) (rec : Int → List (List Cl) → O) (k : List (List Cl) → O) (R : List (List Cl) → Int → Int → O) (x3 : Int) (x4 : List (List Cl)) : O :=
 bif decide (x3 < (x2.size : Int)) then (bif decide (0 ≤ x3) && decide (x3 < (x2.size : Int)) then (bif (IntKind.i64.wrap ((bytesOf x2).getD x3.toNat 0) == 32) then rec (IntKind.i64.wrap (x3 + 1)) x4
  else (spec_l8Digit.g x2 x3 fun r5 =>
  bif r5 then (spec_l8Num.g x2 x3 fun r6 r7 r8 =>
   bif (r8 != 0) then R ([] : List (List Cl)) r8 x3
   else bif decide ((x4.length + 1) * 16 ≤ 140737488355328) then rec r7 (x4 ++ ([[.i 1, .i r6]] : List (List Cl)))
   else none)
  else bif (IntKind.i64.wrap ((bytesOf x2).getD x3.toNat 0) == 95) then (spec_l8Num.g x2 x3 fun r9 r10 r11 =>
   bif (r11 != 0) then R ([] : List (List Cl)) r11 x3
   else bif decide ((x4.length + 1) * 16 ≤ 140737488355328) then rec r10 (x4 ++ ([[.i 1, .i r9]] : List (List Cl)))
   else none)
  else (spec_l1In.g (IntKind.i64.wrap ((bytesOf x2).getD x3.toNat 0)) 65 90 fun r12 =>
  bif r12 then (bif decide ((x4.length + 1) * 16 ≤ 140737488355328) then rec (IntKind.i64.wrap (x3 + 1)) (x4 ++ ([[.i 2, .i (IntKind.i64.wrap ((IntKind.i64.wrap ((bytesOf x2).getD x3.toNat 0)) - 65))]] : List (List Cl)))
   else none)
  else bif (IntKind.i64.wrap ((bytesOf x2).getD x3.toNat 0) == 40) then (bif decide ((x4.length + 1) * 16 ≤ 140737488355328) then rec (IntKind.i64.wrap (x3 + 1)) (x4 ++ ([[.i 4, .i 0]] : List (List Cl)))
   else none)
  else bif (IntKind.i64.wrap ((bytesOf x2).getD x3.toNat 0) == 41) then (bif decide ((x4.length + 1) * 16 ≤ 140737488355328) then rec (IntKind.i64.wrap (x3 + 1)) (x4 ++ ([[.i 5, .i 0]] : List (List Cl)))
   else none)
  else bif (IntKind.i64.wrap ((bytesOf x2).getD x3.toNat 0) == 58) then (bif decide ((x4.length + 1) * 16 ≤ 140737488355328) then rec (IntKind.i64.wrap (x3 + 1)) (x4 ++ ([[.i 6, .i 0]] : List (List Cl)))
   else none)
  else (spec_l8Sign.g (IntKind.i64.wrap ((bytesOf x2).getD x3.toNat 0)) fun r13 =>
  bif r13 then (bif decide ((x4.length + 1) * 16 ≤ 140737488355328) then rec (IntKind.i64.wrap (x3 + 1)) (x4 ++ ([[.i 3, .i (IntKind.i64.wrap ((bytesOf x2).getD x3.toNat 0))]] : List (List Cl)))
   else none)
  else R ([] : List (List Cl)) 8 x3))))
  else none)
 else k x4
noncomputable def l0 (x2 : ByteArray) (k : List (List Cl) → O) (R : List (List Cl) → Int → Int → O) : Nat → Int → List (List Cl) → O
 | 0, _, _ => none
 | n + 1, x3, x4 => l0s x2 (l0 x2 k R n) k R x3 x4
noncomputable def o0 : Fn [.s, .l] St := fun x2 y2 => ⟨mkT 90 [(0, one (.str x2)), (5, one (.ow 3048))], [(3048, ⟨e_0, .cells y2, true, 0, none⟩)], []⟩
noncomputable def n0 (K : Res → O) := ent 0 [.s] [.i, .l] [0, 1, 2] (fun x2 x3 x4 => ⟨mkT 90 [(0, one (.str x2)), (5, one (.ow 3048)), (6, oI x3)], [(3048, ⟨e_0, .cells x4, true, 0, none⟩)], []⟩) fun x2 k => l0 x2 (fun y2 => k (o0 x2 y2)) (fun r1 r2 r3 => K (m ByteArray.empty r1 r2 r3))
noncomputable def X (K : Res → O) : Ctx := { cx0 [spec_l8Digit.con, spec_l8Num.con, spec_l1In.con, spec_l8Sign.con] fi true K with cin := [(0, ⟨[0, 5, 6], [(3048, 3048), (58392, 3048)], [], [], [], []⟩)], cout := [(0, ⟨[0, 5], [(3048, 3048)], [], [], [], []⟩)], lp := lpOf [n0 K] }
noncomputable def b (a1 : ByteArray) (R : List (List Cl) → Int → Int → O) : O :=
 bif decide (300 < (a1.size : Int)) then R ([] : List (List Cl)) 6 0
 else (l0 a1 (fun y14 =>
 R y14 0 (a1.size : Int)) R fuel 0 ([] : List (List Cl)))
noncomputable def g := seal_ b
theorem e : g = b := seal_eq b
noncomputable def a : Fn [.s] St := fun a1 => argSt [one (.str a1)] [] []
noncomputable def con := conOf 71 [.s] [.l, .i, .i] a g m
theorem hx (K : Res → O) : CtxOk Pg Γ0 byt0 eqs0 (X K) [spec_l8Digit.con, spec_l8Num.con, spec_l1In.con, spec_l8Sign.con] := ctx_of (X := X) (.cons spec_l8Digit.ok (.cons spec_l8Num.ok (.cons spec_l1In.ok (.cons spec_l8Sign.ok .nil)))) (by kernel_rfl) K
theorem w0 (K : Res → O) : LpSound Pg (X K) 0 b0 := lp_fin (L := [n0 K]) laid (hx K) .nil (.cons (ent_ok (fun x2 k r => l0s x2 r (fun y2 => k (o0 x2 y2)) (fun r1 r2 r3 => K (m ByteArray.empty r1 r2 r3))) (by kernel_rfl) (by kernel_rfl) (by kernel_rfl) (by kernel_rfl) (by kernel_rfl)) .nil) (by kernel_rfl) (by kernel_rfl)
theorem ok : Con Pg con := con_fin (fn := Tryz.f71) (c := c) (Fi := fi) (X := X) laid hx (fun K => (.cons (w0 K) .nil)) e (by kernel_rfl) (by kernel_rfl) (by kernel_rfl) (by kernel_rfl)
end spec_Lex
namespace spec_TokenOk
noncomputable def c : Code := bodyOf Tryz.f150
noncomputable def fi : Fin := ⟨Γ0, [(.tmp 2, 4)], [[1]], [], [], []⟩
noncomputable def m : Fn [.i, .i] (Fn [.b] Res) := fun _ _ r1 => ⟨[⟨false, [.bool r1]⟩], [], [], [], []⟩
noncomputable def X (K : Res → O) : Ctx := cx0 [spec_NumOk.con, spec_l1In.con, spec_l8Sign.con] fi true K
noncomputable def b (a1 a2 : Int) (R : Bool → O) : O :=
 bif (a1 == 1) then (spec_NumOk.g a2 fun r3 =>
  R r3)
 else bif (a1 == 2) then (spec_l1In.g a2 0 25 fun r4 =>
  R r4)
 else bif (a1 == 3) then (spec_l8Sign.g a2 fun r5 =>
  R r5)
 else bif (a1 == 4) then R (a2 == 0)
 else bif (a1 == 5) then R (a2 == 0)
 else bif (a1 == 6) then R (a2 == 0)
 else R false
noncomputable def g := seal_ b
theorem e : g = b := seal_eq b
noncomputable def a : Fn [.i, .i] St := fun a1 a2 => argSt [.v ⟨true, [cI a1, cI a2]⟩] [] []
noncomputable def con := conOf 150 [.i, .i] [.b] a g m
theorem ok : Con Pg con := con_fin (fn := Tryz.f150) (c := c) (Fi := fi) (X := X) laid (ctx_of (.cons spec_NumOk.ok (.cons spec_l1In.ok (.cons spec_l8Sign.ok .nil))) (by kernel_rfl)) (fun K => .nil) e (by kernel_rfl) (by kernel_rfl) (by kernel_rfl) (by kernel_rfl)
end spec_TokenOk
namespace spec_l8Tokens
noncomputable def c : Code := bodyOf Tryz.f115
noncomputable def fi : Fin := ⟨Γ0, [(.tmp 2, 4)], [[1]], [], [], []⟩
noncomputable def m : Fn [.l] (Fn [.b] Res) := fun _ r1 => ⟨[⟨false, [.bool r1]⟩], [], [], [], []⟩
noncomputable def b0 : Code := codeAt c [1, 0, 1, 0, 0]
noncomputable def l0s (x2 : List (List Cl)) (rec : Int → O) (k : O) (R : Bool → O) (x3 : Int) : O :=
 bif decide (x3 < (x2.length : Int)) then (bif decide (0 ≤ x3) && decide (x3 < (x2.length : Int)) then (spec_TokenOk.g (((x2.getD x3.toNat []).getD 0 (.i 0)).toI) (((x2.getD x3.toNat []).getD 1 (.i 0)).toI) fun r4 =>
  bif !r4 then R false
  else rec (IntKind.i64.wrap (x3 + 1)))
  else none)
 else k
noncomputable def l0 (x2 : List (List Cl)) (k : O) (R : Bool → O) : Nat → Int → O
 | 0, _ => none
 | n + 1, x3 => l0s x2 (l0 x2 k R n) k R x3
noncomputable def o0 : Fn [.l] St := fun x2 => ⟨mkT 19 [(0, one (.tr 0 1 e_0 (.cells x2)))], [], []⟩
noncomputable def n0 (K : Res → O) := ent 0 [.l] [.i] [0, 1] (fun x2 x3 => ⟨mkT 19 [(0, one (.tr 0 1 e_0 (.cells x2))), (3, oI x3)], [], []⟩) fun x2 k => l0 x2 (k (o0 x2)) (fun r1 => K (m [] r1))
noncomputable def X (K : Res → O) : Ctx := { cx0 [spec_TokenOk.con] fi true K with cin := [(0, ⟨[0, 3], [], [], [], [], []⟩)], cout := [(0, ⟨[0], [], [], [], [], []⟩)], lp := lpOf [n0 K] }
noncomputable def b (a1 : List (List Cl)) (R : Bool → O) : O :=
 l0 a1 (
 R (decide ((a1.length : Int) ≤ 300))) R fuel 0
noncomputable def g := seal_ b
theorem e : g = b := seal_eq b
noncomputable def a : Fn [.l] St := fun a1 => argSt [one (.tr 0 1 e_0 (.cells a1))] [] []
noncomputable def con := conOf 115 [.l] [.b] a g m
theorem hx (K : Res → O) : CtxOk Pg Γ0 byt0 eqs0 (X K) [spec_TokenOk.con] := ctx_of (X := X) (.cons spec_TokenOk.ok .nil) (by kernel_rfl) K
theorem w0 (K : Res → O) : LpSound Pg (X K) 0 b0 := lp_fin (L := [n0 K]) laid (hx K) .nil (.cons (ent_ok (fun x2 k r => l0s x2 r (k (o0 x2)) (fun r1 => K (m [] r1))) (by kernel_rfl) (by kernel_rfl) (by kernel_rfl) (by kernel_rfl) (by kernel_rfl)) .nil) (by kernel_rfl) (by kernel_rfl)
theorem ok : Con Pg con := con_fin (fn := Tryz.f115) (c := c) (Fi := fi) (X := X) laid hx (fun K => (.cons (w0 K) .nil)) e (by kernel_rfl) (by kernel_rfl) (by kernel_rfl) (by kernel_rfl)
end spec_l8Tokens
namespace spec_l9Kind
noncomputable def c : Code := bodyOf Tryz.f151
noncomputable def fi : Fin := ⟨Γ0, [(.tmp 4, 3)], [[1]], [true], [([.sl e_0 16, .int .i64, .sl e_1 72], [0, 1, 2])], []⟩
noncomputable def m : Fn [.i, .l, .l, .i] (Fn [.i] Res) := fun _ a2 a3 a4 r1 => ⟨[⟨false, [cI r1]⟩], [some ⟨e_1, .cells a2, true, 0, none⟩], [], [[.tr 2 2 e_0 (.cells a3), cI a4, .ow 0]], []⟩
noncomputable def X (K : Res → O) : Ctx := cx0 [] fi true K
noncomputable def b (a1 : Int) (a2 a3 : List (List Cl)) (a4 : Int) (R : Int → O) : O :=
 bif decide ((a3.length : Int) ≤ IntKind.i64.wrap (a4 + a1)) then R 0
 else bif decide (0 ≤ IntKind.i64.wrap (a4 + a1)) && decide (IntKind.i64.wrap (a4 + a1) < (a3.length : Int)) then R (((a3.getD ((IntKind.i64.wrap (a4 + a1)).toNat) []).getD 0 (.i 0)).toI)
 else none
noncomputable def g := seal_ b
theorem e : g = b := seal_eq b
noncomputable def a : Fn [.i, .l, .l, .i] St := fun a1 a2 a3 a4 => argSt [one (.bp 0 0), oI a1] [⟨e_1, .cells a2, true, 0, none⟩] [[.tr 2 2 e_0 (.cells a3), cI a4, .ow 0]]
noncomputable def con := conOf 151 [.i, .l, .l, .i] [.i] a g m
theorem ok : Con Pg con := con_fin (fn := Tryz.f151) (c := c) (Fi := fi) (X := X) laid (ctx_of .nil (by kernel_rfl)) (fun K => .nil) e (by kernel_rfl) (by kernel_rfl) (by kernel_rfl) (by kernel_rfl)
end spec_l9Kind
namespace spec_l9Sign
noncomputable def c : Code := bodyOf Tryz.f177
noncomputable def fi : Fin := ⟨Γ0, [(.tmp 4, 3)], [[1]], [true], [([.sl e_0 16, .int .i64, .sl e_1 72], [0, 1, 2])], []⟩
noncomputable def m : Fn [.i, .l, .l, .i] (Fn [.i] Res) := fun _ a2 a3 a4 r1 => ⟨[⟨false, [cI r1]⟩], [some ⟨e_1, .cells a2, true, 0, none⟩], [], [[.tr 2 2 e_0 (.cells a3), cI a4, .ow 0]], []⟩
noncomputable def X (K : Res → O) : Ctx := cx0 [spec_l9Kind.con] fi true K
noncomputable def b (a1 : Int) (a2 a3 : List (List Cl)) (a4 : Int) (R : Int → O) : O :=
 spec_l9Kind.g a1 a2 a3 a4 fun r5 =>
 bif (r5 != 3) then R 0
 else bif decide (0 ≤ IntKind.i64.wrap (a4 + a1)) && decide (IntKind.i64.wrap (a4 + a1) < (a3.length : Int)) then R (((a3.getD ((IntKind.i64.wrap (a4 + a1)).toNat) []).getD 1 (.i 0)).toI)
 else none
noncomputable def g := seal_ b
theorem e : g = b := seal_eq b
noncomputable def a : Fn [.i, .l, .l, .i] St := fun a1 a2 a3 a4 => argSt [one (.bp 0 0), oI a1] [⟨e_1, .cells a2, true, 0, none⟩] [[.tr 2 2 e_0 (.cells a3), cI a4, .ow 0]]
noncomputable def con := conOf 177 [.i, .l, .l, .i] [.i] a g m
theorem ok : Con Pg con := con_fin (fn := Tryz.f177) (c := c) (Fi := fi) (X := X) laid (ctx_of (.cons spec_l9Kind.ok .nil) (by kernel_rfl)) (fun K => .nil) e (by kernel_rfl) (by kernel_rfl) (by kernel_rfl) (by kernel_rfl)
end spec_l9Sign
namespace spec_l9Fun
noncomputable def c : Code := bodyOf Tryz.f152
noncomputable def fi : Fin := ⟨Γ0, [(.cell 2 64, 64), (.tmp 3, 4)], [[1, 1, 1], [1]], [true], [([.sl e_0 16, .int .i64, .sl e_1 72], [0, 1, 2])], []⟩
noncomputable def m : Fn [.l, .l, .i] (Fn [.i, .i, .i, .b, .i] Res) := fun a1 a2 _ r1 r2 r3 r4 r7 => ⟨[⟨true, [cI r1, cI r2, cI r3]⟩, ⟨false, [.bool r4]⟩], [some ⟨e_1, .cells a1, true, 0, none⟩], [], [[.tr 2 2 e_0 (.cells a2), cI r7, .ow 0]], []⟩
noncomputable def X (K : Res → O) : Ctx := cx0 [spec_l9Sign.con] fi true K
noncomputable def b (a1 a2 : List (List Cl)) (a3 : Int) (R : Int → Int → Int → Bool → Int → O) : O :=
 spec_l9Sign.g 0 a1 a2 a3 fun r4 =>
 spec_l9Sign.g 1 a1 a2 a3 fun r5 =>
 spec_l9Sign.g 2 a1 a2 a3 fun r6 =>
 bif (r4 == 0) then R 0 0 0 false a3
 else bif (r4 == 111) then (bif (r5 != 0) then R r5 111 0 true (IntKind.i64.wrap (a3 + 2))
  else bif (r5 == 47) then R r4 r5 0 true (IntKind.i64.wrap (a3 + 2))
  else bif (r5 == 92) then R r4 r5 0 true (IntKind.i64.wrap (a3 + 2))
  else bif (r5 == 46) then (bif (r6 != 0) then R r4 46 r6 true (IntKind.i64.wrap (a3 + 3))
   else R r4 0 0 true (IntKind.i64.wrap (a3 + 1)))
  else R r4 0 0 true (IntKind.i64.wrap (a3 + 1)))
 else bif (r5 == 47) then R r4 r5 0 true (IntKind.i64.wrap (a3 + 2))
 else bif (r5 == 92) then R r4 r5 0 true (IntKind.i64.wrap (a3 + 2))
 else bif (r5 == 46) then (bif (r6 != 0) then R r4 46 r6 true (IntKind.i64.wrap (a3 + 3))
  else R r4 0 0 true (IntKind.i64.wrap (a3 + 1)))
 else R r4 0 0 true (IntKind.i64.wrap (a3 + 1))
noncomputable def g := seal_ b
theorem e : g = b := seal_eq b
noncomputable def a : Fn [.l, .l, .i] St := fun a1 a2 a3 => argSt [one (.bp 0 0)] [⟨e_1, .cells a1, true, 0, none⟩] [[.tr 2 2 e_0 (.cells a2), cI a3, .ow 0]]
noncomputable def con := conOf 152 [.l, .l, .i] [.i, .i, .i, .b, .i] a g m
theorem ok : Con Pg con := con_fin (fn := Tryz.f152) (c := c) (Fi := fi) (X := X) laid (ctx_of (.cons spec_l9Sign.ok .nil) (by kernel_rfl)) (fun K => .nil) e (by kernel_rfl) (by kernel_rfl) (by kernel_rfl) (by kernel_rfl)
end spec_l9Fun
namespace spec_l1Sign2
noncomputable def c : Code := bodyOf Tryz.f107
noncomputable def fi : Fin := ⟨Γ0, [(.tmp 2, 4)], [[1]], [], [], []⟩
noncomputable def m : Fn [.i] (Fn [.b] Res) := fun _ r1 => ⟨[⟨false, [.bool r1]⟩], [], [], [], []⟩
noncomputable def X (K : Res → O) : Ctx := cx0 [] fi true K
noncomputable def b (a1 : Int) (R : Bool → O) : O :=
 bif (a1 == 43) then R true
 else bif (a1 == 45) then R true
 else bif (a1 == 42) then R true
 else bif (a1 == 37) then R true
 else bif (a1 == 124) then R true
 else bif (a1 == 38) then R true
 else bif (a1 == 94) then R true
 else bif (a1 == 61) then R true
 else bif (a1 == 60) then R true
 else R (a1 == 62)
noncomputable def g := seal_ b
theorem e : g = b := seal_eq b
noncomputable def a : Fn [.i] St := fun a1 => argSt [oI a1] [] []
noncomputable def con := conOf 107 [.i] [.b] a g m
theorem ok : Con Pg con := con_fin (fn := Tryz.f107) (c := c) (Fi := fi) (X := X) laid (ctx_of .nil (by kernel_rfl)) (fun K => .nil) e (by kernel_rfl) (by kernel_rfl) (by kernel_rfl) (by kernel_rfl)
end spec_l1Sign2
namespace spec_l1Sign1
noncomputable def c : Code := bodyOf Tryz.f106
noncomputable def fi : Fin := ⟨Γ0, [(.tmp 2, 4)], [[1]], [], [], []⟩
noncomputable def m : Fn [.i] (Fn [.b] Res) := fun _ r1 => ⟨[⟨false, [.bool r1]⟩], [], [], [], []⟩
noncomputable def X (K : Res → O) : Ctx := cx0 [] fi true K
noncomputable def b (a1 : Int) (R : Bool → O) : O :=
 bif (a1 == 43) then R true
 else bif (a1 == 45) then R true
 else bif (a1 == 42) then R true
 else bif (a1 == 124) then R true
 else R (a1 == 126)
noncomputable def g := seal_ b
theorem e : g = b := seal_eq b
noncomputable def a : Fn [.i] St := fun a1 => argSt [oI a1] [] []
noncomputable def con := conOf 106 [.i] [.b] a g m
theorem ok : Con Pg con := con_fin (fn := Tryz.f106) (c := c) (Fi := fi) (X := X) laid (ctx_of .nil (by kernel_rfl)) (fun K => .nil) e (by kernel_rfl) (by kernel_rfl) (by kernel_rfl) (by kernel_rfl)
end spec_l1Sign1
namespace spec_FunOne
noncomputable def c : Code := bodyOf Tryz.f90
noncomputable def fi : Fin := ⟨Γ0, [(.tmp 2, 4)], [[1]], [], [], []⟩
noncomputable def m : Fn [.i, .i, .i] (Fn [.b] Res) := fun _ _ _ r1 => ⟨[⟨false, [.bool r1]⟩], [], [], [], []⟩
noncomputable def X (K : Res → O) : Ctx := cx0 [spec_l1Sign2.con, spec_l1Sign1.con] fi true K
noncomputable def b (a1 a2 a3 : Int) (R : Bool → O) : O :=
 bif (a3 != 0) then R false
 else bif (a2 == 47) then (spec_l1Sign2.g a1 fun r4 =>
  R r4)
 else bif (a2 == 92) then (spec_l1Sign2.g a1 fun r5 =>
  R r5)
 else bif (a2 != 0) then R false
 else (spec_l1Sign1.g a1 fun r6 =>
 bif r6 then R true
 else bif (a1 == 105) then R true
 else bif (a1 == 35) then R true
 else bif (a1 == 44) then R true
 else bif (a1 == 114) then R true
 else bif (a1 == 122) then R true
 else R (a1 == 103))
noncomputable def g := seal_ b
theorem e : g = b := seal_eq b
noncomputable def a : Fn [.i, .i, .i] St := fun a1 a2 a3 => argSt [.v ⟨true, [cI a1, cI a2, cI a3]⟩] [] []
noncomputable def con := conOf 90 [.i, .i, .i] [.b] a g m
theorem ok : Con Pg con := con_fin (fn := Tryz.f90) (c := c) (Fi := fi) (X := X) laid (ctx_of (.cons spec_l1Sign2.ok (.cons spec_l1Sign1.ok .nil)) (by kernel_rfl)) (fun K => .nil) e (by kernel_rfl) (by kernel_rfl) (by kernel_rfl) (by kernel_rfl)
end spec_FunOne
namespace spec_l9Behind
noncomputable def c : Code := bodyOf Tryz.f154
noncomputable def fi : Fin := ⟨Γ0, [], [], [false], [([.sl e_0 16, .int .i64, .sl e_1 72], [0, 1, 1])], []⟩
noncomputable def m : Fn [.l, .l, .l, .i] (Fn [.l, .i, .l] Res) := fun _ _ _ _ r1 r2 r3 => ⟨[], [none], [⟨e_1, .cells r3, false, 0, none⟩], [[.tr 2 2 e_0 (.cells r1), cI r2, .ow 1000]], []⟩
noncomputable def b0 : Code := codeAt c [1, 1, 0, 0]
noncomputable def l0s (x5 : List (List Cl)) (x6 : Int) (x9 : List (List Cl)) (x10 : Int) (rec : Int → List (List Cl) → O) (k : List (List Cl) → O) (x7 : Int) (x8 : List (List Cl)) : O :=
 bif decide (x7 < (x5.length : Int)) then (bif decide (0 ≤ x7) && decide (x7 < (x5.length : Int)) then (bif (((x5.getD x7.toNat []).getD 0 (.i 0)).toI == 5) then (bif decide ((x8.length + 1) * 72 ≤ 140737488355328) then rec (IntKind.i64.wrap (x7 + 1)) (x8 ++ ([[.i (((x5.getD x7.toNat []).getD 0 (.i 0)).toI), .i (IntKind.i64.wrap ((((x5.getD x7.toNat []).getD 1 (.i 0)).toI) + x6)), .i (IntKind.i64.wrap ((((x5.getD x7.toNat []).getD 2 (.i 0)).toI) + x6)), .i (((x5.getD x7.toNat []).getD 3 (.i 0)).toI), .i (((x5.getD x7.toNat []).getD 4 (.i 0)).toI), .i (((x5.getD x7.toNat []).getD 5 (.i 0)).toI), .l (((x5.getD x7.toNat []).getD 6 (.i 0)).toL)]] : List (List Cl)))
  else none)
  else bif (((x5.getD x7.toNat []).getD 0 (.i 0)).toI == 4) then (bif decide ((x8.length + 1) * 72 ≤ 140737488355328) then rec (IntKind.i64.wrap (x7 + 1)) (x8 ++ ([[.i (((x5.getD x7.toNat []).getD 0 (.i 0)).toI), .i (((x5.getD x7.toNat []).getD 1 (.i 0)).toI), .i (IntKind.i64.wrap ((((x5.getD x7.toNat []).getD 2 (.i 0)).toI) + x6)), .i (((x5.getD x7.toNat []).getD 3 (.i 0)).toI), .i (((x5.getD x7.toNat []).getD 4 (.i 0)).toI), .i (((x5.getD x7.toNat []).getD 5 (.i 0)).toI), .l (((x5.getD x7.toNat []).getD 6 (.i 0)).toL)]] : List (List Cl)))
   else none)
  else bif (((x5.getD x7.toNat []).getD 0 (.i 0)).toI == 3) then (bif decide ((x8.length + 1) * 72 ≤ 140737488355328) then rec (IntKind.i64.wrap (x7 + 1)) (x8 ++ ([[.i (((x5.getD x7.toNat []).getD 0 (.i 0)).toI), .i (((x5.getD x7.toNat []).getD 1 (.i 0)).toI), .i (IntKind.i64.wrap ((((x5.getD x7.toNat []).getD 2 (.i 0)).toI) + x6)), .i (((x5.getD x7.toNat []).getD 3 (.i 0)).toI), .i (((x5.getD x7.toNat []).getD 4 (.i 0)).toI), .i (((x5.getD x7.toNat []).getD 5 (.i 0)).toI), .l (((x5.getD x7.toNat []).getD 6 (.i 0)).toL)]] : List (List Cl)))
   else none)
  else bif decide ((x8.length + 1) * 72 ≤ 140737488355328) then rec (IntKind.i64.wrap (x7 + 1)) (x8 ++ ([[.i (((x5.getD x7.toNat []).getD 0 (.i 0)).toI), .i (((x5.getD x7.toNat []).getD 1 (.i 0)).toI), .i (((x5.getD x7.toNat []).getD 2 (.i 0)).toI), .i (((x5.getD x7.toNat []).getD 3 (.i 0)).toI), .i (((x5.getD x7.toNat []).getD 4 (.i 0)).toI), .i (((x5.getD x7.toNat []).getD 5 (.i 0)).toI), .l (((x5.getD x7.toNat []).getD 6 (.i 0)).toL)]] : List (List Cl)))
  else none)
  else none)
 else k x8
noncomputable def l0 (x5 : List (List Cl)) (x6 : Int) (x9 : List (List Cl)) (x10 : Int) (k : List (List Cl) → O) : Nat → Int → List (List Cl) → O
 | 0, _, _ => none
 | n + 1, x7, x8 => l0s x5 x6 x9 x10 (l0 x5 x6 x9 x10 k n) k x7 x8
noncomputable def o0 : Fn [.l, .i, .l, .i, .l] St := fun _ _ x9 x10 y1 => ⟨mkT 54 [], [(102401000, ⟨e_1, .cells y1, false, 0, none⟩)], [(0, [.tr 2 2 e_0 (.cells x9), cI x10, .ow 102401000])]⟩
noncomputable def n0 (K : Res → O) := ent 0 [.l, .i, .l, .i] [.i, .l] [0, 1, 4, 5, 2, 3] (fun x5 x6 x9 x10 x7 x8 => ⟨mkT 54 [(0, one (.bp 0 0)), (1, one (.tr 0 2 e_1 (.cells x5))), (4, oI x6), (5, oI x7)], [(102401000, ⟨e_1, .cells x8, false, 0, none⟩)], [(0, [.tr 2 2 e_0 (.cells x9), cI x10, .ow 102401000])]⟩) fun x5 x6 x9 x10 k => l0 x5 x6 x9 x10 (fun y1 => k (o0 x5 x6 x9 x10 y1))
noncomputable def X (K : Res → O) : Ctx := { cx0 [] fi true K with cin := [(0, ⟨[0, 1, 4, 5], [(0, 102401000), (25688, 102401000)], [0], [102401000], [], []⟩)], cout := [(0, ⟨[], [(102401000, 102401000)], [0], [], [], []⟩)], lp := lpOf [n0 K] }
noncomputable def b (a1 a2 a3 : List (List Cl)) (a4 : Int) (R : List (List Cl) → Int → List (List Cl) → O) : O :=
 l0 a1 (a2.length : Int) a3 a4 (fun y11 =>
 R a3 a4 y11) fuel 0 a2
noncomputable def g := seal_ b
theorem e : g = b := seal_eq b
noncomputable def a : Fn [.l, .l, .l, .i] St := fun a1 a2 a3 a4 => argSt [one (.bp 0 0), one (.tr 0 2 e_1 (.cells a1))] [⟨e_1, .cells a2, true, 0, none⟩] [[.tr 2 2 e_0 (.cells a3), cI a4, .ow 0]]
noncomputable def con := conOf 154 [.l, .l, .l, .i] [.l, .i, .l] a g m
theorem hx (K : Res → O) : CtxOk Pg Γ0 byt0 eqs0 (X K) [] := ctx_of (X := X) .nil (by kernel_rfl) K
theorem w0 (K : Res → O) : LpSound Pg (X K) 0 b0 := lp_fin (L := [n0 K]) laid (hx K) .nil (.cons (ent_ok (fun x5 x6 x9 x10 k r => l0s x5 x6 x9 x10 r (fun y1 => k (o0 x5 x6 x9 x10 y1))) (by kernel_rfl) (by kernel_rfl) (by kernel_rfl) (by kernel_rfl) (by kernel_rfl)) .nil) (by kernel_rfl) (by kernel_rfl)
theorem ok : Con Pg con := con_fin (fn := Tryz.f154) (c := c) (Fi := fi) (X := X) laid hx (fun K => (.cons (w0 K) .nil)) e (by kernel_rfl) (by kernel_rfl) (by kernel_rfl) (by kernel_rfl)
end spec_l9Behind
namespace spec_FunTwo
noncomputable def c : Code := bodyOf Tryz.f91
noncomputable def fi : Fin := ⟨Γ0, [(.tmp 2, 4)], [[1]], [], [], []⟩
noncomputable def m : Fn [.i, .i, .i] (Fn [.b] Res) := fun _ _ _ r1 => ⟨[⟨false, [.bool r1]⟩], [], [], [], []⟩
noncomputable def X (K : Res → O) : Ctx := cx0 [spec_l1Sign2.con] fi true K
noncomputable def b (a1 a2 a3 : Int) (R : Bool → O) : O :=
 bif (a2 == 46) then (spec_l1Sign2.g a1 fun r4 =>
  bif r4 then (spec_l1Sign2.g a3 fun r5 =>
   R r5)
  else R false)
 else bif (a3 != 0) then R false
 else bif (a2 == 111) then (spec_l1Sign2.g a1 fun r6 =>
  R r6)
 else bif (a2 != 0) then R false
 else (spec_l1Sign2.g a1 fun r7 =>
 bif r7 then R true
 else bif (a1 == 35) then R true
 else bif (a1 == 44) then R true
 else bif (a1 == 116) then R true
 else bif (a1 == 100) then R true
 else bif (a1 == 114) then R true
 else bif (a1 == 64) then R true
 else bif (a1 == 63) then R true
 else bif (a1 == 36) then R true
 else R (a1 == 101))
noncomputable def g := seal_ b
theorem e : g = b := seal_eq b
noncomputable def a : Fn [.i, .i, .i] St := fun a1 a2 a3 => argSt [.v ⟨true, [cI a1, cI a2, cI a3]⟩] [] []
noncomputable def con := conOf 91 [.i, .i, .i] [.b] a g m
theorem ok : Con Pg con := con_fin (fn := Tryz.f91) (c := c) (Fi := fi) (X := X) laid (ctx_of (.cons spec_l1Sign2.ok .nil) (by kernel_rfl)) (fun K => .nil) e (by kernel_rfl) (by kernel_rfl) (by kernel_rfl) (by kernel_rfl)
end spec_FunTwo
namespace spec_l9Kind_L2
noncomputable def c : Code := bodyOf Tryz.f151
noncomputable def fi : Fin := ⟨Γ0, [(.tmp 4, 3)], [[1]], [true], [([.sl e_0 16, .int .i64, .sl e_1 72], [0, 1, 2])], []⟩
noncomputable def m : Fn [.i, .l, .l, .i] (Fn [.i] Res) := fun _ a2 a3 a4 r1 => ⟨[⟨false, [cI r1]⟩], [some ⟨e_1, .cells a2, false, 0, none⟩], [], [[.tr 2 2 e_0 (.cells a3), cI a4, .ow 0]], []⟩
noncomputable def X (K : Res → O) : Ctx := cx0 [] fi true K
noncomputable def b (a1 : Int) (a2 a3 : List (List Cl)) (a4 : Int) (R : Int → O) : O :=
 bif decide ((a3.length : Int) ≤ IntKind.i64.wrap (a4 + a1)) then R 0
 else bif decide (0 ≤ IntKind.i64.wrap (a4 + a1)) && decide (IntKind.i64.wrap (a4 + a1) < (a3.length : Int)) then R (((a3.getD ((IntKind.i64.wrap (a4 + a1)).toNat) []).getD 0 (.i 0)).toI)
 else none
noncomputable def g := seal_ b
theorem e : g = b := seal_eq b
noncomputable def a : Fn [.i, .l, .l, .i] St := fun a1 a2 a3 a4 => argSt [one (.bp 0 0), oI a1] [⟨e_1, .cells a2, false, 0, none⟩] [[.tr 2 2 e_0 (.cells a3), cI a4, .ow 0]]
noncomputable def con := conOf 151 [.i, .l, .l, .i] [.i] a g m
theorem ok : Con Pg con := con_fin (fn := Tryz.f151) (c := c) (Fi := fi) (X := X) laid (ctx_of .nil (by kernel_rfl)) (fun K => .nil) e (by kernel_rfl) (by kernel_rfl) (by kernel_rfl) (by kernel_rfl)
end spec_l9Kind_L2
namespace spec_l9Behind_L2
noncomputable def c : Code := bodyOf Tryz.f154
noncomputable def fi : Fin := ⟨Γ0, [], [], [false], [([.sl e_0 16, .int .i64, .sl e_1 72], [0, 1, 1])], []⟩
noncomputable def m : Fn [.l, .l, .l, .i] (Fn [.l, .i, .l] Res) := fun _ _ _ _ r1 r2 r3 => ⟨[], [none], [⟨e_1, .cells r3, false, 0, none⟩], [[.tr 2 2 e_0 (.cells r1), cI r2, .ow 1000]], []⟩
noncomputable def b0 : Code := codeAt c [1, 1, 0, 0]
noncomputable def l0s (x5 : List (List Cl)) (x6 : Int) (x9 : List (List Cl)) (x10 : Int) (rec : Int → List (List Cl) → O) (k : List (List Cl) → O) (x7 : Int) (x8 : List (List Cl)) : O :=
 bif decide (x7 < (x5.length : Int)) then (bif decide (0 ≤ x7) && decide (x7 < (x5.length : Int)) then (bif (((x5.getD x7.toNat []).getD 0 (.i 0)).toI == 5) then (bif decide ((x8.length + 1) * 72 ≤ 140737488355328) then rec (IntKind.i64.wrap (x7 + 1)) (x8 ++ ([[.i (((x5.getD x7.toNat []).getD 0 (.i 0)).toI), .i (IntKind.i64.wrap ((((x5.getD x7.toNat []).getD 1 (.i 0)).toI) + x6)), .i (IntKind.i64.wrap ((((x5.getD x7.toNat []).getD 2 (.i 0)).toI) + x6)), .i (((x5.getD x7.toNat []).getD 3 (.i 0)).toI), .i (((x5.getD x7.toNat []).getD 4 (.i 0)).toI), .i (((x5.getD x7.toNat []).getD 5 (.i 0)).toI), .l (((x5.getD x7.toNat []).getD 6 (.i 0)).toL)]] : List (List Cl)))
  else none)
  else bif (((x5.getD x7.toNat []).getD 0 (.i 0)).toI == 4) then (bif decide ((x8.length + 1) * 72 ≤ 140737488355328) then rec (IntKind.i64.wrap (x7 + 1)) (x8 ++ ([[.i (((x5.getD x7.toNat []).getD 0 (.i 0)).toI), .i (((x5.getD x7.toNat []).getD 1 (.i 0)).toI), .i (IntKind.i64.wrap ((((x5.getD x7.toNat []).getD 2 (.i 0)).toI) + x6)), .i (((x5.getD x7.toNat []).getD 3 (.i 0)).toI), .i (((x5.getD x7.toNat []).getD 4 (.i 0)).toI), .i (((x5.getD x7.toNat []).getD 5 (.i 0)).toI), .l (((x5.getD x7.toNat []).getD 6 (.i 0)).toL)]] : List (List Cl)))
   else none)
  else bif (((x5.getD x7.toNat []).getD 0 (.i 0)).toI == 3) then (bif decide ((x8.length + 1) * 72 ≤ 140737488355328) then rec (IntKind.i64.wrap (x7 + 1)) (x8 ++ ([[.i (((x5.getD x7.toNat []).getD 0 (.i 0)).toI), .i (((x5.getD x7.toNat []).getD 1 (.i 0)).toI), .i (IntKind.i64.wrap ((((x5.getD x7.toNat []).getD 2 (.i 0)).toI) + x6)), .i (((x5.getD x7.toNat []).getD 3 (.i 0)).toI), .i (((x5.getD x7.toNat []).getD 4 (.i 0)).toI), .i (((x5.getD x7.toNat []).getD 5 (.i 0)).toI), .l (((x5.getD x7.toNat []).getD 6 (.i 0)).toL)]] : List (List Cl)))
   else none)
  else bif decide ((x8.length + 1) * 72 ≤ 140737488355328) then rec (IntKind.i64.wrap (x7 + 1)) (x8 ++ ([[.i (((x5.getD x7.toNat []).getD 0 (.i 0)).toI), .i (((x5.getD x7.toNat []).getD 1 (.i 0)).toI), .i (((x5.getD x7.toNat []).getD 2 (.i 0)).toI), .i (((x5.getD x7.toNat []).getD 3 (.i 0)).toI), .i (((x5.getD x7.toNat []).getD 4 (.i 0)).toI), .i (((x5.getD x7.toNat []).getD 5 (.i 0)).toI), .l (((x5.getD x7.toNat []).getD 6 (.i 0)).toL)]] : List (List Cl)))
  else none)
  else none)
 else k x8
noncomputable def l0 (x5 : List (List Cl)) (x6 : Int) (x9 : List (List Cl)) (x10 : Int) (k : List (List Cl) → O) : Nat → Int → List (List Cl) → O
 | 0, _, _ => none
 | n + 1, x7, x8 => l0s x5 x6 x9 x10 (l0 x5 x6 x9 x10 k n) k x7 x8
noncomputable def o0 : Fn [.l, .i, .l, .i, .l] St := fun _ _ x9 x10 y1 => ⟨mkT 54 [], [(102401000, ⟨e_1, .cells y1, false, 0, none⟩)], [(0, [.tr 2 2 e_0 (.cells x9), cI x10, .ow 102401000])]⟩
noncomputable def n0 (K : Res → O) := ent 0 [.l, .i, .l, .i] [.i, .l] [0, 1, 4, 5, 2, 3] (fun x5 x6 x9 x10 x7 x8 => ⟨mkT 54 [(0, one (.bp 0 0)), (1, one (.tr 0 2 e_1 (.cells x5))), (4, oI x6), (5, oI x7)], [(102401000, ⟨e_1, .cells x8, false, 0, none⟩)], [(0, [.tr 2 2 e_0 (.cells x9), cI x10, .ow 102401000])]⟩) fun x5 x6 x9 x10 k => l0 x5 x6 x9 x10 (fun y1 => k (o0 x5 x6 x9 x10 y1))
noncomputable def X (K : Res → O) : Ctx := { cx0 [] fi true K with cin := [(0, ⟨[0, 1, 4, 5], [(0, 102401000), (25688, 102401000)], [0], [], [], []⟩)], cout := [(0, ⟨[], [(102401000, 102401000)], [0], [], [], []⟩)], lp := lpOf [n0 K] }
noncomputable def b (a1 a2 a3 : List (List Cl)) (a4 : Int) (R : List (List Cl) → Int → List (List Cl) → O) : O :=
 l0 a1 (a2.length : Int) a3 a4 (fun y11 =>
 R a3 a4 y11) fuel 0 a2
noncomputable def g := seal_ b
theorem e : g = b := seal_eq b
noncomputable def a : Fn [.l, .l, .l, .i] St := fun a1 a2 a3 a4 => argSt [one (.bp 0 0), one (.tr 0 2 e_1 (.cells a1))] [⟨e_1, .cells a2, false, 0, none⟩] [[.tr 2 2 e_0 (.cells a3), cI a4, .ow 0]]
noncomputable def con := conOf 154 [.l, .l, .l, .i] [.l, .i, .l] a g m
theorem hx (K : Res → O) : CtxOk Pg Γ0 byt0 eqs0 (X K) [] := ctx_of (X := X) .nil (by kernel_rfl) K
theorem w0 (K : Res → O) : LpSound Pg (X K) 0 b0 := lp_fin (L := [n0 K]) laid (hx K) .nil (.cons (ent_ok (fun x5 x6 x9 x10 k r => l0s x5 x6 x9 x10 r (fun y1 => k (o0 x5 x6 x9 x10 y1))) (by kernel_rfl) (by kernel_rfl) (by kernel_rfl) (by kernel_rfl) (by kernel_rfl)) .nil) (by kernel_rfl) (by kernel_rfl)
theorem ok : Con Pg con := con_fin (fn := Tryz.f154) (c := c) (Fi := fi) (X := X) laid hx (fun K => (.cons (w0 K) .nil)) e (by kernel_rfl) (by kernel_rfl) (by kernel_rfl) (by kernel_rfl)
end spec_l9Behind_L2
-- GROUP spec_l9Operand spec_l9Line
namespace spec_l9Operand
noncomputable def c : Code := bodyOf Tryz.f153
noncomputable def fi : Fin := ⟨Γ0, [(.tmp 2, 4)], [[1]], [false], [([.sl e_0 16, .int .i64, .sl e_1 72], [0, 1, 11])], []⟩
noncomputable def m : Fn [.l, .l, .i] (Fn [.b, .l, .i, .l] Res) := fun _ _ _ r1 r2 r3 r4 => ⟨[⟨false, [.bool r1]⟩], [none], [⟨e_1, .cells r4, false, 0, none⟩], [[.tr 2 2 e_0 (.cells r2), cI r3, .ow 1000]], []⟩
noncomputable def b1 : Code := codeAt c [1, 0, 1, 0, 1, 0, 1, 0, 0, 0]
noncomputable abbrev T : Type := List (List Cl) → List (List Cl) → Int → (Bool → List (List Cl) → Int → List (List Cl) → O) → O
noncomputable def a : Fn [.l, .l, .i] St := fun a1 a2 a3 => argSt [one (.bp 0 0)] [⟨e_1, .cells a1, true, 0, none⟩] [[.tr 2 2 e_0 (.cells a2), cI a3, .ow 0]]
noncomputable def conz (h : T) := conOf 153 [.l, .l, .i] [.b, .l, .i, .l] a h m
end spec_l9Operand
namespace spec_l9Line
noncomputable def c : Code := bodyOf Tryz.f116
noncomputable def fi : Fin := ⟨Γ0, [(.tmp 2, 4)], [[1]], [false], [([.sl e_0 16, .int .i64, .sl e_1 72], [0, 1, 11])], []⟩
noncomputable def m : Fn [.l, .l, .i] (Fn [.b, .l, .i, .l] Res) := fun _ _ _ r1 r2 r3 r4 => ⟨[⟨false, [.bool r1]⟩], [none], [⟨e_1, .cells r4, false, 0, none⟩], [[.tr 2 2 e_0 (.cells r2), cI r3, .ow 1000]], []⟩
noncomputable abbrev T : Type := List (List Cl) → List (List Cl) → Int → (Bool → List (List Cl) → Int → List (List Cl) → O) → O
noncomputable def a : Fn [.l, .l, .i] St := fun a1 a2 a3 => argSt [one (.bp 0 0)] [⟨e_1, .cells a1, true, 0, none⟩] [[.tr 2 2 e_0 (.cells a2), cI a3, .ow 0]]
noncomputable def conz (h : T) := conOf 116 [.l, .l, .i] [.b, .l, .i, .l] a h m
end spec_l9Line
noncomputable abbrev Z_spec_l9Operand : Type := spec_l9Operand.T × spec_l9Line.T
noncomputable def Gd_spec_l9Operand (z : Z_spec_l9Operand) : Prop := Con Pg (spec_l9Operand.conz z.1) ∧ Con Pg (spec_l9Line.conz z.2)
namespace spec_l9Operand
noncomputable def l1s (x5 x7 : List (List Cl)) (x9 x10 x11 x12 x13 x14 : Int) (rec : List Int → Int → O) (k : List Int → Int → O) (x6 : List Int) (x8 : Int) : O :=
 spec_l9Kind.g 0 x5 x7 x8 fun r15 =>
 bif (r15 == 1) then (bif decide (0 ≤ x8) && decide (x8 < (x7.length : Int)) then (bif decide ((x6.length + 1) * 8 ≤ 140737488355328) then rec (x6 ++ ([((x7.getD x8.toNat []).getD 1 (.i 0)).toI] : List Int)) (IntKind.i64.wrap (x8 + 1))
  else none)
  else none)
 else k x6 x8
noncomputable def l1 (x5 x7 : List (List Cl)) (x9 x10 x11 x12 x13 x14 : Int) (k : List Int → Int → O) : Nat → List Int → Int → O
 | 0, _, _ => none
 | n + 1, x6, x8 => l1s x5 x7 x9 x10 x11 x12 x13 x14 (l1 x5 x7 x9 x10 x11 x12 x13 x14 k n) k x6 x8
noncomputable def o1 : Fn [.l, .l, .i, .i, .i, .i, .i, .i, .z, .i] St := fun x5 x7 x9 x10 x11 x12 x13 x14 y2 y4 => ⟨mkT 103 [(0, one (.bp 0 0)), (3, one (.bp 7160 0))], [(0, ⟨e_1, .cells x5, true, 0, none⟩), (7158, ⟨[.int .i64], .ints y2, true, 0, none⟩)], [(0, [.tr 2 2 e_0 (.cells x7), cI y4, .ow 0]), (7160, [cI x9, cI x10, cI x11, cI x12, cI x13, cI x14, .ow 7158])]⟩
noncomputable def n1 (K : Res → O) := ent 1 [.l, .l, .i, .i, .i, .i, .i, .i] [.z, .i] [0, 2, 4, 5, 6, 7, 8, 9, 1, 3] (fun x5 x7 x9 x10 x11 x12 x13 x14 x6 x8 => ⟨mkT 103 [(0, one (.bp 0 0)), (3, one (.bp 7160 0))], [(0, ⟨e_1, .cells x5, true, 0, none⟩), (7158, ⟨[.int .i64], .ints x6, true, 0, none⟩)], [(0, [.tr 2 2 e_0 (.cells x7), cI x8, .ow 0]), (7160, [cI x9, cI x10, cI x11, cI x12, cI x13, cI x14, .ow 7158])]⟩) fun x5 x7 x9 x10 x11 x12 x13 x14 k => l1 x5 x7 x9 x10 x11 x12 x13 x14 (fun y2 y4 => k (o1 x5 x7 x9 x10 x11 x12 x13 x14 y2 y4))
noncomputable def X (z : Z_spec_l9Operand) (K : Res → O) : Ctx := { cx0 [spec_l9Kind.con, spec_l9Line.conz z.2, spec_l9Kind_L2.con] fi true K with own := [(3, 0, 6, [.int .i64])], cin := [(1, ⟨[0, 3], [(0, 0), (7158, 7158), (11464, 7158)], [0, 7160], [], [], []⟩)], cout := [(1, ⟨[0, 3], [(0, 0), (7158, 7158)], [0, 7160], [], [], []⟩)], lp := lpOf [n1 K] }
noncomputable def g (z : Z_spec_l9Operand) (a1 a2 : List (List Cl)) (a3 : Int) (R : Bool → List (List Cl) → Int → List (List Cl) → O) : O :=
 spec_l9Kind.g 0 a1 a2 a3 fun r4 =>
 bif (r4 == 1) then (l1 a1 a2 1 0 0 0 0 0 (fun y16 y17 =>
  bif decide ((a1.length + 1) * 72 ≤ 140737488355328) then R true a2 y17 (a1 ++ ([[.i 1, .i 0, .i 0, .i 0, .i 0, .i 0, .l y16]] : List (List Cl)))
  else none) fuel ([] : List Int) a3)
 else bif (r4 == 2) then (bif decide (0 ≤ a3) && decide (a3 < (a2.length : Int)) then (bif decide ((a1.length + 1) * 72 ≤ 140737488355328) then R true a2 (IntKind.i64.wrap (a3 + 1)) (a1 ++ ([[.i 2, .i (((a2.getD a3.toNat []).getD 1 (.i 0)).toI), .i 0, .i 0, .i 0, .i 0, .l ([] : List Int)]] : List (List Cl)))
  else none)
  else none)
 else bif (r4 == 4) then (z.2 a1 a2 (IntKind.i64.wrap (a3 + 1)) fun r18 r19 r20 r21 =>
  bif !r18 then R false r19 r20 r21
  else (spec_l9Kind_L2.g 0 r21 r19 r20 fun r22 =>
  bif (r22 != 5) then R false r19 r20 r21
  else R true r19 (IntKind.i64.wrap (r20 + 1)) r21))
 else R false a2 a3 a1
theorem hx (z : Z_spec_l9Operand) (hz : Gd_spec_l9Operand z) (K : Res → O) : CtxOk Pg Γ0 byt0 eqs0 ((X z) K) [spec_l9Kind.con, spec_l9Line.conz z.2, spec_l9Kind_L2.con] := ctx_of (X := (X z)) (.cons spec_l9Kind.ok (.cons hz.2 (.cons spec_l9Kind_L2.ok .nil))) (by kernel_rfl) K
theorem w1 (z : Z_spec_l9Operand) (hz : Gd_spec_l9Operand z) (K : Res → O) : LpSound Pg ((X z) K) 1 b1 := lp_fin (L := [n1 K]) laid ((hx z hz) K) .nil (.cons (ent_ok (fun x5 x7 x9 x10 x11 x12 x13 x14 k r => l1s x5 x7 x9 x10 x11 x12 x13 x14 r (fun y2 y4 => k (o1 x5 x7 x9 x10 x11 x12 x13 x14 y2 y4))) (by kernel_rfl) (by kernel_rfl) (by kernel_rfl) (by kernel_rfl) (by kernel_rfl)) .nil) (by kernel_rfl) (by kernel_rfl)
theorem ok (z : Z_spec_l9Operand) (hz : Gd_spec_l9Operand z) : Con Pg (conz (g z)) := con_fin (fn := Tryz.f153) (c := c) (Fi := fi) (X := (X z)) laid (hx z hz) (fun K => (.cons ((w1 z hz) K) .nil)) rfl (by kernel_rfl) (by kernel_rfl) (by kernel_rfl) (by kernel_rfl)
end spec_l9Operand
namespace spec_l9Line
noncomputable def X (z : Z_spec_l9Operand) (K : Res → O) : Ctx := { cx0 [spec_l9Kind.con, spec_l9Line.conz z.2, spec_l9Fun.con, spec_FunOne.con, spec_l9Operand.conz z.1, spec_l9Behind.con, spec_FunTwo.con, spec_l9Behind_L2.con] fi true K with io := [(154, [⟨false, 0, 1⟩, ⟨false, 0, 2⟩])], own := [(15, 8, 2, e_1)] }
noncomputable def g (z : Z_spec_l9Operand) (a1 a2 : List (List Cl)) (a3 : Int) (R : Bool → List (List Cl) → Int → List (List Cl) → O) : O :=
 spec_l9Kind.g 0 a1 a2 a3 fun r4 =>
 bif (r4 == 2) then (spec_l9Kind.g 1 a1 a2 a3 fun r5 =>
  bif (r5 == 6) then (bif decide (0 ≤ a3) && decide (a3 < (a2.length : Int)) then (z.2 a1 a2 (IntKind.i64.wrap (a3 + 2)) fun r6 r7 r8 r9 =>
   bif !r6 then R false r7 r8 r9
   else bif decide ((r9.length + 1) * 72 ≤ 140737488355328) then R true r7 r8 (r9 ++ ([[.i 3, .i (((a2.getD a3.toNat []).getD 1 (.i 0)).toI), .i (IntKind.i64.wrap ((r9.length : Int) - 1)), .i 0, .i 0, .i 0, .l ([] : List Int)]] : List (List Cl)))
   else none)
   else none)
  else bif (r4 == 3) then (spec_l9Fun.g a1 a2 a3 fun r10 r11 r12 r13 r14 =>
   spec_FunOne.g r10 r11 r12 fun r15 =>
   bif !r15 then R false a2 r14 a1
   else (z.2 a1 a2 r14 fun r16 r17 r18 r19 =>
   bif !r16 then R false r17 r18 r19
   else bif decide ((r19.length + 1) * 72 ≤ 140737488355328) then R true r17 r18 (r19 ++ ([[.i 4, .i 0, .i (IntKind.i64.wrap ((r19.length : Int) - 1)), .i r10, .i r11, .i r12, .l ([] : List Int)]] : List (List Cl)))
   else none))
  else (z.1 ([] : List (List Cl)) a2 a3 fun r20 r21 r22 r23 =>
  bif !r20 then R false a2 a3 a1
  else (spec_l9Fun.g a1 a2 r22 fun r24 r25 r26 r27 r28 =>
  bif !r27 then (spec_l9Behind.g r23 a1 a2 r28 fun r29 r30 r31 =>
   R true r29 r30 r31)
  else (spec_FunTwo.g r24 r25 r26 fun r32 =>
  bif !r32 then R false a2 r28 a1
  else (z.2 a1 a2 r28 fun r33 r34 r35 r36 =>
  bif !r33 then R false r34 r35 r36
  else (spec_l9Behind_L2.g r23 r36 r34 r35 fun r37 r38 r39 =>
  bif decide ((r39.length + 1) * 72 ≤ 140737488355328) then R true r37 r38 (r39 ++ ([[.i 5, .i (IntKind.i64.wrap ((r39.length : Int) - 1)), .i (IntKind.i64.wrap ((r36.length : Int) - 1)), .i r24, .i r25, .i r26, .l ([] : List Int)]] : List (List Cl)))
  else none))))))
 else bif (r4 == 3) then (spec_l9Fun.g a1 a2 a3 fun r40 r41 r42 r43 r44 =>
  spec_FunOne.g r40 r41 r42 fun r45 =>
  bif !r45 then R false a2 r44 a1
  else (z.2 a1 a2 r44 fun r46 r47 r48 r49 =>
  bif !r46 then R false r47 r48 r49
  else bif decide ((r49.length + 1) * 72 ≤ 140737488355328) then R true r47 r48 (r49 ++ ([[.i 4, .i 0, .i (IntKind.i64.wrap ((r49.length : Int) - 1)), .i r40, .i r41, .i r42, .l ([] : List Int)]] : List (List Cl)))
  else none))
 else (z.1 ([] : List (List Cl)) a2 a3 fun r50 r51 r52 r53 =>
 bif !r50 then R false a2 a3 a1
 else (spec_l9Fun.g a1 a2 r52 fun r54 r55 r56 r57 r58 =>
 bif !r57 then (spec_l9Behind.g r53 a1 a2 r58 fun r59 r60 r61 =>
  R true r59 r60 r61)
 else (spec_FunTwo.g r54 r55 r56 fun r62 =>
 bif !r62 then R false a2 r58 a1
 else (z.2 a1 a2 r58 fun r63 r64 r65 r66 =>
 bif !r63 then R false r64 r65 r66
 else (spec_l9Behind_L2.g r53 r66 r64 r65 fun r67 r68 r69 =>
 bif decide ((r69.length + 1) * 72 ≤ 140737488355328) then R true r67 r68 (r69 ++ ([[.i 5, .i (IntKind.i64.wrap ((r69.length : Int) - 1)), .i (IntKind.i64.wrap ((r66.length : Int) - 1)), .i r54, .i r55, .i r56, .l ([] : List Int)]] : List (List Cl)))
 else none)))))
theorem ok (z : Z_spec_l9Operand) (hz : Gd_spec_l9Operand z) : Con Pg (conz (g z)) := con_fin (fn := Tryz.f116) (c := c) (Fi := fi) (X := (X z)) laid (ctx_of (.cons spec_l9Kind.ok (.cons hz.2 (.cons spec_l9Fun.ok (.cons spec_FunOne.ok (.cons hz.1 (.cons spec_l9Behind.ok (.cons spec_FunTwo.ok (.cons spec_l9Behind_L2.ok .nil)))))))) (by kernel_rfl)) (fun K => .nil) rfl (by kernel_rfl) (by kernel_rfl) (by kernel_rfl) (by kernel_rfl)
end spec_l9Line
noncomputable def rec_spec_l9Operand : Nat → Z_spec_l9Operand
 | 0 => ((fun _ _ _ _ => none), (fun _ _ _ _ => none))
 | n + 1 => (spec_l9Operand.g (rec_spec_l9Operand n), spec_l9Line.g (rec_spec_l9Operand n))
theorem good_spec_l9Operand : ∀ n, Gd_spec_l9Operand (rec_spec_l9Operand n)
 | 0 => ⟨con_cst rfl, con_cst rfl⟩
 | n + 1 => ⟨spec_l9Operand.ok _ (good_spec_l9Operand n), spec_l9Line.ok _ (good_spec_l9Operand n)⟩
namespace spec_l9Operand
noncomputable def gn (n : Nat) (a1 a2 : List (List Cl)) (a3 : Int) (R : Bool → List (List Cl) → Int → List (List Cl) → O) : O := (rec_spec_l9Operand n).1 a1 a2 a3 R
noncomputable def G : T := seal_ (gn fuel)
theorem Ge : G = gn fuel := seal_eq _
theorem gn_succ (n : Nat) (a1 a2 : List (List Cl)) (a3 : Int) (R : Bool → List (List Cl) → Int → List (List Cl) → O) : gn (n + 1) a1 a2 a3 R = g (rec_spec_l9Operand n) a1 a2 a3 R := rfl
noncomputable def con := conz G
theorem okG : Con Pg con := by
 unfold con; rw [Ge]; exact (good_spec_l9Operand fuel).1
end spec_l9Operand
namespace spec_l9Line
noncomputable def gn (n : Nat) (a1 a2 : List (List Cl)) (a3 : Int) (R : Bool → List (List Cl) → Int → List (List Cl) → O) : O := (rec_spec_l9Operand n).2 a1 a2 a3 R
noncomputable def G : T := seal_ (gn fuel)
theorem Ge : G = gn fuel := seal_eq _
theorem gn_succ (n : Nat) (a1 a2 : List (List Cl)) (a3 : Int) (R : Bool → List (List Cl) → Int → List (List Cl) → O) : gn (n + 1) a1 a2 a3 R = g (rec_spec_l9Operand n) a1 a2 a3 R := rfl
noncomputable def con := conz G
theorem okG : Con Pg con := by
 unfold con; rw [Ge]; exact (good_spec_l9Operand fuel).2
end spec_l9Line
-- END GROUP
namespace spec_Parse
noncomputable def c : Code := bodyOf Tryz.f73
noncomputable def fi : Fin := ⟨Γ0, [(.cell 2 74, 74), (.tmp 3, 3)], [[9], [1]], [], [], []⟩
noncomputable def m : Fn [.l] (Fn [.l, .i] Res) := fun _ r1 r2 => ⟨[⟨true, [.ow 1000]⟩, ⟨false, [cI r2]⟩], [], [⟨e_1, .cells r1, false, 0, none⟩], [], []⟩
noncomputable def X (K : Res → O) : Ctx := { cx0 [spec_l8Tokens.con, spec_l9Line.con] fi true K with own := [(4, 1, 2, e_1)] }
noncomputable def b (a1 : List (List Cl)) (R : List (List Cl) → Int → O) : O :=
 spec_l8Tokens.g a1 fun r2 =>
 bif !r2 then R ([] : List (List Cl)) 1
 else (spec_l9Line.G ([] : List (List Cl)) a1 0 fun r3 r4 r5 r6 =>
 bif !r3 then R ([] : List (List Cl)) 8
 else bif (r5 != (a1.length : Int)) then R ([] : List (List Cl)) 8
 else bif decide (60 < (r6.length : Int)) then R ([] : List (List Cl)) 6
 else R r6 0)
noncomputable def g := seal_ b
theorem e : g = b := seal_eq b
noncomputable def a : Fn [.l] St := fun a1 => argSt [one (.tr 2 2 e_0 (.cells a1))] [] []
noncomputable def con := conOf 73 [.l] [.l, .i] a g m
theorem ok : Con Pg con := con_fin (fn := Tryz.f73) (c := c) (Fi := fi) (X := X) laid (ctx_of (.cons spec_l8Tokens.ok (.cons spec_l9Line.okG .nil)) (by kernel_rfl)) (fun K => .nil) e (by kernel_rfl) (by kernel_rfl) (by kernel_rfl) (by kernel_rfl)
end spec_Parse
namespace spec_l9DrawRight
noncomputable def c : Code := bodyOf Tryz.f35
noncomputable def fi : Fin := ⟨Γ0, [(.cell 2 74, 74)], [[9]], [], [([.sl [.int .u8] 1, .int .i64, .int .i64], [0, 1, 1])], []⟩
noncomputable def m : Fn [.z, .i, .i] (Fn [.l, .z, .i, .i] Res) := fun _ _ _ r1 r2 r3 r4 => ⟨[⟨true, [.ow 1000]⟩], [], [⟨e_1, .cells r1, false, 0, none⟩], [[.tr 2 2 [.int .u8] (.ints r2), cI r3, cI r4]], []⟩
noncomputable def b0 : Code := codeAt c [1, 0, 1, 0, 0]
noncomputable def l0s  (rec : Int → List Int → Int → Int → O) (k : List Int → Int → Int → O) (R : List (List Cl) → List Int → Int → Int → O) (x4 : Int) (x5 : List Int) (x6 x7 : Int) : O :=
 bif decide (x4 < 6) then (spec_l8DrawLine.G 5 x5 x6 x7 fun r8 r9 r10 r11 =>
  spec_Lex.g r8 fun r12 r13 r14 =>
  spec_Parse.g r12 fun r15 r16 =>
  bif (r16 == 0) then R r15 r9 r10 r11
  else rec (IntKind.i64.wrap (x4 + 1)) r9 r10 r11)
 else k x5 x6 x7
noncomputable def l0  (k : List Int → Int → Int → O) (R : List (List Cl) → List Int → Int → Int → O) : Nat → Int → List Int → Int → Int → O
 | 0, _, _, _, _ => none
 | n + 1, x4, x5, x6, x7 => l0s (l0 k R n) k R x4 x5 x6 x7
noncomputable def o0 : Fn [.z, .i, .i] St := fun y1 y2 y3 => ⟨mkT 32 [(2, one (.bp 1000 0))], [], [(1000, [.nil]), (0, [.tr 2 2 [.int .u8] (.ints y1), cI y2, cI y3])]⟩
noncomputable def n0 (K : Res → O) := ent 0 [] [.i, .z, .i, .i] [0, 1, 2, 3] (fun x4 x5 x6 x7 => ⟨mkT 32 [(0, one (.bp 0 0)), (2, one (.bp 1000 0)), (3, oI x4)], [], [(0, [.tr 2 2 [.int .u8] (.ints x5), cI x6, cI x7]), (1000, [.nil])]⟩) fun k => l0 (fun y1 y2 y3 => k (o0 y1 y2 y3)) (fun r1 r2 r3 r4 => K (m [] (0 : Int) (0 : Int) r1 r2 r3 r4))
noncomputable def X (K : Res → O) : Ctx := { cx0 [spec_l8DrawLine.con, spec_Lex.con, spec_Parse.con] fi true K with io := [(73, [⟨false, 2, 2⟩])], cin := [(0, ⟨[0, 2, 3], [], [0, 1000], [], [], []⟩)], cout := [(0, ⟨[2], [], [1000, 0], [], [], []⟩)], lp := lpOf [n0 K] }
noncomputable def b (a1 : List Int) (a2 a3 : Int) (R : List (List Cl) → List Int → Int → Int → O) : O :=
 l0 (fun y17 y18 y19 =>
 R ([[.i 1, .i 0, .i 0, .i 0, .i 0, .i 0, .l ([1, 2] : List Int)]] : List (List Cl)) y17 y18 y19) R fuel 0 a1 a2 a3
noncomputable def g := seal_ b
theorem e : g = b := seal_eq b
noncomputable def a : Fn [.z, .i, .i] St := fun a1 a2 a3 => argSt [one (.bp 0 0)] [] [[.tr 2 2 [.int .u8] (.ints a1), cI a2, cI a3]]
noncomputable def con := conOf 35 [.z, .i, .i] [.l, .z, .i, .i] a g m
theorem hx (K : Res → O) : CtxOk Pg Γ0 byt0 eqs0 (X K) [spec_l8DrawLine.con, spec_Lex.con, spec_Parse.con] := ctx_of (X := X) (.cons spec_l8DrawLine.okG (.cons spec_Lex.ok (.cons spec_Parse.ok .nil))) (by kernel_rfl) K
theorem w0 (K : Res → O) : LpSound Pg (X K) 0 b0 := lp_fin (L := [n0 K]) laid (hx K) .nil (.cons (ent_ok (fun k r => l0s r (fun y1 y2 y3 => k (o0 y1 y2 y3)) (fun r1 r2 r3 r4 => K (m [] (0 : Int) (0 : Int) r1 r2 r3 r4))) (by kernel_rfl) (by kernel_rfl) (by kernel_rfl) (by kernel_rfl) (by kernel_rfl)) .nil) (by kernel_rfl) (by kernel_rfl)
theorem ok : Con Pg con := con_fin (fn := Tryz.f35) (c := c) (Fi := fi) (X := X) laid hx (fun K => (.cons (w0 K) .nil)) e (by kernel_rfl) (by kernel_rfl) (by kernel_rfl) (by kernel_rfl)
end spec_l9DrawRight
namespace spec_l9Nums
noncomputable def c : Code := bodyOf Tryz.f89
noncomputable def fi : Fin := ⟨Γ0, [(.tmp 2, 4)], [[1]], [], [], []⟩
noncomputable def m : Fn [.z] (Fn [.b] Res) := fun _ r1 => ⟨[⟨false, [.bool r1]⟩], [], [], [], []⟩
noncomputable def b0 : Code := codeAt c [1, 0, 1, 0, 0]
noncomputable def l0s (x2 : List Int) (rec : Int → O) (k : O) (R : Bool → O) (x3 : Int) : O :=
 bif decide (x3 < (x2.length : Int)) then (bif decide (0 ≤ x3) && decide (x3 < (x2.length : Int)) then (spec_NumOk.g (x2.getD x3.toNat 0) fun r4 =>
  bif !r4 then R false
  else rec (IntKind.i64.wrap (x3 + 1)))
  else none)
 else k
noncomputable def l0 (x2 : List Int) (k : O) (R : Bool → O) : Nat → Int → O
 | 0, _ => none
 | n + 1, x3 => l0s x2 (l0 x2 k R n) k R x3
noncomputable def o0 : Fn [.z] St := fun x2 => ⟨mkT 19 [(0, one (.tr 0 1 [.int .i64] (.ints x2)))], [], []⟩
noncomputable def n0 (K : Res → O) := ent 0 [.z] [.i] [0, 1] (fun x2 x3 => ⟨mkT 19 [(0, one (.tr 0 1 [.int .i64] (.ints x2))), (3, oI x3)], [], []⟩) fun x2 k => l0 x2 (k (o0 x2)) (fun r1 => K (m [] r1))
noncomputable def X (K : Res → O) : Ctx := { cx0 [spec_NumOk.con, spec_l1In.con] fi true K with cin := [(0, ⟨[0, 3], [], [], [], [], []⟩)], cout := [(0, ⟨[0], [], [], [], [], []⟩)], lp := lpOf [n0 K] }
noncomputable def b (a1 : List Int) (R : Bool → O) : O :=
 l0 a1 (
 spec_l1In.g (a1.length : Int) 1 300 fun r5 =>
 R r5) R fuel 0
noncomputable def g := seal_ b
theorem e : g = b := seal_eq b
noncomputable def a : Fn [.z] St := fun a1 => argSt [one (.tr 0 1 [.int .i64] (.ints a1))] [] []
noncomputable def con := conOf 89 [.z] [.b] a g m
theorem hx (K : Res → O) : CtxOk Pg Γ0 byt0 eqs0 (X K) [spec_NumOk.con, spec_l1In.con] := ctx_of (X := X) (.cons spec_NumOk.ok (.cons spec_l1In.ok .nil)) (by kernel_rfl) K
theorem w0 (K : Res → O) : LpSound Pg (X K) 0 b0 := lp_fin (L := [n0 K]) laid (hx K) .nil (.cons (ent_ok (fun x2 k r => l0s x2 r (k (o0 x2)) (fun r1 => K (m [] r1))) (by kernel_rfl) (by kernel_rfl) (by kernel_rfl) (by kernel_rfl) (by kernel_rfl)) .nil) (by kernel_rfl) (by kernel_rfl)
theorem ok : Con Pg con := con_fin (fn := Tryz.f89) (c := c) (Fi := fi) (X := X) laid hx (fun K => (.cons (w0 K) .nil)) e (by kernel_rfl) (by kernel_rfl) (by kernel_rfl) (by kernel_rfl)
end spec_l9Nums
namespace spec_l9Node
noncomputable def c : Code := bodyOf Tryz.f108
noncomputable def fi : Fin := ⟨Γ0, [(.tmp 6, 3), (.tmp 7, 4)], [[1], [1]], [], [], []⟩
noncomputable def m : Fn [.i, .i, .i, .i, .i, .i, .z, .i, .z] (Fn [.i, .b] Res) := fun _ _ _ _ _ _ _ _ _ r1 r2 => ⟨[⟨false, [cI r1]⟩, ⟨false, [.bool r2]⟩], [], [], [], []⟩
noncomputable def X (K : Res → O) : Ctx := cx0 [spec_l9Nums.con, spec_l1In.con, spec_FunOne.con, spec_FunTwo.con] fi true K
noncomputable def b (a1 a2 a3 a4 a5 a6 : Int) (a7 : List Int) (a8 : Int) (a9 : List Int) (R : Int → Bool → O) : O :=
 bif (a1 == 1) then (bif (a2 == 0) then (bif (a3 == 0) then (bif ((a4 == 0) && ((a5 == 0) && ((a6 == 0) && true))) then (spec_l9Nums.g a7 fun r10 =>
  R 1 r10)
  else R 1 false)
  else R 1 false)
  else R 1 false)
 else bif (a1 == 2) then (spec_l1In.g a2 0 25 fun r11 =>
  bif r11 then (bif (a3 == 0) then (bif ((a4 == 0) && ((a5 == 0) && ((a6 == 0) && true))) then R 1 ((a7.length : Int) == 0)
   else R 1 false)
   else R 1 false)
  else R 1 false)
 else bif (a1 == 3) then (bif decide (a8 < 1) then R 0 false
  else bif (a3 != IntKind.i64.wrap (a8 - 1)) then R 0 false
  else bif decide (0 ≤ IntKind.i64.wrap (a8 - 1)) && decide (IntKind.i64.wrap (a8 - 1) < (a9.length : Int)) then (spec_l1In.g a2 0 25 fun r12 =>
   bif r12 then (bif ((a4 == 0) && ((a5 == 0) && ((a6 == 0) && true))) then R (IntKind.i64.wrap ((a9.getD ((IntKind.i64.wrap (a8 - 1)).toNat) 0) + 1)) ((a7.length : Int) == 0)
    else R (IntKind.i64.wrap ((a9.getD ((IntKind.i64.wrap (a8 - 1)).toNat) 0) + 1)) false)
   else R (IntKind.i64.wrap ((a9.getD ((IntKind.i64.wrap (a8 - 1)).toNat) 0) + 1)) false)
  else none)
 else bif (a1 == 4) then (bif decide (a8 < 1) then R 0 false
  else bif (a3 != IntKind.i64.wrap (a8 - 1)) then R 0 false
  else bif decide (0 ≤ IntKind.i64.wrap (a8 - 1)) && decide (IntKind.i64.wrap (a8 - 1) < (a9.length : Int)) then (bif (a2 == 0) then (spec_FunOne.g a4 a5 a6 fun r13 =>
   bif r13 then R (IntKind.i64.wrap ((a9.getD ((IntKind.i64.wrap (a8 - 1)).toNat) 0) + 1)) ((a7.length : Int) == 0)
   else R (IntKind.i64.wrap ((a9.getD ((IntKind.i64.wrap (a8 - 1)).toNat) 0) + 1)) false)
   else R (IntKind.i64.wrap ((a9.getD ((IntKind.i64.wrap (a8 - 1)).toNat) 0) + 1)) false)
  else none)
 else bif (a1 == 5) then (bif decide (a8 < 2) then R 0 false
  else bif (a2 != IntKind.i64.wrap (a8 - 1)) then R 0 false
  else bif decide (0 ≤ IntKind.i64.wrap (a8 - 1)) && decide (IntKind.i64.wrap (a8 - 1) < (a9.length : Int)) then (bif (a3 != IntKind.i64.wrap ((IntKind.i64.wrap (a8 - 1)) - (a9.getD ((IntKind.i64.wrap (a8 - 1)).toNat) 0))) then R 0 false
   else bif decide (a3 < 0) then R 0 false
   else bif decide (0 ≤ a2) && decide (a2 < (a9.length : Int)) then (bif decide (0 ≤ a3) && decide (a3 < (a9.length : Int)) then (spec_FunTwo.g a4 a5 a6 fun r14 =>
    bif r14 then R (IntKind.i64.wrap ((IntKind.i64.wrap ((a9.getD a2.toNat 0) + (a9.getD a3.toNat 0))) + 1)) ((a7.length : Int) == 0)
    else R (IntKind.i64.wrap ((IntKind.i64.wrap ((a9.getD a2.toNat 0) + (a9.getD a3.toNat 0))) + 1)) false)
    else none)
   else none)
  else none)
 else R 0 false
noncomputable def g := seal_ b
theorem e : g = b := seal_eq b
noncomputable def a : Fn [.i, .i, .i, .i, .i, .i, .z, .i, .z] St := fun a1 a2 a3 a4 a5 a6 a7 a8 a9 => argSt [.v ⟨true, [cI a1, cI a2, cI a3, cI a4, cI a5, cI a6, .tr 0 1 [.int .i64] (.ints a7)]⟩, oI a8, one (.tr 0 1 [.int .i64] (.ints a9))] [] []
noncomputable def con := conOf 108 [.i, .i, .i, .i, .i, .i, .z, .i, .z] [.i, .b] a g m
theorem ok : Con Pg con := con_fin (fn := Tryz.f108) (c := c) (Fi := fi) (X := X) laid (ctx_of (.cons spec_l9Nums.ok (.cons spec_l1In.ok (.cons spec_FunOne.ok (.cons spec_FunTwo.ok .nil)))) (by kernel_rfl)) (fun K => .nil) e (by kernel_rfl) (by kernel_rfl) (by kernel_rfl) (by kernel_rfl)
end spec_l9Node
namespace spec_TreeOk
noncomputable def c : Code := bodyOf Tryz.f70
noncomputable def fi : Fin := ⟨Γ0, [(.tmp 2, 4)], [[1]], [], [], []⟩
noncomputable def m : Fn [.l] (Fn [.b] Res) := fun _ r1 => ⟨[⟨false, [.bool r1]⟩], [], [], [], []⟩
noncomputable def b0 : Code := codeAt c [1, 1, 1, 1, 0, 1, 0, 0]
noncomputable def l0s (x3 : Int) (x6 : List (List Cl)) (rec : Int → List Int → O) (k : List Int → O) (R : Bool → O) (x4 : Int) (x5 : List Int) : O :=
 bif decide (x4 < x3) then (bif decide (0 ≤ x4) && decide (x4 < (x6.length : Int)) then (spec_l9Node.g (((x6.getD x4.toNat []).getD 0 (.i 0)).toI) (((x6.getD x4.toNat []).getD 1 (.i 0)).toI) (((x6.getD x4.toNat []).getD 2 (.i 0)).toI) (((x6.getD x4.toNat []).getD 3 (.i 0)).toI) (((x6.getD x4.toNat []).getD 4 (.i 0)).toI) (((x6.getD x4.toNat []).getD 5 (.i 0)).toI) (((x6.getD x4.toNat []).getD 6 (.i 0)).toL) x4 x5 fun r7 r8 =>
  bif !r8 then R false
  else bif decide ((x5.length + 1) * 8 ≤ 140737488355328) then rec (IntKind.i64.wrap (x4 + 1)) (x5 ++ ([r7] : List Int))
  else none)
  else none)
 else k x5
noncomputable def l0 (x3 : Int) (x6 : List (List Cl)) (k : List Int → O) (R : Bool → O) : Nat → Int → List Int → O
 | 0, _, _ => none
 | n + 1, x4, x5 => l0s x3 x6 (l0 x3 x6 k R n) k R x4 x5
noncomputable def o0 : Fn [.i, .l, .z] St := fun x3 _ y2 => ⟨mkT 44 [(3, oI x3), (4, one (.ow 9192))], [(9192, ⟨[.int .i64], .ints y2, true, 0, none⟩)], []⟩
noncomputable def n0 (K : Res → O) := ent 0 [.i, .l] [.i, .z] [0, 3, 1, 2] (fun x3 x6 x4 x5 => ⟨mkT 44 [(1, one (.bp 1000 0)), (3, oI x3), (4, one (.ow 9192)), (5, oI x4)], [(9192, ⟨[.int .i64], .ints x5, true, 0, none⟩)], [(1000, [.tr 0 1 e_1 (.cells x6)])]⟩) fun x3 x6 k => l0 x3 x6 (fun y2 => k (o0 x3 x6 y2)) (fun r1 => K (m [] r1))
noncomputable def X (K : Res → O) : Ctx := { cx0 [spec_l1In.con, spec_l9Node.con] fi true K with cin := [(0, ⟨[1, 3, 4, 5], [(9192, 9192), (23576, 9192)], [1000], [], [], []⟩)], cout := [(0, ⟨[3, 4], [(9192, 9192)], [], [], [], []⟩)], lp := lpOf [n0 K] }
noncomputable def b (a1 : List (List Cl)) (R : Bool → O) : O :=
 spec_l1In.g (a1.length : Int) 1 60 fun r2 =>
 bif !r2 then R false
 else (l0 (a1.length : Int) a1 (fun y9 =>
 bif decide (0 ≤ IntKind.i64.wrap ((a1.length : Int) - 1)) && decide (IntKind.i64.wrap ((a1.length : Int) - 1) < (y9.length : Int)) then R (y9.getD ((IntKind.i64.wrap ((a1.length : Int) - 1)).toNat) 0 == (a1.length : Int))
 else none) R fuel 0 ([] : List Int))
noncomputable def g := seal_ b
theorem e : g = b := seal_eq b
noncomputable def a : Fn [.l] St := fun a1 => argSt [.v ⟨true, [.tr 0 1 e_1 (.cells a1)]⟩] [] []
noncomputable def con := conOf 70 [.l] [.b] a g m
theorem hx (K : Res → O) : CtxOk Pg Γ0 byt0 eqs0 (X K) [spec_l1In.con, spec_l9Node.con] := ctx_of (X := X) (.cons spec_l1In.ok (.cons spec_l9Node.ok .nil)) (by kernel_rfl) K
theorem w0 (K : Res → O) : LpSound Pg (X K) 0 b0 := lp_fin (L := [n0 K]) laid (hx K) .nil (.cons (ent_ok (fun x3 x6 k r => l0s x3 x6 r (fun y2 => k (o0 x3 x6 y2)) (fun r1 => K (m [] r1))) (by kernel_rfl) (by kernel_rfl) (by kernel_rfl) (by kernel_rfl) (by kernel_rfl)) .nil) (by kernel_rfl) (by kernel_rfl)
theorem ok : Con Pg con := con_fin (fn := Tryz.f70) (c := c) (Fi := fi) (X := X) laid hx (fun K => (.cons (w0 K) .nil)) e (by kernel_rfl) (by kernel_rfl) (by kernel_rfl) (by kernel_rfl)
end spec_TreeOk
namespace spec_Compile
noncomputable def c : Code := bodyOf Tryz.f34
noncomputable def fi : Fin := ⟨Γ0, [(.tmp 2, 24), (.tmp 3, 4)], [[1], [1]], [], [], []⟩
noncomputable def m : Fn [.l] (Fn [.l, .b] Res) := fun _ r1 r2 => ⟨[⟨false, [.ow 1000]⟩, ⟨false, [.bool r2]⟩], [], [⟨e_2, .cells r1, true, 0, none⟩], [], []⟩
noncomputable def b0 : Code := codeAt c [1, 1, 1, 0, 1, 0, 0]
noncomputable def l0s (x5 : List (List Cl)) (rec : Int → List (List Cl) → O) (k : List (List Cl) → O) (x3 : Int) (x4 : List (List Cl)) : O :=
 bif decide (x3 < (x5.length : Int)) then (bif decide (0 ≤ x3) && decide (x3 < (x5.length : Int)) then (bif (((x5.getD x3.toNat []).getD 0 (.i 0)).toI == 1) then (bif decide ((0 + (((x5.getD x3.toNat []).getD 6 (.i 0)).toL).length) * 8 ≤ 140737488355328) then (bif decide ((x4.length + 1) * 64 ≤ 140737488355328) then rec (IntKind.i64.wrap (x3 + 1)) (x4 ++ ([[.i 1, .i 0, .i 0, .i 0, .i 0, .l (([] : List Int) ++ (((x5.getD x3.toNat []).getD 6 (.i 0)).toL))]] : List (List Cl)))
  else none)
  else none)
  else bif (((x5.getD x3.toNat []).getD 0 (.i 0)).toI == 2) then (bif decide ((x4.length + 1) * 64 ≤ 140737488355328) then rec (IntKind.i64.wrap (x3 + 1)) (x4 ++ ([[.i 2, .i (((x5.getD x3.toNat []).getD 1 (.i 0)).toI), .i 0, .i 0, .i 0, .l ([] : List Int)]] : List (List Cl)))
   else none)
  else bif (((x5.getD x3.toNat []).getD 0 (.i 0)).toI == 3) then (bif decide ((x4.length + 1) * 64 ≤ 140737488355328) then rec (IntKind.i64.wrap (x3 + 1)) (x4 ++ ([[.i 3, .i (((x5.getD x3.toNat []).getD 1 (.i 0)).toI), .i 0, .i 0, .i 0, .l ([] : List Int)]] : List (List Cl)))
   else none)
  else bif (((x5.getD x3.toNat []).getD 0 (.i 0)).toI == 4) then (bif decide ((x4.length + 1) * 64 ≤ 140737488355328) then rec (IntKind.i64.wrap (x3 + 1)) (x4 ++ ([[.i 4, .i 0, .i (((x5.getD x3.toNat []).getD 3 (.i 0)).toI), .i (((x5.getD x3.toNat []).getD 4 (.i 0)).toI), .i (((x5.getD x3.toNat []).getD 5 (.i 0)).toI), .l ([] : List Int)]] : List (List Cl)))
   else none)
  else bif (((x5.getD x3.toNat []).getD 0 (.i 0)).toI == 5) then (bif decide ((x4.length + 1) * 64 ≤ 140737488355328) then rec (IntKind.i64.wrap (x3 + 1)) (x4 ++ ([[.i 5, .i 0, .i (((x5.getD x3.toNat []).getD 3 (.i 0)).toI), .i (((x5.getD x3.toNat []).getD 4 (.i 0)).toI), .i (((x5.getD x3.toNat []).getD 5 (.i 0)).toI), .l ([] : List Int)]] : List (List Cl)))
   else none)
  else rec (IntKind.i64.wrap (x3 + 1)) x4)
  else none)
 else k x4
noncomputable def l0 (x5 : List (List Cl)) (k : List (List Cl) → O) : Nat → Int → List (List Cl) → O
 | 0, _, _ => none
 | n + 1, x3, x4 => l0s x5 (l0 x5 k n) k x3 x4
noncomputable def o0 : Fn [.l, .l] St := fun _ y1 => ⟨mkT 69 [(4, one (.ow 3048))], [(3048, ⟨e_2, .cells y1, true, 0, none⟩)], []⟩
noncomputable def n0 (K : Res → O) := ent 0 [.l] [.i, .l] [2, 0, 1] (fun x5 x3 x4 => ⟨mkT 69 [(1, one (.bp 1000 0)), (4, one (.ow 3048)), (5, oI x3)], [(3048, ⟨e_2, .cells x4, true, 0, none⟩)], [(1000, [.tr 0 1 e_1 (.cells x5)])]⟩) fun x5 k => l0 x5 (fun y1 => k (o0 x5 y1))
noncomputable def X (K : Res → O) : Ctx := { cx0 [spec_TreeOk.con] fi true K with cin := [(0, ⟨[1, 4, 5], [(3048, 3048), (21592, 3048), (25656, 3048), (29752, 3048), (33848, 3048), (37944, 3048)], [1000], [], [], []⟩)], cout := [(0, ⟨[4], [(3048, 3048)], [], [], [], []⟩)], lp := lpOf [n0 K] }
noncomputable def b (a1 : List (List Cl)) (R : List (List Cl) → Bool → O) : O :=
 spec_TreeOk.g a1 fun r2 =>
 bif !r2 then R ([] : List (List Cl)) false
 else (l0 a1 (fun y6 =>
 R y6 true) fuel 0 ([] : List (List Cl)))
noncomputable def g := seal_ b
theorem e : g = b := seal_eq b
noncomputable def a : Fn [.l] St := fun a1 => argSt [.v ⟨true, [.tr 0 1 e_1 (.cells a1)]⟩] [] []
noncomputable def con := conOf 34 [.l] [.l, .b] a g m
theorem hx (K : Res → O) : CtxOk Pg Γ0 byt0 eqs0 (X K) [spec_TreeOk.con] := ctx_of (X := X) (.cons spec_TreeOk.ok .nil) (by kernel_rfl) K
theorem w0 (K : Res → O) : LpSound Pg (X K) 0 b0 := lp_fin (L := [n0 K]) laid (hx K) .nil (.cons (ent_ok (fun x5 k r => l0s x5 r (fun y1 => k (o0 x5 y1))) (by kernel_rfl) (by kernel_rfl) (by kernel_rfl) (by kernel_rfl) (by kernel_rfl)) .nil) (by kernel_rfl) (by kernel_rfl)
theorem ok : Con Pg con := con_fin (fn := Tryz.f34) (c := c) (Fi := fi) (X := X) laid hx (fun K => (.cons (w0 K) .nil)) e (by kernel_rfl) (by kernel_rfl) (by kernel_rfl) (by kernel_rfl)
end spec_Compile
namespace spec_l11DrawRight
noncomputable def c : Code := bodyOf Tryz.f13
noncomputable def fi : Fin := ⟨Γ0, [(.tmp 2, 24)], [[1]], [], [([.sl [.int .u8] 1, .int .i64, .int .i64], [0, 1, 1])], []⟩
noncomputable def m : Fn [.z, .i, .i] (Fn [.l, .z, .i, .i] Res) := fun _ _ _ r1 r2 r3 r4 => ⟨[⟨false, [.ow 1000]⟩], [], [⟨e_2, .cells r1, true, 0, none⟩], [[.tr 2 2 [.int .u8] (.ints r2), cI r3, cI r4]], []⟩
noncomputable def X (K : Res → O) : Ctx := cx0 [spec_l9DrawRight.con, spec_Compile.con] fi true K
noncomputable def b (a1 : List Int) (a2 a3 : Int) (R : List (List Cl) → List Int → Int → Int → O) : O :=
 spec_l9DrawRight.g a1 a2 a3 fun r4 r5 r6 r7 =>
 spec_Compile.g r4 fun r8 r9 =>
 R r8 r5 r6 r7
noncomputable def g := seal_ b
theorem e : g = b := seal_eq b
noncomputable def a : Fn [.z, .i, .i] St := fun a1 a2 a3 => argSt [one (.bp 0 0)] [] [[.tr 2 2 [.int .u8] (.ints a1), cI a2, cI a3]]
noncomputable def con := conOf 13 [.z, .i, .i] [.l, .z, .i, .i] a g m
theorem ok : Con Pg con := con_fin (fn := Tryz.f13) (c := c) (Fi := fi) (X := X) laid (ctx_of (.cons spec_l9DrawRight.ok (.cons spec_Compile.ok .nil)) (by kernel_rfl)) (fun K => .nil) e (by kernel_rfl) (by kernel_rfl) (by kernel_rfl) (by kernel_rfl)
end spec_l11DrawRight
namespace spec_l9DrawFun
noncomputable def c : Code := bodyOf Tryz.f31
noncomputable def fi : Fin := ⟨Γ0, [(.cell 2 64, 64)], [[1, 1, 1]], [], [([.sl [.int .u8] 1, .int .i64, .int .i64], [0, 1, 1])], []⟩
noncomputable def m : Fn [.z, .i, .i] (Fn [.i, .i, .i, .i, .i] Res) := fun a1 _ _ r1 r2 r3 r5 r6 => ⟨[⟨true, [cI r1, cI r2, cI r3]⟩], [], [], [[.tr 2 2 [.int .u8] (.ints a1), cI r5, cI r6]], []⟩
noncomputable def X (K : Res → O) : Ctx := cx0 [spec_l1PickInt.con, spec_l1Once.con] fi true K
noncomputable def b (a1 : List Int) (a2 a3 : Int) (R : Int → Int → Int → Int → Int → O) : O :=
 spec_l1PickInt.g ([43, 45, 42, 37, 124, 38, 126, 105, 35, 44, 116, 100, 114, 122, 64, 63, 103, 36, 101, 111, 47, 0] : List Int) a1 a2 a3 fun r4 r5 r6 =>
 spec_l1Once.g 2 a1 r5 r6 fun r7 r8 r9 =>
 bif r7 then (spec_l1PickInt.g ([47, 92, 111, 46, 120] : List Int) a1 r8 r9 fun r10 r11 r12 =>
  bif (r10 == 46) then (spec_l1PickInt.g ([43, 42, 105, 0] : List Int) a1 r11 r12 fun r13 r14 r15 =>
   R r4 r10 r13 r14 r15)
  else (spec_l1Once.g 15 a1 r11 r12 fun r16 r17 r18 =>
  bif r16 then (spec_l1PickInt.g ([43, 42, 105, 0] : List Int) a1 r17 r18 fun r19 r20 r21 =>
   R r4 r10 r19 r20 r21)
  else R r4 r10 0 r17 r18))
 else (spec_l1Once.g 15 a1 r8 r9 fun r22 r23 r24 =>
 bif r22 then (spec_l1PickInt.g ([43, 42, 105, 0] : List Int) a1 r23 r24 fun r25 r26 r27 =>
  R r4 0 r25 r26 r27)
 else R r4 0 0 r23 r24)
noncomputable def g := seal_ b
theorem e : g = b := seal_eq b
noncomputable def a : Fn [.z, .i, .i] St := fun a1 a2 a3 => argSt [one (.bp 0 0)] [] [[.tr 2 2 [.int .u8] (.ints a1), cI a2, cI a3]]
noncomputable def con := conOf 31 [.z, .i, .i] [.i, .i, .i, .i, .i] a g m
theorem ok : Con Pg con := con_fin (fn := Tryz.f31) (c := c) (Fi := fi) (X := X) laid (ctx_of (.cons spec_l1PickInt.ok (.cons spec_l1Once.ok .nil)) (by kernel_rfl)) (fun K => .nil) e (by kernel_rfl) (by kernel_rfl) (by kernel_rfl) (by kernel_rfl)
end spec_l9DrawFun
namespace spec_l1DrawRaw
noncomputable def c : Code := bodyOf Tryz.f32
noncomputable def fi : Fin := ⟨Γ0, [(.tmp 2, 3)], [[1]], [], [([.sl [.int .u8] 1, .int .i64, .int .i64], [0, 1, 1])], []⟩
noncomputable def m : Fn [.z, .i, .i] (Fn [.i, .i, .i] Res) := fun a1 _ _ r1 r3 r4 => ⟨[⟨false, [cI r1]⟩], [], [], [[.tr 2 2 [.int .u8] (.ints a1), cI r3, cI r4]], []⟩
noncomputable def X (K : Res → O) : Ctx := cx0 [spec_l1Once.con, spec_l1PickInt.con, spec_l1DrawNum.con] fi true K
noncomputable def b (a1 : List Int) (a2 a3 : Int) (R : Int → Int → Int → O) : O :=
 spec_l1Once.g 15 a1 a2 a3 fun r4 r5 r6 =>
 bif r4 then (spec_l1PickInt.g ([1000000000001, (-1000000000001), 9223372036854775807, (-9223372036854775808)] : List Int) a1 r5 r6 fun r7 r8 r9 =>
  R r7 r8 r9)
 else (spec_l1DrawNum.g a1 r5 r6 fun r10 r11 r12 =>
 R r10 r11 r12)
noncomputable def g := seal_ b
theorem e : g = b := seal_eq b
noncomputable def a : Fn [.z, .i, .i] St := fun a1 a2 a3 => argSt [one (.bp 0 0)] [] [[.tr 2 2 [.int .u8] (.ints a1), cI a2, cI a3]]
noncomputable def con := conOf 32 [.z, .i, .i] [.i, .i, .i] a g m
theorem ok : Con Pg con := con_fin (fn := Tryz.f32) (c := c) (Fi := fi) (X := X) laid (ctx_of (.cons spec_l1Once.ok (.cons spec_l1PickInt.ok (.cons spec_l1DrawNum.ok .nil))) (by kernel_rfl)) (fun K => .nil) e (by kernel_rfl) (by kernel_rfl) (by kernel_rfl) (by kernel_rfl)
end spec_l1DrawRaw
namespace spec_l11Draw
noncomputable def c : Code := bodyOf Tryz.f11
noncomputable def fi : Fin := ⟨Γ0, [(.tmp 2, 24)], [[4]], [], [([.sl [.int .u8] 1, .int .i64, .int .i64], [0, 1, 1])], []⟩
noncomputable def m : Fn [.z, .i, .i] (Fn [.l, .z, .i, .i] Res) := fun _ _ _ r1 r2 r3 r4 => ⟨[⟨false, [.tr 1 1 e_2 (.cells r1)]⟩], [], [], [[.tr 2 2 [.int .u8] (.ints r2), cI r3, cI r4]], []⟩
noncomputable def b1 : Code := codeAt c [1, 1, 1, 0, 1, 0, 1, 1, 1, 1, 1, 1, 1, 1, 1, 1, 1, 1, 1, 0, 0, 0]
noncomputable def l1s (x29 : List Int) (rec : List (List Cl) → Int → Int → O) (k : List (List Cl) → Int → Int → O) (x28 : List (List Cl)) (x30 x31 : Int) : O :=
 spec_l1Below.g 2 x29 x30 x31 fun r32 r33 r34 =>
 bif decide ((x28.length : Int) < IntKind.i64.wrap (60 + r32)) then (bif decide ((x28.length + 1) * 64 ≤ 140737488355328) then rec (x28 ++ ([[.i 4, .i 0, .i 45, .i 0, .i 0, .l ([] : List Int)]] : List (List Cl))) r33 r34
  else none)
 else k x28 r33 r34
noncomputable def l1 (x29 : List Int) (k : List (List Cl) → Int → Int → O) : Nat → List (List Cl) → Int → Int → O
 | 0, _, _, _ => none
 | n + 1, x28, x30, x31 => l1s x29 (l1 x29 k n) k x28 x30 x31
noncomputable def o1 : Fn [.z, .l, .i, .i] St := fun x29 y1 y3 y4 => ⟨mkT 81 [(3, one (.ow 3065))], [(3065, ⟨e_2, .cells y1, true, 0, none⟩)], [(0, [.tr 2 2 [.int .u8] (.ints x29), cI y3, cI y4])]⟩
noncomputable def n1 (K : Res → O) := ent 1 [.z] [.l, .i, .i] [1, 0, 2, 3] (fun x29 x28 x30 x31 => ⟨mkT 81 [(0, one (.bp 0 0)), (3, one (.ow 3065))], [(3065, ⟨e_2, .cells x28, true, 0, none⟩)], [(0, [.tr 2 2 [.int .u8] (.ints x29), cI x30, cI x31])]⟩) fun x29 k => l1 x29 (fun y1 y3 y4 => k (o1 x29 y1 y3 y4))
noncomputable def X (K : Res → O) : Ctx := { cx0 [spec_l11DrawRight.con, spec_l1Below.con, spec_l9DrawFun.con, spec_l1DrawRaw.con] fi false K with opn := [(15, 3, 4, 5)], shr := [(13, 3)], cin := [(1, ⟨[0, 3], [(3065, 3065), (37928, 3065)], [0], [], [], []⟩)], cout := [(1, ⟨[3], [(3065, 3065)], [0], [], [], []⟩)], lp := lpOf [n1 K] }
noncomputable def b (a1 : List Int) (a2 a3 : Int) (R : List (List Cl) → List Int → Int → Int → O) : O :=
 spec_l11DrawRight.g a1 a2 a3 fun r4 r5 r6 r7 =>
 spec_l1Below.g (r4.length : Int) r5 r6 r7 fun r8 r9 r10 =>
 spec_l1Below.g 20 r5 r9 r10 fun r11 r12 r13 =>
 bif (r11 == 0) then (spec_l1Below.g 7 r5 r12 r13 fun r14 r15 r16 =>
  bif decide (0 ≤ r8) && decide (r8 < (r4.length : Int)) then R (r4.set r8.toNat (splice (r4.getD r8.toNat []) 0 [.i r14])) r5 r15 r16
  else none)
 else bif (r11 == 1) then (spec_l1Below.g 28 r5 r12 r13 fun r17 r18 r19 =>
  bif decide (0 ≤ r8) && decide (r8 < (r4.length : Int)) then R (r4.set r8.toNat (splice (r4.getD r8.toNat []) 1 [.i (IntKind.i64.wrap (r17 - 1))])) r5 r18 r19
  else none)
 else bif (r11 == 2) then (spec_l9DrawFun.g r5 r12 r13 fun r20 r21 r22 r23 r24 =>
  bif decide (0 ≤ r8) && decide (r8 < (r4.length : Int)) then R (r4.set r8.toNat (splice (r4.getD r8.toNat []) 2 [.i r20, .i r21, .i r22])) r5 r23 r24
  else none)
 else bif (r11 == 3) then (bif decide (0 ≤ r8) && decide (r8 ≤ (r4.length : Int)) then R (r4.take r8.toNat) r5 r12 r13
  else none)
 else bif (r11 == 4) then (bif decide (0 ≤ r8) && decide (r8 < (r4.length : Int)) then (bif decide ((r4.length + 1) * 64 ≤ 140737488355328) then R (r4 ++ ([[.i (((r4.getD r8.toNat []).getD 0 (.i 0)).toI), .i (((r4.getD r8.toNat []).getD 1 (.i 0)).toI), .i (((r4.getD r8.toNat []).getD 2 (.i 0)).toI), .i (((r4.getD r8.toNat []).getD 3 (.i 0)).toI), .i (((r4.getD r8.toNat []).getD 4 (.i 0)).toI), .l (((r4.getD r8.toNat []).getD 5 (.i 0)).toL)]] : List (List Cl))) r5 r12 r13
  else none)
  else none)
 else bif (r11 == 5) then (bif decide (0 ≤ r8) && decide (r8 < (r4.length : Int)) then (bif decide (0 ≤ r8) && decide (r8 < (r4.length : Int)) then (bif decide (r8.toNat = r8.toNat) then (spec_l1DrawRaw.g r5 r12 r13 fun r25 r26 r27 =>
  bif decide (((((r4.getD r8.toNat []).getD 5 (.i 0)).toL).length + 1) * 8 ≤ 140737488355328) then (bif decide (0 ≤ r8) && decide (r8 < (r4.length : Int)) then (bif decide (r8.toNat = r8.toNat) then R (r4.set r8.toNat (splice (r4.getD r8.toNat []) 5 [.l ((((r4.getD r8.toNat []).getD 5 (.i 0)).toL) ++ ([r25] : List Int))])) r5 r26 r27
   else none)
   else none)
  else none)
  else none)
  else none)
  else none)
 else bif (r11 == 6) then (l1 r5 (fun y35 y36 y37 =>
  R y35 r5 y36 y37) fuel r4 r12 r13)
 else R r4 r5 r12 r13
noncomputable def g := seal_ b
theorem e : g = b := seal_eq b
noncomputable def a : Fn [.z, .i, .i] St := fun a1 a2 a3 => argSt [one (.bp 0 0)] [] [[.tr 2 2 [.int .u8] (.ints a1), cI a2, cI a3]]
noncomputable def con := conOf 11 [.z, .i, .i] [.l, .z, .i, .i] a g m
theorem hx (K : Res → O) : CtxOk Pg Γ0 byt0 eqs0 (X K) [spec_l11DrawRight.con, spec_l1Below.con, spec_l9DrawFun.con, spec_l1DrawRaw.con] := ctx_of (X := X) (.cons spec_l11DrawRight.ok (.cons spec_l1Below.ok (.cons spec_l9DrawFun.ok (.cons spec_l1DrawRaw.ok .nil)))) (by kernel_rfl) K
theorem w1 (K : Res → O) : LpSound Pg (X K) 1 b1 := lp_fin (L := [n1 K]) laid (hx K) .nil (.cons (ent_ok (fun x29 k r => l1s x29 r (fun y1 y3 y4 => k (o1 x29 y1 y3 y4))) (by kernel_rfl) (by kernel_rfl) (by kernel_rfl) (by kernel_rfl) (by kernel_rfl)) .nil) (by kernel_rfl) (by kernel_rfl)
theorem ok : Con Pg con := con_fin (fn := Tryz.f11) (c := c) (Fi := fi) (X := X) laid hx (fun K => (.cons (w1 K) .nil)) e (by kernel_rfl) (by kernel_rfl) (by kernel_rfl) (by kernel_rfl)
end spec_l11Draw
namespace spec_l11Instr
noncomputable def c : Code := bodyOf Tryz.f52
noncomputable def fi : Fin := ⟨Γ0, [(.tmp 2, 4)], [[1]], [], [], []⟩
noncomputable def m : Fn [.i, .i, .i, .i, .i, .z] (Fn [.b] Res) := fun _ _ _ _ _ _ r1 => ⟨[⟨false, [.bool r1]⟩], [], [], [], []⟩
noncomputable def X (K : Res → O) : Ctx := cx0 [spec_l9Nums.con, spec_l1In.con, spec_FunOne.con, spec_FunTwo.con] fi true K
noncomputable def b (a1 a2 a3 a4 a5 : Int) (a6 : List Int) (R : Bool → O) : O :=
 bif (a1 == 1) then (bif (a2 == 0) then (bif ((a3 == 0) && ((a4 == 0) && ((a5 == 0) && true))) then (spec_l9Nums.g a6 fun r7 =>
  R r7)
  else R false)
  else R false)
 else bif (a1 == 2) then (spec_l1In.g a2 0 25 fun r8 =>
  bif r8 then (bif ((a3 == 0) && ((a4 == 0) && ((a5 == 0) && true))) then R ((a6.length : Int) == 0)
   else R false)
  else R false)
 else bif (a1 == 3) then (spec_l1In.g a2 0 25 fun r9 =>
  bif r9 then (bif ((a3 == 0) && ((a4 == 0) && ((a5 == 0) && true))) then R ((a6.length : Int) == 0)
   else R false)
  else R false)
 else bif (a1 == 4) then (bif (a2 == 0) then (spec_FunOne.g a3 a4 a5 fun r10 =>
  bif r10 then R ((a6.length : Int) == 0)
  else R false)
  else R false)
 else bif (a1 == 5) then (bif (a2 == 0) then (spec_FunTwo.g a3 a4 a5 fun r11 =>
  bif r11 then R ((a6.length : Int) == 0)
  else R false)
  else R false)
 else R false
noncomputable def g := seal_ b
theorem e : g = b := seal_eq b
noncomputable def a : Fn [.i, .i, .i, .i, .i, .z] St := fun a1 a2 a3 a4 a5 a6 => argSt [.v ⟨true, [cI a1, cI a2, cI a3, cI a4, cI a5, .tr 0 1 [.int .i64] (.ints a6)]⟩] [] []
noncomputable def con := conOf 52 [.i, .i, .i, .i, .i, .z] [.b] a g m
theorem ok : Con Pg con := con_fin (fn := Tryz.f52) (c := c) (Fi := fi) (X := X) laid (ctx_of (.cons spec_l9Nums.ok (.cons spec_l1In.ok (.cons spec_FunOne.ok (.cons spec_FunTwo.ok .nil)))) (by kernel_rfl)) (fun K => .nil) e (by kernel_rfl) (by kernel_rfl) (by kernel_rfl) (by kernel_rfl)
end spec_l11Instr
namespace spec_l11Takes
noncomputable def c : Code := bodyOf Tryz.f69
noncomputable def fi : Fin := ⟨Γ0, [(.tmp 2, 3), (.tmp 3, 3)], [[1], [1]], [], [], []⟩
noncomputable def m : Fn [.i, .i, .i, .i, .i, .z] (Fn [.i, .i] Res) := fun _ _ _ _ _ _ r1 r2 => ⟨[⟨false, [cI r1]⟩, ⟨false, [cI r2]⟩], [], [], [], []⟩
noncomputable def X (K : Res → O) : Ctx := cx0 [] fi true K
noncomputable def b (a1 a2 a3 a4 a5 : Int) (a6 : List Int) (R : Int → Int → O) : O :=
 bif (a1 == 1) then R 0 1
 else bif (a1 == 2) then R 0 1
 else bif (a1 == 5) then R 2 (-1)
 else R 1 0
noncomputable def g := seal_ b
theorem e : g = b := seal_eq b
noncomputable def a : Fn [.i, .i, .i, .i, .i, .z] St := fun a1 a2 a3 a4 a5 a6 => argSt [.v ⟨true, [cI a1, cI a2, cI a3, cI a4, cI a5, .tr 0 1 [.int .i64] (.ints a6)]⟩] [] []
noncomputable def con := conOf 69 [.i, .i, .i, .i, .i, .z] [.i, .i] a g m
theorem ok : Con Pg con := con_fin (fn := Tryz.f69) (c := c) (Fi := fi) (X := X) laid (ctx_of .nil (by kernel_rfl)) (fun K => .nil) e (by kernel_rfl) (by kernel_rfl) (by kernel_rfl) (by kernel_rfl)
end spec_l11Takes
namespace spec_l11Depths
noncomputable def c : Code := bodyOf Tryz.f53
noncomputable def fi : Fin := ⟨Γ0, [(.tmp 2, 30), (.tmp 3, 4)], [[1], [1]], [], [], []⟩
noncomputable def m : Fn [.l] (Fn [.z, .b] Res) := fun _ r1 r2 => ⟨[⟨false, [.ow 1000]⟩, ⟨false, [.bool r2]⟩], [], [⟨[.int .i64], .ints r1, true, 0, none⟩], [], []⟩
noncomputable def b0 : Code := codeAt c [1, 1, 1, 0, 1, 0, 0]
noncomputable def l0s (x2 : List (List Cl)) (rec : Int → Int → List Int → O) (k : List Int → O) (R : List Int → Bool → O) (x3 x4 : Int) (x5 : List Int) : O :=
 bif decide (x4 < (x2.length : Int)) then (bif decide (0 ≤ x4) && decide (x4 < (x2.length : Int)) then (spec_l11Takes.g (((x2.getD x4.toNat []).getD 0 (.i 0)).toI) (((x2.getD x4.toNat []).getD 1 (.i 0)).toI) (((x2.getD x4.toNat []).getD 2 (.i 0)).toI) (((x2.getD x4.toNat []).getD 3 (.i 0)).toI) (((x2.getD x4.toNat []).getD 4 (.i 0)).toI) (((x2.getD x4.toNat []).getD 5 (.i 0)).toL) fun r6 r7 =>
  bif decide (x3 < r6) then R x5 false
  else bif decide ((x5.length + 1) * 8 ≤ 140737488355328) then rec (IntKind.i64.wrap (x3 + r7)) (IntKind.i64.wrap (x4 + 1)) (x5 ++ ([IntKind.i64.wrap (x3 + r7)] : List Int))
  else none)
  else none)
 else k x5
noncomputable def l0 (x2 : List (List Cl)) (k : List Int → O) (R : List Int → Bool → O) : Nat → Int → Int → List Int → O
 | 0, _, _, _ => none
 | n + 1, x3, x4, x5 => l0s x2 (l0 x2 k R n) k R x3 x4 x5
noncomputable def o0 : Fn [.l, .z] St := fun _ y1 => ⟨mkT 36 [(4, one (.ow 3048))], [(3048, ⟨[.int .i64], .ints y1, true, 0, none⟩)], []⟩
noncomputable def n0 (K : Res → O) := ent 0 [.l] [.i, .i, .z] [0, 1, 2, 3] (fun x2 x3 x4 x5 => ⟨mkT 36 [(0, one (.tr 0 1 e_2 (.cells x2))), (4, one (.ow 3048)), (5, oI x3), (6, oI x4)], [(3048, ⟨[.int .i64], .ints x5, true, 0, none⟩)], []⟩) fun x2 k => l0 x2 (fun y1 => k (o0 x2 y1)) (fun r1 r2 => K (m [] r1 r2))
noncomputable def X (K : Res → O) : Ctx := { cx0 [spec_l11Takes.con] fi true K with cin := [(0, ⟨[0, 4, 5, 6], [(3048, 3048), (21528, 3048)], [], [], [], []⟩)], cout := [(0, ⟨[4], [(3048, 3048)], [], [], [], []⟩)], lp := lpOf [n0 K] }
noncomputable def b (a1 : List (List Cl)) (R : List Int → Bool → O) : O :=
 l0 a1 (fun y8 =>
 R y8 true) R fuel 0 0 ([0] : List Int)
noncomputable def g := seal_ b
theorem e : g = b := seal_eq b
noncomputable def a : Fn [.l] St := fun a1 => argSt [one (.tr 0 1 e_2 (.cells a1))] [] []
noncomputable def con := conOf 53 [.l] [.z, .b] a g m
theorem hx (K : Res → O) : CtxOk Pg Γ0 byt0 eqs0 (X K) [spec_l11Takes.con] := ctx_of (X := X) (.cons spec_l11Takes.ok .nil) (by kernel_rfl) K
theorem w0 (K : Res → O) : LpSound Pg (X K) 0 b0 := lp_fin (L := [n0 K]) laid (hx K) .nil (.cons (ent_ok (fun x2 k r => l0s x2 r (fun y1 => k (o0 x2 y1)) (fun r1 r2 => K (m [] r1 r2))) (by kernel_rfl) (by kernel_rfl) (by kernel_rfl) (by kernel_rfl) (by kernel_rfl)) .nil) (by kernel_rfl) (by kernel_rfl)
theorem ok : Con Pg con := con_fin (fn := Tryz.f53) (c := c) (Fi := fi) (X := X) laid hx (fun K => (.cons (w0 K) .nil)) e (by kernel_rfl) (by kernel_rfl) (by kernel_rfl) (by kernel_rfl)
end spec_l11Depths
namespace spec_CodeOk
noncomputable def c : Code := bodyOf Tryz.f23
noncomputable def fi : Fin := ⟨Γ0, [(.tmp 2, 4)], [[1]], [], [], []⟩
noncomputable def m : Fn [.l] (Fn [.b] Res) := fun _ r1 => ⟨[⟨false, [.bool r1]⟩], [], [], [], []⟩
noncomputable def b0 : Code := codeAt c [1, 1, 0, 1, 0, 0]
noncomputable def l0s (x3 : List (List Cl)) (rec : Int → O) (k : O) (R : Bool → O) (x4 : Int) : O :=
 bif decide (x4 < (x3.length : Int)) then (bif decide (0 ≤ x4) && decide (x4 < (x3.length : Int)) then (spec_l11Instr.g (((x3.getD x4.toNat []).getD 0 (.i 0)).toI) (((x3.getD x4.toNat []).getD 1 (.i 0)).toI) (((x3.getD x4.toNat []).getD 2 (.i 0)).toI) (((x3.getD x4.toNat []).getD 3 (.i 0)).toI) (((x3.getD x4.toNat []).getD 4 (.i 0)).toI) (((x3.getD x4.toNat []).getD 5 (.i 0)).toL) fun r5 =>
  bif !r5 then R false
  else rec (IntKind.i64.wrap (x4 + 1)))
  else none)
 else k
noncomputable def l0 (x3 : List (List Cl)) (k : O) (R : Bool → O) : Nat → Int → O
 | 0, _ => none
 | n + 1, x4 => l0s x3 (l0 x3 k R n) k R x4
noncomputable def o0 : Fn [.l] St := fun x3 => ⟨mkT 36 [(0, one (.tr 0 1 e_2 (.cells x3)))], [], []⟩
noncomputable def n0 (K : Res → O) := ent 0 [.l] [.i] [0, 1] (fun x3 x4 => ⟨mkT 36 [(0, one (.tr 0 1 e_2 (.cells x3))), (3, oI x4)], [], []⟩) fun x3 k => l0 x3 (k (o0 x3)) (fun r1 => K (m [] r1))
noncomputable def X (K : Res → O) : Ctx := { cx0 [spec_l1In.con, spec_l11Instr.con, spec_l11Depths.con] fi true K with cin := [(0, ⟨[0, 3], [], [], [], [], []⟩)], cout := [(0, ⟨[0], [], [], [], [], []⟩)], lp := lpOf [n0 K] }
noncomputable def b (a1 : List (List Cl)) (R : Bool → O) : O :=
 spec_l1In.g (a1.length : Int) 1 60 fun r2 =>
 bif !r2 then R false
 else (l0 a1 (
 spec_l11Depths.g a1 fun r6 r7 =>
 bif r7 then (bif decide (0 ≤ (a1.length : Int)) && decide ((a1.length : Int) < (r6.length : Int)) then R (r6.getD ((a1.length : Int).toNat) 0 == 1)
  else none)
 else R false) R fuel 0)
noncomputable def g := seal_ b
theorem e : g = b := seal_eq b
noncomputable def a : Fn [.l] St := fun a1 => argSt [one (.tr 0 1 e_2 (.cells a1))] [] []
noncomputable def con := conOf 23 [.l] [.b] a g m
theorem hx (K : Res → O) : CtxOk Pg Γ0 byt0 eqs0 (X K) [spec_l1In.con, spec_l11Instr.con, spec_l11Depths.con] := ctx_of (X := X) (.cons spec_l1In.ok (.cons spec_l11Instr.ok (.cons spec_l11Depths.ok .nil))) (by kernel_rfl) K
theorem w0 (K : Res → O) : LpSound Pg (X K) 0 b0 := lp_fin (L := [n0 K]) laid (hx K) .nil (.cons (ent_ok (fun x3 k r => l0s x3 r (k (o0 x3)) (fun r1 => K (m [] r1))) (by kernel_rfl) (by kernel_rfl) (by kernel_rfl) (by kernel_rfl) (by kernel_rfl)) .nil) (by kernel_rfl) (by kernel_rfl)
theorem ok : Con Pg con := con_fin (fn := Tryz.f23) (c := c) (Fi := fi) (X := X) laid hx (fun K => (.cons (w0 K) .nil)) e (by kernel_rfl) (by kernel_rfl) (by kernel_rfl) (by kernel_rfl)
end spec_CodeOk
namespace spec_l15Plain
noncomputable def c : Code := bodyOf Tryz.f68
noncomputable def fi : Fin := ⟨Γ0, [(.tmp 2, 4)], [[1]], [], [], []⟩
noncomputable def m : Fn [.i, .i, .i, .i, .i, .z] (Fn [.b] Res) := fun _ _ _ _ _ _ r1 => ⟨[⟨false, [.bool r1]⟩], [], [], [], []⟩
noncomputable def X (K : Res → O) : Ctx := cx0 [spec_l1Sign1.con, spec_l1Sign2.con] fi true K
noncomputable def b (a1 a2 a3 a4 a5 : Int) (a6 : List Int) (R : Bool → O) : O :=
 bif (a1 == 1) then R true
 else bif (a1 == 2) then R true
 else bif (a1 == 4) then (bif (a4 == 0) then (spec_l1Sign1.g a3 fun r7 =>
  R r7)
  else R false)
 else bif (a1 == 5) then (bif (a4 == 0) then (spec_l1Sign2.g a3 fun r8 =>
  R r8)
  else R false)
 else R false
noncomputable def g := seal_ b
theorem e : g = b := seal_eq b
noncomputable def a : Fn [.i, .i, .i, .i, .i, .z] St := fun a1 a2 a3 a4 a5 a6 => argSt [.v ⟨true, [cI a1, cI a2, cI a3, cI a4, cI a5, .tr 0 1 [.int .i64] (.ints a6)]⟩] [] []
noncomputable def con := conOf 68 [.i, .i, .i, .i, .i, .z] [.b] a g m
theorem ok : Con Pg con := con_fin (fn := Tryz.f68) (c := c) (Fi := fi) (X := X) laid (ctx_of (.cons spec_l1Sign1.ok (.cons spec_l1Sign2.ok .nil)) (by kernel_rfl)) (fun K => .nil) e (by kernel_rfl) (by kernel_rfl) (by kernel_rfl) (by kernel_rfl)
end spec_l15Plain
namespace spec_l15End
noncomputable def c : Code := bodyOf Tryz.f33
noncomputable def fi : Fin := ⟨Γ0, [(.tmp 4, 3)], [[1]], [], [], []⟩
noncomputable def m : Fn [.l, .i] (Fn [.i] Res) := fun _ _ r1 => ⟨[⟨false, [cI r1]⟩], [], [], [], []⟩
noncomputable def b0 : Code := codeAt c [1, 1, 1, 1, 0, 1, 0, 0]
noncomputable def l0s (x3 : List (List Cl)) (rec : Int → Int → Bool → Int → O) (k : Int → O) (R : Int → O) (x4 x5 : Int) (x6 : Bool) (x7 : Int) : O :=
 bif decide (x7 < (x3.length : Int)) then (bif decide (0 ≤ x7) && decide (x7 < (x3.length : Int)) then (spec_l15Plain.g (((x3.getD x7.toNat []).getD 0 (.i 0)).toI) (((x3.getD x7.toNat []).getD 1 (.i 0)).toI) (((x3.getD x7.toNat []).getD 2 (.i 0)).toI) (((x3.getD x7.toNat []).getD 3 (.i 0)).toI) (((x3.getD x7.toNat []).getD 4 (.i 0)).toI) (((x3.getD x7.toNat []).getD 5 (.i 0)).toL) fun r8 =>
  bif r8 then (bif decide (0 ≤ x7) && decide (x7 < (x3.length : Int)) then (spec_l11Takes.g (((x3.getD x7.toNat []).getD 0 (.i 0)).toI) (((x3.getD x7.toNat []).getD 1 (.i 0)).toI) (((x3.getD x7.toNat []).getD 2 (.i 0)).toI) (((x3.getD x7.toNat []).getD 3 (.i 0)).toI) (((x3.getD x7.toNat []).getD 4 (.i 0)).toI) (((x3.getD x7.toNat []).getD 5 (.i 0)).toL) fun r9 r10 =>
   bif decide (x5 < r9) then R x4
   else bif x6 then (bif (IntKind.i64.wrap (x5 + r10) == 1) then rec (IntKind.i64.wrap (x7 + 1)) (IntKind.i64.wrap (x5 + r10)) true (IntKind.i64.wrap (x7 + 1))
    else rec x4 (IntKind.i64.wrap (x5 + r10)) true (IntKind.i64.wrap (x7 + 1)))
   else bif (IntKind.i64.wrap (x5 + r10) == 1) then (bif decide (0 < r9) then rec (IntKind.i64.wrap (x7 + 1)) (IntKind.i64.wrap (x5 + r10)) (decide (0 < r9)) (IntKind.i64.wrap (x7 + 1))
    else rec x4 (IntKind.i64.wrap (x5 + r10)) (decide (0 < r9)) (IntKind.i64.wrap (x7 + 1)))
   else rec x4 (IntKind.i64.wrap (x5 + r10)) (decide (0 < r9)) (IntKind.i64.wrap (x7 + 1)))
   else none)
  else k x4)
  else none)
 else k x4
noncomputable def l0 (x3 : List (List Cl)) (k : Int → O) (R : Int → O) : Nat → Int → Int → Bool → Int → O
 | 0, _, _, _, _ => none
 | n + 1, x4, x5, x6, x7 => l0s x3 (l0 x3 k R n) k R x4 x5 x6 x7
noncomputable def o0 : Fn [.l, .i] St := fun _ y1 => ⟨mkT 53 [(5, oI y1)], [], []⟩
noncomputable def n0 (K : Res → O) := ent 0 [.l] [.i, .i, .b, .i] [0, 1, 2, 3, 4] (fun x3 x4 x5 x6 x7 => ⟨mkT 53 [(0, one (.tr 0 1 e_2 (.cells x3))), (5, oI x4), (6, oI x5), (7, one (.bool x6)), (8, oI x7)], [], []⟩) fun x3 k => l0 x3 (fun y1 => k (o0 x3 y1)) (fun r1 => K (m [] (0 : Int) r1))
noncomputable def X (K : Res → O) : Ctx := { cx0 [spec_l15Plain.con, spec_l11Takes.con] fi true K with cin := [(0, ⟨[0, 5, 6, 7, 8], [], [], [], [], []⟩)], cout := [(0, ⟨[5], [], [], [], [], []⟩)], lp := lpOf [n0 K] }
noncomputable def b (a1 : List (List Cl)) (a2 : Int) (R : Int → O) : O :=
 l0 a1 (fun y11 =>
 R y11) R fuel 0 0 false a2
noncomputable def g := seal_ b
theorem e : g = b := seal_eq b
noncomputable def a : Fn [.l, .i] St := fun a1 a2 => argSt [one (.tr 0 1 e_2 (.cells a1)), oI a2] [] []
noncomputable def con := conOf 33 [.l, .i] [.i] a g m
theorem hx (K : Res → O) : CtxOk Pg Γ0 byt0 eqs0 (X K) [spec_l15Plain.con, spec_l11Takes.con] := ctx_of (X := X) (.cons spec_l15Plain.ok (.cons spec_l11Takes.ok .nil)) (by kernel_rfl) K
theorem w0 (K : Res → O) : LpSound Pg (X K) 0 b0 := lp_fin (L := [n0 K]) laid (hx K) .nil (.cons (ent_ok (fun x3 k r => l0s x3 r (fun y1 => k (o0 x3 y1)) (fun r1 => K (m [] (0 : Int) r1))) (by kernel_rfl) (by kernel_rfl) (by kernel_rfl) (by kernel_rfl) (by kernel_rfl)) .nil) (by kernel_rfl) (by kernel_rfl)
theorem ok : Con Pg con := con_fin (fn := Tryz.f33) (c := c) (Fi := fi) (X := X) laid hx (fun K => (.cons (w0 K) .nil)) e (by kernel_rfl) (by kernel_rfl) (by kernel_rfl) (by kernel_rfl)
end spec_l15End
namespace spec_Spans
noncomputable def c : Code := bodyOf Tryz.f12
noncomputable def fi : Fin := ⟨Γ0, [(.tmp 2, 41)], [[1]], [], [], []⟩
noncomputable def m : Fn [.l] (Fn [.l] Res) := fun _ r1 => ⟨[⟨false, [.ow 1000]⟩], [], [⟨e_0, .cells r1, true, 0, none⟩], [], []⟩
noncomputable def b0 : Code := codeAt c [1, 1, 1, 1, 0, 0, 0]
noncomputable def l0s (x3 : List (List Cl)) (rec : Int → List (List Cl) → O) (k : List (List Cl) → O) (x4 : Int) (x5 : List (List Cl)) : O :=
 bif decide (x4 < (x3.length : Int)) then (spec_l15End.g x3 x4 fun r6 =>
  bif (r6 == 0) then rec (IntKind.i64.wrap (x4 + 1)) x5
  else bif decide ((x5.length + 1) * 16 ≤ 140737488355328) then rec r6 (x5 ++ ([[.i x4, .i r6]] : List (List Cl)))
  else none)
 else k x5
noncomputable def l0 (x3 : List (List Cl)) (k : List (List Cl) → O) : Nat → Int → List (List Cl) → O
 | 0, _, _ => none
 | n + 1, x4, x5 => l0s x3 (l0 x3 k n) k x4 x5
noncomputable def o0 : Fn [.l, .l] St := fun _ y1 => ⟨mkT 30 [(3, one (.ow 3048))], [(3048, ⟨e_0, .cells y1, true, 0, none⟩)], []⟩
noncomputable def n0 (K : Res → O) := ent 0 [.l] [.i, .l] [0, 1, 2] (fun x3 x4 x5 => ⟨mkT 30 [(0, one (.tr 0 1 e_2 (.cells x3))), (3, one (.ow 3048)), (4, oI x4)], [(3048, ⟨e_0, .cells x5, true, 0, none⟩)], []⟩) fun x3 k => l0 x3 (fun y1 => k (o0 x3 y1))
noncomputable def X (K : Res → O) : Ctx := { cx0 [spec_CodeOk.con, spec_l15End.con] fi true K with cin := [(0, ⟨[0, 3, 4], [(3048, 3048), (19512, 3048)], [], [], [], []⟩)], cout := [(0, ⟨[3], [(3048, 3048)], [], [], [], []⟩)], lp := lpOf [n0 K] }
noncomputable def b (a1 : List (List Cl)) (R : List (List Cl) → O) : O :=
 spec_CodeOk.g a1 fun r2 =>
 bif !r2 then R ([] : List (List Cl))
 else (l0 a1 (fun y7 =>
 R y7) fuel 0 ([] : List (List Cl)))
noncomputable def g := seal_ b
theorem e : g = b := seal_eq b
noncomputable def a : Fn [.l] St := fun a1 => argSt [one (.tr 0 1 e_2 (.cells a1))] [] []
noncomputable def con := conOf 12 [.l] [.l] a g m
theorem hx (K : Res → O) : CtxOk Pg Γ0 byt0 eqs0 (X K) [spec_CodeOk.con, spec_l15End.con] := ctx_of (X := X) (.cons spec_CodeOk.ok (.cons spec_l15End.ok .nil)) (by kernel_rfl) K
theorem w0 (K : Res → O) : LpSound Pg (X K) 0 b0 := lp_fin (L := [n0 K]) laid (hx K) .nil (.cons (ent_ok (fun x3 k r => l0s x3 r (fun y1 => k (o0 x3 y1))) (by kernel_rfl) (by kernel_rfl) (by kernel_rfl) (by kernel_rfl) (by kernel_rfl)) .nil) (by kernel_rfl) (by kernel_rfl)
theorem ok : Con Pg con := con_fin (fn := Tryz.f12) (c := c) (Fi := fi) (X := X) laid hx (fun K => (.cons (w0 K) .nil)) e (by kernel_rfl) (by kernel_rfl) (by kernel_rfl) (by kernel_rfl)
end spec_Spans
namespace spec_VarsNew
noncomputable def c : Code := bodyOf Tryz.f74
noncomputable def fi : Fin := ⟨Γ0, [(.tmp 0, 27)], [[1]], [], [], []⟩
noncomputable def m : Fn [] (Fn [.l] Res) := fun r1 => ⟨[⟨false, [.ow 1000]⟩], [], [⟨e_3, .cells r1, true, 0, none⟩], [], []⟩
noncomputable def X (K : Res → O) : Ctx := cx0 [] fi true K
noncomputable def b  (R : List (List Cl) → O) : O :=
 R (List.replicate 26 ([.b false, .l [], .l []] : List Cl))
noncomputable def g := seal_ b
theorem e : g = b := seal_eq b
noncomputable def a : Fn [] St := argSt [] [] []
noncomputable def con := conOf 74 [] [.l] a g m
theorem ok : Con Pg con := con_fin (fn := Tryz.f74) (c := c) (Fi := fi) (X := X) laid (ctx_of .nil (by kernel_rfl)) (fun K => .nil) e (by kernel_rfl) (by kernel_rfl) (by kernel_rfl) (by kernel_rfl)
end spec_VarsNew
namespace spec_l2DrawRight
noncomputable def c : Code := bodyOf Tryz.f117
noncomputable def fi : Fin := ⟨Γ0, [(.tmp 2, 30)], [[1]], [], [([.sl [.int .u8] 1, .int .i64, .int .i64], [0, 1, 1])], []⟩
noncomputable def m : Fn [.z, .i, .i] (Fn [.z, .i, .i] Res) := fun a1 _ _ r1 r3 r4 => ⟨[⟨false, [.ow 1000]⟩], [], [⟨[.int .i64], .ints r1, true, 0, none⟩], [[.tr 2 2 [.int .u8] (.ints a1), cI r3, cI r4]], []⟩
noncomputable def X (K : Res → O) : Ctx := cx0 [spec_l1Below.con] fi true K
noncomputable def b (a1 : List Int) (a2 a3 : Int) (R : List Int → Int → Int → O) : O :=
 spec_l1Below.g 5 a1 a2 a3 fun r4 r5 r6 =>
 bif (r4 == 0) then R ([] : List Int) r5 r6
 else bif (r4 == 1) then (spec_l1Below.g 6 a1 r5 r6 fun r7 r8 r9 =>
  R ([r7] : List Int) r8 r9)
 else bif (r4 == 2) then (spec_l1Below.g 6 a1 r5 r6 fun r10 r11 r12 =>
  R ([r10] : List Int) r11 r12)
 else bif (r4 == 3) then (spec_l1Below.g 4 a1 r5 r6 fun r13 r14 r15 =>
  spec_l1Below.g 3 a1 r14 r15 fun r16 r17 r18 =>
  R ([r13, IntKind.i64.wrap (1 + r16)] : List Int) r17 r18)
 else (spec_l1Below.g 3 a1 r5 r6 fun r19 r20 r21 =>
 spec_l1Below.g 2 a1 r20 r21 fun r22 r23 r24 =>
 spec_l1Below.g 4 a1 r23 r24 fun r25 r26 r27 =>
 R ([IntKind.i64.wrap (1 + r19), IntKind.i64.wrap (1 + r22), r25] : List Int) r26 r27)
noncomputable def g := seal_ b
theorem e : g = b := seal_eq b
noncomputable def a : Fn [.z, .i, .i] St := fun a1 a2 a3 => argSt [one (.bp 0 0)] [] [[.tr 2 2 [.int .u8] (.ints a1), cI a2, cI a3]]
noncomputable def con := conOf 117 [.z, .i, .i] [.z, .i, .i] a g m
theorem ok : Con Pg con := con_fin (fn := Tryz.f117) (c := c) (Fi := fi) (X := X) laid (ctx_of (.cons spec_l1Below.ok .nil) (by kernel_rfl)) (fun K => .nil) e (by kernel_rfl) (by kernel_rfl) (by kernel_rfl) (by kernel_rfl)
end spec_l2DrawRight
namespace spec_SizeOf
noncomputable def c : Code := bodyOf Tryz.f56
noncomputable def fi : Fin := ⟨Γ0, [(.tmp 2, 3)], [[1]], [], [], []⟩
noncomputable def m : Fn [.z] (Fn [.i] Res) := fun _ r1 => ⟨[⟨false, [cI r1]⟩], [], [], [], []⟩
noncomputable def b0 : Code := codeAt c [1, 1, 1, 0, 1, 0, 0]
noncomputable def b2 : Code := codeAt c [1, 1, 1, 1, 1, 0, 1, 0, 0]
noncomputable def l0s (x2 : List Int) (rec : Bool → Int → O) (k : Bool → O) (R : Int → O) (x3 : Bool) (x4 : Int) : O :=
 bif decide (x4 < (x2.length : Int)) then (bif decide (0 ≤ x4) && decide (x4 < (x2.length : Int)) then (spec_l1In.g (x2.getD x4.toNat 0) 0 300 fun r5 =>
  bif !r5 then R (-1)
  else bif x3 then rec true (IntKind.i64.wrap (x4 + 1))
  else bif decide (0 ≤ x4) && decide (x4 < (x2.length : Int)) then rec (x2.getD x4.toNat 0 == 0) (IntKind.i64.wrap (x4 + 1))
  else none)
  else none)
 else k x3
noncomputable def l0 (x2 : List Int) (k : Bool → O) (R : Int → O) : Nat → Bool → Int → O
 | 0, _, _ => none
 | n + 1, x3, x4 => l0s x2 (l0 x2 k R n) k R x3 x4
noncomputable def o0 : Fn [.z, .b] St := fun x2 y2 => ⟨mkT 49 [(0, one (.tr 0 1 [.int .i64] (.ints x2))), (3, one (.bool y2))], [], []⟩
noncomputable def n0 (K : Res → O) := ent 0 [.z] [.b, .i] [0, 1, 2] (fun x2 x3 x4 => ⟨mkT 49 [(0, one (.tr 0 1 [.int .i64] (.ints x2))), (3, one (.bool x3)), (4, oI x4)], [], []⟩) fun x2 k => l0 x2 (fun y2 => k (o0 x2 y2)) (fun r1 => K (m [] r1))
noncomputable def l2s (x7 : List Int) (x8 : Bool) (rec : Int → Int → O) (k : Int → O) (x9 x10 : Int) : O :=
 bif decide (x10 < (x7.length : Int)) then (bif decide (0 ≤ x10) && decide (x10 < (x7.length : Int)) then rec (IntKind.i64.wrap (x9 * (x7.getD x10.toNat 0))) (IntKind.i64.wrap (x10 + 1))
  else none)
 else k x9
noncomputable def l2 (x7 : List Int) (x8 : Bool) (k : Int → O) : Nat → Int → Int → O
 | 0, _, _ => none
 | n + 1, x9, x10 => l2s x7 x8 (l2 x7 x8 k n) k x9 x10
noncomputable def o2 : Fn [.z, .b, .i] St := fun _ x8 y2 => ⟨mkT 49 [(3, one (.bool x8)), (5, oI y2)], [], []⟩
noncomputable def n2 (K : Res → O) := ent 2 [.z, .b] [.i, .i] [0, 1, 2, 3] (fun x7 x8 x9 x10 => ⟨mkT 49 [(0, one (.tr 0 1 [.int .i64] (.ints x7))), (3, one (.bool x8)), (5, oI x9), (6, oI x10)], [], []⟩) fun x7 x8 k => l2 x7 x8 (fun y2 => k (o2 x7 x8 y2))
noncomputable def X (K : Res → O) : Ctx := { cx0 [spec_l1In.con] fi true K with cin := [(0, ⟨[0, 3, 4], [], [], [], [], []⟩), (2, ⟨[0, 3, 5, 6], [], [], [], [], []⟩)], cout := [(0, ⟨[0, 3], [], [], [], [], []⟩), (2, ⟨[3, 5], [], [], [], [], []⟩)], lp := lpOf [n0 K, n2 K] }
noncomputable def b (a1 : List Int) (R : Int → O) : O :=
 bif decide (3 < (a1.length : Int)) then R (-1)
 else (l0 a1 (fun y6 =>
 l2 a1 y6 (fun y11 =>
 bif decide (300 < y11) then (bif !y6 then R (-1)
  else R y11)
 else R y11) fuel 1 0) R fuel false 0)
noncomputable def g := seal_ b
theorem e : g = b := seal_eq b
noncomputable def a : Fn [.z] St := fun a1 => argSt [one (.tr 0 1 [.int .i64] (.ints a1))] [] []
noncomputable def con := conOf 56 [.z] [.i] a g m
theorem hx (K : Res → O) : CtxOk Pg Γ0 byt0 eqs0 (X K) [spec_l1In.con] := ctx_of (X := X) (.cons spec_l1In.ok .nil) (by kernel_rfl) K
theorem w2 (K : Res → O) : LpSound Pg (X K) 2 b2 := lp_fin (L := [n0 K, n2 K]) laid (hx K) .nil (.skip rfl (.cons (ent_ok (fun x7 x8 k r => l2s x7 x8 r (fun y2 => k (o2 x7 x8 y2))) (by kernel_rfl) (by kernel_rfl) (by kernel_rfl) (by kernel_rfl) (by kernel_rfl)) .nil)) (by kernel_rfl) (by kernel_rfl)
theorem w0 (K : Res → O) : LpSound Pg (X K) 0 b0 := lp_fin (L := [n0 K, n2 K]) laid (hx K) .nil (.cons (ent_ok (fun x2 k r => l0s x2 r (fun y2 => k (o0 x2 y2)) (fun r1 => K (m [] r1))) (by kernel_rfl) (by kernel_rfl) (by kernel_rfl) (by kernel_rfl) (by kernel_rfl)) (.skip rfl .nil)) (by kernel_rfl) (by kernel_rfl)
theorem ok : Con Pg con := con_fin (fn := Tryz.f56) (c := c) (Fi := fi) (X := X) laid hx (fun K => (.cons (w0 K) (.cons (w2 K) .nil))) e (by kernel_rfl) (by kernel_rfl) (by kernel_rfl) (by kernel_rfl)
end spec_SizeOf
namespace spec_l3Fill
noncomputable def c : Code := bodyOf Tryz.f76
noncomputable def fi : Fin := ⟨Γ0, [(.cell 4 32, 32)], [[1, 1]], [], [([.sl [.int .u8] 1, .int .i64, .int .i64], [0, 1, 1])], []⟩
noncomputable def m : Fn [.z, .z, .i, .i] (Fn [.z, .z, .z, .i, .i] Res) := fun _ _ _ _ r1 r2 r3 r4 r5 => ⟨[⟨true, [.ow 1000, .ow 1001]⟩], [], [⟨[.int .i64], .ints r1, true, 0, none⟩, ⟨[.int .i64], .ints r2, true, 0, none⟩], [[.tr 2 2 [.int .u8] (.ints r3), cI r4, cI r5]], []⟩
noncomputable def b0 : Code := codeAt c [1, 1, 0, 1, 0, 0]
noncomputable def l0s (x5 x7 x9 : List Int) (rec : Int → List Int → Int → Int → O) (k : List Int → Int → Int → O) (x6 : Int) (x8 : List Int) (x10 x11 : Int) : O :=
 spec_SizeOf.g x5 fun r12 =>
 bif decide (x6 < r12) then (spec_l1DrawNum.g x9 x10 x11 fun r13 r14 r15 =>
  bif decide ((x8.length + 1) * 8 ≤ 140737488355328) then rec (IntKind.i64.wrap (x6 + 1)) (x8 ++ ([r13] : List Int)) r14 r15
  else none)
 else k x8 x10 x11
noncomputable def l0 (x5 x7 x9 : List Int) (k : List Int → Int → Int → O) : Nat → Int → List Int → Int → Int → O
 | 0, _, _, _, _ => none
 | n + 1, x6, x8, x10, x11 => l0s x5 x7 x9 (l0 x5 x7 x9 k n) k x6 x8 x10 x11
noncomputable def o0 : Fn [.z, .z, .z, .z, .i, .i] St := fun _ x7 x9 y2 y4 y5 => ⟨mkT 25 [(4, one (.bp 1000 0)), (5, one (.bp 3112 0))], [(3080, ⟨[.int .i64], .ints x7, true, 0, none⟩), (3105, ⟨[.int .i64], .ints y2, true, 0, none⟩)], [(1000, [.nil, .nil]), (3112, [.ow 3080, .ow 3105]), (0, [.tr 2 2 [.int .u8] (.ints x9), cI y4, cI y5])]⟩
noncomputable def n0 (K : Res → O) := ent 0 [.z, .z, .z] [.i, .z, .i, .i] [0, 2, 4, 1, 3, 5, 6] (fun x5 x7 x9 x6 x8 x10 x11 => ⟨mkT 25 [(0, one (.bp 0 0)), (1, one (.tr 0 1 [.int .i64] (.ints x5))), (4, one (.bp 1000 0)), (5, one (.bp 3112 0)), (6, oI x6)], [(3080, ⟨[.int .i64], .ints x7, true, 0, none⟩), (3105, ⟨[.int .i64], .ints x8, true, 0, none⟩)], [(0, [.tr 2 2 [.int .u8] (.ints x9), cI x10, cI x11]), (1000, [.nil, .nil]), (3112, [.ow 3080, .ow 3105])]⟩) fun x5 x7 x9 k => l0 x5 x7 x9 (fun y2 y4 y5 => k (o0 x5 x7 x9 y2 y4 y5))
noncomputable def X (K : Res → O) : Ctx := { cx0 [spec_SizeOf.con, spec_l1DrawNum.con] fi true K with own := [(1, 3, 1, [.int .i64])], cin := [(0, ⟨[0, 1, 4, 5, 6], [(3080, 3080), (3105, 3105), (11320, 3105)], [0, 1000, 3112], [], [], []⟩)], cout := [(0, ⟨[4, 5], [(3080, 3080), (3105, 3105)], [1000, 3112, 0], [], [], []⟩)], lp := lpOf [n0 K] }
noncomputable def b (a1 a2 : List Int) (a3 a4 : Int) (R : List Int → List Int → List Int → Int → Int → O) : O :=
 bif decide ((0 + a1.length) * 8 ≤ 140737488355328) then (l0 a1 (([] : List Int) ++ a1) a2 (fun y16 y17 y18 =>
  R (([] : List Int) ++ a1) y16 a2 y17 y18) fuel 0 ([] : List Int) a3 a4)
 else none
noncomputable def g := seal_ b
theorem e : g = b := seal_eq b
noncomputable def a : Fn [.z, .z, .i, .i] St := fun a1 a2 a3 a4 => argSt [one (.bp 0 0), one (.tr 0 1 [.int .i64] (.ints a1))] [] [[.tr 2 2 [.int .u8] (.ints a2), cI a3, cI a4]]
noncomputable def con := conOf 76 [.z, .z, .i, .i] [.z, .z, .z, .i, .i] a g m
theorem hx (K : Res → O) : CtxOk Pg Γ0 byt0 eqs0 (X K) [spec_SizeOf.con, spec_l1DrawNum.con] := ctx_of (X := X) (.cons spec_SizeOf.ok (.cons spec_l1DrawNum.ok .nil)) (by kernel_rfl) K
theorem w0 (K : Res → O) : LpSound Pg (X K) 0 b0 := lp_fin (L := [n0 K]) laid (hx K) .nil (.cons (ent_ok (fun x5 x7 x9 k r => l0s x5 x7 x9 r (fun y2 y4 y5 => k (o0 x5 x7 x9 y2 y4 y5))) (by kernel_rfl) (by kernel_rfl) (by kernel_rfl) (by kernel_rfl) (by kernel_rfl)) .nil) (by kernel_rfl) (by kernel_rfl)
theorem ok : Con Pg con := con_fin (fn := Tryz.f76) (c := c) (Fi := fi) (X := X) laid hx (fun K => (.cons (w0 K) .nil)) e (by kernel_rfl) (by kernel_rfl) (by kernel_rfl) (by kernel_rfl)
end spec_l3Fill
namespace spec_l3DrawRight
noncomputable def c : Code := bodyOf Tryz.f75
noncomputable def fi : Fin := ⟨Γ0, [(.cell 2 32, 32)], [[1, 1]], [], [([.sl [.int .u8] 1, .int .i64, .int .i64], [0, 1, 1])], []⟩
noncomputable def m : Fn [.z, .i, .i] (Fn [.z, .z, .z, .i, .i] Res) := fun _ _ _ r1 r2 r3 r4 r5 => ⟨[⟨true, [.ow 1000, .ow 1001]⟩], [], [⟨[.int .i64], .ints r1, true, 0, none⟩, ⟨[.int .i64], .ints r2, true, 0, none⟩], [[.tr 2 2 [.int .u8] (.ints r3), cI r4, cI r5]], []⟩
noncomputable def X (K : Res → O) : Ctx := cx0 [spec_l2DrawRight.con, spec_l3Fill.con] fi true K
noncomputable def b (a1 : List Int) (a2 a3 : Int) (R : List Int → List Int → List Int → Int → Int → O) : O :=
 spec_l2DrawRight.g a1 a2 a3 fun r4 r5 r6 =>
 spec_l3Fill.g r4 a1 r5 r6 fun r7 r8 r9 r10 r11 =>
 R r7 r8 r9 r10 r11
noncomputable def g := seal_ b
theorem e : g = b := seal_eq b
noncomputable def a : Fn [.z, .i, .i] St := fun a1 a2 a3 => argSt [one (.bp 0 0)] [] [[.tr 2 2 [.int .u8] (.ints a1), cI a2, cI a3]]
noncomputable def con := conOf 75 [.z, .i, .i] [.z, .z, .z, .i, .i] a g m
theorem ok : Con Pg con := con_fin (fn := Tryz.f75) (c := c) (Fi := fi) (X := X) laid (ctx_of (.cons spec_l2DrawRight.ok (.cons spec_l3Fill.ok .nil)) (by kernel_rfl)) (fun K => .nil) e (by kernel_rfl) (by kernel_rfl) (by kernel_rfl) (by kernel_rfl)
end spec_l3DrawRight
namespace spec_l10DrawVars
noncomputable def c : Code := bodyOf Tryz.f37
noncomputable def fi : Fin := ⟨Γ0, [(.tmp 2, 27)], [[1]], [], [([.sl [.int .u8] 1, .int .i64, .int .i64], [0, 1, 1])], []⟩
noncomputable def m : Fn [.z, .i, .i] (Fn [.l, .z, .i, .i] Res) := fun _ _ _ r1 r2 r3 r4 => ⟨[⟨false, [.ow 1000]⟩], [], [⟨e_3, .cells r1, true, 0, none⟩], [[.tr 2 2 [.int .u8] (.ints r2), cI r3, cI r4]], []⟩
noncomputable def b0 : Code := codeAt c [1, 1, 0, 1, 0, 0]
noncomputable def l0s  (rec : Int → List (List Cl) → List Int → Int → Int → O) (k : List (List Cl) → List Int → Int → Int → O) (x5 : Int) (x6 : List (List Cl)) (x7 : List Int) (x8 x9 : Int) : O :=
 bif decide (x5 < 3) then (spec_l1Once.g 5 x7 x8 x9 fun r10 r11 r12 =>
  bif !r10 then (spec_l3DrawRight.g x7 r11 r12 fun r13 r14 r15 r16 r17 =>
   bif decide (0 ≤ x5) && decide (x5 < (x6.length : Int)) then rec (IntKind.i64.wrap (x5 + 1)) (x6.set x5.toNat [.b true, .l r13, .l r14]) r15 r16 r17
   else none)
  else rec (IntKind.i64.wrap (x5 + 1)) x6 x7 r11 r12)
 else k x6 x7 x8 x9
noncomputable def l0  (k : List (List Cl) → List Int → Int → Int → O) : Nat → Int → List (List Cl) → List Int → Int → Int → O
 | 0, _, _, _, _, _ => none
 | n + 1, x5, x6, x7, x8, x9 => l0s (l0 k n) k x5 x6 x7 x8 x9
noncomputable def o0 : Fn [.l, .z, .i, .i] St := fun y1 y2 y3 y4 => ⟨mkT 34 [(0, one (.bp 0 0)), (3, one (.ow 3049))], [(3049, ⟨e_3, .cells y1, true, 0, none⟩)], [(0, [.tr 2 2 [.int .u8] (.ints y2), cI y3, cI y4])]⟩
noncomputable def n0 (K : Res → O) := ent 0 [] [.i, .l, .z, .i, .i] [0, 1, 2, 3, 4] (fun x5 x6 x7 x8 x9 => ⟨mkT 34 [(0, one (.bp 0 0)), (3, one (.ow 3049)), (4, oI x5)], [(3049, ⟨e_3, .cells x6, true, 0, none⟩)], [(0, [.tr 2 2 [.int .u8] (.ints x7), cI x8, cI x9])]⟩) fun k => l0 (fun y1 y2 y3 y4 => k (o0 y1 y2 y3 y4))
noncomputable def X (K : Res → O) : Ctx := { cx0 [spec_VarsNew.con, spec_l1Once.con, spec_l3DrawRight.con, spec_l3Fill.con] fi true K with cin := [(0, ⟨[0, 3, 4], [(3049, 3049)], [0], [], [], []⟩)], cout := [(0, ⟨[0, 3], [(3049, 3049)], [0], [], [], []⟩)], lp := lpOf [n0 K] }
noncomputable def b (a1 : List Int) (a2 a3 : Int) (R : List (List Cl) → List Int → Int → Int → O) : O :=
 spec_VarsNew.g fun r4 =>
 l0 (fun y18 y19 y20 y21 =>
 spec_l1Once.g 2 y19 y20 y21 fun r22 r23 r24 =>
 bif r22 then (spec_l3Fill.g ([3] : List Int) y19 r23 r24 fun r25 r26 r27 r28 r29 =>
  bif decide (1 < (y18.length : Int)) then (spec_l3Fill.g ([3] : List Int) r27 r28 r29 fun r30 r31 r32 r33 r34 =>
   bif decide (0 < ((y18.set 1 [.b true, .l r25, .l r26]).length : Int)) then R ((y18.set 1 [.b true, .l r25, .l r26]).set 0 [.b true, .l r30, .l r31]) r32 r33 r34
   else none)
  else none)
 else R y18 y19 r23 r24) fuel 0 r4 a1 a2 a3
noncomputable def g := seal_ b
theorem e : g = b := seal_eq b
noncomputable def a : Fn [.z, .i, .i] St := fun a1 a2 a3 => argSt [one (.bp 0 0)] [] [[.tr 2 2 [.int .u8] (.ints a1), cI a2, cI a3]]
noncomputable def con := conOf 37 [.z, .i, .i] [.l, .z, .i, .i] a g m
theorem hx (K : Res → O) : CtxOk Pg Γ0 byt0 eqs0 (X K) [spec_VarsNew.con, spec_l1Once.con, spec_l3DrawRight.con, spec_l3Fill.con] := ctx_of (X := X) (.cons spec_VarsNew.ok (.cons spec_l1Once.ok (.cons spec_l3DrawRight.ok (.cons spec_l3Fill.ok .nil)))) (by kernel_rfl) K
theorem w0 (K : Res → O) : LpSound Pg (X K) 0 b0 := lp_fin (L := [n0 K]) laid (hx K) .nil (.cons (ent_ok (fun k r => l0s r (fun y1 y2 y3 y4 => k (o0 y1 y2 y3 y4))) (by kernel_rfl) (by kernel_rfl) (by kernel_rfl) (by kernel_rfl) (by kernel_rfl)) .nil) (by kernel_rfl) (by kernel_rfl)
theorem ok : Con Pg con := con_fin (fn := Tryz.f37) (c := c) (Fi := fi) (X := X) laid hx (fun K => (.cons (w0 K) .nil)) e (by kernel_rfl) (by kernel_rfl) (by kernel_rfl) (by kernel_rfl)
end spec_l10DrawVars
namespace spec_l2Draw
noncomputable def c : Code := bodyOf Tryz.f77
noncomputable def fi : Fin := ⟨Γ0, [(.tmp 2, 30)], [[1]], [], [([.sl [.int .u8] 1, .int .i64, .int .i64], [0, 1, 1])], []⟩
noncomputable def m : Fn [.z, .i, .i] (Fn [.z, .i, .i] Res) := fun a1 _ _ r1 r3 r4 => ⟨[⟨false, [.ow 1000]⟩], [], [⟨[.int .i64], .ints r1, true, 0, none⟩], [[.tr 2 2 [.int .u8] (.ints a1), cI r3, cI r4]], []⟩
noncomputable def X (K : Res → O) : Ctx := cx0 [spec_l2DrawRight.con, spec_l1Below.con, spec_l1PickInt.con] fi true K
noncomputable def b (a1 : List Int) (a2 a3 : Int) (R : List Int → Int → Int → O) : O :=
 spec_l2DrawRight.g a1 a2 a3 fun r4 r5 r6 =>
 spec_l1Below.g 20 a1 r5 r6 fun r7 r8 r9 =>
 bif (r7 == 0) then (spec_l1PickInt.g ([(-1), 0, 300, 301] : List Int) a1 r8 r9 fun r10 r11 r12 =>
  bif decide ((r4.length + 1) * 8 ≤ 140737488355328) then R (r4 ++ ([r10] : List Int)) r11 r12
  else none)
 else bif (r7 == 1) then R ([1, 1, 1, 1] : List Int) r8 r9
 else bif (r7 == 2) then (spec_l1PickInt.g ([17, 20, 15, 300] : List Int) a1 r8 r9 fun r13 r14 r15 =>
  spec_l1PickInt.g ([15, 20, 16, 0] : List Int) a1 r14 r15 fun r16 r17 r18 =>
  R ([r13, r16] : List Int) r17 r18)
 else R r4 r8 r9
noncomputable def g := seal_ b
theorem e : g = b := seal_eq b
noncomputable def a : Fn [.z, .i, .i] St := fun a1 a2 a3 => argSt [one (.bp 0 0)] [] [[.tr 2 2 [.int .u8] (.ints a1), cI a2, cI a3]]
noncomputable def con := conOf 77 [.z, .i, .i] [.z, .i, .i] a g m
theorem ok : Con Pg con := con_fin (fn := Tryz.f77) (c := c) (Fi := fi) (X := X) laid (ctx_of (.cons spec_l2DrawRight.ok (.cons spec_l1Below.ok (.cons spec_l1PickInt.ok .nil))) (by kernel_rfl)) (fun K => .nil) e (by kernel_rfl) (by kernel_rfl) (by kernel_rfl) (by kernel_rfl)
end spec_l2Draw
namespace spec_l3Draw
noncomputable def c : Code := bodyOf Tryz.f38
noncomputable def fi : Fin := ⟨Γ0, [(.cell 2 32, 32)], [[1, 1]], [], [([.sl [.int .u8] 1, .int .i64, .int .i64], [0, 1, 1])], []⟩
noncomputable def m : Fn [.z, .i, .i] (Fn [.z, .z, .z, .i, .i] Res) := fun _ _ _ r1 r2 r3 r4 r5 => ⟨[⟨true, [.ow 1000, .ow 1001]⟩], [], [⟨[.int .i64], .ints r1, true, 0, none⟩, ⟨[.int .i64], .ints r2, true, 0, none⟩], [[.tr 2 2 [.int .u8] (.ints r3), cI r4, cI r5]], []⟩
noncomputable def X (K : Res → O) : Ctx := cx0 [spec_l3DrawRight.con, spec_l1Below.con, spec_l2Draw.con, spec_l1DrawRaw.con] fi true K
noncomputable def b (a1 : List Int) (a2 a3 : Int) (R : List Int → List Int → List Int → Int → Int → O) : O :=
 spec_l3DrawRight.g a1 a2 a3 fun r4 r5 r6 r7 r8 =>
 spec_l1Below.g 20 r6 r7 r8 fun r9 r10 r11 =>
 bif (r9 == 0) then (bif decide ((r5.length + 1) * 8 ≤ 140737488355328) then R r4 (r5 ++ ([1] : List Int)) r6 r10 r11
  else none)
 else bif (r9 == 1) then (spec_l2Draw.g r6 r10 r11 fun r12 r13 r14 =>
  R r12 r5 r6 r13 r14)
 else bif (r9 == 2) then (bif decide (0 < (r5.length : Int)) then (spec_l1Below.g (r5.length : Int) r6 r10 r11 fun r15 r16 r17 =>
  spec_l1DrawRaw.g r6 r16 r17 fun r18 r19 r20 =>
  bif decide (0 ≤ r15) && decide (r15 < (r5.length : Int)) then R r4 (r5.set r15.toNat r18) r6 r19 r20
  else none)
  else R r4 r5 r6 r10 r11)
 else bif (r9 == 3) then (spec_l1Below.g 2 r6 r10 r11 fun r21 r22 r23 =>
  bif decide (IntKind.i64.wrap (300 + r21) = IntKind.i64.wrap (300 + r21)) && decide (0 ≤ IntKind.i64.wrap (300 + r21)) && decide (IntKind.i64.wrap (300 + r21) * 8 ≤ 140737488355328) then R ([300] : List Int) (List.replicate ((IntKind.i64.wrap (300 + r21)).toNat) 0) r6 r22 r23
  else none)
 else R r4 r5 r6 r10 r11
noncomputable def g := seal_ b
theorem e : g = b := seal_eq b
noncomputable def a : Fn [.z, .i, .i] St := fun a1 a2 a3 => argSt [one (.bp 0 0)] [] [[.tr 2 2 [.int .u8] (.ints a1), cI a2, cI a3]]
noncomputable def con := conOf 38 [.z, .i, .i] [.z, .z, .z, .i, .i] a g m
theorem ok : Con Pg con := con_fin (fn := Tryz.f38) (c := c) (Fi := fi) (X := X) laid (ctx_of (.cons spec_l3DrawRight.ok (.cons spec_l1Below.ok (.cons spec_l2Draw.ok (.cons spec_l1DrawRaw.ok .nil)))) (by kernel_rfl)) (fun K => .nil) e (by kernel_rfl) (by kernel_rfl) (by kernel_rfl) (by kernel_rfl)
end spec_l3Draw
namespace spec_l10DrawAny
noncomputable def c : Code := bodyOf Tryz.f16
noncomputable def fi : Fin := ⟨Γ0, [(.tmp 2, 27)], [[4]], [], [([.sl [.int .u8] 1, .int .i64, .int .i64], [0, 1, 1])], []⟩
noncomputable def m : Fn [.z, .i, .i] (Fn [.l, .z, .i, .i] Res) := fun _ _ _ r1 r2 r3 r4 => ⟨[⟨false, [.tr 1 1 e_3 (.cells r1)]⟩], [], [], [[.tr 2 2 [.int .u8] (.ints r2), cI r3, cI r4]], []⟩
noncomputable def X (K : Res → O) : Ctx := cx0 [spec_l10DrawVars.con, spec_l1Below.con, spec_l3Draw.con] fi true K
noncomputable def b (a1 : List Int) (a2 a3 : Int) (R : List (List Cl) → List Int → Int → Int → O) : O :=
 spec_l10DrawVars.g a1 a2 a3 fun r4 r5 r6 r7 =>
 spec_l1Below.g 30 r5 r6 r7 fun r8 r9 r10 =>
 bif (r8 == 0) then (bif decide (1 ≤ (r4.length : Int)) then R ((r4.drop 1).take (r4.length - 1)) r5 r9 r10
  else none)
 else bif (r8 == 1) then (bif decide (0 < (r4.length : Int)) then (bif decide (0 < (r4.length : Int)) then R (r4.set 0 (splice (r4.getD 0 []) 0 [.b (!(((r4.getD 0 []).getD 0 (.i 0)).toB))])) r5 r9 r10
  else none)
  else none)
 else bif (r8 == 2) then (spec_l3Draw.g r5 r9 r10 fun r11 r12 r13 r14 r15 =>
  bif decide (1 < (r4.length : Int)) then R (r4.set 1 [.b true, .l r11, .l r12]) r13 r14 r15
  else none)
 else R r4 r5 r9 r10
noncomputable def g := seal_ b
theorem e : g = b := seal_eq b
noncomputable def a : Fn [.z, .i, .i] St := fun a1 a2 a3 => argSt [one (.bp 0 0)] [] [[.tr 2 2 [.int .u8] (.ints a1), cI a2, cI a3]]
noncomputable def con := conOf 16 [.z, .i, .i] [.l, .z, .i, .i] a g m
theorem ok : Con Pg con := con_fin (fn := Tryz.f16) (c := c) (Fi := fi) (X := X) laid (ctx_of (.cons spec_l10DrawVars.ok (.cons spec_l1Below.ok (.cons spec_l3Draw.ok .nil))) (by kernel_rfl)) (fun K => .nil) e (by kernel_rfl) (by kernel_rfl) (by kernel_rfl) (by kernel_rfl)
end spec_l10DrawAny
namespace spec_DrawFuseTry
noncomputable def c : Code := bodyOf Tryz.f5
noncomputable def fi : Fin := ⟨Γ0, [(.tmp 2, 24), (.cell 3 26, 26), (.tmp 4, 27)], [[4], [1, 1], [4]], [], [], []⟩
noncomputable def m : Fn [.z] (Fn [.l, .i, .i, .l] Res) := fun _ r1 r2 r3 r4 => ⟨[⟨false, [.tr 1 1 e_2 (.cells r1)]⟩, ⟨true, [cI r2, cI r3]⟩, ⟨false, [.tr 1 1 e_3 (.cells r4)]⟩], [], [], [], []⟩
noncomputable def b0 : Code := codeAt c [1, 1, 1, 0, 1, 0, 0]
noncomputable def l0s (x11 x12 : Int) (rec : List (List Cl) → Int → List Int → Int → Int → O) (k : List (List Cl) → List Int → Int → Int → O) (x9 : List (List Cl)) (x10 : Int) (x13 : List Int) (x14 x15 : Int) : O :=
 bif decide (x10 < 6) then (spec_Spans.g x9 fun r16 =>
  bif ((r16.length : Int) == 0) then (spec_l11DrawRight.g x13 x14 x15 fun r17 r18 r19 r20 =>
   rec r17 (IntKind.i64.wrap (x10 + 1)) r18 r19 r20)
  else k x9 x13 x14 x15)
 else k x9 x13 x14 x15
noncomputable def l0 (x11 x12 : Int) (k : List (List Cl) → List Int → Int → Int → O) : Nat → List (List Cl) → Int → List Int → Int → Int → O
 | 0, _, _, _, _, _ => none
 | n + 1, x9, x10, x13, x14, x15 => l0s x11 x12 (l0 x11 x12 k n) k x9 x10 x13 x14 x15
noncomputable def o0 : Fn [.i, .i, .l, .z, .i, .i] St := fun x11 x12 y1 y4 y5 y6 => ⟨mkT 52 [(3, one (.bp 1016 0)), (5, one (.bp 3065 0)), (6, one (.tr 1 1 e_2 (.cells y1)))], [], [(1016, [cI x11, cI x12]), (3065, [.tr 2 2 [.int .u8] (.ints y4), cI y5, cI y6])]⟩
noncomputable def n0 (K : Res → O) := ent 0 [.i, .i] [.l, .i, .z, .i, .i] [2, 3, 0, 1, 4, 5, 6] (fun x11 x12 x9 x10 x13 x14 x15 => ⟨mkT 52 [(3, one (.bp 1016 0)), (5, one (.bp 3065 0)), (6, one (.tr 1 1 e_2 (.cells x9))), (7, oI x10)], [], [(1016, [cI x11, cI x12]), (3065, [.tr 2 2 [.int .u8] (.ints x13), cI x14, cI x15])]⟩) fun x11 x12 k => l0 x11 x12 (fun y1 y4 y5 y6 => k (o0 x11 x12 y1 y4 y5 y6))
noncomputable def X (K : Res → O) : Ctx := { cx0 [spec_l1New.con, spec_l11Draw.con, spec_Spans.con, spec_l11DrawRight.con, spec_l1Below.con, spec_l1Once.con, spec_l10DrawAny.con] fi false K with io := [(10, [⟨false, 2, 1⟩])], cin := [(0, ⟨[3, 5, 6, 7], [], [1016, 3065], [], [], [(12, 0, 1, 1, e_2)]⟩)], cout := [(0, ⟨[3, 5, 6], [], [1016, 3065], [], [], []⟩)], lp := lpOf [n0 K] }
noncomputable def b (a1 : List Int) (R : List (List Cl) → Int → Int → List (List Cl) → O) : O :=
 spec_l1New.g a1 fun r2 r3 r4 =>
 spec_l11Draw.g r2 r3 r4 fun r5 r6 r7 r8 =>
 l0 0 0 (fun y21 y22 y23 y24 =>
 spec_Spans.g y21 fun r25 =>
 spec_l1Below.g 4 y22 y23 y24 fun r26 r27 r28 =>
 spec_l1Below.g 6 y22 r27 r28 fun r29 r30 r31 =>
 bif decide (0 < (r25.length : Int)) then (spec_l1Once.g 6 y22 r30 r31 fun r32 r33 r34 =>
  bif !r32 then (spec_l1Below.g (r25.length : Int) y22 r33 r34 fun r35 r36 r37 =>
   bif decide (0 ≤ r35) && decide (r35 < (r25.length : Int)) then (spec_l10DrawAny.g y22 r36 r37 fun r38 r39 r40 r41 =>
    R y21 (((r25.getD r35.toNat []).getD 0 (.i 0)).toI) (((r25.getD r35.toNat []).getD 1 (.i 0)).toI) r38)
   else none)
  else (spec_l10DrawAny.g y22 r33 r34 fun r42 r43 r44 r45 =>
  R y21 r26 r29 r42))
 else (spec_l10DrawAny.g y22 r30 r31 fun r46 r47 r48 r49 =>
 R y21 r26 r29 r46)) fuel r5 0 r6 r7 r8
noncomputable def g := seal_ b
theorem e : g = b := seal_eq b
noncomputable def a : Fn [.z] St := fun a1 => argSt [one (.tr 2 1 [.int .u8] (.ints a1))] [] []
noncomputable def con := conOf 5 [.z] [.l, .i, .i, .l] a g m
theorem hx (K : Res → O) : CtxOk Pg Γ0 byt0 eqs0 (X K) [spec_l1New.con, spec_l11Draw.con, spec_Spans.con, spec_l11DrawRight.con, spec_l1Below.con, spec_l1Once.con, spec_l10DrawAny.con] := ctx_of (X := X) (.cons spec_l1New.ok (.cons spec_l11Draw.ok (.cons spec_Spans.ok (.cons spec_l11DrawRight.ok (.cons spec_l1Below.ok (.cons spec_l1Once.ok (.cons spec_l10DrawAny.ok .nil))))))) (by kernel_rfl) K
theorem w0 (K : Res → O) : LpSound Pg (X K) 0 b0 := lp_fin (L := [n0 K]) laid (hx K) .nil (.cons (ent_ok (fun x11 x12 k r => l0s x11 x12 r (fun y1 y4 y5 y6 => k (o0 x11 x12 y1 y4 y5 y6))) (by kernel_rfl) (by kernel_rfl) (by kernel_rfl) (by kernel_rfl) (by kernel_rfl)) .nil) (by kernel_rfl) (by kernel_rfl)
theorem ok : Con Pg con := con_fin (fn := Tryz.f5) (c := c) (Fi := fi) (X := X) laid hx (fun K => (.cons (w0 K) .nil)) e (by kernel_rfl) (by kernel_rfl) (by kernel_rfl) (by kernel_rfl)
end spec_DrawFuseTry
namespace impl_within
noncomputable def c : Code := bodyOf Tryz.f46
noncomputable def fi : Fin := ⟨Γ0, [(.tmp 6, 4)], [[1]], [], [], []⟩
noncomputable def m : Fn [.i, .i, .i] (Fn [.b] Res) := fun _ _ _ r1 => ⟨[⟨false, [.bool r1]⟩], [], [], [], []⟩
noncomputable def X (K : Res → O) : Ctx := cx0 [] fi true K
noncomputable def b (a1 a2 a3 : Int) (R : Bool → O) : O :=
 bif decide (a2 ≤ a1) then R (decide (a1 ≤ a3))
 else R false
noncomputable def g := seal_ b
theorem e : g = b := seal_eq b
noncomputable def a : Fn [.i, .i, .i] St := fun a1 a2 a3 => argSt [oI a1, oI a2, oI a3] [] []
noncomputable def con := conOf 46 [.i, .i, .i] [.b] a g m
theorem ok : Con Pg con := con_fin (fn := Tryz.f46) (c := c) (Fi := fi) (X := X) laid (ctx_of .nil (by kernel_rfl)) (fun K => .nil) e (by kernel_rfl) (by kernel_rfl) (by kernel_rfl) (by kernel_rfl)
end impl_within
namespace impl_SizeOf
noncomputable def c : Code := bodyOf Tryz.f21
noncomputable def fi : Fin := ⟨Γ0, [(.tmp 2, 3)], [[1]], [], [], []⟩
noncomputable def m : Fn [.z] (Fn [.i] Res) := fun _ r1 => ⟨[⟨false, [cI r1]⟩], [], [], [], []⟩
noncomputable def b0 : Code := codeAt c [1, 1, 1, 0, 1, 0, 0]
noncomputable def l0s (x3 : List Int) (x4 : Int) (rec : Int → Int → O) (k : Int → O) (R : Int → O) (x2 x5 : Int) : O :=
 bif decide (x5 < x4) then (bif decide (0 ≤ x5) && decide (x5 < (x3.length : Int)) then (impl_within.g (x3.getD x5.toNat 0) 0 300 fun r6 =>
  bif !r6 then R (-1)
  else rec (IntKind.i64.wrap (x2 * (x3.getD x5.toNat 0))) (IntKind.i64.wrap (x5 + 1)))
  else none)
 else k x2
noncomputable def l0 (x3 : List Int) (x4 : Int) (k : Int → O) (R : Int → O) : Nat → Int → Int → O
 | 0, _, _ => none
 | n + 1, x2, x5 => l0s x3 x4 (l0 x3 x4 k R n) k R x2 x5
noncomputable def o0 : Fn [.z, .i, .i] St := fun _ _ y1 => ⟨mkT 25 [(3, oI y1)], [], []⟩
noncomputable def n0 (K : Res → O) := ent 0 [.z, .i] [.i, .i] [1, 2, 0, 3] (fun x3 x4 x2 x5 => ⟨mkT 25 [(3, oI x2), (9, one (.tr 0 1 [.int .i64] (.ints x3))), (10, oI x4), (11, oI x5)], [], []⟩) fun x3 x4 k => l0 x3 x4 (fun y1 => k (o0 x3 x4 y1)) (fun r1 => K (m [] r1))
noncomputable def X (K : Res → O) : Ctx := { cx0 [impl_within.con] fi true K with cin := [(0, ⟨[3, 9, 10, 11], [], [], [], [], []⟩)], cout := [(0, ⟨[3], [], [], [], [], []⟩)], lp := lpOf [n0 K] }
noncomputable def b (a1 : List Int) (R : Int → O) : O :=
 bif decide (3 < (a1.length : Int)) then R (-1)
 else (l0 a1 (a1.length : Int) (fun y7 =>
 bif decide (300 < y7) then R (-1)
 else R y7) R fuel 1 0)
noncomputable def g := seal_ b
theorem e : g = b := seal_eq b
noncomputable def a : Fn [.z] St := fun a1 => argSt [one (.tr 0 1 [.int .i64] (.ints a1))] [] []
noncomputable def con := conOf 21 [.z] [.i] a g m
theorem hx (K : Res → O) : CtxOk Pg Γ0 byt0 eqs0 (X K) [impl_within.con] := ctx_of (X := X) (.cons impl_within.ok .nil) (by kernel_rfl) K
theorem w0 (K : Res → O) : LpSound Pg (X K) 0 b0 := lp_fin (L := [n0 K]) laid (hx K) .nil (.cons (ent_ok (fun x3 x4 k r => l0s x3 x4 r (fun y1 => k (o0 x3 x4 y1)) (fun r1 => K (m [] r1))) (by kernel_rfl) (by kernel_rfl) (by kernel_rfl) (by kernel_rfl) (by kernel_rfl)) .nil) (by kernel_rfl) (by kernel_rfl)
theorem ok : Con Pg con := con_fin (fn := Tryz.f21) (c := c) (Fi := fi) (X := X) laid hx (fun K => (.cons (w0 K) .nil)) e (by kernel_rfl) (by kernel_rfl) (by kernel_rfl) (by kernel_rfl)
end impl_SizeOf
namespace impl_NumOk
noncomputable def c : Code := bodyOf Tryz.f81
noncomputable def fi : Fin := ⟨Γ0, [(.tmp 2, 4)], [[1]], [], [], []⟩
noncomputable def m : Fn [.i] (Fn [.b] Res) := fun _ r1 => ⟨[⟨false, [.bool r1]⟩], [], [], [], []⟩
noncomputable def X (K : Res → O) : Ctx := cx0 [impl_within.con] fi true K
noncomputable def b (a1 : Int) (R : Bool → O) : O :=
 impl_within.g a1 (-1000000000000) 1000000000000 fun r2 =>
 R r2
noncomputable def g := seal_ b
theorem e : g = b := seal_eq b
noncomputable def a : Fn [.i] St := fun a1 => argSt [oI a1] [] []
noncomputable def con := conOf 81 [.i] [.b] a g m
theorem ok : Con Pg con := con_fin (fn := Tryz.f81) (c := c) (Fi := fi) (X := X) laid (ctx_of (.cons impl_within.ok .nil) (by kernel_rfl)) (fun K => .nil) e (by kernel_rfl) (by kernel_rfl) (by kernel_rfl) (by kernel_rfl)
end impl_NumOk
namespace impl_ArrayOk_1
noncomputable def c : Code := bodyOf Tryz.f80
noncomputable def fi : Fin := ⟨Γ0, [(.tmp 2, 4)], [[1]], [], [], []⟩
noncomputable def m : Fn [.i] (Fn [.b] Res) := fun _ r1 => ⟨[⟨false, [.bool r1]⟩], [], [], [], []⟩
noncomputable def X (K : Res → O) : Ctx := cx0 [impl_NumOk.con] fi true K
noncomputable def b (a1 : Int) (R : Bool → O) : O :=
 impl_NumOk.g a1 fun r2 =>
 R (!r2)
noncomputable def g := seal_ b
theorem e : g = b := seal_eq b
noncomputable def a : Fn [.i] St := fun a1 => argSt [oI a1] [] []
noncomputable def con := conOf 80 [.i] [.b] a g m
theorem ok : Con Pg con := con_fin (fn := Tryz.f80) (c := c) (Fi := fi) (X := X) laid (ctx_of (.cons impl_NumOk.ok .nil) (by kernel_rfl)) (fun K => .nil) e (by kernel_rfl) (by kernel_rfl) (by kernel_rfl) (by kernel_rfl)
end impl_ArrayOk_1
namespace slices_IndexFunc_int_int
noncomputable def c : Code := bodyOf Tryz.f118
noncomputable def fi : Fin := ⟨Γ0, [(.tmp 4, 3)], [[1]], [], [], []⟩
noncomputable def m : Fn [.z] (Fn [.i] Res) := fun _ r1 => ⟨[⟨false, [cI r1]⟩], [], [], [], []⟩
noncomputable def b0 : Code := codeAt c [1, 0, 1, 0, 0]
noncomputable def l0s (x2 : List Int) (x3 : Int) (rec : Int → O) (k : O) (R : Int → O) (x4 : Int) : O :=
 bif decide (x4 < x3) then (bif decide (0 ≤ x4) && decide (x4 < (x2.length : Int)) then (impl_ArrayOk_1.g (x2.getD x4.toNat 0) fun r5 =>
  bif r5 then R x4
  else rec (IntKind.i64.wrap (x4 + 1)))
  else none)
 else k
noncomputable def l0 (x2 : List Int) (x3 : Int) (k : O) (R : Int → O) : Nat → Int → O
 | 0, _ => none
 | n + 1, x4 => l0s x2 x3 (l0 x2 x3 k R n) k R x4
noncomputable def o0 : Fn [.z, .i] St := fun _ _ => ⟨mkT 19 [], [], []⟩
noncomputable def n0 (K : Res → O) := ent 0 [.z, .i] [.i] [0, 1, 2] (fun x2 x3 x4 => ⟨mkT 19 [(0, one (.tr 0 1 [.int .i64] (.ints x2))), (1, one (.fn 80 [])), (7, oI x3), (8, oI x4)], [], []⟩) fun x2 x3 k => l0 x2 x3 (k (o0 x2 x3)) (fun r1 => K (m [] r1))
noncomputable def X (K : Res → O) : Ctx := { cx0 [impl_ArrayOk_1.con] fi true K with cin := [(0, ⟨[0, 1, 7, 8], [], [], [], [], []⟩)], cout := [(0, ⟨[], [], [], [], [], []⟩)], lp := lpOf [n0 K] }
noncomputable def b (a1 : List Int) (R : Int → O) : O :=
 l0 a1 (a1.length : Int) (
 R (-1)) R fuel 0
noncomputable def g := seal_ b
theorem e : g = b := seal_eq b
noncomputable def a : Fn [.z] St := fun a1 => argSt [one (.tr 0 1 [.int .i64] (.ints a1)), one (.fn 80 [])] [] []
noncomputable def con := conOf 118 [.z] [.i] a g m
theorem hx (K : Res → O) : CtxOk Pg Γ0 byt0 eqs0 (X K) [impl_ArrayOk_1.con] := ctx_of (X := X) (.cons impl_ArrayOk_1.ok .nil) (by kernel_rfl) K
theorem w0 (K : Res → O) : LpSound Pg (X K) 0 b0 := lp_fin (L := [n0 K]) laid (hx K) .nil (.cons (ent_ok (fun x2 x3 k r => l0s x2 x3 r (k (o0 x2 x3)) (fun r1 => K (m [] r1))) (by kernel_rfl) (by kernel_rfl) (by kernel_rfl) (by kernel_rfl) (by kernel_rfl)) .nil) (by kernel_rfl) (by kernel_rfl)
theorem ok : Con Pg con := con_fin (fn := Tryz.f118) (c := c) (Fi := fi) (X := X) laid hx (fun K => (.cons (w0 K) .nil)) e (by kernel_rfl) (by kernel_rfl) (by kernel_rfl) (by kernel_rfl)
end slices_IndexFunc_int_int
namespace slices_ContainsFunc_int_int
noncomputable def c : Code := bodyOf Tryz.f79
noncomputable def fi : Fin := ⟨Γ0, [(.tmp 4, 4)], [[1]], [], [], []⟩
noncomputable def m : Fn [.z] (Fn [.b] Res) := fun _ r1 => ⟨[⟨false, [.bool r1]⟩], [], [], [], []⟩
noncomputable def X (K : Res → O) : Ctx := cx0 [slices_IndexFunc_int_int.con] fi true K
noncomputable def b (a1 : List Int) (R : Bool → O) : O :=
 slices_IndexFunc_int_int.g a1 fun r2 =>
 R (decide (0 ≤ r2))
noncomputable def g := seal_ b
theorem e : g = b := seal_eq b
noncomputable def a : Fn [.z] St := fun a1 => argSt [one (.tr 0 1 [.int .i64] (.ints a1)), one (.fn 80 [])] [] []
noncomputable def con := conOf 79 [.z] [.b] a g m
theorem ok : Con Pg con := con_fin (fn := Tryz.f79) (c := c) (Fi := fi) (X := X) laid (ctx_of (.cons slices_IndexFunc_int_int.ok .nil) (by kernel_rfl)) (fun K => .nil) e (by kernel_rfl) (by kernel_rfl) (by kernel_rfl) (by kernel_rfl)
end slices_ContainsFunc_int_int
namespace impl_ArrayOk
noncomputable def c : Code := bodyOf Tryz.f41
noncomputable def fi : Fin := ⟨Γ0, [(.tmp 2, 4)], [[1]], [], [], []⟩
noncomputable def m : Fn [.z, .z] (Fn [.b] Res) := fun _ _ r1 => ⟨[⟨false, [.bool r1]⟩], [], [], [], []⟩
noncomputable def X (K : Res → O) : Ctx := cx0 [impl_SizeOf.con, slices_ContainsFunc_int_int.con] fi true K
noncomputable def b (a1 a2 : List Int) (R : Bool → O) : O :=
 impl_SizeOf.g a1 fun r3 =>
 bif ((a2.length : Int) == r3) then (slices_ContainsFunc_int_int.g a2 fun r4 =>
  R (!r4))
 else R false
noncomputable def g := seal_ b
theorem e : g = b := seal_eq b
noncomputable def a : Fn [.z, .z] St := fun a1 a2 => argSt [.v ⟨true, [.tr 0 1 [.int .i64] (.ints a1), .tr 0 1 [.int .i64] (.ints a2)]⟩] [] []
noncomputable def con := conOf 41 [.z, .z] [.b] a g m
theorem ok : Con Pg con := con_fin (fn := Tryz.f41) (c := c) (Fi := fi) (X := X) laid (ctx_of (.cons impl_SizeOf.ok (.cons slices_ContainsFunc_int_int.ok .nil)) (by kernel_rfl)) (fun K => .nil) e (by kernel_rfl) (by kernel_rfl) (by kernel_rfl) (by kernel_rfl)
end impl_ArrayOk
namespace impl_VarsOk_1
noncomputable def c : Code := bodyOf Tryz.f40
noncomputable def fi : Fin := ⟨Γ0, [(.tmp 2, 4)], [[1]], [], [], []⟩
noncomputable def m : Fn [.b, .z, .z] (Fn [.b] Res) := fun _ _ _ r1 => ⟨[⟨false, [.bool r1]⟩], [], [], [], []⟩
noncomputable def X (K : Res → O) : Ctx := cx0 [impl_ArrayOk.con] fi true K
noncomputable def b (a1 : Bool) (a2 a3 : List Int) (R : Bool → O) : O :=
 bif a1 then (impl_ArrayOk.g a2 a3 fun r4 =>
  bif !r4 then R true
  else bif !a1 then R (decide (0 < IntKind.i64.wrap ((a2.length : Int) + (a3.length : Int))))
  else R false)
 else bif !a1 then R (decide (0 < IntKind.i64.wrap ((a2.length : Int) + (a3.length : Int))))
 else R false
noncomputable def g := seal_ b
theorem e : g = b := seal_eq b
noncomputable def a : Fn [.b, .z, .z] St := fun a1 a2 a3 => argSt [.v ⟨true, [.bool a1, .tr 0 1 [.int .i64] (.ints a2), .tr 0 1 [.int .i64] (.ints a3)]⟩] [] []
noncomputable def con := conOf 40 [.b, .z, .z] [.b] a g m
theorem ok : Con Pg con := con_fin (fn := Tryz.f40) (c := c) (Fi := fi) (X := X) laid (ctx_of (.cons impl_ArrayOk.ok .nil) (by kernel_rfl)) (fun K => .nil) e (by kernel_rfl) (by kernel_rfl) (by kernel_rfl) (by kernel_rfl)
end impl_VarsOk_1
namespace slices_IndexFunc_impl_Var_impl_Var
noncomputable def c : Code := bodyOf Tryz.f78
noncomputable def fi : Fin := ⟨Γ0, [(.tmp 4, 3)], [[1]], [], [], []⟩
noncomputable def m : Fn [.l] (Fn [.i] Res) := fun _ r1 => ⟨[⟨false, [cI r1]⟩], [], [], [], []⟩
noncomputable def b0 : Code := codeAt c [1, 0, 1, 0, 0]
noncomputable def l0s (x2 : List (List Cl)) (x3 : Int) (rec : Int → O) (k : O) (R : Int → O) (x4 : Int) : O :=
 bif decide (x4 < x3) then (bif decide (0 ≤ x4) && decide (x4 < (x2.length : Int)) then (impl_VarsOk_1.g (((x2.getD x4.toNat []).getD 0 (.i 0)).toB) (((x2.getD x4.toNat []).getD 1 (.i 0)).toL) (((x2.getD x4.toNat []).getD 2 (.i 0)).toL) fun r5 =>
  bif r5 then R x4
  else rec (IntKind.i64.wrap (x4 + 1)))
  else none)
 else k
noncomputable def l0 (x2 : List (List Cl)) (x3 : Int) (k : O) (R : Int → O) : Nat → Int → O
 | 0, _ => none
 | n + 1, x4 => l0s x2 x3 (l0 x2 x3 k R n) k R x4
noncomputable def o0 : Fn [.l, .i] St := fun _ _ => ⟨mkT 19 [], [], []⟩
noncomputable def n0 (K : Res → O) := ent 0 [.l, .i] [.i] [0, 1, 2] (fun x2 x3 x4 => ⟨mkT 19 [(0, one (.tr 0 1 e_3 (.cells x2))), (1, one (.fn 40 [])), (7, oI x3), (8, oI x4)], [], []⟩) fun x2 x3 k => l0 x2 x3 (k (o0 x2 x3)) (fun r1 => K (m [] r1))
noncomputable def X (K : Res → O) : Ctx := { cx0 [impl_VarsOk_1.con] fi true K with cin := [(0, ⟨[0, 1, 7, 8], [], [], [], [], []⟩)], cout := [(0, ⟨[], [], [], [], [], []⟩)], lp := lpOf [n0 K] }
noncomputable def b (a1 : List (List Cl)) (R : Int → O) : O :=
 l0 a1 (a1.length : Int) (
 R (-1)) R fuel 0
noncomputable def g := seal_ b
theorem e : g = b := seal_eq b
noncomputable def a : Fn [.l] St := fun a1 => argSt [one (.tr 0 1 e_3 (.cells a1)), one (.fn 40 [])] [] []
noncomputable def con := conOf 78 [.l] [.i] a g m
theorem hx (K : Res → O) : CtxOk Pg Γ0 byt0 eqs0 (X K) [impl_VarsOk_1.con] := ctx_of (X := X) (.cons impl_VarsOk_1.ok .nil) (by kernel_rfl) K
theorem w0 (K : Res → O) : LpSound Pg (X K) 0 b0 := lp_fin (L := [n0 K]) laid (hx K) .nil (.cons (ent_ok (fun x2 x3 k r => l0s x2 x3 r (k (o0 x2 x3)) (fun r1 => K (m [] r1))) (by kernel_rfl) (by kernel_rfl) (by kernel_rfl) (by kernel_rfl) (by kernel_rfl)) .nil) (by kernel_rfl) (by kernel_rfl)
theorem ok : Con Pg con := con_fin (fn := Tryz.f78) (c := c) (Fi := fi) (X := X) laid hx (fun K => (.cons (w0 K) .nil)) e (by kernel_rfl) (by kernel_rfl) (by kernel_rfl) (by kernel_rfl)
end slices_IndexFunc_impl_Var_impl_Var
namespace slices_ContainsFunc_impl_Var_impl_Var
noncomputable def c : Code := bodyOf Tryz.f39
noncomputable def fi : Fin := ⟨Γ0, [(.tmp 4, 4)], [[1]], [], [], []⟩
noncomputable def m : Fn [.l] (Fn [.b] Res) := fun _ r1 => ⟨[⟨false, [.bool r1]⟩], [], [], [], []⟩
noncomputable def X (K : Res → O) : Ctx := cx0 [slices_IndexFunc_impl_Var_impl_Var.con] fi true K
noncomputable def b (a1 : List (List Cl)) (R : Bool → O) : O :=
 slices_IndexFunc_impl_Var_impl_Var.g a1 fun r2 =>
 R (decide (0 ≤ r2))
noncomputable def g := seal_ b
theorem e : g = b := seal_eq b
noncomputable def a : Fn [.l] St := fun a1 => argSt [one (.tr 0 1 e_3 (.cells a1)), one (.fn 40 [])] [] []
noncomputable def con := conOf 39 [.l] [.b] a g m
theorem ok : Con Pg con := con_fin (fn := Tryz.f39) (c := c) (Fi := fi) (X := X) laid (ctx_of (.cons slices_IndexFunc_impl_Var_impl_Var.ok .nil) (by kernel_rfl)) (fun K => .nil) e (by kernel_rfl) (by kernel_rfl) (by kernel_rfl) (by kernel_rfl)
end slices_ContainsFunc_impl_Var_impl_Var
namespace impl_VarsOk
noncomputable def c : Code := bodyOf Tryz.f17
noncomputable def fi : Fin := ⟨Γ0, [(.tmp 2, 4)], [[1]], [], [], []⟩
noncomputable def m : Fn [.l] (Fn [.b] Res) := fun _ r1 => ⟨[⟨false, [.bool r1]⟩], [], [], [], []⟩
noncomputable def X (K : Res → O) : Ctx := cx0 [slices_ContainsFunc_impl_Var_impl_Var.con] fi true K
noncomputable def b (a1 : List (List Cl)) (R : Bool → O) : O :=
 bif ((a1.length : Int) == 26) then (slices_ContainsFunc_impl_Var_impl_Var.g a1 fun r2 =>
  R (!r2))
 else R false
noncomputable def g := seal_ b
theorem e : g = b := seal_eq b
noncomputable def a : Fn [.l] St := fun a1 => argSt [one (.tr 0 1 e_3 (.cells a1))] [] []
noncomputable def con := conOf 17 [.l] [.b] a g m
theorem ok : Con Pg con := con_fin (fn := Tryz.f17) (c := c) (Fi := fi) (X := X) laid (ctx_of (.cons slices_ContainsFunc_impl_Var_impl_Var.ok .nil) (by kernel_rfl)) (fun K => .nil) e (by kernel_rfl) (by kernel_rfl) (by kernel_rfl) (by kernel_rfl)
end impl_VarsOk
namespace impl_numsOk_1
noncomputable def c : Code := bodyOf Tryz.f126
noncomputable def fi : Fin := ⟨Γ0, [(.tmp 2, 4)], [[1]], [], [], []⟩
noncomputable def m : Fn [.i] (Fn [.b] Res) := fun _ r1 => ⟨[⟨false, [.bool r1]⟩], [], [], [], []⟩
noncomputable def X (K : Res → O) : Ctx := cx0 [impl_NumOk.con] fi true K
noncomputable def b (a1 : Int) (R : Bool → O) : O :=
 impl_NumOk.g a1 fun r2 =>
 R (!r2)
noncomputable def g := seal_ b
theorem e : g = b := seal_eq b
noncomputable def a : Fn [.i] St := fun a1 => argSt [oI a1] [] []
noncomputable def con := conOf 126 [.i] [.b] a g m
theorem ok : Con Pg con := con_fin (fn := Tryz.f126) (c := c) (Fi := fi) (X := X) laid (ctx_of (.cons impl_NumOk.ok .nil) (by kernel_rfl)) (fun K => .nil) e (by kernel_rfl) (by kernel_rfl) (by kernel_rfl) (by kernel_rfl)
end impl_numsOk_1
namespace slices_IndexFunc_int_int_i3
noncomputable def c : Code := bodyOf Tryz.f118
noncomputable def fi : Fin := ⟨Γ0, [(.tmp 4, 3)], [[1]], [], [], []⟩
noncomputable def m : Fn [.z] (Fn [.i] Res) := fun _ r1 => ⟨[⟨false, [cI r1]⟩], [], [], [], []⟩
noncomputable def b0 : Code := codeAt c [1, 0, 1, 0, 0]
noncomputable def l0s (x2 : List Int) (x3 : Int) (rec : Int → O) (k : O) (R : Int → O) (x4 : Int) : O :=
 bif decide (x4 < x3) then (bif decide (0 ≤ x4) && decide (x4 < (x2.length : Int)) then (impl_numsOk_1.g (x2.getD x4.toNat 0) fun r5 =>
  bif r5 then R x4
  else rec (IntKind.i64.wrap (x4 + 1)))
  else none)
 else k
noncomputable def l0 (x2 : List Int) (x3 : Int) (k : O) (R : Int → O) : Nat → Int → O
 | 0, _ => none
 | n + 1, x4 => l0s x2 x3 (l0 x2 x3 k R n) k R x4
noncomputable def o0 : Fn [.z, .i] St := fun _ _ => ⟨mkT 19 [], [], []⟩
noncomputable def n0 (K : Res → O) := ent 0 [.z, .i] [.i] [0, 1, 2] (fun x2 x3 x4 => ⟨mkT 19 [(0, one (.tr 0 1 [.int .i64] (.ints x2))), (1, one (.fn 126 [])), (7, oI x3), (8, oI x4)], [], []⟩) fun x2 x3 k => l0 x2 x3 (k (o0 x2 x3)) (fun r1 => K (m [] r1))
noncomputable def X (K : Res → O) : Ctx := { cx0 [impl_numsOk_1.con] fi true K with cin := [(0, ⟨[0, 1, 7, 8], [], [], [], [], []⟩)], cout := [(0, ⟨[], [], [], [], [], []⟩)], lp := lpOf [n0 K] }
noncomputable def b (a1 : List Int) (R : Int → O) : O :=
 l0 a1 (a1.length : Int) (
 R (-1)) R fuel 0
noncomputable def g := seal_ b
theorem e : g = b := seal_eq b
noncomputable def a : Fn [.z] St := fun a1 => argSt [one (.tr 0 1 [.int .i64] (.ints a1)), one (.fn 126 [])] [] []
noncomputable def con := conOf 118 [.z] [.i] a g m
theorem hx (K : Res → O) : CtxOk Pg Γ0 byt0 eqs0 (X K) [impl_numsOk_1.con] := ctx_of (X := X) (.cons impl_numsOk_1.ok .nil) (by kernel_rfl) K
theorem w0 (K : Res → O) : LpSound Pg (X K) 0 b0 := lp_fin (L := [n0 K]) laid (hx K) .nil (.cons (ent_ok (fun x2 x3 k r => l0s x2 x3 r (k (o0 x2 x3)) (fun r1 => K (m [] r1))) (by kernel_rfl) (by kernel_rfl) (by kernel_rfl) (by kernel_rfl) (by kernel_rfl)) .nil) (by kernel_rfl) (by kernel_rfl)
theorem ok : Con Pg con := con_fin (fn := Tryz.f118) (c := c) (Fi := fi) (X := X) laid hx (fun K => (.cons (w0 K) .nil)) e (by kernel_rfl) (by kernel_rfl) (by kernel_rfl) (by kernel_rfl)
end slices_IndexFunc_int_int_i3
namespace slices_ContainsFunc_int_int_i3
noncomputable def c : Code := bodyOf Tryz.f79
noncomputable def fi : Fin := ⟨Γ0, [(.tmp 4, 4)], [[1]], [], [], []⟩
noncomputable def m : Fn [.z] (Fn [.b] Res) := fun _ r1 => ⟨[⟨false, [.bool r1]⟩], [], [], [], []⟩
noncomputable def X (K : Res → O) : Ctx := cx0 [slices_IndexFunc_int_int_i3.con] fi true K
noncomputable def b (a1 : List Int) (R : Bool → O) : O :=
 slices_IndexFunc_int_int_i3.g a1 fun r2 =>
 R (decide (0 ≤ r2))
noncomputable def g := seal_ b
theorem e : g = b := seal_eq b
noncomputable def a : Fn [.z] St := fun a1 => argSt [one (.tr 0 1 [.int .i64] (.ints a1)), one (.fn 126 [])] [] []
noncomputable def con := conOf 79 [.z] [.b] a g m
theorem ok : Con Pg con := con_fin (fn := Tryz.f79) (c := c) (Fi := fi) (X := X) laid (ctx_of (.cons slices_IndexFunc_int_int_i3.ok .nil) (by kernel_rfl)) (fun K => .nil) e (by kernel_rfl) (by kernel_rfl) (by kernel_rfl) (by kernel_rfl)
end slices_ContainsFunc_int_int_i3
namespace impl_numsOk
noncomputable def c : Code := bodyOf Tryz.f99
noncomputable def fi : Fin := ⟨Γ0, [(.tmp 2, 4)], [[1]], [], [], []⟩
noncomputable def m : Fn [.z] (Fn [.b] Res) := fun _ r1 => ⟨[⟨false, [.bool r1]⟩], [], [], [], []⟩
noncomputable def X (K : Res → O) : Ctx := cx0 [impl_within.con, slices_ContainsFunc_int_int_i3.con] fi true K
noncomputable def b (a1 : List Int) (R : Bool → O) : O :=
 impl_within.g (a1.length : Int) 1 300 fun r2 =>
 bif r2 then (slices_ContainsFunc_int_int_i3.g a1 fun r3 =>
  R (!r3))
 else R false
noncomputable def g := seal_ b
theorem e : g = b := seal_eq b
noncomputable def a : Fn [.z] St := fun a1 => argSt [one (.tr 0 1 [.int .i64] (.ints a1))] [] []
noncomputable def con := conOf 99 [.z] [.b] a g m
theorem ok : Con Pg con := con_fin (fn := Tryz.f99) (c := c) (Fi := fi) (X := X) laid (ctx_of (.cons impl_within.ok (.cons slices_ContainsFunc_int_int_i3.ok .nil)) (by kernel_rfl)) (fun K => .nil) e (by kernel_rfl) (by kernel_rfl) (by kernel_rfl) (by kernel_rfl)
end impl_numsOk
namespace impl_hasSign
noncomputable def c : Code := bodyOf Tryz.f119
noncomputable def fi : Fin := ⟨Γ0, [(.tmp 4, 4)], [[1]], [], [], []⟩
noncomputable def m : Fn [.s, .i] (Fn [.b] Res) := fun _ _ r1 => ⟨[⟨false, [.bool r1]⟩], [], [], [], []⟩
noncomputable def b0 : Code := codeAt c [1, 0, 1, 0, 0]
noncomputable def l0s (x3 : ByteArray) (x4 : Int) (rec : Int → O) (k : O) (R : Bool → O) (x5 : Int) : O :=
 bif decide (x5 < (x3.size : Int)) then (bif decide (0 ≤ x5) && decide (x5 < (x3.size : Int)) then (bif (IntKind.i64.wrap ((bytesOf x3).getD x5.toNat 0) == x4) then R true
  else rec (IntKind.i64.wrap (x5 + 1)))
  else none)
 else k
noncomputable def l0 (x3 : ByteArray) (x4 : Int) (k : O) (R : Bool → O) : Nat → Int → O
 | 0, _ => none
 | n + 1, x5 => l0s x3 x4 (l0 x3 x4 k R n) k R x5
noncomputable def o0 : Fn [.s, .i] St := fun _ _ => ⟨mkT 18 [], [], []⟩
noncomputable def n0 (K : Res → O) := ent 0 [.s, .i] [.i] [0, 1, 2] (fun x3 x4 x5 => ⟨mkT 18 [(0, one (.str x3)), (1, oI x4), (5, oI x5)], [], []⟩) fun x3 x4 k => l0 x3 x4 (k (o0 x3 x4)) (fun r1 => K (m ByteArray.empty (0 : Int) r1))
noncomputable def X (K : Res → O) : Ctx := { cx0 [] fi true K with cin := [(0, ⟨[0, 1, 5], [], [], [], [], []⟩)], cout := [(0, ⟨[], [], [], [], [], []⟩)], lp := lpOf [n0 K] }
noncomputable def b (a1 : ByteArray) (a2 : Int) (R : Bool → O) : O :=
 l0 a1 a2 (
 R false) R fuel 0
noncomputable def g := seal_ b
theorem e : g = b := seal_eq b
noncomputable def a : Fn [.s, .i] St := fun a1 a2 => argSt [one (.str a1), oI a2] [] []
noncomputable def con := conOf 119 [.s, .i] [.b] a g m
theorem hx (K : Res → O) : CtxOk Pg Γ0 byt0 eqs0 (X K) [] := ctx_of (X := X) .nil (by kernel_rfl) K
theorem w0 (K : Res → O) : LpSound Pg (X K) 0 b0 := lp_fin (L := [n0 K]) laid (hx K) .nil (.cons (ent_ok (fun x3 x4 k r => l0s x3 x4 r (k (o0 x3 x4)) (fun r1 => K (m ByteArray.empty (0 : Int) r1))) (by kernel_rfl) (by kernel_rfl) (by kernel_rfl) (by kernel_rfl) (by kernel_rfl)) .nil) (by kernel_rfl) (by kernel_rfl)
theorem ok : Con Pg con := con_fin (fn := Tryz.f119) (c := c) (Fi := fi) (X := X) laid hx (fun K => (.cons (w0 K) .nil)) e (by kernel_rfl) (by kernel_rfl) (by kernel_rfl) (by kernel_rfl)
end impl_hasSign
namespace impl_oneSign
noncomputable def c : Code := bodyOf Tryz.f84
noncomputable def fi : Fin := ⟨Γ0, [(.tmp 2, 4)], [[1]], [], [], []⟩
noncomputable def m : Fn [.i] (Fn [.b] Res) := fun _ r1 => ⟨[⟨false, [.bool r1]⟩], [], [], [], []⟩
noncomputable def X (K : Res → O) : Ctx := cx0 [impl_hasSign.con] fi true K
noncomputable def b (a1 : Int) (R : Bool → O) : O :=
 impl_hasSign.g (⟨#[43, 45, 42, 124, 126]⟩ : ByteArray) a1 fun r2 =>
 R r2
noncomputable def g := seal_ b
theorem e : g = b := seal_eq b
noncomputable def a : Fn [.i] St := fun a1 => argSt [oI a1] [] []
noncomputable def con := conOf 84 [.i] [.b] a g m
theorem ok : Con Pg con := con_fin (fn := Tryz.f84) (c := c) (Fi := fi) (X := X) laid (ctx_of (.cons impl_hasSign.ok .nil) (by kernel_rfl)) (fun K => .nil) e (by kernel_rfl) (by kernel_rfl) (by kernel_rfl) (by kernel_rfl)
end impl_oneSign
namespace impl_twoSign
noncomputable def c : Code := bodyOf Tryz.f86
noncomputable def fi : Fin := ⟨Γ0, [(.tmp 2, 4)], [[1]], [], [], []⟩
noncomputable def m : Fn [.i] (Fn [.b] Res) := fun _ r1 => ⟨[⟨false, [.bool r1]⟩], [], [], [], []⟩
noncomputable def X (K : Res → O) : Ctx := cx0 [impl_hasSign.con] fi true K
noncomputable def b (a1 : Int) (R : Bool → O) : O :=
 impl_hasSign.g (⟨#[43, 45, 42, 37, 124, 38, 94, 61, 60, 62]⟩ : ByteArray) a1 fun r2 =>
 R r2
noncomputable def g := seal_ b
theorem e : g = b := seal_eq b
noncomputable def a : Fn [.i] St := fun a1 => argSt [oI a1] [] []
noncomputable def con := conOf 86 [.i] [.b] a g m
theorem ok : Con Pg con := con_fin (fn := Tryz.f86) (c := c) (Fi := fi) (X := X) laid (ctx_of (.cons impl_hasSign.ok .nil) (by kernel_rfl)) (fun K => .nil) e (by kernel_rfl) (by kernel_rfl) (by kernel_rfl) (by kernel_rfl)
end impl_twoSign
namespace impl_FunOne
noncomputable def c : Code := bodyOf Tryz.f100
noncomputable def fi : Fin := ⟨Γ0, [(.tmp 2, 4)], [[1]], [], [], []⟩
noncomputable def m : Fn [.i, .i, .i] (Fn [.b] Res) := fun _ _ _ r1 => ⟨[⟨false, [.bool r1]⟩], [], [], [], []⟩
noncomputable def X (K : Res → O) : Ctx := cx0 [impl_oneSign.con, impl_hasSign.con, impl_twoSign.con] fi true K
noncomputable def b (a1 a2 a3 : Int) (R : Bool → O) : O :=
 bif (a2 == 0) then (bif (a3 == 0) then (impl_oneSign.g a1 fun r4 =>
  bif r4 then R true
  else (impl_hasSign.g (⟨#[105, 35, 44, 114, 122, 103]⟩ : ByteArray) a1 fun r5 =>
  R r5))
  else R false)
 else bif (a2 == 47) then (bif (a3 == 0) then (impl_twoSign.g a1 fun r6 =>
  R r6)
  else R false)
 else bif (a2 == 92) then (bif (a3 == 0) then (impl_twoSign.g a1 fun r7 =>
  R r7)
  else R false)
 else R false
noncomputable def g := seal_ b
theorem e : g = b := seal_eq b
noncomputable def a : Fn [.i, .i, .i] St := fun a1 a2 a3 => argSt [.v ⟨true, [cI a1, cI a2, cI a3]⟩] [] []
noncomputable def con := conOf 100 [.i, .i, .i] [.b] a g m
theorem ok : Con Pg con := con_fin (fn := Tryz.f100) (c := c) (Fi := fi) (X := X) laid (ctx_of (.cons impl_oneSign.ok (.cons impl_hasSign.ok (.cons impl_twoSign.ok .nil))) (by kernel_rfl)) (fun K => .nil) e (by kernel_rfl) (by kernel_rfl) (by kernel_rfl) (by kernel_rfl)
end impl_FunOne
namespace impl_FunTwo
noncomputable def c : Code := bodyOf Tryz.f101
noncomputable def fi : Fin := ⟨Γ0, [(.tmp 2, 4)], [[1]], [], [], []⟩
noncomputable def m : Fn [.i, .i, .i] (Fn [.b] Res) := fun _ _ _ r1 => ⟨[⟨false, [.bool r1]⟩], [], [], [], []⟩
noncomputable def X (K : Res → O) : Ctx := cx0 [impl_twoSign.con, impl_hasSign.con] fi true K
noncomputable def b (a1 a2 a3 : Int) (R : Bool → O) : O :=
 bif (a2 == 0) then (bif (a3 == 0) then (impl_twoSign.g a1 fun r4 =>
  bif r4 then R true
  else (impl_hasSign.g (⟨#[35, 44, 116, 100, 114, 64, 63, 36, 101]⟩ : ByteArray) a1 fun r5 =>
  R r5))
  else R false)
 else bif (a2 == 111) then (bif (a3 == 0) then (impl_twoSign.g a1 fun r6 =>
  R r6)
  else R false)
 else bif (a2 == 46) then (impl_twoSign.g a1 fun r7 =>
  bif r7 then (impl_twoSign.g a3 fun r8 =>
   R r8)
  else R false)
 else R false
noncomputable def g := seal_ b
theorem e : g = b := seal_eq b
noncomputable def a : Fn [.i, .i, .i] St := fun a1 a2 a3 => argSt [.v ⟨true, [cI a1, cI a2, cI a3]⟩] [] []
noncomputable def con := conOf 101 [.i, .i, .i] [.b] a g m
theorem ok : Con Pg con := con_fin (fn := Tryz.f101) (c := c) (Fi := fi) (X := X) laid (ctx_of (.cons impl_twoSign.ok (.cons impl_hasSign.ok .nil)) (by kernel_rfl)) (fun K => .nil) e (by kernel_rfl) (by kernel_rfl) (by kernel_rfl) (by kernel_rfl)
end impl_FunTwo
namespace impl_instrOk
noncomputable def c : Code := bodyOf Tryz.f60
noncomputable def fi : Fin := ⟨Γ0, [(.tmp 2, 4)], [[1]], [], [], []⟩
noncomputable def m : Fn [.i, .i, .i, .i, .i, .z] (Fn [.b] Res) := fun _ _ _ _ _ _ r1 => ⟨[⟨false, [.bool r1]⟩], [], [], [], []⟩
noncomputable def X (K : Res → O) : Ctx := cx0 [impl_numsOk.con, impl_within.con, impl_FunOne.con, impl_FunTwo.con] fi true K
noncomputable def b (a1 a2 a3 a4 a5 : Int) (a6 : List Int) (R : Bool → O) : O :=
 bif (a1 == 1) then (impl_numsOk.g a6 fun r7 =>
  bif (a2 == 0) then (bif ((a3 == 0) && ((a4 == 0) && ((a5 == 0) && true))) then R r7
   else R false)
  else R false)
 else bif (a1 == 2) then (impl_within.g a2 0 25 fun r8 =>
  bif r8 then (bif ((a3 == 0) && ((a4 == 0) && ((a5 == 0) && true))) then R ((a6.length : Int) == 0)
   else R false)
  else R false)
 else bif (a1 == 3) then (impl_within.g a2 0 25 fun r9 =>
  bif r9 then (bif ((a3 == 0) && ((a4 == 0) && ((a5 == 0) && true))) then R ((a6.length : Int) == 0)
   else R false)
  else R false)
 else bif (a1 == 4) then (impl_FunOne.g a3 a4 a5 fun r10 =>
  bif (a2 == 0) then (bif r10 then R ((a6.length : Int) == 0)
   else R false)
  else R false)
 else bif (a1 == 5) then (impl_FunTwo.g a3 a4 a5 fun r11 =>
  bif (a2 == 0) then (bif r11 then R ((a6.length : Int) == 0)
   else R false)
  else R false)
 else R false
noncomputable def g := seal_ b
theorem e : g = b := seal_eq b
noncomputable def a : Fn [.i, .i, .i, .i, .i, .z] St := fun a1 a2 a3 a4 a5 a6 => argSt [.v ⟨true, [cI a1, cI a2, cI a3, cI a4, cI a5, .tr 0 1 [.int .i64] (.ints a6)]⟩] [] []
noncomputable def con := conOf 60 [.i, .i, .i, .i, .i, .z] [.b] a g m
theorem ok : Con Pg con := con_fin (fn := Tryz.f60) (c := c) (Fi := fi) (X := X) laid (ctx_of (.cons impl_numsOk.ok (.cons impl_within.ok (.cons impl_FunOne.ok (.cons impl_FunTwo.ok .nil)))) (by kernel_rfl)) (fun K => .nil) e (by kernel_rfl) (by kernel_rfl) (by kernel_rfl) (by kernel_rfl)
end impl_instrOk
namespace impl_CodeOk_1
noncomputable def c : Code := bodyOf Tryz.f59
noncomputable def fi : Fin := ⟨Γ0, [(.tmp 2, 4)], [[1]], [], [], []⟩
noncomputable def m : Fn [.i, .i, .i, .i, .i, .z] (Fn [.b] Res) := fun _ _ _ _ _ _ r1 => ⟨[⟨false, [.bool r1]⟩], [], [], [], []⟩
noncomputable def X (K : Res → O) : Ctx := cx0 [impl_instrOk.con] fi true K
noncomputable def b (a1 a2 a3 a4 a5 : Int) (a6 : List Int) (R : Bool → O) : O :=
 impl_instrOk.g a1 a2 a3 a4 a5 a6 fun r7 =>
 R (!r7)
noncomputable def g := seal_ b
theorem e : g = b := seal_eq b
noncomputable def a : Fn [.i, .i, .i, .i, .i, .z] St := fun a1 a2 a3 a4 a5 a6 => argSt [.v ⟨true, [cI a1, cI a2, cI a3, cI a4, cI a5, .tr 0 1 [.int .i64] (.ints a6)]⟩] [] []
noncomputable def con := conOf 59 [.i, .i, .i, .i, .i, .z] [.b] a g m
theorem ok : Con Pg con := con_fin (fn := Tryz.f59) (c := c) (Fi := fi) (X := X) laid (ctx_of (.cons impl_instrOk.ok .nil) (by kernel_rfl)) (fun K => .nil) e (by kernel_rfl) (by kernel_rfl) (by kernel_rfl) (by kernel_rfl)
end impl_CodeOk_1
namespace slices_IndexFunc_impl_Instr_impl_Instr
noncomputable def c : Code := bodyOf Tryz.f98
noncomputable def fi : Fin := ⟨Γ0, [(.tmp 4, 3)], [[1]], [], [], []⟩
noncomputable def m : Fn [.l] (Fn [.i] Res) := fun _ r1 => ⟨[⟨false, [cI r1]⟩], [], [], [], []⟩
noncomputable def b0 : Code := codeAt c [1, 0, 1, 0, 0]
noncomputable def l0s (x2 : List (List Cl)) (x3 : Int) (rec : Int → O) (k : O) (R : Int → O) (x4 : Int) : O :=
 bif decide (x4 < x3) then (bif decide (0 ≤ x4) && decide (x4 < (x2.length : Int)) then (impl_CodeOk_1.g (((x2.getD x4.toNat []).getD 0 (.i 0)).toI) (((x2.getD x4.toNat []).getD 1 (.i 0)).toI) (((x2.getD x4.toNat []).getD 2 (.i 0)).toI) (((x2.getD x4.toNat []).getD 3 (.i 0)).toI) (((x2.getD x4.toNat []).getD 4 (.i 0)).toI) (((x2.getD x4.toNat []).getD 5 (.i 0)).toL) fun r5 =>
  bif r5 then R x4
  else rec (IntKind.i64.wrap (x4 + 1)))
  else none)
 else k
noncomputable def l0 (x2 : List (List Cl)) (x3 : Int) (k : O) (R : Int → O) : Nat → Int → O
 | 0, _ => none
 | n + 1, x4 => l0s x2 x3 (l0 x2 x3 k R n) k R x4
noncomputable def o0 : Fn [.l, .i] St := fun _ _ => ⟨mkT 19 [], [], []⟩
noncomputable def n0 (K : Res → O) := ent 0 [.l, .i] [.i] [0, 1, 2] (fun x2 x3 x4 => ⟨mkT 19 [(0, one (.tr 0 1 e_2 (.cells x2))), (1, one (.fn 59 [])), (7, oI x3), (8, oI x4)], [], []⟩) fun x2 x3 k => l0 x2 x3 (k (o0 x2 x3)) (fun r1 => K (m [] r1))
noncomputable def X (K : Res → O) : Ctx := { cx0 [impl_CodeOk_1.con] fi true K with cin := [(0, ⟨[0, 1, 7, 8], [], [], [], [], []⟩)], cout := [(0, ⟨[], [], [], [], [], []⟩)], lp := lpOf [n0 K] }
noncomputable def b (a1 : List (List Cl)) (R : Int → O) : O :=
 l0 a1 (a1.length : Int) (
 R (-1)) R fuel 0
noncomputable def g := seal_ b
theorem e : g = b := seal_eq b
noncomputable def a : Fn [.l] St := fun a1 => argSt [one (.tr 0 1 e_2 (.cells a1)), one (.fn 59 [])] [] []
noncomputable def con := conOf 98 [.l] [.i] a g m
theorem hx (K : Res → O) : CtxOk Pg Γ0 byt0 eqs0 (X K) [impl_CodeOk_1.con] := ctx_of (X := X) (.cons impl_CodeOk_1.ok .nil) (by kernel_rfl) K
theorem w0 (K : Res → O) : LpSound Pg (X K) 0 b0 := lp_fin (L := [n0 K]) laid (hx K) .nil (.cons (ent_ok (fun x2 x3 k r => l0s x2 x3 r (k (o0 x2 x3)) (fun r1 => K (m [] r1))) (by kernel_rfl) (by kernel_rfl) (by kernel_rfl) (by kernel_rfl) (by kernel_rfl)) .nil) (by kernel_rfl) (by kernel_rfl)
theorem ok : Con Pg con := con_fin (fn := Tryz.f98) (c := c) (Fi := fi) (X := X) laid hx (fun K => (.cons (w0 K) .nil)) e (by kernel_rfl) (by kernel_rfl) (by kernel_rfl) (by kernel_rfl)
end slices_IndexFunc_impl_Instr_impl_Instr
namespace slices_ContainsFunc_impl_Instr_impl_Instr
noncomputable def c : Code := bodyOf Tryz.f58
noncomputable def fi : Fin := ⟨Γ0, [(.tmp 4, 4)], [[1]], [], [], []⟩
noncomputable def m : Fn [.l] (Fn [.b] Res) := fun _ r1 => ⟨[⟨false, [.bool r1]⟩], [], [], [], []⟩
noncomputable def X (K : Res → O) : Ctx := cx0 [slices_IndexFunc_impl_Instr_impl_Instr.con] fi true K
noncomputable def b (a1 : List (List Cl)) (R : Bool → O) : O :=
 slices_IndexFunc_impl_Instr_impl_Instr.g a1 fun r2 =>
 R (decide (0 ≤ r2))
noncomputable def g := seal_ b
theorem e : g = b := seal_eq b
noncomputable def a : Fn [.l] St := fun a1 => argSt [one (.tr 0 1 e_2 (.cells a1)), one (.fn 59 [])] [] []
noncomputable def con := conOf 58 [.l] [.b] a g m
theorem ok : Con Pg con := con_fin (fn := Tryz.f58) (c := c) (Fi := fi) (X := X) laid (ctx_of (.cons slices_IndexFunc_impl_Instr_impl_Instr.ok .nil) (by kernel_rfl)) (fun K => .nil) e (by kernel_rfl) (by kernel_rfl) (by kernel_rfl) (by kernel_rfl)
end slices_ContainsFunc_impl_Instr_impl_Instr
namespace impl_takes
noncomputable def c : Code := bodyOf Tryz.f50
noncomputable def fi : Fin := ⟨Γ0, [(.tmp 2, 3)], [[1]], [], [], []⟩
noncomputable def m : Fn [.i, .i, .i, .i, .i, .z] (Fn [.i] Res) := fun _ _ _ _ _ _ r1 => ⟨[⟨false, [cI r1]⟩], [], [], [], []⟩
noncomputable def X (K : Res → O) : Ctx := cx0 [] fi true K
noncomputable def b (a1 a2 a3 a4 a5 : Int) (a6 : List Int) (R : Int → O) : O :=
 bif (a1 == 3) then R 1
 else bif (a1 == 4) then R 1
 else bif (a1 == 5) then R 2
 else R 0
noncomputable def g := seal_ b
theorem e : g = b := seal_eq b
noncomputable def a : Fn [.i, .i, .i, .i, .i, .z] St := fun a1 a2 a3 a4 a5 a6 => argSt [.v ⟨true, [cI a1, cI a2, cI a3, cI a4, cI a5, .tr 0 1 [.int .i64] (.ints a6)]⟩] [] []
noncomputable def con := conOf 50 [.i, .i, .i, .i, .i, .z] [.i] a g m
theorem ok : Con Pg con := con_fin (fn := Tryz.f50) (c := c) (Fi := fi) (X := X) laid (ctx_of .nil (by kernel_rfl)) (fun K => .nil) e (by kernel_rfl) (by kernel_rfl) (by kernel_rfl) (by kernel_rfl)
end impl_takes
namespace impl_deep
noncomputable def c : Code := bodyOf Tryz.f61
noncomputable def fi : Fin := ⟨Γ0, [(.tmp 2, 30), (.tmp 3, 4)], [[1], [1]], [], [], []⟩
noncomputable def m : Fn [.l] (Fn [.z, .b] Res) := fun _ r1 r2 => ⟨[⟨false, [.ow 1000]⟩, ⟨false, [.bool r2]⟩], [], [⟨[.int .i64], .ints r1, true, 0, none⟩], [], []⟩
noncomputable def b0 : Code := codeAt c [1, 1, 0, 1, 0, 0]
noncomputable def l0s (x2 : List (List Cl)) (x3 : Int) (rec : Int → List Int → O) (k : List Int → O) (R : List Int → Bool → O) (x4 : Int) (x5 : List Int) : O :=
 bif decide (x4 < x3) then (bif decide (0 ≤ x4) && decide (x4 < (x2.length : Int)) then (bif decide (0 ≤ x4) && decide (x4 < (x5.length : Int)) then (impl_takes.g (((x2.getD x4.toNat []).getD 0 (.i 0)).toI) (((x2.getD x4.toNat []).getD 1 (.i 0)).toI) (((x2.getD x4.toNat []).getD 2 (.i 0)).toI) (((x2.getD x4.toNat []).getD 3 (.i 0)).toI) (((x2.getD x4.toNat []).getD 4 (.i 0)).toI) (((x2.getD x4.toNat []).getD 5 (.i 0)).toL) fun r6 =>
  bif decide (x5.getD x4.toNat 0 < r6) then R ([] : List Int) false
  else bif decide (0 ≤ x4) && decide (x4 < (x5.length : Int)) then (impl_takes.g (((x2.getD x4.toNat []).getD 0 (.i 0)).toI) (((x2.getD x4.toNat []).getD 1 (.i 0)).toI) (((x2.getD x4.toNat []).getD 2 (.i 0)).toI) (((x2.getD x4.toNat []).getD 3 (.i 0)).toI) (((x2.getD x4.toNat []).getD 4 (.i 0)).toI) (((x2.getD x4.toNat []).getD 5 (.i 0)).toL) fun r7 =>
   bif decide ((x5.length + 1) * 8 ≤ 140737488355328) then rec (IntKind.i64.wrap (x4 + 1)) (x5 ++ ([IntKind.i64.wrap ((IntKind.i64.wrap ((x5.getD x4.toNat 0) - r7)) + 1)] : List Int))
   else none)
  else none)
  else none)
  else none)
 else k x5
noncomputable def l0 (x2 : List (List Cl)) (x3 : Int) (k : List Int → O) (R : List Int → Bool → O) : Nat → Int → List Int → O
 | 0, _, _ => none
 | n + 1, x4, x5 => l0s x2 x3 (l0 x2 x3 k R n) k R x4 x5
noncomputable def o0 : Fn [.l, .i, .z] St := fun _ _ y1 => ⟨mkT 35 [(4, one (.ow 3048))], [(3048, ⟨[.int .i64], .ints y1, true, 0, none⟩)], []⟩
noncomputable def n0 (K : Res → O) := ent 0 [.l, .i] [.i, .z] [0, 1, 2, 3] (fun x2 x3 x4 x5 => ⟨mkT 35 [(4, one (.ow 3048)), (8, one (.tr 0 1 e_2 (.cells x2))), (9, oI x3), (10, oI x4)], [(3048, ⟨[.int .i64], .ints x5, true, 0, none⟩)], []⟩) fun x2 x3 k => l0 x2 x3 (fun y1 => k (o0 x2 x3 y1)) (fun r1 r2 => K (m [] r1 r2))
noncomputable def X (K : Res → O) : Ctx := { cx0 [impl_takes.con] fi true K with cin := [(0, ⟨[4, 8, 9, 10], [(3048, 3048), (15496, 3048)], [], [], [], []⟩)], cout := [(0, ⟨[4], [(3048, 3048)], [], [], [], []⟩)], lp := lpOf [n0 K] }
noncomputable def b (a1 : List (List Cl)) (R : List Int → Bool → O) : O :=
 l0 a1 (a1.length : Int) (fun y8 =>
 R y8 true) R fuel 0 ([0] : List Int)
noncomputable def g := seal_ b
theorem e : g = b := seal_eq b
noncomputable def a : Fn [.l] St := fun a1 => argSt [one (.tr 0 1 e_2 (.cells a1))] [] []
noncomputable def con := conOf 61 [.l] [.z, .b] a g m
theorem hx (K : Res → O) : CtxOk Pg Γ0 byt0 eqs0 (X K) [impl_takes.con] := ctx_of (X := X) (.cons impl_takes.ok .nil) (by kernel_rfl) K
theorem w0 (K : Res → O) : LpSound Pg (X K) 0 b0 := lp_fin (L := [n0 K]) laid (hx K) .nil (.cons (ent_ok (fun x2 x3 k r => l0s x2 x3 r (fun y1 => k (o0 x2 x3 y1)) (fun r1 r2 => K (m [] r1 r2))) (by kernel_rfl) (by kernel_rfl) (by kernel_rfl) (by kernel_rfl) (by kernel_rfl)) .nil) (by kernel_rfl) (by kernel_rfl)
theorem ok : Con Pg con := con_fin (fn := Tryz.f61) (c := c) (Fi := fi) (X := X) laid hx (fun K => (.cons (w0 K) .nil)) e (by kernel_rfl) (by kernel_rfl) (by kernel_rfl) (by kernel_rfl)
end impl_deep
namespace impl_CodeOk
noncomputable def c : Code := bodyOf Tryz.f26
noncomputable def fi : Fin := ⟨Γ0, [(.tmp 2, 4)], [[1]], [], [], []⟩
noncomputable def m : Fn [.l] (Fn [.b] Res) := fun _ r1 => ⟨[⟨false, [.bool r1]⟩], [], [], [], []⟩
noncomputable def X (K : Res → O) : Ctx := cx0 [impl_within.con, slices_ContainsFunc_impl_Instr_impl_Instr.con, impl_deep.con] fi true K
noncomputable def b (a1 : List (List Cl)) (R : Bool → O) : O :=
 impl_within.g (a1.length : Int) 1 60 fun r2 =>
 bif !r2 then R false
 else (slices_ContainsFunc_impl_Instr_impl_Instr.g a1 fun r3 =>
 bif r3 then R false
 else (impl_deep.g a1 fun r4 r5 =>
 bif r5 then (bif decide (0 ≤ (a1.length : Int)) && decide ((a1.length : Int) < (r4.length : Int)) then R (r4.getD ((a1.length : Int).toNat) 0 == 1)
  else none)
 else R false))
noncomputable def g := seal_ b
theorem e : g = b := seal_eq b
noncomputable def a : Fn [.l] St := fun a1 => argSt [one (.tr 0 1 e_2 (.cells a1))] [] []
noncomputable def con := conOf 26 [.l] [.b] a g m
theorem ok : Con Pg con := con_fin (fn := Tryz.f26) (c := c) (Fi := fi) (X := X) laid (ctx_of (.cons impl_within.ok (.cons slices_ContainsFunc_impl_Instr_impl_Instr.ok (.cons impl_deep.ok .nil))) (by kernel_rfl)) (fun K => .nil) e (by kernel_rfl) (by kernel_rfl) (by kernel_rfl) (by kernel_rfl)
end impl_CodeOk
namespace impl_plainStep
noncomputable def c : Code := bodyOf Tryz.f82
noncomputable def fi : Fin := ⟨Γ0, [(.tmp 2, 4)], [[1]], [], [], []⟩
noncomputable def m : Fn [.i, .i, .i, .i, .i, .z] (Fn [.b] Res) := fun _ _ _ _ _ _ r1 => ⟨[⟨false, [.bool r1]⟩], [], [], [], []⟩
noncomputable def X (K : Res → O) : Ctx := cx0 [impl_oneSign.con, impl_twoSign.con] fi true K
noncomputable def b (a1 a2 a3 a4 a5 : Int) (a6 : List Int) (R : Bool → O) : O :=
 bif (a1 == 1) then R true
 else bif (a1 == 2) then R true
 else bif (a1 == 4) then (bif (a4 == 0) then (impl_oneSign.g a3 fun r7 =>
  R r7)
  else R false)
 else bif (a1 == 5) then (bif (a4 == 0) then (impl_twoSign.g a3 fun r8 =>
  R r8)
  else R false)
 else R false
noncomputable def g := seal_ b
theorem e : g = b := seal_eq b
noncomputable def a : Fn [.i, .i, .i, .i, .i, .z] St := fun a1 a2 a3 a4 a5 a6 => argSt [.v ⟨true, [cI a1, cI a2, cI a3, cI a4, cI a5, .tr 0 1 [.int .i64] (.ints a6)]⟩] [] []
noncomputable def con := conOf 82 [.i, .i, .i, .i, .i, .z] [.b] a g m
theorem ok : Con Pg con := con_fin (fn := Tryz.f82) (c := c) (Fi := fi) (X := X) laid (ctx_of (.cons impl_oneSign.ok (.cons impl_twoSign.ok .nil)) (by kernel_rfl)) (fun K => .nil) e (by kernel_rfl) (by kernel_rfl) (by kernel_rfl) (by kernel_rfl)
end impl_plainStep
namespace impl_spanAt
noncomputable def c : Code := bodyOf Tryz.f43
noncomputable def fi : Fin := ⟨Γ0, [(.tmp 4, 3)], [[1]], [], [], []⟩
noncomputable def m : Fn [.l, .i] (Fn [.i] Res) := fun _ _ r1 => ⟨[⟨false, [cI r1]⟩], [], [], [], []⟩
noncomputable def b0 : Code := codeAt c [1, 1, 0, 1, 0, 0]
noncomputable def l0s (x3 : List (List Cl)) (rec : Int → Int → Bool → Int → O) (k : Int → O) (x4 x5 : Int) (x6 : Bool) (x7 : Int) : O :=
 bif decide (x7 < (x3.length : Int)) then (bif decide (0 ≤ x7) && decide (x7 < (x3.length : Int)) then (impl_plainStep.g (((x3.getD x7.toNat []).getD 0 (.i 0)).toI) (((x3.getD x7.toNat []).getD 1 (.i 0)).toI) (((x3.getD x7.toNat []).getD 2 (.i 0)).toI) (((x3.getD x7.toNat []).getD 3 (.i 0)).toI) (((x3.getD x7.toNat []).getD 4 (.i 0)).toI) (((x3.getD x7.toNat []).getD 5 (.i 0)).toL) fun r8 =>
  bif r8 then (bif decide (0 ≤ x7) && decide (x7 < (x3.length : Int)) then (impl_takes.g (((x3.getD x7.toNat []).getD 0 (.i 0)).toI) (((x3.getD x7.toNat []).getD 1 (.i 0)).toI) (((x3.getD x7.toNat []).getD 2 (.i 0)).toI) (((x3.getD x7.toNat []).getD 3 (.i 0)).toI) (((x3.getD x7.toNat []).getD 4 (.i 0)).toI) (((x3.getD x7.toNat []).getD 5 (.i 0)).toL) fun r9 =>
   bif decide (r9 ≤ x5) then (bif decide (0 ≤ x7) && decide (x7 < (x3.length : Int)) then (impl_takes.g (((x3.getD x7.toNat []).getD 0 (.i 0)).toI) (((x3.getD x7.toNat []).getD 1 (.i 0)).toI) (((x3.getD x7.toNat []).getD 2 (.i 0)).toI) (((x3.getD x7.toNat []).getD 3 (.i 0)).toI) (((x3.getD x7.toNat []).getD 4 (.i 0)).toI) (((x3.getD x7.toNat []).getD 5 (.i 0)).toL) fun r10 =>
    bif x6 then (bif (IntKind.i64.wrap (x5 + (IntKind.i64.wrap (1 - r10))) == 1) then rec (IntKind.i64.wrap (x7 + 1)) (IntKind.i64.wrap (x5 + (IntKind.i64.wrap (1 - r10)))) true (IntKind.i64.wrap (x7 + 1))
     else rec x4 (IntKind.i64.wrap (x5 + (IntKind.i64.wrap (1 - r10)))) true (IntKind.i64.wrap (x7 + 1)))
    else bif decide (0 ≤ x7) && decide (x7 < (x3.length : Int)) then (impl_takes.g (((x3.getD x7.toNat []).getD 0 (.i 0)).toI) (((x3.getD x7.toNat []).getD 1 (.i 0)).toI) (((x3.getD x7.toNat []).getD 2 (.i 0)).toI) (((x3.getD x7.toNat []).getD 3 (.i 0)).toI) (((x3.getD x7.toNat []).getD 4 (.i 0)).toI) (((x3.getD x7.toNat []).getD 5 (.i 0)).toL) fun r11 =>
     bif (IntKind.i64.wrap (x5 + (IntKind.i64.wrap (1 - r10))) == 1) then (bif decide (0 < r11) then rec (IntKind.i64.wrap (x7 + 1)) (IntKind.i64.wrap (x5 + (IntKind.i64.wrap (1 - r10)))) (decide (0 < r11)) (IntKind.i64.wrap (x7 + 1))
      else rec x4 (IntKind.i64.wrap (x5 + (IntKind.i64.wrap (1 - r10)))) (decide (0 < r11)) (IntKind.i64.wrap (x7 + 1)))
     else rec x4 (IntKind.i64.wrap (x5 + (IntKind.i64.wrap (1 - r10)))) (decide (0 < r11)) (IntKind.i64.wrap (x7 + 1)))
    else none)
    else none)
   else k x4)
   else none)
  else k x4)
  else none)
 else k x4
noncomputable def l0 (x3 : List (List Cl)) (k : Int → O) : Nat → Int → Int → Bool → Int → O
 | 0, _, _, _, _ => none
 | n + 1, x4, x5, x6, x7 => l0s x3 (l0 x3 k n) k x4 x5 x6 x7
noncomputable def o0 : Fn [.l, .i] St := fun _ y1 => ⟨mkT 58 [(5, oI y1)], [], []⟩
noncomputable def n0 (K : Res → O) := ent 0 [.l] [.i, .i, .b, .i] [0, 1, 2, 3, 4] (fun x3 x4 x5 x6 x7 => ⟨mkT 58 [(0, one (.tr 0 1 e_2 (.cells x3))), (5, oI x4), (6, oI x5), (7, one (.bool x6)), (8, oI x7)], [], []⟩) fun x3 k => l0 x3 (fun y1 => k (o0 x3 y1))
noncomputable def X (K : Res → O) : Ctx := { cx0 [impl_plainStep.con, impl_takes.con] fi true K with cin := [(0, ⟨[0, 5, 6, 7, 8], [], [], [], [], []⟩)], cout := [(0, ⟨[5], [], [], [], [], []⟩)], lp := lpOf [n0 K] }
noncomputable def b (a1 : List (List Cl)) (a2 : Int) (R : Int → O) : O :=
 l0 a1 (fun y12 =>
 R y12) fuel a2 0 false a2
noncomputable def g := seal_ b
theorem e : g = b := seal_eq b
noncomputable def a : Fn [.l, .i] St := fun a1 a2 => argSt [one (.tr 0 1 e_2 (.cells a1)), oI a2] [] []
noncomputable def con := conOf 43 [.l, .i] [.i] a g m
theorem hx (K : Res → O) : CtxOk Pg Γ0 byt0 eqs0 (X K) [impl_plainStep.con, impl_takes.con] := ctx_of (X := X) (.cons impl_plainStep.ok (.cons impl_takes.ok .nil)) (by kernel_rfl) K
theorem w0 (K : Res → O) : LpSound Pg (X K) 0 b0 := lp_fin (L := [n0 K]) laid (hx K) .nil (.cons (ent_ok (fun x3 k r => l0s x3 r (fun y1 => k (o0 x3 y1))) (by kernel_rfl) (by kernel_rfl) (by kernel_rfl) (by kernel_rfl) (by kernel_rfl)) .nil) (by kernel_rfl) (by kernel_rfl)
theorem ok : Con Pg con := con_fin (fn := Tryz.f43) (c := c) (Fi := fi) (X := X) laid hx (fun K => (.cons (w0 K) .nil)) e (by kernel_rfl) (by kernel_rfl) (by kernel_rfl) (by kernel_rfl)
end impl_spanAt
namespace impl_Spans
noncomputable def c : Code := bodyOf Tryz.f19
noncomputable def fi : Fin := ⟨Γ0, [(.tmp 2, 41)], [[1]], [], [], []⟩
noncomputable def m : Fn [.l] (Fn [.l] Res) := fun _ r1 => ⟨[⟨false, [.ow 1000]⟩], [], [⟨e_0, .cells r1, true, 0, none⟩], [], []⟩
noncomputable def b0 : Code := codeAt c [1, 1, 1, 0, 1, 0, 0]
noncomputable def l0s (x3 : List (List Cl)) (rec : Int → List (List Cl) → O) (k : List (List Cl) → O) (x4 : Int) (x5 : List (List Cl)) : O :=
 bif decide (x4 < (x3.length : Int)) then (impl_spanAt.g x3 x4 fun r6 =>
  bif (r6 == x4) then rec (IntKind.i64.wrap (x4 + 1)) x5
  else bif decide ((x5.length + 1) * 16 ≤ 140737488355328) then rec r6 (x5 ++ ([[.i x4, .i r6]] : List (List Cl)))
  else none)
 else k x5
noncomputable def l0 (x3 : List (List Cl)) (k : List (List Cl) → O) : Nat → Int → List (List Cl) → O
 | 0, _, _ => none
 | n + 1, x4, x5 => l0s x3 (l0 x3 k n) k x4 x5
noncomputable def o0 : Fn [.l, .l] St := fun _ y1 => ⟨mkT 29 [(3, one (.ow 7152))], [(7152, ⟨e_0, .cells y1, true, 0, none⟩)], []⟩
noncomputable def n0 (K : Res → O) := ent 0 [.l] [.i, .l] [0, 1, 2] (fun x3 x4 x5 => ⟨mkT 29 [(0, one (.tr 0 1 e_2 (.cells x3))), (3, one (.ow 7152)), (4, oI x4)], [(7152, ⟨e_0, .cells x5, true, 0, none⟩)], []⟩) fun x3 k => l0 x3 (fun y1 => k (o0 x3 y1))
noncomputable def X (K : Res → O) : Ctx := { cx0 [impl_CodeOk.con, impl_spanAt.con] fi true K with own := [(3, 0, 0, e_0)], cin := [(0, ⟨[0, 3, 4], [(7152, 7152), (19512, 7152)], [], [], [], []⟩)], cout := [(0, ⟨[3], [(7152, 7152)], [], [], [], []⟩)], lp := lpOf [n0 K] }
noncomputable def b (a1 : List (List Cl)) (R : List (List Cl) → O) : O :=
 impl_CodeOk.g a1 fun r2 =>
 bif !r2 then R ([] : List (List Cl))
 else (l0 a1 (fun y7 =>
 R y7) fuel 0 ([] : List (List Cl)))
noncomputable def g := seal_ b
theorem e : g = b := seal_eq b
noncomputable def a : Fn [.l] St := fun a1 => argSt [one (.tr 0 1 e_2 (.cells a1))] [] []
noncomputable def con := conOf 19 [.l] [.l] a g m
theorem hx (K : Res → O) : CtxOk Pg Γ0 byt0 eqs0 (X K) [impl_CodeOk.con, impl_spanAt.con] := ctx_of (X := X) (.cons impl_CodeOk.ok (.cons impl_spanAt.ok .nil)) (by kernel_rfl) K
theorem w0 (K : Res → O) : LpSound Pg (X K) 0 b0 := lp_fin (L := [n0 K]) laid (hx K) .nil (.cons (ent_ok (fun x3 k r => l0s x3 r (fun y1 => k (o0 x3 y1))) (by kernel_rfl) (by kernel_rfl) (by kernel_rfl) (by kernel_rfl) (by kernel_rfl)) .nil) (by kernel_rfl) (by kernel_rfl)
theorem ok : Con Pg con := con_fin (fn := Tryz.f19) (c := c) (Fi := fi) (X := X) laid hx (fun K => (.cons (w0 K) .nil)) e (by kernel_rfl) (by kernel_rfl) (by kernel_rfl) (by kernel_rfl)
end impl_Spans
namespace slices_Index_impl_Span_impl_Span
noncomputable def c : Code := bodyOf Tryz.f42
noncomputable def fi : Fin := ⟨Γ0, [(.tmp 4, 3)], [[1]], [], [], []⟩
noncomputable def m : Fn [.l, .i, .i] (Fn [.i] Res) := fun _ _ _ r1 => ⟨[⟨false, [cI r1]⟩], [], [], [], []⟩
noncomputable def b0 : Code := codeAt c [1, 0, 1, 0, 0]
noncomputable def l0s (x4 : List (List Cl)) (x5 x7 x8 : Int) (rec : Int → O) (k : O) (R : Int → O) (x6 : Int) : O :=
 bif decide (x6 < x5) then (bif decide (0 ≤ x6) && decide (x6 < (x4.length : Int)) then (bif ((x7 == ((x4.getD x6.toNat []).getD 0 (.i 0)).toI) && ((x8 == ((x4.getD x6.toNat []).getD 1 (.i 0)).toI) && true)) then R x6
  else rec (IntKind.i64.wrap (x6 + 1)))
  else none)
 else k
noncomputable def l0 (x4 : List (List Cl)) (x5 x7 x8 : Int) (k : O) (R : Int → O) : Nat → Int → O
 | 0, _ => none
 | n + 1, x6 => l0s x4 x5 x7 x8 (l0 x4 x5 x7 x8 k R n) k R x6
noncomputable def o0 : Fn [.l, .i, .i, .i] St := fun _ _ _ _ => ⟨mkT 19 [], [], []⟩
noncomputable def n0 (K : Res → O) := ent 0 [.l, .i, .i, .i] [.i] [0, 1, 3, 4, 2] (fun x4 x5 x7 x8 x6 => ⟨mkT 19 [(0, one (.tr 0 1 e_0 (.cells x4))), (3, one (.bp 1000 0)), (7, oI x5), (8, oI x6)], [], [(1000, [cI x7, cI x8])]⟩) fun x4 x5 x7 x8 k => l0 x4 x5 x7 x8 (k (o0 x4 x5 x7 x8)) (fun r1 => K (m [] (0 : Int) (0 : Int) r1))
noncomputable def X (K : Res → O) : Ctx := { cx0 [] fi true K with cin := [(0, ⟨[0, 3, 7, 8], [], [1000], [], [], []⟩)], cout := [(0, ⟨[], [], [], [], [], []⟩)], lp := lpOf [n0 K] }
noncomputable def b (a1 : List (List Cl)) (a2 a3 : Int) (R : Int → O) : O :=
 l0 a1 (a1.length : Int) a2 a3 (
 R (-1)) R fuel 0
noncomputable def g := seal_ b
theorem e : g = b := seal_eq b
noncomputable def a : Fn [.l, .i, .i] St := fun a1 a2 a3 => argSt [one (.tr 0 1 e_0 (.cells a1)), .v ⟨true, [cI a2, cI a3]⟩] [] []
noncomputable def con := conOf 42 [.l, .i, .i] [.i] a g m
theorem hx (K : Res → O) : CtxOk Pg Γ0 byt0 eqs0 (X K) [] := ctx_of (X := X) .nil (by kernel_rfl) K
theorem w0 (K : Res → O) : LpSound Pg (X K) 0 b0 := lp_fin (L := [n0 K]) laid (hx K) .nil (.cons (ent_ok (fun x4 x5 x7 x8 k r => l0s x4 x5 x7 x8 r (k (o0 x4 x5 x7 x8)) (fun r1 => K (m [] (0 : Int) (0 : Int) r1))) (by kernel_rfl) (by kernel_rfl) (by kernel_rfl) (by kernel_rfl) (by kernel_rfl)) .nil) (by kernel_rfl) (by kernel_rfl)
theorem ok : Con Pg con := con_fin (fn := Tryz.f42) (c := c) (Fi := fi) (X := X) laid hx (fun K => (.cons (w0 K) .nil)) e (by kernel_rfl) (by kernel_rfl) (by kernel_rfl) (by kernel_rfl)
end slices_Index_impl_Span_impl_Span
namespace slices_Contains_impl_Span_impl_Span
noncomputable def c : Code := bodyOf Tryz.f18
noncomputable def fi : Fin := ⟨Γ0, [(.tmp 4, 4)], [[1]], [], [], []⟩
noncomputable def m : Fn [.l, .i, .i] (Fn [.b] Res) := fun _ _ _ r1 => ⟨[⟨false, [.bool r1]⟩], [], [], [], []⟩
noncomputable def X (K : Res → O) : Ctx := cx0 [slices_Index_impl_Span_impl_Span.con] fi true K
noncomputable def b (a1 : List (List Cl)) (a2 a3 : Int) (R : Bool → O) : O :=
 slices_Index_impl_Span_impl_Span.g a1 a2 a3 fun r4 =>
 R (decide (0 ≤ r4))
noncomputable def g := seal_ b
theorem e : g = b := seal_eq b
noncomputable def a : Fn [.l, .i, .i] St := fun a1 a2 a3 => argSt [one (.tr 0 1 e_0 (.cells a1)), .v ⟨true, [cI a2, cI a3]⟩] [] []
noncomputable def con := conOf 18 [.l, .i, .i] [.b] a g m
theorem ok : Con Pg con := con_fin (fn := Tryz.f18) (c := c) (Fi := fi) (X := X) laid (ctx_of (.cons slices_Index_impl_Span_impl_Span.ok .nil) (by kernel_rfl)) (fun K => .nil) e (by kernel_rfl) (by kernel_rfl) (by kernel_rfl) (by kernel_rfl)
end slices_Contains_impl_Span_impl_Span
namespace impl_vector
noncomputable def c : Code := bodyOf Tryz.f83
noncomputable def fi : Fin := ⟨Γ0, [(.cell 2 32, 32)], [[1, 1]], [], [], []⟩
noncomputable def m : Fn [.z] (Fn [.z] Res) := fun a1 r1 => ⟨[⟨true, [.ow 1000, .ow 1001]⟩], [], [⟨[.int .i64], .ints r1, true, 0, none⟩, ⟨[.int .i64], .ints a1, true, 0, none⟩], [], []⟩
noncomputable def X (K : Res → O) : Ctx := cx0 [] fi true K
noncomputable def b (a1 : List Int) (R : List Int → O) : O :=
 bif decide (a1.length * 8 ≤ 140737488355328) then R ([(a1.length : Int)] : List Int)
 else none
noncomputable def g := seal_ b
theorem e : g = b := seal_eq b
noncomputable def a : Fn [.z] St := fun a1 => argSt [one (.tr 0 1 [.int .i64] (.ints a1))] [] []
noncomputable def con := conOf 83 [.z] [.z] a g m
theorem ok : Con Pg con := con_fin (fn := Tryz.f83) (c := c) (Fi := fi) (X := X) laid (ctx_of .nil (by kernel_rfl)) (fun K => .nil) e (by kernel_rfl) (by kernel_rfl) (by kernel_rfl) (by kernel_rfl)
end impl_vector
namespace impl_numsArray
noncomputable def c : Code := bodyOf Tryz.f44
noncomputable def fi : Fin := ⟨Γ0, [(.cell 2 32, 32)], [[1, 1]], [], [], []⟩
noncomputable def m : Fn [.z] (Fn [.z, .z] Res) := fun _ r1 r2 => ⟨[⟨true, [.ow 1000, .ow 1001]⟩], [], [⟨[.int .i64], .ints r1, true, 0, none⟩, ⟨[.int .i64], .ints r2, true, 0, none⟩], [], []⟩
noncomputable def X (K : Res → O) : Ctx := cx0 [impl_vector.con] fi true K
noncomputable def b (a1 : List Int) (R : List Int → List Int → O) : O :=
 bif ((a1.length : Int) == 1) then (bif decide (0 < (a1.length : Int)) then R ([] : List Int) ([a1.getD 0 0] : List Int)
  else none)
 else (impl_vector.g a1 fun r2 =>
 R r2 a1)
noncomputable def g := seal_ b
theorem e : g = b := seal_eq b
noncomputable def a : Fn [.z] St := fun a1 => argSt [one (.tr 0 1 [.int .i64] (.ints a1))] [] []
noncomputable def con := conOf 44 [.z] [.z, .z] a g m
theorem ok : Con Pg con := con_fin (fn := Tryz.f44) (c := c) (Fi := fi) (X := X) laid (ctx_of (.cons impl_vector.ok .nil) (by kernel_rfl)) (fun K => .nil) e (by kernel_rfl) (by kernel_rfl) (by kernel_rfl) (by kernel_rfl)
end impl_numsArray
namespace slices_Equal_int_int
noncomputable def c : Code := bodyOf Tryz.f45
noncomputable def fi : Fin := ⟨Γ0, [(.tmp 4, 4)], [[1]], [], [], []⟩
noncomputable def m : Fn [.z, .z] (Fn [.b] Res) := fun _ _ r1 => ⟨[⟨false, [.bool r1]⟩], [], [], [], []⟩
noncomputable def b0 : Code := codeAt c [1, 1, 0, 1, 0, 0]
noncomputable def l0s (x3 x4 : List Int) (x5 : Int) (rec : Int → O) (k : O) (R : Bool → O) (x6 : Int) : O :=
 bif decide (x6 < x5) then (bif decide (0 ≤ x6) && decide (x6 < (x3.length : Int)) then (bif decide (0 ≤ x6) && decide (x6 < (x4.length : Int)) then (bif (x3.getD x6.toNat 0 != x4.getD x6.toNat 0) then R false
  else rec (IntKind.i64.wrap (x6 + 1)))
  else none)
  else none)
 else k
noncomputable def l0 (x3 x4 : List Int) (x5 : Int) (k : O) (R : Bool → O) : Nat → Int → O
 | 0, _ => none
 | n + 1, x6 => l0s x3 x4 x5 (l0 x3 x4 x5 k R n) k R x6
noncomputable def o0 : Fn [.z, .z, .i] St := fun _ _ _ => ⟨mkT 26 [], [], []⟩
noncomputable def n0 (K : Res → O) := ent 0 [.z, .z, .i] [.i] [0, 1, 2, 3] (fun x3 x4 x5 x6 => ⟨mkT 26 [(0, one (.tr 0 1 [.int .i64] (.ints x3))), (1, one (.tr 0 1 [.int .i64] (.ints x4))), (12, oI x5), (13, oI x6)], [], []⟩) fun x3 x4 x5 k => l0 x3 x4 x5 (k (o0 x3 x4 x5)) (fun r1 => K (m [] [] r1))
noncomputable def X (K : Res → O) : Ctx := { cx0 [] fi true K with cin := [(0, ⟨[0, 1, 12, 13], [], [], [], [], []⟩)], cout := [(0, ⟨[], [], [], [], [], []⟩)], lp := lpOf [n0 K] }
noncomputable def b (a1 a2 : List Int) (R : Bool → O) : O :=
 bif ((a1.length : Int) != (a2.length : Int)) then R false
 else (l0 a1 a2 (a1.length : Int) (
 R true) R fuel 0)
noncomputable def g := seal_ b
theorem e : g = b := seal_eq b
noncomputable def a : Fn [.z, .z] St := fun a1 a2 => argSt [one (.tr 0 1 [.int .i64] (.ints a1)), one (.tr 0 1 [.int .i64] (.ints a2))] [] []
noncomputable def con := conOf 45 [.z, .z] [.b] a g m
theorem hx (K : Res → O) : CtxOk Pg Γ0 byt0 eqs0 (X K) [] := ctx_of (X := X) .nil (by kernel_rfl) K
theorem w0 (K : Res → O) : LpSound Pg (X K) 0 b0 := lp_fin (L := [n0 K]) laid (hx K) .nil (.cons (ent_ok (fun x3 x4 x5 k r => l0s x3 x4 x5 r (k (o0 x3 x4 x5)) (fun r1 => K (m [] [] r1))) (by kernel_rfl) (by kernel_rfl) (by kernel_rfl) (by kernel_rfl) (by kernel_rfl)) .nil) (by kernel_rfl) (by kernel_rfl)
theorem ok : Con Pg con := con_fin (fn := Tryz.f45) (c := c) (Fi := fi) (X := X) laid hx (fun K => (.cons (w0 K) .nil)) e (by kernel_rfl) (by kernel_rfl) (by kernel_rfl) (by kernel_rfl)
end slices_Equal_int_int
namespace impl_guarded
noncomputable def c : Code := bodyOf Tryz.f20
noncomputable def fi : Fin := ⟨Γ0, [(.tmp 4, 30), (.tmp 5, 4)], [[1], [1]], [], [], []⟩
noncomputable def m : Fn [.l, .l] (Fn [.z, .b] Res) := fun _ _ r1 r2 => ⟨[⟨false, [.ow 1000]⟩, ⟨false, [.bool r2]⟩], [], [⟨[.int .i64], .ints r1, true, 0, none⟩], [], []⟩
noncomputable def b0 : Code := codeAt c [1, 1, 0, 1, 0, 0]
noncomputable def l0s  (rec : List (List Cl) → List (List Cl) → Int → Int → List Int → O) (k : List Int → O) (R : List Int → Bool → O) (x9 x10 : List (List Cl)) (x11 x12 : Int) (x13 : List Int) : O :=
 bif decide (x12 < x11) then (bif decide (0 ≤ x12) && decide (x12 < (x10.length : Int)) then (bif (((x10.getD x12.toNat []).getD 0 (.i 0)).toI == 1) then (impl_numsArray.g (((x10.getD x12.toNat []).getD 5 (.i 0)).toL) fun r14 r15 =>
  bif ((r14.length : Int) == 0) then rec x9 x10 x11 (IntKind.i64.wrap (x12 + 1)) x13
  else bif ((r15.length : Int) == 0) then R ([] : List Int) false
  else bif decide (0 < x13.length) then (slices_Equal_int_int.g x13 r14 fun r16 =>
   bif !r16 then R ([] : List Int) false
   else bif decide (r14.length * 8 ≤ 140737488355328) then rec x9 x10 x11 (IntKind.i64.wrap (x12 + 1)) r14
   else none)
  else none)
  else bif (((x10.getD x12.toNat []).getD 0 (.i 0)).toI == 2) then (bif decide (0 ≤ ((x10.getD x12.toNat []).getD 1 (.i 0)).toI) && decide (((x10.getD x12.toNat []).getD 1 (.i 0)).toI < (x9.length : Int)) then (bif !(((x9.getD ((((x10.getD x12.toNat []).getD 1 (.i 0)).toI).toNat) []).getD 0 (.i 0)).toB) then R ([] : List Int) false
   else bif decide (0 ≤ ((x10.getD x12.toNat []).getD 1 (.i 0)).toI) && decide (((x10.getD x12.toNat []).getD 1 (.i 0)).toI < (x9.length : Int)) then (bif (((((x9.getD ((((x10.getD x12.toNat []).getD 1 (.i 0)).toI).toNat) []).getD 1 (.i 0)).toL).length : Int) == 0) then rec x9 x10 x11 (IntKind.i64.wrap (x12 + 1)) x13
    else bif (((((x9.getD ((((x10.getD x12.toNat []).getD 1 (.i 0)).toI).toNat) []).getD 2 (.i 0)).toL).length : Int) == 0) then R ([] : List Int) false
    else bif decide (0 < x13.length) then (slices_Equal_int_int.g x13 (((x9.getD ((((x10.getD x12.toNat []).getD 1 (.i 0)).toI).toNat) []).getD 1 (.i 0)).toL) fun r17 =>
     bif !r17 then R ([] : List Int) false
     else bif decide ((((x9.getD ((((x10.getD x12.toNat []).getD 1 (.i 0)).toI).toNat) []).getD 1 (.i 0)).toL).length * 8 ≤ 140737488355328) then rec x9 x10 x11 (IntKind.i64.wrap (x12 + 1)) (((x9.getD ((((x10.getD x12.toNat []).getD 1 (.i 0)).toI).toNat) []).getD 1 (.i 0)).toL)
     else none)
    else none)
   else none)
   else none)
  else rec x9 x10 x11 (IntKind.i64.wrap (x12 + 1)) x13)
  else none)
 else k x13
noncomputable def l0  (k : List Int → O) (R : List Int → Bool → O) : Nat → List (List Cl) → List (List Cl) → Int → Int → List Int → O
 | 0, _, _, _, _, _ => none
 | n + 1, x9, x10, x11, x12, x13 => l0s (l0 k R n) k R x9 x10 x11 x12 x13
noncomputable def o0 : Fn [.z] St := fun y1 => ⟨mkT 63 [(6, one (.ow 122893288))], [(122893288, ⟨[.int .i64], .ints y1, true, 0, none⟩)], []⟩
noncomputable def n0 (K : Res → O) := ent 0 [] [.l, .l, .i, .i, .z] [0, 1, 2, 3, 4] (fun x9 x10 x11 x12 x13 => ⟨mkT 63 [(1, one (.tr 0 1 e_3 (.cells x9))), (6, one (.ow 122893288)), (10, one (.tr 0 1 e_2 (.cells x10))), (11, oI x11), (12, oI x12)], [(122893288, ⟨[.int .i64], .ints x13, true, 0, none⟩)], []⟩) fun k => l0 (fun y1 => k (o0 y1)) (fun r1 r2 => K (m [] [] r1 r2))
noncomputable def l0_2s (x3 x4 : List (List Cl)) (x5 : Int) (rec : Int → O) (recB : List (List Cl) → List (List Cl) → Int → Int → List Int → O) (k : O) (kB : List Int → O) (R : List Int → Bool → O) (x6 : Int) : O :=
 bif decide (x6 < x5) then (bif decide (0 ≤ x6) && decide (x6 < (x4.length : Int)) then (bif (((x4.getD x6.toNat []).getD 0 (.i 0)).toI == 1) then (impl_numsArray.g (((x4.getD x6.toNat []).getD 5 (.i 0)).toL) fun r7 r8 =>
  bif ((r7.length : Int) == 0) then rec (IntKind.i64.wrap (x6 + 1))
  else bif ((r8.length : Int) == 0) then R ([] : List Int) false
  else bif decide (r7.length * 8 ≤ 140737488355328) then recB x3 x4 x5 (IntKind.i64.wrap (x6 + 1)) r7
  else none)
  else bif (((x4.getD x6.toNat []).getD 0 (.i 0)).toI == 2) then (bif decide (0 ≤ ((x4.getD x6.toNat []).getD 1 (.i 0)).toI) && decide (((x4.getD x6.toNat []).getD 1 (.i 0)).toI < (x3.length : Int)) then (bif !(((x3.getD ((((x4.getD x6.toNat []).getD 1 (.i 0)).toI).toNat) []).getD 0 (.i 0)).toB) then R ([] : List Int) false
   else bif decide (0 ≤ ((x4.getD x6.toNat []).getD 1 (.i 0)).toI) && decide (((x4.getD x6.toNat []).getD 1 (.i 0)).toI < (x3.length : Int)) then (bif (((((x3.getD ((((x4.getD x6.toNat []).getD 1 (.i 0)).toI).toNat) []).getD 1 (.i 0)).toL).length : Int) == 0) then rec (IntKind.i64.wrap (x6 + 1))
    else bif (((((x3.getD ((((x4.getD x6.toNat []).getD 1 (.i 0)).toI).toNat) []).getD 2 (.i 0)).toL).length : Int) == 0) then R ([] : List Int) false
    else bif decide ((((x3.getD ((((x4.getD x6.toNat []).getD 1 (.i 0)).toI).toNat) []).getD 1 (.i 0)).toL).length * 8 ≤ 140737488355328) then recB x3 x4 x5 (IntKind.i64.wrap (x6 + 1)) (((x3.getD ((((x4.getD x6.toNat []).getD 1 (.i 0)).toI).toNat) []).getD 1 (.i 0)).toL)
    else none)
   else none)
   else none)
  else rec (IntKind.i64.wrap (x6 + 1)))
  else none)
 else k
noncomputable def l0_2 (x3 x4 : List (List Cl)) (x5 : Int) (k : O) (kB : List Int → O) (R : List Int → Bool → O) : Nat → Int → O
 | 0, _ => none
 | n + 1, x6 => l0_2s x3 x4 x5 (l0_2 x3 x4 x5 k kB R n) (l0 kB R n) k kB R x6
noncomputable def o0_2 : Fn [.l, .l, .i] St := fun _ _ _ => ⟨mkT 63 [(6, one (.nil))], [], []⟩
noncomputable def n0_2 (K : Res → O) := ent 0 [.l, .l, .i] [.i] [0, 1, 2, 3] (fun x3 x4 x5 x6 => ⟨mkT 63 [(1, one (.tr 0 1 e_3 (.cells x3))), (6, one (.nil)), (10, one (.tr 0 1 e_2 (.cells x4))), (11, oI x5), (12, oI x6)], [], []⟩) fun x3 x4 x5 k => l0_2 x3 x4 x5 (k (o0_2 x3 x4 x5)) (fun y1 => k (o0 y1)) (fun r1 r2 => K (m [] [] r1 r2))
noncomputable def X (K : Res → O) : Ctx := { cx0 [impl_numsArray.con, slices_Equal_int_int.con] fi true K with cin := [(0, ⟨[1, 6, 10, 11, 12], [(33800, 122893288), (122893288, 122893288)], [], [], [], []⟩)], cout := [(0, ⟨[6], [(122893288, 122893288)], [], [], [], []⟩)], lp := lpOf [n0 K, n0_2 K] }
noncomputable def b (a1 a2 : List (List Cl)) (R : List Int → Bool → O) : O :=
 l0_2 a2 a1 (a1.length : Int) (
 R ([] : List Int) true) (fun y18 =>
 R y18 true) R fuel 0
noncomputable def g := seal_ b
theorem e : g = b := seal_eq b
noncomputable def a : Fn [.l, .l] St := fun a1 a2 => argSt [one (.tr 0 1 e_2 (.cells a1)), one (.tr 0 1 e_3 (.cells a2))] [] []
noncomputable def con := conOf 20 [.l, .l] [.z, .b] a g m
theorem hx (K : Res → O) : CtxOk Pg Γ0 byt0 eqs0 (X K) [impl_numsArray.con, slices_Equal_int_int.con] := ctx_of (X := X) (.cons impl_numsArray.ok (.cons slices_Equal_int_int.ok .nil)) (by kernel_rfl) K
theorem w0 (K : Res → O) : LpSound Pg (X K) 0 b0 := lp_fin (L := [n0 K, n0_2 K]) laid (hx K) .nil (.cons (ent_ok (fun k r => l0s r (fun y1 => k (o0 y1)) (fun r1 r2 => K (m [] [] r1 r2))) (by kernel_rfl) (by kernel_rfl) (by kernel_rfl) (by kernel_rfl) (by kernel_rfl)) (.cons (ent_ok2 (W' := [.l, .l, .i, .i, .z]) (s' := fun x9 x10 x11 x12 x13 => ⟨mkT 63 [(1, one (.tr 0 1 e_3 (.cells x9))), (6, one (.ow 122893288)), (10, one (.tr 0 1 e_2 (.cells x10))), (11, oI x11), (12, oI x12)], [(122893288, ⟨[.int .i64], .ints x13, true, 0, none⟩)], []⟩) (l' := fun k => l0 (fun y1 => k (o0 y1)) (fun r1 r2 => K (m [] [] r1 r2))) (fun k r => l0s r (fun y1 => k (o0 y1)) (fun r1 r2 => K (m [] [] r1 r2))) (fun x3 x4 x5 k r rB => l0_2s x3 x4 x5 r rB (k (o0_2 x3 x4 x5)) (fun y1 => k (o0 y1)) (fun r1 r2 => K (m [] [] r1 r2))) (by kernel_rfl) (by kernel_rfl) (by kernel_rfl) (by kernel_rfl) (by kernel_rfl) (by kernel_rfl) (by kernel_rfl) (by kernel_rfl)) .nil)) (by kernel_rfl) (by kernel_rfl)
theorem ok : Con Pg con := con_fin (fn := Tryz.f20) (c := c) (Fi := fi) (X := X) laid hx (fun K => (.cons (w0 K) .nil)) e (by kernel_rfl) (by kernel_rfl) (by kernel_rfl) (by kernel_rfl)
end impl_guarded
namespace impl_at
noncomputable def c : Code := bodyOf Tryz.f47
noncomputable def fi : Fin := ⟨Γ0, [(.tmp 4, 3)], [[1]], [], [], []⟩
noncomputable def m : Fn [.z, .z, .i] (Fn [.i] Res) := fun _ _ _ r1 => ⟨[⟨false, [cI r1]⟩], [], [], [], []⟩
noncomputable def X (K : Res → O) : Ctx := cx0 [] fi true K
noncomputable def b (a1 a2 : List Int) (a3 : Int) (R : Int → O) : O :=
 bif ((a1.length : Int) == 0) then (bif decide (0 < (a2.length : Int)) then R (a2.getD 0 0)
  else none)
 else bif decide (0 ≤ a3) && decide (a3 < (a2.length : Int)) then R (a2.getD a3.toNat 0)
 else none
noncomputable def g := seal_ b
theorem e : g = b := seal_eq b
noncomputable def a : Fn [.z, .z, .i] St := fun a1 a2 a3 => argSt [.v ⟨true, [.tr 0 1 [.int .i64] (.ints a1), .tr 0 1 [.int .i64] (.ints a2)]⟩, oI a3] [] []
noncomputable def con := conOf 47 [.z, .z, .i] [.i] a g m
theorem ok : Con Pg con := con_fin (fn := Tryz.f47) (c := c) (Fi := fi) (X := X) laid (ctx_of .nil (by kernel_rfl)) (fun K => .nil) e (by kernel_rfl) (by kernel_rfl) (by kernel_rfl) (by kernel_rfl)
end impl_at
namespace impl_truth
noncomputable def c : Code := bodyOf Tryz.f85
noncomputable def fi : Fin := ⟨Γ0, [(.tmp 2, 3)], [[1]], [], [], []⟩
noncomputable def m : Fn [.b] (Fn [.i] Res) := fun _ r1 => ⟨[⟨false, [cI r1]⟩], [], [], [], []⟩
noncomputable def X (K : Res → O) : Ctx := cx0 [] fi true K
noncomputable def b (a1 : Bool) (R : Int → O) : O :=
 bif a1 then R 1
 else R 0
noncomputable def g := seal_ b
theorem e : g = b := seal_eq b
noncomputable def a : Fn [.b] St := fun a1 => argSt [one (.bool a1)] [] []
noncomputable def con := conOf 85 [.b] [.i] a g m
theorem ok : Con Pg con := con_fin (fn := Tryz.f85) (c := c) (Fi := fi) (X := X) laid (ctx_of .nil (by kernel_rfl)) (fun K => .nil) e (by kernel_rfl) (by kernel_rfl) (by kernel_rfl) (by kernel_rfl)
end impl_truth
namespace impl_One
noncomputable def c : Code := bodyOf Tryz.f48
noncomputable def fi : Fin := ⟨Γ0, [(.tmp 4, 3), (.tmp 5, 3)], [[1], [1]], [], [], []⟩
noncomputable def m : Fn [.i, .i] (Fn [.i, .i] Res) := fun _ _ r1 r2 => ⟨[⟨false, [cI r1]⟩, ⟨false, [cI r2]⟩], [], [], [], []⟩
noncomputable def X (K : Res → O) : Ctx := cx0 [impl_oneSign.con, impl_NumOk.con, impl_truth.con, impl_within.con] fi true K
noncomputable def b (a1 a2 : Int) (R : Int → Int → O) : O :=
 impl_oneSign.g a1 fun r3 =>
 bif !r3 then R 0 1
 else (impl_NumOk.g a2 fun r4 =>
 bif !r4 then R 0 1
 else bif (a1 == 45) then R (IntKind.i64.wrap (0 - a2)) 0
 else bif (a1 == 42) then (impl_truth.g (decide (0 < a2)) fun r5 =>
  impl_truth.g (decide (a2 < 0)) fun r6 =>
  R (IntKind.i64.wrap (r5 - r6)) 0)
 else bif (a1 == 124) then R (minmax true a2 (IntKind.i64.wrap (0 - a2))) 0
 else bif (a1 == 126) then (impl_within.g a2 0 1 fun r7 =>
  bif !r7 then R 0 2
  else R (IntKind.i64.wrap (1 - a2)) 0)
 else R a2 0)
noncomputable def g := seal_ b
theorem e : g = b := seal_eq b
noncomputable def a : Fn [.i, .i] St := fun a1 a2 => argSt [oI a1, oI a2] [] []
noncomputable def con := conOf 48 [.i, .i] [.i, .i] a g m
theorem ok : Con Pg con := con_fin (fn := Tryz.f48) (c := c) (Fi := fi) (X := X) laid (ctx_of (.cons impl_oneSign.ok (.cons impl_NumOk.ok (.cons impl_truth.ok (.cons impl_within.ok .nil)))) (by kernel_rfl)) (fun K => .nil) e (by kernel_rfl) (by kernel_rfl) (by kernel_rfl) (by kernel_rfl)
end impl_One
namespace impl_product
noncomputable def c : Code := bodyOf Tryz.f87
noncomputable def fi : Fin := ⟨Γ0, [(.tmp 4, 3), (.tmp 5, 4)], [[1], [1]], [], [], []⟩
noncomputable def m : Fn [.i, .i] (Fn [.i, .b] Res) := fun _ _ r1 r2 => ⟨[⟨false, [cI r1]⟩, ⟨false, [.bool r2]⟩], [], [], [], []⟩
noncomputable def X (K : Res → O) : Ctx := cx0 [] fi true K
noncomputable def b (a1 a2 : Int) (R : Int → Bool → O) : O :=
 bif (a1 != 0) then (bif decide (minmax true a1 (IntKind.i64.wrap (0 - a1)) = 0) then none
  else bif decide (IntKind.i64.wrap ((1000000000000 : Int).tdiv (minmax true a1 (IntKind.i64.wrap (0 - a1)))) < minmax true a2 (IntKind.i64.wrap (0 - a2))) then R 0 false
  else R (IntKind.i64.wrap (a1 * a2)) true)
 else R (IntKind.i64.wrap (a1 * a2)) true
noncomputable def g := seal_ b
theorem e : g = b := seal_eq b
noncomputable def a : Fn [.i, .i] St := fun a1 a2 => argSt [oI a1, oI a2] [] []
noncomputable def con := conOf 87 [.i, .i] [.i, .b] a g m
theorem ok : Con Pg con := con_fin (fn := Tryz.f87) (c := c) (Fi := fi) (X := X) laid (ctx_of .nil (by kernel_rfl)) (fun K => .nil) e (by kernel_rfl) (by kernel_rfl) (by kernel_rfl) (by kernel_rfl)
end impl_product
namespace impl_floor
noncomputable def c : Code := bodyOf Tryz.f88
noncomputable def fi : Fin := ⟨Γ0, [(.tmp 4, 3)], [[1]], [], [], []⟩
noncomputable def m : Fn [.i, .i] (Fn [.i] Res) := fun _ _ r1 => ⟨[⟨false, [cI r1]⟩], [], [], [], []⟩
noncomputable def X (K : Res → O) : Ctx := cx0 [] fi true K
noncomputable def b (a1 a2 : Int) (R : Int → O) : O :=
 bif decide (a2 = 0) then none
 else bif decide (a2 = 0) then none
 else bif (a1.tmod a2 != 0) then (bif ((decide (a1 < 0)) != (decide (a2 < 0))) then R (IntKind.i64.wrap ((IntKind.i64.wrap (a1.tdiv a2)) - 1))
  else R (IntKind.i64.wrap (a1.tdiv a2)))
 else R (IntKind.i64.wrap (a1.tdiv a2))
noncomputable def g := seal_ b
theorem e : g = b := seal_eq b
noncomputable def a : Fn [.i, .i] St := fun a1 a2 => argSt [oI a1, oI a2] [] []
noncomputable def con := conOf 88 [.i, .i] [.i] a g m
theorem ok : Con Pg con := con_fin (fn := Tryz.f88) (c := c) (Fi := fi) (X := X) laid (ctx_of .nil (by kernel_rfl)) (fun K => .nil) e (by kernel_rfl) (by kernel_rfl) (by kernel_rfl) (by kernel_rfl)
end impl_floor
namespace impl_Two
noncomputable def c : Code := bodyOf Tryz.f49
noncomputable def fi : Fin := ⟨Γ0, [(.tmp 6, 3), (.tmp 7, 3)], [[1], [1]], [], [], []⟩
noncomputable def m : Fn [.i, .i, .i] (Fn [.i, .i] Res) := fun _ _ _ r1 r2 => ⟨[⟨false, [cI r1]⟩, ⟨false, [cI r2]⟩], [], [], [], []⟩
noncomputable def X (K : Res → O) : Ctx := cx0 [impl_twoSign.con, impl_NumOk.con, impl_product.con, impl_floor.con, impl_truth.con] fi true K
noncomputable def b (a1 a2 a3 : Int) (R : Int → Int → O) : O :=
 impl_twoSign.g a1 fun r4 =>
 bif !r4 then R 0 1
 else (impl_NumOk.g a2 fun r5 =>
 bif !r5 then R 0 1
 else (impl_NumOk.g a3 fun r6 =>
 bif !r6 then R 0 1
 else bif (a1 == 43) then (impl_NumOk.g (IntKind.i64.wrap (a2 + a3)) fun r7 =>
  bif !r7 then R 0 6
  else R (IntKind.i64.wrap (a2 + a3)) 0)
 else bif (a1 == 45) then (impl_NumOk.g (IntKind.i64.wrap (a2 - a3)) fun r8 =>
  bif !r8 then R 0 6
  else R (IntKind.i64.wrap (a2 - a3)) 0)
 else bif (a1 == 42) then (impl_product.g a2 a3 fun r9 r10 =>
  bif !r10 then R 0 6
  else (impl_NumOk.g r9 fun r11 =>
  bif !r11 then R 0 6
  else R r9 0))
 else bif (a1 == 37) then (bif (a3 == 0) then R 0 2
  else (impl_floor.g a2 a3 fun r12 =>
  impl_NumOk.g r12 fun r13 =>
  bif !r13 then R 0 6
  else R r12 0))
 else bif (a1 == 124) then (bif (a2 != 0) then (impl_floor.g a3 a2 fun r14 =>
  impl_NumOk.g (IntKind.i64.wrap (a3 - (IntKind.i64.wrap (a2 * r14)))) fun r15 =>
  bif !r15 then R 0 6
  else R (IntKind.i64.wrap (a3 - (IntKind.i64.wrap (a2 * r14)))) 0)
  else (impl_NumOk.g a3 fun r16 =>
  bif !r16 then R 0 6
  else R a3 0))
 else bif (a1 == 38) then (impl_NumOk.g (minmax false a2 a3) fun r17 =>
  bif !r17 then R 0 6
  else R (minmax false a2 a3) 0)
 else bif (a1 == 94) then (impl_NumOk.g (minmax true a2 a3) fun r18 =>
  bif !r18 then R 0 6
  else R (minmax true a2 a3) 0)
 else bif (a1 == 61) then (impl_truth.g (a2 == a3) fun r19 =>
  impl_NumOk.g r19 fun r20 =>
  bif !r20 then R 0 6
  else R r19 0)
 else bif (a1 == 60) then (impl_truth.g (decide (a2 < a3)) fun r21 =>
  impl_NumOk.g r21 fun r22 =>
  bif !r22 then R 0 6
  else R r21 0)
 else (impl_truth.g (decide (a3 < a2)) fun r23 =>
 impl_NumOk.g r23 fun r24 =>
 bif !r24 then R 0 6
 else R r23 0)))
noncomputable def g := seal_ b
theorem e : g = b := seal_eq b
noncomputable def a : Fn [.i, .i, .i] St := fun a1 a2 a3 => argSt [oI a1, oI a2, oI a3] [] []
noncomputable def con := conOf 49 [.i, .i, .i] [.i, .i] a g m
theorem ok : Con Pg con := con_fin (fn := Tryz.f49) (c := c) (Fi := fi) (X := X) laid (ctx_of (.cons impl_twoSign.ok (.cons impl_NumOk.ok (.cons impl_product.ok (.cons impl_floor.ok (.cons impl_truth.ok .nil))))) (by kernel_rfl)) (fun K => .nil) e (by kernel_rfl) (by kernel_rfl) (by kernel_rfl) (by kernel_rfl)
end impl_Two
namespace impl_atPlace
noncomputable def c : Code := bodyOf Tryz.f22
noncomputable def fi : Fin := ⟨Γ0, [(.tmp 6, 3), (.tmp 7, 4)], [[1], [1]], [], [], []⟩
noncomputable def m : Fn [.l, .l, .i] (Fn [.i, .b] Res) := fun _ _ _ r1 r2 => ⟨[⟨false, [cI r1]⟩, ⟨false, [.bool r2]⟩], [], [], [], []⟩
noncomputable def b0 : Code := codeAt c [1, 1, 0, 1, 0, 0]
noncomputable def l0s (x4 : List (List Cl)) (x5 : Int) (x6 : List (List Cl)) (x7 : Int) (rec : Int → List Int → O) (k : List Int → O) (R : Int → Bool → O) (x8 : Int) (x9 : List Int) : O :=
 bif decide (x8 < x7) then (bif decide (0 ≤ x8) && decide (x8 < (x6.length : Int)) then (bif (((x6.getD x8.toNat []).getD 0 (.i 0)).toI == 1) then (impl_numsArray.g (((x6.getD x8.toNat []).getD 5 (.i 0)).toL) fun r10 r11 =>
  impl_at.g r10 r11 x5 fun r12 =>
  impl_takes.g (((x6.getD x8.toNat []).getD 0 (.i 0)).toI) (((x6.getD x8.toNat []).getD 1 (.i 0)).toI) (((x6.getD x8.toNat []).getD 2 (.i 0)).toI) (((x6.getD x8.toNat []).getD 3 (.i 0)).toI) (((x6.getD x8.toNat []).getD 4 (.i 0)).toI) (((x6.getD x8.toNat []).getD 5 (.i 0)).toL) fun r13 =>
  bif decide (0 ≤ IntKind.i64.wrap ((x9.length : Int) - r13)) && decide (IntKind.i64.wrap ((x9.length : Int) - r13) ≤ (x9.length : Int)) then (bif decide (((IntKind.i64.wrap ((x9.length : Int) - r13)).toNat + 1) * 8 ≤ 140737488355328) then rec (IntKind.i64.wrap (x8 + 1)) ((x9.take ((IntKind.i64.wrap ((x9.length : Int) - r13)).toNat)) ++ ([r12] : List Int))
   else none)
  else none)
  else bif (((x6.getD x8.toNat []).getD 0 (.i 0)).toI == 2) then (bif decide (0 ≤ ((x6.getD x8.toNat []).getD 1 (.i 0)).toI) && decide (((x6.getD x8.toNat []).getD 1 (.i 0)).toI < (x4.length : Int)) then (impl_at.g (((x4.getD ((((x6.getD x8.toNat []).getD 1 (.i 0)).toI).toNat) []).getD 1 (.i 0)).toL) (((x4.getD ((((x6.getD x8.toNat []).getD 1 (.i 0)).toI).toNat) []).getD 2 (.i 0)).toL) x5 fun r14 =>
   impl_takes.g (((x6.getD x8.toNat []).getD 0 (.i 0)).toI) (((x6.getD x8.toNat []).getD 1 (.i 0)).toI) (((x6.getD x8.toNat []).getD 2 (.i 0)).toI) (((x6.getD x8.toNat []).getD 3 (.i 0)).toI) (((x6.getD x8.toNat []).getD 4 (.i 0)).toI) (((x6.getD x8.toNat []).getD 5 (.i 0)).toL) fun r15 =>
   bif decide (0 ≤ IntKind.i64.wrap ((x9.length : Int) - r15)) && decide (IntKind.i64.wrap ((x9.length : Int) - r15) ≤ (x9.length : Int)) then (bif decide (((IntKind.i64.wrap ((x9.length : Int) - r15)).toNat + 1) * 8 ≤ 140737488355328) then rec (IntKind.i64.wrap (x8 + 1)) ((x9.take ((IntKind.i64.wrap ((x9.length : Int) - r15)).toNat)) ++ ([r14] : List Int))
    else none)
   else none)
   else none)
  else bif (((x6.getD x8.toNat []).getD 0 (.i 0)).toI == 4) then (bif decide (0 ≤ IntKind.i64.wrap ((x9.length : Int) - 1)) && decide (IntKind.i64.wrap ((x9.length : Int) - 1) < (x9.length : Int)) then (impl_One.g (((x6.getD x8.toNat []).getD 2 (.i 0)).toI) (x9.getD ((IntKind.i64.wrap ((x9.length : Int) - 1)).toNat) 0) fun r16 r17 =>
   bif (r17 != 0) then R 0 false
   else (impl_takes.g (((x6.getD x8.toNat []).getD 0 (.i 0)).toI) (((x6.getD x8.toNat []).getD 1 (.i 0)).toI) (((x6.getD x8.toNat []).getD 2 (.i 0)).toI) (((x6.getD x8.toNat []).getD 3 (.i 0)).toI) (((x6.getD x8.toNat []).getD 4 (.i 0)).toI) (((x6.getD x8.toNat []).getD 5 (.i 0)).toL) fun r18 =>
   bif decide (0 ≤ IntKind.i64.wrap ((x9.length : Int) - r18)) && decide (IntKind.i64.wrap ((x9.length : Int) - r18) ≤ (x9.length : Int)) then (bif decide (((IntKind.i64.wrap ((x9.length : Int) - r18)).toNat + 1) * 8 ≤ 140737488355328) then rec (IntKind.i64.wrap (x8 + 1)) ((x9.take ((IntKind.i64.wrap ((x9.length : Int) - r18)).toNat)) ++ ([r16] : List Int))
    else none)
   else none))
   else none)
  else bif decide (0 ≤ IntKind.i64.wrap ((x9.length : Int) - 1)) && decide (IntKind.i64.wrap ((x9.length : Int) - 1) < (x9.length : Int)) then (bif decide (0 ≤ IntKind.i64.wrap ((x9.length : Int) - 2)) && decide (IntKind.i64.wrap ((x9.length : Int) - 2) < (x9.length : Int)) then (impl_Two.g (((x6.getD x8.toNat []).getD 2 (.i 0)).toI) (x9.getD ((IntKind.i64.wrap ((x9.length : Int) - 1)).toNat) 0) (x9.getD ((IntKind.i64.wrap ((x9.length : Int) - 2)).toNat) 0) fun r19 r20 =>
   bif (r20 != 0) then R 0 false
   else (impl_takes.g (((x6.getD x8.toNat []).getD 0 (.i 0)).toI) (((x6.getD x8.toNat []).getD 1 (.i 0)).toI) (((x6.getD x8.toNat []).getD 2 (.i 0)).toI) (((x6.getD x8.toNat []).getD 3 (.i 0)).toI) (((x6.getD x8.toNat []).getD 4 (.i 0)).toI) (((x6.getD x8.toNat []).getD 5 (.i 0)).toL) fun r21 =>
   bif decide (0 ≤ IntKind.i64.wrap ((x9.length : Int) - r21)) && decide (IntKind.i64.wrap ((x9.length : Int) - r21) ≤ (x9.length : Int)) then (bif decide (((IntKind.i64.wrap ((x9.length : Int) - r21)).toNat + 1) * 8 ≤ 140737488355328) then rec (IntKind.i64.wrap (x8 + 1)) ((x9.take ((IntKind.i64.wrap ((x9.length : Int) - r21)).toNat)) ++ ([r19] : List Int))
    else none)
   else none))
   else none)
  else none)
  else none)
 else k x9
noncomputable def l0 (x4 : List (List Cl)) (x5 : Int) (x6 : List (List Cl)) (x7 : Int) (k : List Int → O) (R : Int → Bool → O) : Nat → Int → List Int → O
 | 0, _, _ => none
 | n + 1, x8, x9 => l0s x4 x5 x6 x7 (l0 x4 x5 x6 x7 k R n) k R x8 x9
noncomputable def o0 : Fn [.l, .i, .l, .i, .z] St := fun _ _ _ _ y1 => ⟨mkT 87 [(8, one (.ow 3056))], [(3056, ⟨[.int .i64], .ints y1, true, 0, none⟩)], []⟩
noncomputable def n0 (K : Res → O) := ent 0 [.l, .i, .l, .i] [.i, .z] [0, 1, 2, 3, 4, 5] (fun x4 x5 x6 x7 x8 x9 => ⟨mkT 87 [(1, one (.tr 0 1 e_3 (.cells x4))), (2, oI x5), (8, one (.ow 3056)), (14, one (.tr 0 1 e_2 (.cells x6))), (15, oI x7), (16, oI x8)], [(3056, ⟨[.int .i64], .ints x9, true, 0, none⟩)], []⟩) fun x4 x5 x6 x7 k => l0 x4 x5 x6 x7 (fun y1 => k (o0 x4 x5 x6 x7 y1)) (fun r1 r2 => K (m [] [] (0 : Int) r1 r2))
noncomputable def X (K : Res → O) : Ctx := { cx0 [impl_numsArray.con, impl_at.con, impl_takes.con, impl_One.con, impl_Two.con] fi true K with own := [(1, 0, 0, [.int .i64])], cin := [(0, ⟨[1, 2, 8, 14, 15, 16], [(3056, 3056), (35944, 3056)], [], [], [], []⟩)], cout := [(0, ⟨[8], [(3056, 3056)], [], [], [], []⟩)], lp := lpOf [n0 K] }
noncomputable def b (a1 a2 : List (List Cl)) (a3 : Int) (R : Int → Bool → O) : O :=
 l0 a2 a3 a1 (a1.length : Int) (fun y22 =>
 bif decide (0 < (y22.length : Int)) then R (y22.getD 0 0) true
 else none) R fuel 0 ([] : List Int)
noncomputable def g := seal_ b
theorem e : g = b := seal_eq b
noncomputable def a : Fn [.l, .l, .i] St := fun a1 a2 a3 => argSt [one (.tr 0 1 e_2 (.cells a1)), one (.tr 0 1 e_3 (.cells a2)), oI a3] [] []
noncomputable def con := conOf 22 [.l, .l, .i] [.i, .b] a g m
theorem hx (K : Res → O) : CtxOk Pg Γ0 byt0 eqs0 (X K) [impl_numsArray.con, impl_at.con, impl_takes.con, impl_One.con, impl_Two.con] := ctx_of (X := X) (.cons impl_numsArray.ok (.cons impl_at.ok (.cons impl_takes.ok (.cons impl_One.ok (.cons impl_Two.ok .nil))))) (by kernel_rfl) K
theorem w0 (K : Res → O) : LpSound Pg (X K) 0 b0 := lp_fin (L := [n0 K]) laid (hx K) .nil (.cons (ent_ok (fun x4 x5 x6 x7 k r => l0s x4 x5 x6 x7 r (fun y1 => k (o0 x4 x5 x6 x7 y1)) (fun r1 r2 => K (m [] [] (0 : Int) r1 r2))) (by kernel_rfl) (by kernel_rfl) (by kernel_rfl) (by kernel_rfl) (by kernel_rfl)) .nil) (by kernel_rfl) (by kernel_rfl)
theorem ok : Con Pg con := con_fin (fn := Tryz.f22) (c := c) (Fi := fi) (X := X) laid hx (fun K => (.cons (w0 K) .nil)) e (by kernel_rfl) (by kernel_rfl) (by kernel_rfl) (by kernel_rfl)
end impl_atPlace
namespace impl_FuseTry
noncomputable def c : Code := bodyOf Tryz.f6
noncomputable def fi : Fin := ⟨Γ0, [(.cell 6 32, 32), (.tmp 7, 4)], [[1, 1], [1]], [], [], []⟩
noncomputable def m : Fn [.l, .i, .i, .l] (Fn [.z, .z, .b] Res) := fun _ _ _ _ r1 r2 r3 => ⟨[⟨true, [.ow 1000, .ow 1001]⟩, ⟨false, [.bool r3]⟩], [], [⟨[.int .i64], .ints r1, true, 0, none⟩, ⟨[.int .i64], .ints r2, true, 0, none⟩], [], []⟩
noncomputable def b0 : Code := codeAt c [1, 1, 1, 1, 1, 1, 0, 1, 0, 0]
noncomputable def l0s (x10 x11 : List (List Cl)) (x13 : List Int) (rec : Int → List Int → O) (k : List Int → O) (R : List Int → List Int → Bool → O) (x12 : Int) (x14 : List Int) : O :=
 impl_SizeOf.g x13 fun r15 =>
 bif decide (x12 < r15) then (impl_atPlace.g x11 x10 x12 fun r16 r17 =>
  bif !r17 then R ([] : List Int) ([] : List Int) false
  else bif decide ((x14.length + 1) * 8 ≤ 140737488355328) then rec (IntKind.i64.wrap (x12 + 1)) (x14 ++ ([r16] : List Int))
  else none)
 else k x14
noncomputable def l0 (x10 x11 : List (List Cl)) (x13 : List Int) (k : List Int → O) (R : List Int → List Int → Bool → O) : Nat → Int → List Int → O
 | 0, _, _ => none
 | n + 1, x12, x14 => l0s x10 x11 x13 (l0 x10 x11 x13 k R n) k R x12 x14
noncomputable def o0 : Fn [.l, .l, .z, .z] St := fun _ _ x13 y2 => ⟨mkT 66 [(6, one (.bp 1016 0)), (11, one (.bp 15368 0))], [(9225, ⟨[.int .i64], .ints x13, true, 0, none⟩), (15361, ⟨[.int .i64], .ints y2, true, 0, none⟩)], [(1016, [.nil, .nil]), (15368, [.ow 9225, .ow 15361])]⟩
noncomputable def n0 (K : Res → O) := ent 0 [.l, .l, .z] [.i, .z] [0, 1, 3, 2, 4] (fun x10 x11 x13 x12 x14 => ⟨mkT 66 [(2, one (.tr 0 1 e_3 (.cells x10))), (6, one (.bp 1016 0)), (8, one (.tr 0 1 e_2 (.cells x11))), (9, one (.ow 9225)), (11, one (.bp 15368 0)), (12, oI x12)], [(9225, ⟨[.int .i64], .ints x13, true, 0, none⟩), (15361, ⟨[.int .i64], .ints x14, true, 0, none⟩)], [(1016, [.nil, .nil]), (15368, [.ow 9225, .ow 15361])]⟩) fun x10 x11 x13 k => l0 x10 x11 x13 (fun y2 => k (o0 x10 x11 x13 y2)) (fun r1 r2 r3 => K (m [] (0 : Int) (0 : Int) [] r1 r2 r3))
noncomputable def X (K : Res → O) : Ctx := { cx0 [impl_VarsOk.con, impl_Spans.con, slices_Contains_impl_Span_impl_Span.con, impl_guarded.con, impl_SizeOf.con, impl_atPlace.con] fi true K with own := [(7, 1, 1, [.int .i64])], cin := [(0, ⟨[2, 6, 8, 9, 11, 12], [(9225, 9225), (15361, 15361), (29736, 15361)], [1016, 15368], [], [], []⟩)], cout := [(0, ⟨[6, 11], [(9225, 9225), (15361, 15361)], [1016, 15368], [], [], []⟩)], lp := lpOf [n0 K] }
noncomputable def b (a1 : List (List Cl)) (a2 a3 : Int) (a4 : List (List Cl)) (R : List Int → List Int → Bool → O) : O :=
 impl_VarsOk.g a4 fun r5 =>
 bif !r5 then R ([] : List Int) ([] : List Int) false
 else (impl_Spans.g a1 fun r6 =>
 slices_Contains_impl_Span_impl_Span.g r6 a2 a3 fun r7 =>
 bif !r7 then R ([] : List Int) ([] : List Int) false
 else bif decide (0 ≤ a2) && decide (a2 ≤ a3) && decide (a3 ≤ (a1.length : Int)) then (impl_guarded.g ((a1.drop a2.toNat).take (a3.toNat - a2.toNat)) a4 fun r8 r9 =>
  bif !r9 then R ([] : List Int) ([] : List Int) false
  else (l0 a4 ((a1.drop a2.toNat).take (a3.toNat - a2.toNat)) r8 (fun y18 =>
  R r8 y18 true) R fuel 0 ([] : List Int)))
 else none)
noncomputable def g := seal_ b
theorem e : g = b := seal_eq b
noncomputable def a : Fn [.l, .i, .i, .l] St := fun a1 a2 a3 a4 => argSt [one (.tr 0 1 e_2 (.cells a1)), .v ⟨true, [cI a2, cI a3]⟩, one (.tr 0 1 e_3 (.cells a4))] [] []
noncomputable def con := conOf 6 [.l, .i, .i, .l] [.z, .z, .b] a g m
theorem hx (K : Res → O) : CtxOk Pg Γ0 byt0 eqs0 (X K) [impl_VarsOk.con, impl_Spans.con, slices_Contains_impl_Span_impl_Span.con, impl_guarded.con, impl_SizeOf.con, impl_atPlace.con] := ctx_of (X := X) (.cons impl_VarsOk.ok (.cons impl_Spans.ok (.cons slices_Contains_impl_Span_impl_Span.ok (.cons impl_guarded.ok (.cons impl_SizeOf.ok (.cons impl_atPlace.ok .nil)))))) (by kernel_rfl) K
theorem w0 (K : Res → O) : LpSound Pg (X K) 0 b0 := lp_fin (L := [n0 K]) laid (hx K) .nil (.cons (ent_ok (fun x10 x11 x13 k r => l0s x10 x11 x13 r (fun y2 => k (o0 x10 x11 x13 y2)) (fun r1 r2 r3 => K (m [] (0 : Int) (0 : Int) [] r1 r2 r3))) (by kernel_rfl) (by kernel_rfl) (by kernel_rfl) (by kernel_rfl) (by kernel_rfl)) .nil) (by kernel_rfl) (by kernel_rfl)
theorem ok : Con Pg con := con_fin (fn := Tryz.f6) (c := c) (Fi := fi) (X := X) laid hx (fun K => (.cons (w0 K) .nil)) e (by kernel_rfl) (by kernel_rfl) (by kernel_rfl) (by kernel_rfl)
end impl_FuseTry
namespace spec_ArrayOk
noncomputable def c : Code := bodyOf Tryz.f54
noncomputable def fi : Fin := ⟨Γ0, [(.tmp 2, 4)], [[1]], [], [], []⟩
noncomputable def m : Fn [.z, .z] (Fn [.b] Res) := fun _ _ r1 => ⟨[⟨false, [.bool r1]⟩], [], [], [], []⟩
noncomputable def b0 : Code := codeAt c [1, 1, 0, 1, 0, 0]
noncomputable def l0s (x5 x6 : List Int) (rec : Int → O) (k : O) (R : Bool → O) (x4 : Int) : O :=
 bif decide (x4 < (x6.length : Int)) then (bif decide (0 ≤ x4) && decide (x4 < (x6.length : Int)) then (spec_NumOk.g (x6.getD x4.toNat 0) fun r7 =>
  bif !r7 then R false
  else rec (IntKind.i64.wrap (x4 + 1)))
  else none)
 else k
noncomputable def l0 (x5 x6 : List Int) (k : O) (R : Bool → O) : Nat → Int → O
 | 0, _ => none
 | n + 1, x4 => l0s x5 x6 (l0 x5 x6 k R n) k R x4
noncomputable def o0 : Fn [.z, .z] St := fun _ _ => ⟨mkT 25 [], [], []⟩
noncomputable def n0 (K : Res → O) := ent 0 [.z, .z] [.i] [1, 2, 0] (fun x5 x6 x4 => ⟨mkT 25 [(1, one (.bp 1000 0)), (3, oI x4)], [], [(1000, [.tr 0 1 [.int .i64] (.ints x5), .tr 0 1 [.int .i64] (.ints x6)])]⟩) fun x5 x6 k => l0 x5 x6 (k (o0 x5 x6)) (fun r1 => K (m [] [] r1))
noncomputable def X (K : Res → O) : Ctx := { cx0 [spec_SizeOf.con, spec_NumOk.con] fi true K with cin := [(0, ⟨[1, 3], [], [1000], [], [], []⟩)], cout := [(0, ⟨[], [], [], [], [], []⟩)], lp := lpOf [n0 K] }
noncomputable def b (a1 a2 : List Int) (R : Bool → O) : O :=
 spec_SizeOf.g a1 fun r3 =>
 bif (r3 != (a2.length : Int)) then R false
 else (l0 a1 a2 (
 R true) R fuel 0)
noncomputable def g := seal_ b
theorem e : g = b := seal_eq b
noncomputable def a : Fn [.z, .z] St := fun a1 a2 => argSt [.v ⟨true, [.tr 0 1 [.int .i64] (.ints a1), .tr 0 1 [.int .i64] (.ints a2)]⟩] [] []
noncomputable def con := conOf 54 [.z, .z] [.b] a g m
theorem hx (K : Res → O) : CtxOk Pg Γ0 byt0 eqs0 (X K) [spec_SizeOf.con, spec_NumOk.con] := ctx_of (X := X) (.cons spec_SizeOf.ok (.cons spec_NumOk.ok .nil)) (by kernel_rfl) K
theorem w0 (K : Res → O) : LpSound Pg (X K) 0 b0 := lp_fin (L := [n0 K]) laid (hx K) .nil (.cons (ent_ok (fun x5 x6 k r => l0s x5 x6 r (k (o0 x5 x6)) (fun r1 => K (m [] [] r1))) (by kernel_rfl) (by kernel_rfl) (by kernel_rfl) (by kernel_rfl) (by kernel_rfl)) .nil) (by kernel_rfl) (by kernel_rfl)
theorem ok : Con Pg con := con_fin (fn := Tryz.f54) (c := c) (Fi := fi) (X := X) laid hx (fun K => (.cons (w0 K) .nil)) e (by kernel_rfl) (by kernel_rfl) (by kernel_rfl) (by kernel_rfl)
end spec_ArrayOk
namespace spec_VarsOk
noncomputable def c : Code := bodyOf Tryz.f24
noncomputable def fi : Fin := ⟨Γ0, [(.tmp 2, 4)], [[1]], [], [], []⟩
noncomputable def m : Fn [.l] (Fn [.b] Res) := fun _ r1 => ⟨[⟨false, [.bool r1]⟩], [], [], [], []⟩
noncomputable def b0 : Code := codeAt c [1, 1, 0, 1, 0, 0]
noncomputable def l0s (x2 : List (List Cl)) (rec : Int → O) (k : O) (R : Bool → O) (x3 : Int) : O :=
 bif decide (x3 < 26) then (bif decide (0 ≤ x3) && decide (x3 < (x2.length : Int)) then (bif ((x2.getD x3.toNat []).getD 0 (.i 0)).toB then (spec_ArrayOk.g (((x2.getD x3.toNat []).getD 1 (.i 0)).toL) (((x2.getD x3.toNat []).getD 2 (.i 0)).toL) fun r4 =>
  bif !r4 then R false
  else bif !(((x2.getD x3.toNat []).getD 0 (.i 0)).toB) then (bif decide (0 < IntKind.i64.wrap (((((x2.getD x3.toNat []).getD 1 (.i 0)).toL).length : Int) + ((((x2.getD x3.toNat []).getD 2 (.i 0)).toL).length : Int))) then R false
   else rec (IntKind.i64.wrap (x3 + 1)))
  else rec (IntKind.i64.wrap (x3 + 1)))
  else bif !(((x2.getD x3.toNat []).getD 0 (.i 0)).toB) then (bif decide (0 < IntKind.i64.wrap (((((x2.getD x3.toNat []).getD 1 (.i 0)).toL).length : Int) + ((((x2.getD x3.toNat []).getD 2 (.i 0)).toL).length : Int))) then R false
   else rec (IntKind.i64.wrap (x3 + 1)))
  else rec (IntKind.i64.wrap (x3 + 1)))
  else none)
 else k
noncomputable def l0 (x2 : List (List Cl)) (k : O) (R : Bool → O) : Nat → Int → O
 | 0, _ => none
 | n + 1, x3 => l0s x2 (l0 x2 k R n) k R x3
noncomputable def o0 : Fn [.l] St := fun _ => ⟨mkT 41 [], [], []⟩
noncomputable def n0 (K : Res → O) := ent 0 [.l] [.i] [0, 1] (fun x2 x3 => ⟨mkT 41 [(0, one (.tr 0 1 e_3 (.cells x2))), (3, oI x3)], [], []⟩) fun x2 k => l0 x2 (k (o0 x2)) (fun r1 => K (m [] r1))
noncomputable def X (K : Res → O) : Ctx := { cx0 [spec_ArrayOk.con] fi true K with cin := [(0, ⟨[0, 3], [], [], [], [], []⟩)], cout := [(0, ⟨[], [], [], [], [], []⟩)], lp := lpOf [n0 K] }
noncomputable def b (a1 : List (List Cl)) (R : Bool → O) : O :=
 bif ((a1.length : Int) != 26) then R false
 else (l0 a1 (
 R true) R fuel 0)
noncomputable def g := seal_ b
theorem e : g = b := seal_eq b
noncomputable def a : Fn [.l] St := fun a1 => argSt [one (.tr 0 1 e_3 (.cells a1))] [] []
noncomputable def con := conOf 24 [.l] [.b] a g m
theorem hx (K : Res → O) : CtxOk Pg Γ0 byt0 eqs0 (X K) [spec_ArrayOk.con] := ctx_of (X := X) (.cons spec_ArrayOk.ok .nil) (by kernel_rfl) K
theorem w0 (K : Res → O) : LpSound Pg (X K) 0 b0 := lp_fin (L := [n0 K]) laid (hx K) .nil (.cons (ent_ok (fun x2 k r => l0s x2 r (k (o0 x2)) (fun r1 => K (m [] r1))) (by kernel_rfl) (by kernel_rfl) (by kernel_rfl) (by kernel_rfl) (by kernel_rfl)) .nil) (by kernel_rfl) (by kernel_rfl)
theorem ok : Con Pg con := con_fin (fn := Tryz.f24) (c := c) (Fi := fi) (X := X) laid hx (fun K => (.cons (w0 K) .nil)) e (by kernel_rfl) (by kernel_rfl) (by kernel_rfl) (by kernel_rfl)
end spec_VarsOk
namespace spec_l3Scalar
noncomputable def c : Code := bodyOf Tryz.f155
noncomputable def fi : Fin := ⟨Γ0, [(.cell 2 32, 32)], [[1, 1]], [], [], []⟩
noncomputable def m : Fn [.i] (Fn [.z, .z] Res) := fun _ r1 r2 => ⟨[⟨true, [.ow 1000, .ow 1001]⟩], [], [⟨[.int .i64], .ints r1, true, 0, none⟩, ⟨[.int .i64], .ints r2, true, 0, none⟩], [], []⟩
noncomputable def X (K : Res → O) : Ctx := cx0 [] fi true K
noncomputable def b (a1 : Int) (R : List Int → List Int → O) : O :=
 R ([] : List Int) ([a1] : List Int)
noncomputable def g := seal_ b
theorem e : g = b := seal_eq b
noncomputable def a : Fn [.i] St := fun a1 => argSt [oI a1] [] []
noncomputable def con := conOf 155 [.i] [.z, .z] a g m
theorem ok : Con Pg con := con_fin (fn := Tryz.f155) (c := c) (Fi := fi) (X := X) laid (ctx_of .nil (by kernel_rfl)) (fun K => .nil) e (by kernel_rfl) (by kernel_rfl) (by kernel_rfl) (by kernel_rfl)
end spec_l3Scalar
namespace spec_l3Vector
noncomputable def c : Code := bodyOf Tryz.f156
noncomputable def fi : Fin := ⟨Γ0, [(.cell 2 32, 32)], [[1, 1]], [], [], []⟩
noncomputable def m : Fn [.z] (Fn [.z, .z] Res) := fun _ r1 r2 => ⟨[⟨true, [.ow 1000, .ow 1001]⟩], [], [⟨[.int .i64], .ints r1, true, 0, none⟩, ⟨[.int .i64], .ints r2, true, 0, none⟩], [], []⟩
noncomputable def X (K : Res → O) : Ctx := cx0 [] fi true K
noncomputable def b (a1 : List Int) (R : List Int → List Int → O) : O :=
 bif decide ((0 + a1.length) * 8 ≤ 140737488355328) then R ([(a1.length : Int)] : List Int) (([] : List Int) ++ a1)
 else none
noncomputable def g := seal_ b
theorem e : g = b := seal_eq b
noncomputable def a : Fn [.z] St := fun a1 => argSt [one (.tr 0 1 [.int .i64] (.ints a1))] [] []
noncomputable def con := conOf 156 [.z] [.z, .z] a g m
theorem ok : Con Pg con := con_fin (fn := Tryz.f156) (c := c) (Fi := fi) (X := X) laid (ctx_of .nil (by kernel_rfl)) (fun K => .nil) e (by kernel_rfl) (by kernel_rfl) (by kernel_rfl) (by kernel_rfl)
end spec_l3Vector
namespace spec_l10Nums
noncomputable def c : Code := bodyOf Tryz.f120
noncomputable def fi : Fin := ⟨Γ0, [(.cell 2 32, 32)], [[1, 1]], [], [], []⟩
noncomputable def m : Fn [.z] (Fn [.z, .z] Res) := fun _ r1 r2 => ⟨[⟨true, [.ow 1000, .ow 1001]⟩], [], [⟨[.int .i64], .ints r1, true, 0, none⟩, ⟨[.int .i64], .ints r2, true, 0, none⟩], [], []⟩
noncomputable def X (K : Res → O) : Ctx := cx0 [spec_l3Scalar.con, spec_l3Vector.con] fi true K
noncomputable def b (a1 : List Int) (R : List Int → List Int → O) : O :=
 bif ((a1.length : Int) == 1) then (bif decide (0 < (a1.length : Int)) then (spec_l3Scalar.g (a1.getD 0 0) fun r2 r3 =>
  R r2 r3)
  else none)
 else (spec_l3Vector.g a1 fun r4 r5 =>
 R r4 r5)
noncomputable def g := seal_ b
theorem e : g = b := seal_eq b
noncomputable def a : Fn [.z] St := fun a1 => argSt [one (.tr 0 1 [.int .i64] (.ints a1))] [] []
noncomputable def con := conOf 120 [.z] [.z, .z] a g m
theorem ok : Con Pg con := con_fin (fn := Tryz.f120) (c := c) (Fi := fi) (X := X) laid (ctx_of (.cons spec_l3Scalar.ok (.cons spec_l3Vector.ok .nil)) (by kernel_rfl)) (fun K => .nil) e (by kernel_rfl) (by kernel_rfl) (by kernel_rfl) (by kernel_rfl)
end spec_l10Nums
namespace spec_l15Array
noncomputable def c : Code := bodyOf Tryz.f93
noncomputable def fi : Fin := ⟨Γ0, [(.cell 4 32, 32), (.tmp 5, 4)], [[4, 4], [1]], [], [], []⟩
noncomputable def m : Fn [.i, .i, .i, .i, .i, .z, .l] (Fn [.z, .z, .b] Res) := fun _ _ _ _ _ _ _ r1 r2 r3 => ⟨[⟨true, [.tr 1 1 [.int .i64] (.ints r1), .tr 1 1 [.int .i64] (.ints r2)]⟩, ⟨false, [.bool r3]⟩], [], [], [], []⟩
noncomputable def X (K : Res → O) : Ctx := cx0 [spec_l10Nums.con] fi true K
noncomputable def b (a1 a2 a3 a4 a5 : Int) (a6 : List Int) (a7 : List (List Cl)) (R : List Int → List Int → Bool → O) : O :=
 bif (a1 == 1) then (spec_l10Nums.g a6 fun r8 r9 =>
  R r8 r9 true)
 else bif decide (0 ≤ a2) && decide (a2 < (a7.length : Int)) then (bif decide (0 ≤ a2) && decide (a2 < (a7.length : Int)) then R (((a7.getD a2.toNat []).getD 1 (.i 0)).toL) (((a7.getD a2.toNat []).getD 2 (.i 0)).toL) (((a7.getD a2.toNat []).getD 0 (.i 0)).toB)
  else none)
 else none
noncomputable def g := seal_ b
theorem e : g = b := seal_eq b
noncomputable def a : Fn [.i, .i, .i, .i, .i, .z, .l] St := fun a1 a2 a3 a4 a5 a6 a7 => argSt [.v ⟨true, [cI a1, cI a2, cI a3, cI a4, cI a5, .tr 0 1 [.int .i64] (.ints a6)]⟩, one (.tr 0 1 e_3 (.cells a7))] [] []
noncomputable def con := conOf 93 [.i, .i, .i, .i, .i, .z, .l] [.z, .z, .b] a g m
theorem ok : Con Pg con := con_fin (fn := Tryz.f93) (c := c) (Fi := fi) (X := X) laid (ctx_of (.cons spec_l10Nums.ok .nil) (by kernel_rfl)) (fun K => .nil) e (by kernel_rfl) (by kernel_rfl) (by kernel_rfl) (by kernel_rfl)
end spec_l15Array
namespace spec_l2Same
noncomputable def c : Code := bodyOf Tryz.f94
noncomputable def fi : Fin := ⟨Γ0, [(.tmp 4, 4)], [[1]], [], [], []⟩
noncomputable def m : Fn [.z, .z] (Fn [.b] Res) := fun _ _ r1 => ⟨[⟨false, [.bool r1]⟩], [], [], [], []⟩
noncomputable def b0 : Code := codeAt c [1, 1, 0, 1, 0, 0]
noncomputable def l0s (x3 x4 : List Int) (rec : Int → O) (k : O) (R : Bool → O) (x5 : Int) : O :=
 bif decide (x5 < (x3.length : Int)) then (bif decide (0 ≤ x5) && decide (x5 < (x3.length : Int)) then (bif decide (0 ≤ x5) && decide (x5 < (x4.length : Int)) then (bif (x3.getD x5.toNat 0 != x4.getD x5.toNat 0) then R false
  else rec (IntKind.i64.wrap (x5 + 1)))
  else none)
  else none)
 else k
noncomputable def l0 (x3 x4 : List Int) (k : O) (R : Bool → O) : Nat → Int → O
 | 0, _ => none
 | n + 1, x5 => l0s x3 x4 (l0 x3 x4 k R n) k R x5
noncomputable def o0 : Fn [.z, .z] St := fun _ _ => ⟨mkT 26 [], [], []⟩
noncomputable def n0 (K : Res → O) := ent 0 [.z, .z] [.i] [0, 1, 2] (fun x3 x4 x5 => ⟨mkT 26 [(0, one (.tr 0 1 [.int .i64] (.ints x3))), (1, one (.tr 0 1 [.int .i64] (.ints x4))), (5, oI x5)], [], []⟩) fun x3 x4 k => l0 x3 x4 (k (o0 x3 x4)) (fun r1 => K (m [] [] r1))
noncomputable def X (K : Res → O) : Ctx := { cx0 [] fi true K with cin := [(0, ⟨[0, 1, 5], [], [], [], [], []⟩)], cout := [(0, ⟨[], [], [], [], [], []⟩)], lp := lpOf [n0 K] }
noncomputable def b (a1 a2 : List Int) (R : Bool → O) : O :=
 bif ((a1.length : Int) != (a2.length : Int)) then R false
 else (l0 a1 a2 (
 R true) R fuel 0)
noncomputable def g := seal_ b
theorem e : g = b := seal_eq b
noncomputable def a : Fn [.z, .z] St := fun a1 a2 => argSt [one (.tr 0 1 [.int .i64] (.ints a1)), one (.tr 0 1 [.int .i64] (.ints a2))] [] []
noncomputable def con := conOf 94 [.z, .z] [.b] a g m
theorem hx (K : Res → O) : CtxOk Pg Γ0 byt0 eqs0 (X K) [] := ctx_of (X := X) .nil (by kernel_rfl) K
theorem w0 (K : Res → O) : LpSound Pg (X K) 0 b0 := lp_fin (L := [n0 K]) laid (hx K) .nil (.cons (ent_ok (fun x3 x4 k r => l0s x3 x4 r (k (o0 x3 x4)) (fun r1 => K (m [] [] r1))) (by kernel_rfl) (by kernel_rfl) (by kernel_rfl) (by kernel_rfl) (by kernel_rfl)) .nil) (by kernel_rfl) (by kernel_rfl)
theorem ok : Con Pg con := con_fin (fn := Tryz.f94) (c := c) (Fi := fi) (X := X) laid hx (fun K => (.cons (w0 K) .nil)) e (by kernel_rfl) (by kernel_rfl) (by kernel_rfl) (by kernel_rfl)
end spec_l2Same
namespace spec_l15Shape
noncomputable def c : Code := bodyOf Tryz.f55
noncomputable def fi : Fin := ⟨Γ0, [(.tmp 6, 30), (.tmp 7, 4)], [[4], [1]], [], [], []⟩
noncomputable def m : Fn [.l, .i, .i, .l] (Fn [.z, .b] Res) := fun _ _ _ _ r1 r2 => ⟨[⟨false, [.tr 1 1 [.int .i64] (.ints r1)]⟩, ⟨false, [.bool r2]⟩], [], [], [], []⟩
noncomputable def b0 : Code := codeAt c [1, 1, 0, 1, 0, 0]
noncomputable def l0s (x5 x6 : List (List Cl)) (x9 x10 : Int) (rec : List Int → Int → O) (k : List Int → O) (R : List Int → Bool → O) (x7 : List Int) (x8 : Int) : O :=
 bif decide (x8 < x10) then (bif decide (0 ≤ x8) && decide (x8 < (x5.length : Int)) then (bif (((x5.getD x8.toNat []).getD 0 (.i 0)).toI != 1) then (bif decide (0 ≤ x8) && decide (x8 < (x5.length : Int)) then (bif (((x5.getD x8.toNat []).getD 0 (.i 0)).toI != 2) then rec x7 (IntKind.i64.wrap (x8 + 1))
  else bif decide (0 ≤ x8) && decide (x8 < (x5.length : Int)) then (spec_l15Array.g (((x5.getD x8.toNat []).getD 0 (.i 0)).toI) (((x5.getD x8.toNat []).getD 1 (.i 0)).toI) (((x5.getD x8.toNat []).getD 2 (.i 0)).toI) (((x5.getD x8.toNat []).getD 3 (.i 0)).toI) (((x5.getD x8.toNat []).getD 4 (.i 0)).toI) (((x5.getD x8.toNat []).getD 5 (.i 0)).toL) x6 fun r11 r12 r13 =>
   bif !r13 then R x7 false
   else bif ((r12.length : Int) == 0) then R x7 false
   else bif decide (0 < (r11.length : Int)) then (bif decide (0 < (x7.length : Int)) then (spec_l2Same.g r11 x7 fun r14 =>
    bif !r14 then R x7 false
    else bif decide (0 < (r11.length : Int)) then rec r11 (IntKind.i64.wrap (x8 + 1))
    else rec x7 (IntKind.i64.wrap (x8 + 1)))
    else bif decide (0 < (r11.length : Int)) then rec r11 (IntKind.i64.wrap (x8 + 1))
    else rec x7 (IntKind.i64.wrap (x8 + 1)))
   else bif decide (0 < (r11.length : Int)) then rec r11 (IntKind.i64.wrap (x8 + 1))
   else rec x7 (IntKind.i64.wrap (x8 + 1)))
  else none)
  else none)
  else bif decide (0 ≤ x8) && decide (x8 < (x5.length : Int)) then (spec_l15Array.g (((x5.getD x8.toNat []).getD 0 (.i 0)).toI) (((x5.getD x8.toNat []).getD 1 (.i 0)).toI) (((x5.getD x8.toNat []).getD 2 (.i 0)).toI) (((x5.getD x8.toNat []).getD 3 (.i 0)).toI) (((x5.getD x8.toNat []).getD 4 (.i 0)).toI) (((x5.getD x8.toNat []).getD 5 (.i 0)).toL) x6 fun r15 r16 r17 =>
   bif !r17 then R x7 false
   else bif ((r16.length : Int) == 0) then R x7 false
   else bif decide (0 < (r15.length : Int)) then (bif decide (0 < (x7.length : Int)) then (spec_l2Same.g r15 x7 fun r18 =>
    bif !r18 then R x7 false
    else bif decide (0 < (r15.length : Int)) then rec r15 (IntKind.i64.wrap (x8 + 1))
    else rec x7 (IntKind.i64.wrap (x8 + 1)))
    else bif decide (0 < (r15.length : Int)) then rec r15 (IntKind.i64.wrap (x8 + 1))
    else rec x7 (IntKind.i64.wrap (x8 + 1)))
   else bif decide (0 < (r15.length : Int)) then rec r15 (IntKind.i64.wrap (x8 + 1))
   else rec x7 (IntKind.i64.wrap (x8 + 1)))
  else none)
  else none)
 else k x7
noncomputable def l0 (x5 x6 : List (List Cl)) (x9 x10 : Int) (k : List Int → O) (R : List Int → Bool → O) : Nat → List Int → Int → O
 | 0, _, _ => none
 | n + 1, x7, x8 => l0s x5 x6 x9 x10 (l0 x5 x6 x9 x10 k R n) k R x7 x8
noncomputable def o0 : Fn [.l, .l, .i, .i, .z] St := fun _ _ _ _ y1 => ⟨mkT 80 [(8, one (.tr 1 1 [.int .i64] (.ints y1)))], [], []⟩
noncomputable def n0 (K : Res → O) := ent 0 [.l, .l, .i, .i] [.z, .i] [0, 1, 4, 5, 2, 3] (fun x5 x6 x9 x10 x7 x8 => ⟨mkT 80 [(0, one (.tr 0 1 e_2 (.cells x5))), (2, one (.tr 0 1 e_3 (.cells x6))), (4, one (.bp 1000 0)), (8, one (.tr 1 1 [.int .i64] (.ints x7))), (9, oI x8)], [], [(1000, [cI x9, cI x10])]⟩) fun x5 x6 x9 x10 k => l0 x5 x6 x9 x10 (fun y1 => k (o0 x5 x6 x9 x10 y1)) (fun r1 r2 => K (m [] (0 : Int) (0 : Int) [] r1 r2))
noncomputable def X (K : Res → O) : Ctx := { cx0 [spec_l15Array.con, spec_l2Same.con] fi true K with cin := [(0, ⟨[0, 2, 4, 8, 9], [(3048, 3048)], [1000], [], [], [(16, 0, 1, 1, [.int .i64])]⟩)], cout := [(0, ⟨[8], [], [], [], [], []⟩)], lp := lpOf [n0 K] }
noncomputable def b (a1 : List (List Cl)) (a2 a3 : Int) (a4 : List (List Cl)) (R : List Int → Bool → O) : O :=
 l0 a1 a4 a2 a3 (fun y19 =>
 bif decide ((0 + y19.length) * 8 ≤ 140737488355328) then R (([] : List Int) ++ y19) true
 else none) R fuel ([] : List Int) a2
noncomputable def g := seal_ b
theorem e : g = b := seal_eq b
noncomputable def a : Fn [.l, .i, .i, .l] St := fun a1 a2 a3 a4 => argSt [one (.tr 0 1 e_2 (.cells a1)), .v ⟨true, [cI a2, cI a3]⟩, one (.tr 0 1 e_3 (.cells a4))] [] []
noncomputable def con := conOf 55 [.l, .i, .i, .l] [.z, .b] a g m
theorem hx (K : Res → O) : CtxOk Pg Γ0 byt0 eqs0 (X K) [spec_l15Array.con, spec_l2Same.con] := ctx_of (X := X) (.cons spec_l15Array.ok (.cons spec_l2Same.ok .nil)) (by kernel_rfl) K
theorem w0 (K : Res → O) : LpSound Pg (X K) 0 b0 := lp_fin (L := [n0 K]) laid (hx K) .nil (.cons (ent_ok (fun x5 x6 x9 x10 k r => l0s x5 x6 x9 x10 r (fun y1 => k (o0 x5 x6 x9 x10 y1)) (fun r1 r2 => K (m [] (0 : Int) (0 : Int) [] r1 r2))) (by kernel_rfl) (by kernel_rfl) (by kernel_rfl) (by kernel_rfl) (by kernel_rfl)) .nil) (by kernel_rfl) (by kernel_rfl)
theorem ok : Con Pg con := con_fin (fn := Tryz.f55) (c := c) (Fi := fi) (X := X) laid hx (fun K => (.cons (w0 K) .nil)) e (by kernel_rfl) (by kernel_rfl) (by kernel_rfl) (by kernel_rfl)
end spec_l15Shape
namespace spec_l1Bit
noncomputable def c : Code := bodyOf Tryz.f121
noncomputable def fi : Fin := ⟨Γ0, [(.tmp 2, 3)], [[1]], [], [], []⟩
noncomputable def m : Fn [.b] (Fn [.i] Res) := fun _ r1 => ⟨[⟨false, [cI r1]⟩], [], [], [], []⟩
noncomputable def X (K : Res → O) : Ctx := cx0 [] fi true K
noncomputable def b (a1 : Bool) (R : Int → O) : O :=
 bif a1 then R 1
 else R 0
noncomputable def g := seal_ b
theorem e : g = b := seal_eq b
noncomputable def a : Fn [.b] St := fun a1 => argSt [one (.bool a1)] [] []
noncomputable def con := conOf 121 [.b] [.i] a g m
theorem ok : Con Pg con := con_fin (fn := Tryz.f121) (c := c) (Fi := fi) (X := X) laid (ctx_of .nil (by kernel_rfl)) (fun K => .nil) e (by kernel_rfl) (by kernel_rfl) (by kernel_rfl) (by kernel_rfl)
end spec_l1Bit
namespace spec_l1Max
noncomputable def c : Code := bodyOf Tryz.f122
noncomputable def fi : Fin := ⟨Γ0, [(.tmp 4, 3)], [[1]], [], [], []⟩
noncomputable def m : Fn [.i, .i] (Fn [.i] Res) := fun _ _ r1 => ⟨[⟨false, [cI r1]⟩], [], [], [], []⟩
noncomputable def X (K : Res → O) : Ctx := cx0 [] fi true K
noncomputable def b (a1 a2 : Int) (R : Int → O) : O :=
 bif decide (a2 < a1) then R a1
 else R a2
noncomputable def g := seal_ b
theorem e : g = b := seal_eq b
noncomputable def a : Fn [.i, .i] St := fun a1 a2 => argSt [oI a1, oI a2] [] []
noncomputable def con := conOf 122 [.i, .i] [.i] a g m
theorem ok : Con Pg con := con_fin (fn := Tryz.f122) (c := c) (Fi := fi) (X := X) laid (ctx_of .nil (by kernel_rfl)) (fun K => .nil) e (by kernel_rfl) (by kernel_rfl) (by kernel_rfl) (by kernel_rfl)
end spec_l1Max
namespace spec_One
noncomputable def c : Code := bodyOf Tryz.f95
noncomputable def fi : Fin := ⟨Γ0, [(.tmp 4, 3), (.tmp 5, 3)], [[1], [1]], [], [], []⟩
noncomputable def m : Fn [.i, .i] (Fn [.i, .i] Res) := fun _ _ r1 r2 => ⟨[⟨false, [cI r1]⟩, ⟨false, [cI r2]⟩], [], [], [], []⟩
noncomputable def X (K : Res → O) : Ctx := cx0 [spec_l1Sign1.con, spec_NumOk.con, spec_l1Bit.con, spec_l1Max.con, spec_l1In.con] fi true K
noncomputable def b (a1 a2 : Int) (R : Int → Int → O) : O :=
 spec_l1Sign1.g a1 fun r3 =>
 bif !r3 then R 0 1
 else (spec_NumOk.g a2 fun r4 =>
 bif !r4 then R 0 1
 else bif (a1 == 45) then R (IntKind.i64.wrap (0 - a2)) 0
 else bif (a1 == 42) then (spec_l1Bit.g (decide (0 < a2)) fun r5 =>
  spec_l1Bit.g (decide (a2 < 0)) fun r6 =>
  R (IntKind.i64.wrap (r5 - r6)) 0)
 else bif (a1 == 124) then (spec_l1Max.g a2 (IntKind.i64.wrap (0 - a2)) fun r7 =>
  R r7 0)
 else bif (a1 == 126) then (spec_l1In.g a2 0 1 fun r8 =>
  bif !r8 then R 0 2
  else R (IntKind.i64.wrap (1 - a2)) 0)
 else R a2 0)
noncomputable def g := seal_ b
theorem e : g = b := seal_eq b
noncomputable def a : Fn [.i, .i] St := fun a1 a2 => argSt [oI a1, oI a2] [] []
noncomputable def con := conOf 95 [.i, .i] [.i, .i] a g m
theorem ok : Con Pg con := con_fin (fn := Tryz.f95) (c := c) (Fi := fi) (X := X) laid (ctx_of (.cons spec_l1Sign1.ok (.cons spec_NumOk.ok (.cons spec_l1Bit.ok (.cons spec_l1Max.ok (.cons spec_l1In.ok .nil))))) (by kernel_rfl)) (fun K => .nil) e (by kernel_rfl) (by kernel_rfl) (by kernel_rfl) (by kernel_rfl)
end spec_One
namespace spec_l1Times
noncomputable def c : Code := bodyOf Tryz.f123
noncomputable def fi : Fin := ⟨Γ0, [(.tmp 4, 3), (.tmp 5, 4)], [[1], [1]], [], [], []⟩
noncomputable def m : Fn [.i, .i] (Fn [.i, .b] Res) := fun _ _ r1 r2 => ⟨[⟨false, [cI r1]⟩, ⟨false, [.bool r2]⟩], [], [], [], []⟩
noncomputable def X (K : Res → O) : Ctx := cx0 [spec_l1Max.con] fi true K
noncomputable def b (a1 a2 : Int) (R : Int → Bool → O) : O :=
 bif (a1 == 0) then R 0 true
 else bif (a2 == 0) then R 0 true
 else (spec_l1Max.g a1 (IntKind.i64.wrap (0 - a1)) fun r3 =>
 spec_l1Max.g a2 (IntKind.i64.wrap (0 - a2)) fun r4 =>
 bif decide (r4 = 0) then none
 else bif decide (IntKind.i64.wrap ((1000000000000 : Int).tdiv r4) < r3) then R 0 false
 else R (IntKind.i64.wrap (a1 * a2)) true)
noncomputable def g := seal_ b
theorem e : g = b := seal_eq b
noncomputable def a : Fn [.i, .i] St := fun a1 a2 => argSt [oI a1, oI a2] [] []
noncomputable def con := conOf 123 [.i, .i] [.i, .b] a g m
theorem ok : Con Pg con := con_fin (fn := Tryz.f123) (c := c) (Fi := fi) (X := X) laid (ctx_of (.cons spec_l1Max.ok .nil) (by kernel_rfl)) (fun K => .nil) e (by kernel_rfl) (by kernel_rfl) (by kernel_rfl) (by kernel_rfl)
end spec_l1Times
namespace spec_l1Floor
noncomputable def c : Code := bodyOf Tryz.f124
noncomputable def fi : Fin := ⟨Γ0, [(.tmp 4, 3)], [[1]], [], [], []⟩
noncomputable def m : Fn [.i, .i] (Fn [.i] Res) := fun _ _ r1 => ⟨[⟨false, [cI r1]⟩], [], [], [], []⟩
noncomputable def X (K : Res → O) : Ctx := cx0 [] fi true K
noncomputable def b (a1 a2 : Int) (R : Int → O) : O :=
 bif decide (a2 = 0) then none
 else bif decide (a2 = 0) then none
 else bif (a1.tmod a2 != 0) then (bif ((decide (a1 < 0)) != (decide (a2 < 0))) then R (IntKind.i64.wrap ((IntKind.i64.wrap (a1.tdiv a2)) - 1))
  else R (IntKind.i64.wrap (a1.tdiv a2)))
 else R (IntKind.i64.wrap (a1.tdiv a2))
noncomputable def g := seal_ b
theorem e : g = b := seal_eq b
noncomputable def a : Fn [.i, .i] St := fun a1 a2 => argSt [oI a1, oI a2] [] []
noncomputable def con := conOf 124 [.i, .i] [.i] a g m
theorem ok : Con Pg con := con_fin (fn := Tryz.f124) (c := c) (Fi := fi) (X := X) laid (ctx_of .nil (by kernel_rfl)) (fun K => .nil) e (by kernel_rfl) (by kernel_rfl) (by kernel_rfl) (by kernel_rfl)
end spec_l1Floor
namespace spec_Two
noncomputable def c : Code := bodyOf Tryz.f96
noncomputable def fi : Fin := ⟨Γ0, [(.tmp 6, 3), (.tmp 7, 3)], [[1], [1]], [], [], []⟩
noncomputable def m : Fn [.i, .i, .i] (Fn [.i, .i] Res) := fun _ _ _ r1 r2 => ⟨[⟨false, [cI r1]⟩, ⟨false, [cI r2]⟩], [], [], [], []⟩
noncomputable def X (K : Res → O) : Ctx := cx0 [spec_l1Sign2.con, spec_NumOk.con, spec_l1Times.con, spec_l1Floor.con, spec_l1Min.con, spec_l1Max.con, spec_l1Bit.con] fi true K
noncomputable def b (a1 a2 a3 : Int) (R : Int → Int → O) : O :=
 spec_l1Sign2.g a1 fun r4 =>
 bif !r4 then R 0 1
 else (spec_NumOk.g a2 fun r5 =>
 bif !r5 then R 0 1
 else (spec_NumOk.g a3 fun r6 =>
 bif !r6 then R 0 1
 else bif (a1 == 43) then (spec_NumOk.g (IntKind.i64.wrap (a2 + a3)) fun r7 =>
  bif !r7 then R 0 6
  else R (IntKind.i64.wrap (a2 + a3)) 0)
 else bif (a1 == 45) then (spec_NumOk.g (IntKind.i64.wrap (a2 - a3)) fun r8 =>
  bif !r8 then R 0 6
  else R (IntKind.i64.wrap (a2 - a3)) 0)
 else bif (a1 == 42) then (spec_l1Times.g a2 a3 fun r9 r10 =>
  bif !r10 then R 0 6
  else (spec_NumOk.g r9 fun r11 =>
  bif !r11 then R 0 6
  else R r9 0))
 else bif (a1 == 37) then (bif (a3 == 0) then R 0 2
  else (spec_l1Floor.g a2 a3 fun r12 =>
  spec_NumOk.g r12 fun r13 =>
  bif !r13 then R 0 6
  else R r12 0))
 else bif (a1 == 124) then (bif (a2 != 0) then (spec_l1Floor.g a3 a2 fun r14 =>
  spec_NumOk.g (IntKind.i64.wrap (a3 - (IntKind.i64.wrap (a2 * r14)))) fun r15 =>
  bif !r15 then R 0 6
  else R (IntKind.i64.wrap (a3 - (IntKind.i64.wrap (a2 * r14)))) 0)
  else (spec_NumOk.g a3 fun r16 =>
  bif !r16 then R 0 6
  else R a3 0))
 else bif (a1 == 38) then (spec_l1Min.g a2 a3 fun r17 =>
  spec_NumOk.g r17 fun r18 =>
  bif !r18 then R 0 6
  else R r17 0)
 else bif (a1 == 94) then (spec_l1Max.g a2 a3 fun r19 =>
  spec_NumOk.g r19 fun r20 =>
  bif !r20 then R 0 6
  else R r19 0)
 else bif (a1 == 61) then (spec_l1Bit.g (a2 == a3) fun r21 =>
  spec_NumOk.g r21 fun r22 =>
  bif !r22 then R 0 6
  else R r21 0)
 else bif (a1 == 60) then (spec_l1Bit.g (decide (a2 < a3)) fun r23 =>
  spec_NumOk.g r23 fun r24 =>
  bif !r24 then R 0 6
  else R r23 0)
 else bif (a1 == 62) then (spec_l1Bit.g (decide (a3 < a2)) fun r25 =>
  spec_NumOk.g r25 fun r26 =>
  bif !r26 then R 0 6
  else R r25 0)
 else (spec_NumOk.g 0 fun r27 =>
 bif !r27 then R 0 6
 else R 0 0)))
noncomputable def g := seal_ b
theorem e : g = b := seal_eq b
noncomputable def a : Fn [.i, .i, .i] St := fun a1 a2 a3 => argSt [oI a1, oI a2, oI a3] [] []
noncomputable def con := conOf 96 [.i, .i, .i] [.i, .i] a g m
theorem ok : Con Pg con := con_fin (fn := Tryz.f96) (c := c) (Fi := fi) (X := X) laid (ctx_of (.cons spec_l1Sign2.ok (.cons spec_NumOk.ok (.cons spec_l1Times.ok (.cons spec_l1Floor.ok (.cons spec_l1Min.ok (.cons spec_l1Max.ok (.cons spec_l1Bit.ok .nil))))))) (by kernel_rfl)) (fun K => .nil) e (by kernel_rfl) (by kernel_rfl) (by kernel_rfl) (by kernel_rfl)
end spec_Two
namespace spec_l4Of
noncomputable def c : Code := bodyOf Tryz.f97
noncomputable def fi : Fin := ⟨Γ0, [(.tmp 4, 3)], [[1]], [], [], []⟩
noncomputable def m : Fn [.z, .z, .i] (Fn [.i] Res) := fun _ _ _ r1 => ⟨[⟨false, [cI r1]⟩], [], [], [], []⟩
noncomputable def X (K : Res → O) : Ctx := cx0 [] fi true K
noncomputable def b (a1 a2 : List Int) (a3 : Int) (R : Int → O) : O :=
 bif ((a1.length : Int) == 0) then (bif decide (0 < (a2.length : Int)) then R (a2.getD 0 0)
  else none)
 else bif decide (0 ≤ a3) && decide (a3 < (a2.length : Int)) then R (a2.getD a3.toNat 0)
 else none
noncomputable def g := seal_ b
theorem e : g = b := seal_eq b
noncomputable def a : Fn [.z, .z, .i] St := fun a1 a2 a3 => argSt [.v ⟨true, [.tr 0 1 [.int .i64] (.ints a1), .tr 0 1 [.int .i64] (.ints a2)]⟩, oI a3] [] []
noncomputable def con := conOf 97 [.z, .z, .i] [.i] a g m
theorem ok : Con Pg con := con_fin (fn := Tryz.f97) (c := c) (Fi := fi) (X := X) laid (ctx_of .nil (by kernel_rfl)) (fun K => .nil) e (by kernel_rfl) (by kernel_rfl) (by kernel_rfl) (by kernel_rfl)
end spec_l4Of
end Go.Tv.F
