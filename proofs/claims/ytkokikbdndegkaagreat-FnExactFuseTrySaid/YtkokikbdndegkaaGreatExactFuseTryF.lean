/- The law's functions, printed by a program of ours, each with its contract. They hold without condition. -/
import Derived.Test.YtkokikbdndegkaaGreatProg
import Derived.Test.YtkokikbdndegkaaGreatTvC
set_option linter.unusedVariables false
set_option linter.unusedSectionVars false
set_option linter.unusedSimpArgs false
set_option linter.unnecessarySimpa false
set_option maxRecDepth 100000
set_option autoImplicit false
namespace Go.Tv.F
open Go Go.Tv
open Go.Proofs
noncomputable abbrev Pg := Go.Proofs.Tryz.prog
instance envI : Env := envT [3, 4, 15, 16, 20, 42]
noncomputable abbrev e_0 : List Ct := [.int .i64, .int .i64, .int .i64, .int .i64, .int .i64, .ints .i64]
noncomputable abbrev e_1 : List Ct := [.bool, .ints .i64, .ints .i64]
noncomputable abbrev e_2 : List Ct := [.int .i64, .int .i64]
noncomputable abbrev e_3 : List Ct := [.int .i64, .int .i64, .int .i64, .int .i64, .int .i64, .int .i64, .ints .i64]
noncomputable def Γ0 : List (Nat × TI) := [(2, ⟨false, [.int .i64], []⟩),
 (3, ⟨false, [.int .i64], []⟩),
 (4, ⟨false, [.bool], []⟩),
 (5, ⟨false, [.int .u8], []⟩),
 (6, ⟨false, [.int .u8], []⟩),
 (9, ⟨false, [.str], []⟩),
 (10, ⟨false, [.str], []⟩),
 (11, ⟨false, [.str], []⟩),
 (12, ⟨false, [.int .u64], []⟩),
 (21, ⟨false, [.int .i32], []⟩),
 (22, ⟨false, [.sl e_0 64], []⟩),
 (24, ⟨true, [.int .i64, .int .i64], [(0, 1, false), (1, 1, false)]⟩),
 (25, ⟨false, [.sl e_1 56], []⟩),
 (28, ⟨false, [.sl [.int .i64] 8], []⟩),
 (30, ⟨true, [.sl [.int .i64] 8, .sl [.int .i64] 8], [(0, 1, false), (1, 1, false)]⟩),
 (33, ⟨false, [.sl e_0 64], []⟩),
 (35, ⟨true, [.int .i64, .int .i64], [(0, 1, false), (1, 1, false)]⟩),
 (37, ⟨false, [.sl e_1 56], []⟩),
 (46, ⟨false, [.sl [.int .u8] 1], []⟩),
 (50, ⟨false, [.sl e_2 16], []⟩),
 (53, ⟨true, [.int .i64, .int .i64, .int .i64], [(0, 1, false), (1, 1, false), (2, 1, false)]⟩),
 (55, ⟨true, [.int .i64, .int .i64, .int .i64, .int .i64, .int .i64, .sl [.int .i64] 8], [(0, 1, false), (1, 1, false), (2, 3, true), (5, 1, false)]⟩),
 (58, ⟨true, [.int .i64, .int .i64, .int .i64], [(0, 1, false), (1, 1, false), (2, 1, false)]⟩),
 (60, ⟨true, [.int .i64, .int .i64, .int .i64, .int .i64, .int .i64, .sl [.int .i64] 8], [(0, 1, false), (1, 1, false), (2, 3, true), (5, 1, false)]⟩),
 (62, ⟨true, [.sl [.int .i64] 8, .sl [.int .i64] 8], [(0, 1, false), (1, 1, false)]⟩),
 (64, ⟨true, [.bool, .sl [.int .i64] 8, .sl [.int .i64] 8], [(0, 1, false), (1, 2, true)]⟩),
 (69, ⟨true, [.bool, .sl [.int .i64] 8, .sl [.int .i64] 8], [(0, 1, false), (1, 2, true)]⟩),
 (81, ⟨false, [.ptr], []⟩),
 (89, ⟨false, [.fn], []⟩),
 (98, ⟨false, [.fn], []⟩),
 (107, ⟨true, [.sl [.int .u8] 1, .int .i64, .int .i64], [(0, 1, false), (1, 1, false), (2, 1, false)]⟩),
 (112, ⟨false, [.sl e_3 72], []⟩),
 (114, ⟨true, [.sl e_3 72], [(0, 1, false)]⟩),
 (121, ⟨false, [.fn], []⟩),
 (131, ⟨true, [.int .i64, .int .i64, .int .i64, .int .i64, .int .i64, .int .i64, .sl [.int .i64] 8], [(0, 1, false), (1, 1, false), (2, 1, false), (3, 3, true), (6, 1, false)]⟩),
 (132, ⟨false, [.sl e_2 16], []⟩),
 (138, ⟨false, [.int .u64], []⟩),
 (146, ⟨true, [.int .i64, .int .i64], [(0, 1, false), (1, 1, false)]⟩),
 (150, ⟨false, [.sl [.str] 16], []⟩),
 (153, ⟨false, [.ptr], []⟩),
 (155, ⟨true, [.sl e_2 16, .int .i64, .sl e_3 72], [(0, 1, false), (1, 1, false), (2, 1, false)]⟩),
 (171, ⟨false, [.int .u32], []⟩),
 (172, ⟨false, [.int .u8], []⟩),
 (173, ⟨false, [.int .u8], []⟩),
 (176, ⟨false, [.int .i32], []⟩),
 (177, ⟨false, [.int .i32], []⟩)]
noncomputable def byt0 : List TypeId := [46]
noncomputable def eqs0 : List TypeId := [24, 35, 53, 58, 146]
theorem laid : Laid Pg Γ0 byt0 eqs0 := ⟨by kernel_rfl, by kernel_rfl, by kernel_rfl, by kernel_rfl⟩
noncomputable def cx0 (os : List (FuncId × St × (List Lf → (Res → O) → O))) (fi : Fin) (nk : Bool) (K : Res → O) : Ctx := { Γ := Γ0, orc := orcOf os, lp := lpOf [], kl := Env.kl, nk := nk, eqs := eqs0, byt := byt0, fin := finK fi K }
namespace laws_szIntS
noncomputable def c : Code := bodyOf Tryz.f50
noncomputable def fi : Fin := ⟨Γ0, [(.tmp 4, 3)], [[1]], [], [], []⟩
noncomputable def m : Fn [.z, .i] (Fn [.i] Res) := fun _ _ r1 => ⟨[⟨false, [cI r1]⟩], [], [], [], []⟩
noncomputable def X (K : Res → O) : Ctx := cx0 [] fi true K
noncomputable def b (a1 : List Int) (a2 : Int) (R : Int → O) : O :=
 bif decide (IntKind.i64.wrap (a2 - (a1.length : Int)) < 0) then R (-1)
 else R (IntKind.i64.wrap (a2 - (a1.length : Int)))
noncomputable def g := seal_ b
theorem e : g = b := seal_eq b
noncomputable def a : Fn [.z, .i] St := fun a1 a2 => argSt [one (.tr 0 1 [.int .i64] (.ints a1)), oI a2] [] []
noncomputable def con := conOf 50 [.z, .i] [.i] a g m
theorem ok : Con Pg con := con_fin (fn := Tryz.f50) (c := c) (Fi := fi) (X := X) laid (ctx_of .nil (by kernel_rfl)) (fun K => .nil) e (by kernel_rfl) (by kernel_rfl) (by kernel_rfl) (by kernel_rfl)
end laws_szIntS
namespace laws_szInstr
noncomputable def c : Code := bodyOf Tryz.f24
noncomputable def fi : Fin := ⟨Γ0, [(.tmp 4, 3)], [[1]], [], [], []⟩
noncomputable def m : Fn [.i, .i, .i, .i, .i, .z, .i] (Fn [.i] Res) := fun _ _ _ _ _ _ _ r1 => ⟨[⟨false, [cI r1]⟩], [], [], [], []⟩
noncomputable def X (K : Res → O) : Ctx := cx0 [laws_szIntS.con] fi true K
noncomputable def b (a1 a2 a3 a4 a5 : Int) (a6 : List Int) (a7 : Int) (R : Int → O) : O :=
 laws_szIntS.g a6 a7 fun r8 =>
 bif decide (r8 < 0) then R (-1)
 else R r8
noncomputable def g := seal_ b
theorem e : g = b := seal_eq b
noncomputable def a : Fn [.i, .i, .i, .i, .i, .z, .i] St := fun a1 a2 a3 a4 a5 a6 a7 => argSt [.v ⟨true, [cI a1, cI a2, cI a3, cI a4, cI a5, .tr 0 1 [.int .i64] (.ints a6)]⟩, oI a7] [] []
noncomputable def con := conOf 24 [.i, .i, .i, .i, .i, .z, .i] [.i] a g m
theorem ok : Con Pg con := con_fin (fn := Tryz.f24) (c := c) (Fi := fi) (X := X) laid (ctx_of (.cons laws_szIntS.ok .nil) (by kernel_rfl)) (fun K => .nil) e (by kernel_rfl) (by kernel_rfl) (by kernel_rfl) (by kernel_rfl)
end laws_szInstr
namespace laws_szInstrS
noncomputable def c : Code := bodyOf Tryz.f5
noncomputable def fi : Fin := ⟨Γ0, [(.tmp 4, 3)], [[1]], [], [], []⟩
noncomputable def m : Fn [.l, .i] (Fn [.i] Res) := fun _ _ r1 => ⟨[⟨false, [cI r1]⟩], [], [], [], []⟩
noncomputable def b0 : Code := codeAt c [1, 1, 1, 0, 1, 0, 0]
noncomputable def l0s (x3 : List (List Cl)) (rec : Int → Int → O) (k : Int → O) (R : Int → O) (x4 x5 : Int) : O :=
 bif decide (x5 < (x3.length : Int)) then (bif decide (0 ≤ x5) && decide (x5 < (x3.length : Int)) then (laws_szInstr.g (((x3.getD x5.toNat []).getD 0 (.i 0)).toI) (((x3.getD x5.toNat []).getD 1 (.i 0)).toI) (((x3.getD x5.toNat []).getD 2 (.i 0)).toI) (((x3.getD x5.toNat []).getD 3 (.i 0)).toI) (((x3.getD x5.toNat []).getD 4 (.i 0)).toI) (((x3.getD x5.toNat []).getD 5 (.i 0)).toL) x4 fun r6 =>
  bif decide (r6 < 0) then R (-1)
  else rec r6 (IntKind.i64.wrap (x5 + 1)))
  else none)
 else k x4
noncomputable def l0 (x3 : List (List Cl)) (k : Int → O) (R : Int → O) : Nat → Int → Int → O
 | 0, _, _ => none
 | n + 1, x4, x5 => l0s x3 (l0 x3 k R n) k R x4 x5
noncomputable def o0 : Fn [.l, .i] St := fun _ y1 => ⟨mkT 27 [(1, oI y1)], [], []⟩
noncomputable def n0 (K : Res → O) := ent 0 [.l] [.i, .i] [0, 1, 2] (fun x3 x4 x5 => ⟨mkT 27 [(0, one (.tr 0 1 e_0 (.cells x3))), (1, oI x4), (5, oI x5)], [], []⟩) fun x3 k => l0 x3 (fun y1 => k (o0 x3 y1)) (fun r1 => K (m [] (0 : Int) r1))
noncomputable def X (K : Res → O) : Ctx := { cx0 [laws_szInstr.con] fi true K with cin := [(0, ⟨[0, 1, 5], [], [], [], [], []⟩)], cout := [(0, ⟨[1], [], [], [], [], []⟩)], lp := lpOf [n0 K] }
noncomputable def b (a1 : List (List Cl)) (a2 : Int) (R : Int → O) : O :=
 bif decide (IntKind.i64.wrap (a2 - (a1.length : Int)) < 0) then R (-1)
 else (l0 a1 (fun y7 =>
 R y7) R fuel (IntKind.i64.wrap (a2 - (a1.length : Int))) 0)
noncomputable def g := seal_ b
theorem e : g = b := seal_eq b
noncomputable def a : Fn [.l, .i] St := fun a1 a2 => argSt [one (.tr 0 1 e_0 (.cells a1)), oI a2] [] []
noncomputable def con := conOf 5 [.l, .i] [.i] a g m
theorem hx (K : Res → O) : CtxOk Pg Γ0 byt0 eqs0 (X K) [laws_szInstr.con] := ctx_of (X := X) (.cons laws_szInstr.ok .nil) (by kernel_rfl) K
theorem w0 (K : Res → O) : LpSound Pg (X K) 0 b0 := lp_fin (L := [n0 K]) laid (hx K) .nil (.cons (ent_ok (fun x3 k r => l0s x3 r (fun y1 => k (o0 x3 y1)) (fun r1 => K (m [] (0 : Int) r1))) (by kernel_rfl) (by kernel_rfl) (by kernel_rfl) (by kernel_rfl) (by kernel_rfl)) .nil) (by kernel_rfl) (by kernel_rfl)
theorem ok : Con Pg con := con_fin (fn := Tryz.f5) (c := c) (Fi := fi) (X := X) laid hx (fun K => (.cons (w0 K) .nil)) e (by kernel_rfl) (by kernel_rfl) (by kernel_rfl) (by kernel_rfl)
end laws_szInstrS
namespace laws_szArray
noncomputable def c : Code := bodyOf Tryz.f51
noncomputable def fi : Fin := ⟨Γ0, [(.tmp 4, 3)], [[1]], [], [], []⟩
noncomputable def m : Fn [.z, .z, .i] (Fn [.i] Res) := fun _ _ _ r1 => ⟨[⟨false, [cI r1]⟩], [], [], [], []⟩
noncomputable def X (K : Res → O) : Ctx := cx0 [laws_szIntS.con] fi true K
noncomputable def b (a1 a2 : List Int) (a3 : Int) (R : Int → O) : O :=
 laws_szIntS.g a1 a3 fun r4 =>
 bif decide (r4 < 0) then R (-1)
 else (laws_szIntS.g a2 r4 fun r5 =>
 bif decide (r5 < 0) then R (-1)
 else R r5)
noncomputable def g := seal_ b
theorem e : g = b := seal_eq b
noncomputable def a : Fn [.z, .z, .i] St := fun a1 a2 a3 => argSt [.v ⟨true, [.tr 0 1 [.int .i64] (.ints a1), .tr 0 1 [.int .i64] (.ints a2)]⟩, oI a3] [] []
noncomputable def con := conOf 51 [.z, .z, .i] [.i] a g m
theorem ok : Con Pg con := con_fin (fn := Tryz.f51) (c := c) (Fi := fi) (X := X) laid (ctx_of (.cons laws_szIntS.ok .nil) (by kernel_rfl)) (fun K => .nil) e (by kernel_rfl) (by kernel_rfl) (by kernel_rfl) (by kernel_rfl)
end laws_szArray
namespace laws_szVar
noncomputable def c : Code := bodyOf Tryz.f25
noncomputable def fi : Fin := ⟨Γ0, [(.tmp 4, 3)], [[1]], [], [], []⟩
noncomputable def m : Fn [.b, .z, .z, .i] (Fn [.i] Res) := fun _ _ _ _ r1 => ⟨[⟨false, [cI r1]⟩], [], [], [], []⟩
noncomputable def X (K : Res → O) : Ctx := cx0 [laws_szArray.con] fi true K
noncomputable def b (a1 : Bool) (a2 a3 : List Int) (a4 : Int) (R : Int → O) : O :=
 laws_szArray.g a2 a3 a4 fun r5 =>
 bif decide (r5 < 0) then R (-1)
 else R r5
noncomputable def g := seal_ b
theorem e : g = b := seal_eq b
noncomputable def a : Fn [.b, .z, .z, .i] St := fun a1 a2 a3 a4 => argSt [.v ⟨true, [.bool a1, .tr 0 1 [.int .i64] (.ints a2), .tr 0 1 [.int .i64] (.ints a3)]⟩, oI a4] [] []
noncomputable def con := conOf 25 [.b, .z, .z, .i] [.i] a g m
theorem ok : Con Pg con := con_fin (fn := Tryz.f25) (c := c) (Fi := fi) (X := X) laid (ctx_of (.cons laws_szArray.ok .nil) (by kernel_rfl)) (fun K => .nil) e (by kernel_rfl) (by kernel_rfl) (by kernel_rfl) (by kernel_rfl)
end laws_szVar
namespace laws_szVarS
noncomputable def c : Code := bodyOf Tryz.f6
noncomputable def fi : Fin := ⟨Γ0, [(.tmp 4, 3)], [[1]], [], [], []⟩
noncomputable def m : Fn [.l, .i] (Fn [.i] Res) := fun _ _ r1 => ⟨[⟨false, [cI r1]⟩], [], [], [], []⟩
noncomputable def b0 : Code := codeAt c [1, 1, 1, 0, 1, 0, 0]
noncomputable def l0s (x3 : List (List Cl)) (rec : Int → Int → O) (k : Int → O) (R : Int → O) (x4 x5 : Int) : O :=
 bif decide (x5 < (x3.length : Int)) then (bif decide (0 ≤ x5) && decide (x5 < (x3.length : Int)) then (laws_szVar.g (((x3.getD x5.toNat []).getD 0 (.i 0)).toB) (((x3.getD x5.toNat []).getD 1 (.i 0)).toL) (((x3.getD x5.toNat []).getD 2 (.i 0)).toL) x4 fun r6 =>
  bif decide (r6 < 0) then R (-1)
  else rec r6 (IntKind.i64.wrap (x5 + 1)))
  else none)
 else k x4
noncomputable def l0 (x3 : List (List Cl)) (k : Int → O) (R : Int → O) : Nat → Int → Int → O
 | 0, _, _ => none
 | n + 1, x4, x5 => l0s x3 (l0 x3 k R n) k R x4 x5
noncomputable def o0 : Fn [.l, .i] St := fun _ y1 => ⟨mkT 27 [(1, oI y1)], [], []⟩
noncomputable def n0 (K : Res → O) := ent 0 [.l] [.i, .i] [0, 1, 2] (fun x3 x4 x5 => ⟨mkT 27 [(0, one (.tr 0 1 e_1 (.cells x3))), (1, oI x4), (5, oI x5)], [], []⟩) fun x3 k => l0 x3 (fun y1 => k (o0 x3 y1)) (fun r1 => K (m [] (0 : Int) r1))
noncomputable def X (K : Res → O) : Ctx := { cx0 [laws_szVar.con] fi true K with cin := [(0, ⟨[0, 1, 5], [], [], [], [], []⟩)], cout := [(0, ⟨[1], [], [], [], [], []⟩)], lp := lpOf [n0 K] }
noncomputable def b (a1 : List (List Cl)) (a2 : Int) (R : Int → O) : O :=
 bif decide (IntKind.i64.wrap (a2 - (a1.length : Int)) < 0) then R (-1)
 else (l0 a1 (fun y7 =>
 R y7) R fuel (IntKind.i64.wrap (a2 - (a1.length : Int))) 0)
noncomputable def g := seal_ b
theorem e : g = b := seal_eq b
noncomputable def a : Fn [.l, .i] St := fun a1 a2 => argSt [one (.tr 0 1 e_1 (.cells a1)), oI a2] [] []
noncomputable def con := conOf 6 [.l, .i] [.i] a g m
theorem hx (K : Res → O) : CtxOk Pg Γ0 byt0 eqs0 (X K) [laws_szVar.con] := ctx_of (X := X) (.cons laws_szVar.ok .nil) (by kernel_rfl) K
theorem w0 (K : Res → O) : LpSound Pg (X K) 0 b0 := lp_fin (L := [n0 K]) laid (hx K) .nil (.cons (ent_ok (fun x3 k r => l0s x3 r (fun y1 => k (o0 x3 y1)) (fun r1 => K (m [] (0 : Int) r1))) (by kernel_rfl) (by kernel_rfl) (by kernel_rfl) (by kernel_rfl) (by kernel_rfl)) .nil) (by kernel_rfl) (by kernel_rfl)
theorem ok : Con Pg con := con_fin (fn := Tryz.f6) (c := c) (Fi := fi) (X := X) laid hx (fun K => (.cons (w0 K) .nil)) e (by kernel_rfl) (by kernel_rfl) (by kernel_rfl) (by kernel_rfl)
end laws_szVarS
namespace laws_toFun
noncomputable def c : Code := bodyOf Tryz.f59
noncomputable def fi : Fin := ⟨Γ0, [(.cell 2 53, 53)], [[1, 1, 1]], [], [], []⟩
noncomputable def m : Fn [.i, .i, .i] (Fn [] Res) := fun a1 a2 a3 => ⟨[⟨true, [cI a1, cI a2, cI a3]⟩], [], [], [], []⟩
noncomputable def X (K : Res → O) : Ctx := cx0 [] fi true K
noncomputable def b (a1 a2 a3 : Int) (R : O) : O :=
 R
noncomputable def g := seal_ b
theorem e : g = b := seal_eq b
noncomputable def a : Fn [.i, .i, .i] St := fun a1 a2 a3 => argSt [.v ⟨true, [cI a1, cI a2, cI a3]⟩] [] []
noncomputable def con := conOf 59 [.i, .i, .i] [] a g m
theorem ok : Con Pg con := con_fin (fn := Tryz.f59) (c := c) (Fi := fi) (X := X) laid (ctx_of .nil (by kernel_rfl)) (fun K => .nil) e (by kernel_rfl) (by kernel_rfl) (by kernel_rfl) (by kernel_rfl)
end laws_toFun
namespace laws_toIntS
noncomputable def c : Code := bodyOf Tryz.f60
noncomputable def fi : Fin := ⟨Γ0, [(.tmp 2, 28)], [[1]], [], [], []⟩
noncomputable def m : Fn [.z] (Fn [.z] Res) := fun _ r1 => ⟨[⟨false, [.ow 1000]⟩], [], [⟨[.int .i64], .ints r1, true, 0, none⟩], [], []⟩
noncomputable def b0 : Code := codeAt c [1, 1, 0, 1, 0, 0]
noncomputable def l0s (x2 : List Int) (rec : Int → List Int → O) (k : List Int → O) (x3 : Int) (x4 : List Int) : O :=
 bif decide (x3 < (x2.length : Int)) then (bif decide (0 ≤ x3) && decide (x3 < (x2.length : Int)) then (bif decide (0 ≤ x3) && decide (x3 < (x4.length : Int)) then rec (IntKind.i64.wrap (x3 + 1)) (x4.set x3.toNat (x2.getD x3.toNat 0))
  else none)
  else none)
 else k x4
noncomputable def l0 (x2 : List Int) (k : List Int → O) : Nat → Int → List Int → O
 | 0, _, _ => none
 | n + 1, x3, x4 => l0s x2 (l0 x2 k n) k x3 x4
noncomputable def o0 : Fn [.z, .z] St := fun _ y1 => ⟨mkT 22 [(3, one (.ow 3080))], [(3080, ⟨[.int .i64], .ints y1, true, 0, none⟩)], []⟩
noncomputable def n0 (K : Res → O) := ent 0 [.z] [.i, .z] [0, 1, 2] (fun x2 x3 x4 => ⟨mkT 22 [(0, one (.tr 0 1 [.int .i64] (.ints x2))), (3, one (.ow 3080)), (4, oI x3)], [(3080, ⟨[.int .i64], .ints x4, true, 0, none⟩)], []⟩) fun x2 k => l0 x2 (fun y1 => k (o0 x2 y1))
noncomputable def X (K : Res → O) : Ctx := { cx0 [] fi true K with cin := [(0, ⟨[0, 3, 4], [(3080, 3080)], [], [], [], []⟩)], cout := [(0, ⟨[3], [(3080, 3080)], [], [], [], []⟩)], lp := lpOf [n0 K] }
noncomputable def b (a1 : List Int) (R : List Int → O) : O :=
 bif decide ((a1.length : Int) = (a1.length : Int)) && decide (0 ≤ (a1.length : Int)) && decide ((a1.length : Int) * 8 ≤ 140737488355328) then (l0 a1 (fun y5 =>
  R y5) fuel 0 (List.replicate ((a1.length : Int).toNat) 0))
 else none
noncomputable def g := seal_ b
theorem e : g = b := seal_eq b
noncomputable def a : Fn [.z] St := fun a1 => argSt [one (.tr 0 1 [.int .i64] (.ints a1))] [] []
noncomputable def con := conOf 60 [.z] [.z] a g m
theorem hx (K : Res → O) : CtxOk Pg Γ0 byt0 eqs0 (X K) [] := ctx_of (X := X) .nil (by kernel_rfl) K
theorem w0 (K : Res → O) : LpSound Pg (X K) 0 b0 := lp_fin (L := [n0 K]) laid (hx K) .nil (.cons (ent_ok (fun x2 k r => l0s x2 r (fun y1 => k (o0 x2 y1))) (by kernel_rfl) (by kernel_rfl) (by kernel_rfl) (by kernel_rfl) (by kernel_rfl)) .nil) (by kernel_rfl) (by kernel_rfl)
theorem ok : Con Pg con := con_fin (fn := Tryz.f60) (c := c) (Fi := fi) (X := X) laid hx (fun K => (.cons (w0 K) .nil)) e (by kernel_rfl) (by kernel_rfl) (by kernel_rfl) (by kernel_rfl)
end laws_toIntS
namespace laws_toInstr
noncomputable def c : Code := bodyOf Tryz.f29
noncomputable def fi : Fin := ⟨Γ0, [(.cell 2 55, 55)], [[1, 1, 1, 1, 1, 1]], [], [], []⟩
noncomputable def m : Fn [.i, .i, .i, .i, .i, .z] (Fn [.z] Res) := fun a1 a2 a3 a4 a5 _ r6 => ⟨[⟨true, [cI a1, cI a2, cI a3, cI a4, cI a5, .ow 1000]⟩], [], [⟨[.int .i64], .ints r6, true, 0, none⟩], [], []⟩
noncomputable def X (K : Res → O) : Ctx := cx0 [laws_toFun.con, laws_toIntS.con] fi true K
noncomputable def b (a1 a2 a3 a4 a5 : Int) (a6 : List Int) (R : List Int → O) : O :=
 laws_toFun.g a3 a4 a5 (
 laws_toIntS.g a6 fun r7 =>
 R r7)
noncomputable def g := seal_ b
theorem e : g = b := seal_eq b
noncomputable def a : Fn [.i, .i, .i, .i, .i, .z] St := fun a1 a2 a3 a4 a5 a6 => argSt [.v ⟨true, [cI a1, cI a2, cI a3, cI a4, cI a5, .tr 0 1 [.int .i64] (.ints a6)]⟩] [] []
noncomputable def con := conOf 29 [.i, .i, .i, .i, .i, .z] [.z] a g m
theorem ok : Con Pg con := con_fin (fn := Tryz.f29) (c := c) (Fi := fi) (X := X) laid (ctx_of (.cons laws_toFun.ok (.cons laws_toIntS.ok .nil)) (by kernel_rfl)) (fun K => .nil) e (by kernel_rfl) (by kernel_rfl) (by kernel_rfl) (by kernel_rfl)
end laws_toInstr
namespace laws_toInstrS
noncomputable def c : Code := bodyOf Tryz.f8
noncomputable def fi : Fin := ⟨Γ0, [(.tmp 2, 33)], [[1]], [], [], []⟩
noncomputable def m : Fn [.l] (Fn [.l] Res) := fun _ r1 => ⟨[⟨false, [.ow 1000]⟩], [], [⟨e_0, .cells r1, true, 0, none⟩], [], []⟩
noncomputable def b0 : Code := codeAt c [1, 1, 0, 1, 0, 0]
noncomputable def l0s (x2 : List (List Cl)) (rec : Int → List (List Cl) → O) (k : List (List Cl) → O) (x3 : Int) (x4 : List (List Cl)) : O :=
 bif decide (x3 < (x2.length : Int)) then (bif decide (0 ≤ x3) && decide (x3 < (x2.length : Int)) then (laws_toInstr.g (((x2.getD x3.toNat []).getD 0 (.i 0)).toI) (((x2.getD x3.toNat []).getD 1 (.i 0)).toI) (((x2.getD x3.toNat []).getD 2 (.i 0)).toI) (((x2.getD x3.toNat []).getD 3 (.i 0)).toI) (((x2.getD x3.toNat []).getD 4 (.i 0)).toI) (((x2.getD x3.toNat []).getD 5 (.i 0)).toL) fun r5 =>
  bif decide (0 ≤ x3) && decide (x3 < (x4.length : Int)) then rec (IntKind.i64.wrap (x3 + 1)) (x4.set x3.toNat [.i (((x2.getD x3.toNat []).getD 0 (.i 0)).toI), .i (((x2.getD x3.toNat []).getD 1 (.i 0)).toI), .i (((x2.getD x3.toNat []).getD 2 (.i 0)).toI), .i (((x2.getD x3.toNat []).getD 3 (.i 0)).toI), .i (((x2.getD x3.toNat []).getD 4 (.i 0)).toI), .l r5])
  else none)
  else none)
 else k x4
noncomputable def l0 (x2 : List (List Cl)) (k : List (List Cl) → O) : Nat → Int → List (List Cl) → O
 | 0, _, _ => none
 | n + 1, x3, x4 => l0s x2 (l0 x2 k n) k x3 x4
noncomputable def o0 : Fn [.l, .l] St := fun _ y1 => ⟨mkT 23 [(3, one (.ow 3080))], [(3080, ⟨e_0, .cells y1, true, 0, none⟩)], []⟩
noncomputable def n0 (K : Res → O) := ent 0 [.l] [.i, .l] [0, 1, 2] (fun x2 x3 x4 => ⟨mkT 23 [(0, one (.tr 0 1 e_0 (.cells x2))), (3, one (.ow 3080)), (4, oI x3)], [(3080, ⟨e_0, .cells x4, true, 0, none⟩)], []⟩) fun x2 k => l0 x2 (fun y1 => k (o0 x2 y1))
noncomputable def X (K : Res → O) : Ctx := { cx0 [laws_toInstr.con] fi true K with cin := [(0, ⟨[0, 3, 4], [(3080, 3080)], [], [], [], []⟩)], cout := [(0, ⟨[3], [(3080, 3080)], [], [], [], []⟩)], lp := lpOf [n0 K] }
noncomputable def b (a1 : List (List Cl)) (R : List (List Cl) → O) : O :=
 bif decide ((a1.length : Int) = (a1.length : Int)) && decide (0 ≤ (a1.length : Int)) && decide ((a1.length : Int) * 64 ≤ 140737488355328) then (l0 a1 (fun y6 =>
  R y6) fuel 0 (List.replicate ((a1.length : Int).toNat) [.i 0, .i 0, .i 0, .i 0, .i 0, .l []]))
 else none
noncomputable def g := seal_ b
theorem e : g = b := seal_eq b
noncomputable def a : Fn [.l] St := fun a1 => argSt [one (.tr 0 1 e_0 (.cells a1))] [] []
noncomputable def con := conOf 8 [.l] [.l] a g m
theorem hx (K : Res → O) : CtxOk Pg Γ0 byt0 eqs0 (X K) [laws_toInstr.con] := ctx_of (X := X) (.cons laws_toInstr.ok .nil) (by kernel_rfl) K
theorem w0 (K : Res → O) : LpSound Pg (X K) 0 b0 := lp_fin (L := [n0 K]) laid (hx K) .nil (.cons (ent_ok (fun x2 k r => l0s x2 r (fun y1 => k (o0 x2 y1))) (by kernel_rfl) (by kernel_rfl) (by kernel_rfl) (by kernel_rfl) (by kernel_rfl)) .nil) (by kernel_rfl) (by kernel_rfl)
theorem ok : Con Pg con := con_fin (fn := Tryz.f8) (c := c) (Fi := fi) (X := X) laid hx (fun K => (.cons (w0 K) .nil)) e (by kernel_rfl) (by kernel_rfl) (by kernel_rfl) (by kernel_rfl)
end laws_toInstrS
namespace laws_toSpan
noncomputable def c : Code := bodyOf Tryz.f9
noncomputable def fi : Fin := ⟨Γ0, [(.cell 2 35, 35)], [[1, 1]], [], [], []⟩
noncomputable def m : Fn [.i, .i] (Fn [] Res) := fun a1 a2 => ⟨[⟨true, [cI a1, cI a2]⟩], [], [], [], []⟩
noncomputable def X (K : Res → O) : Ctx := cx0 [] fi true K
noncomputable def b (a1 a2 : Int) (R : O) : O :=
 R
noncomputable def g := seal_ b
theorem e : g = b := seal_eq b
noncomputable def a : Fn [.i, .i] St := fun a1 a2 => argSt [.v ⟨true, [cI a1, cI a2]⟩] [] []
noncomputable def con := conOf 9 [.i, .i] [] a g m
theorem ok : Con Pg con := con_fin (fn := Tryz.f9) (c := c) (Fi := fi) (X := X) laid (ctx_of .nil (by kernel_rfl)) (fun K => .nil) e (by kernel_rfl) (by kernel_rfl) (by kernel_rfl) (by kernel_rfl)
end laws_toSpan
namespace laws_toArray
noncomputable def c : Code := bodyOf Tryz.f61
noncomputable def fi : Fin := ⟨Γ0, [(.cell 2 30, 30)], [[1, 1]], [], [], []⟩
noncomputable def m : Fn [.z, .z] (Fn [.z, .z] Res) := fun _ _ r1 r2 => ⟨[⟨true, [.ow 1000, .ow 1001]⟩], [], [⟨[.int .i64], .ints r1, true, 0, none⟩, ⟨[.int .i64], .ints r2, true, 0, none⟩], [], []⟩
noncomputable def X (K : Res → O) : Ctx := cx0 [laws_toIntS.con] fi true K
noncomputable def b (a1 a2 : List Int) (R : List Int → List Int → O) : O :=
 laws_toIntS.g a1 fun r3 =>
 laws_toIntS.g a2 fun r4 =>
 R r3 r4
noncomputable def g := seal_ b
theorem e : g = b := seal_eq b
noncomputable def a : Fn [.z, .z] St := fun a1 a2 => argSt [.v ⟨true, [.tr 0 1 [.int .i64] (.ints a1), .tr 0 1 [.int .i64] (.ints a2)]⟩] [] []
noncomputable def con := conOf 61 [.z, .z] [.z, .z] a g m
theorem ok : Con Pg con := con_fin (fn := Tryz.f61) (c := c) (Fi := fi) (X := X) laid (ctx_of (.cons laws_toIntS.ok .nil) (by kernel_rfl)) (fun K => .nil) e (by kernel_rfl) (by kernel_rfl) (by kernel_rfl) (by kernel_rfl)
end laws_toArray
namespace laws_toVar
noncomputable def c : Code := bodyOf Tryz.f30
noncomputable def fi : Fin := ⟨Γ0, [(.cell 2 69, 69)], [[1, 1, 1]], [], [], []⟩
noncomputable def m : Fn [.b, .z, .z] (Fn [.z, .z] Res) := fun a1 _ _ r2 r3 => ⟨[⟨true, [.bool a1, .ow 1000, .ow 1001]⟩], [], [⟨[.int .i64], .ints r2, true, 0, none⟩, ⟨[.int .i64], .ints r3, true, 0, none⟩], [], []⟩
noncomputable def X (K : Res → O) : Ctx := cx0 [laws_toArray.con] fi true K
noncomputable def b (a1 : Bool) (a2 a3 : List Int) (R : List Int → List Int → O) : O :=
 laws_toArray.g a2 a3 fun r4 r5 =>
 R r4 r5
noncomputable def g := seal_ b
theorem e : g = b := seal_eq b
noncomputable def a : Fn [.b, .z, .z] St := fun a1 a2 a3 => argSt [.v ⟨true, [.bool a1, .tr 0 1 [.int .i64] (.ints a2), .tr 0 1 [.int .i64] (.ints a3)]⟩] [] []
noncomputable def con := conOf 30 [.b, .z, .z] [.z, .z] a g m
theorem ok : Con Pg con := con_fin (fn := Tryz.f30) (c := c) (Fi := fi) (X := X) laid (ctx_of (.cons laws_toArray.ok .nil) (by kernel_rfl)) (fun K => .nil) e (by kernel_rfl) (by kernel_rfl) (by kernel_rfl) (by kernel_rfl)
end laws_toVar
namespace laws_toVarS
noncomputable def c : Code := bodyOf Tryz.f10
noncomputable def fi : Fin := ⟨Γ0, [(.tmp 2, 37)], [[1]], [], [], []⟩
noncomputable def m : Fn [.l] (Fn [.l] Res) := fun _ r1 => ⟨[⟨false, [.ow 1000]⟩], [], [⟨e_1, .cells r1, true, 0, none⟩], [], []⟩
noncomputable def b0 : Code := codeAt c [1, 1, 0, 1, 0, 0]
noncomputable def l0s (x2 : List (List Cl)) (rec : Int → List (List Cl) → O) (k : List (List Cl) → O) (x3 : Int) (x4 : List (List Cl)) : O :=
 bif decide (x3 < (x2.length : Int)) then (bif decide (0 ≤ x3) && decide (x3 < (x2.length : Int)) then (laws_toVar.g (((x2.getD x3.toNat []).getD 0 (.i 0)).toB) (((x2.getD x3.toNat []).getD 1 (.i 0)).toL) (((x2.getD x3.toNat []).getD 2 (.i 0)).toL) fun r5 r6 =>
  bif decide (0 ≤ x3) && decide (x3 < (x4.length : Int)) then rec (IntKind.i64.wrap (x3 + 1)) (x4.set x3.toNat [.b (((x2.getD x3.toNat []).getD 0 (.i 0)).toB), .l r5, .l r6])
  else none)
  else none)
 else k x4
noncomputable def l0 (x2 : List (List Cl)) (k : List (List Cl) → O) : Nat → Int → List (List Cl) → O
 | 0, _, _ => none
 | n + 1, x3, x4 => l0s x2 (l0 x2 k n) k x3 x4
noncomputable def o0 : Fn [.l, .l] St := fun _ y1 => ⟨mkT 23 [(3, one (.ow 3080))], [(3080, ⟨e_1, .cells y1, true, 0, none⟩)], []⟩
noncomputable def n0 (K : Res → O) := ent 0 [.l] [.i, .l] [0, 1, 2] (fun x2 x3 x4 => ⟨mkT 23 [(0, one (.tr 0 1 e_1 (.cells x2))), (3, one (.ow 3080)), (4, oI x3)], [(3080, ⟨e_1, .cells x4, true, 0, none⟩)], []⟩) fun x2 k => l0 x2 (fun y1 => k (o0 x2 y1))
noncomputable def X (K : Res → O) : Ctx := { cx0 [laws_toVar.con] fi true K with cin := [(0, ⟨[0, 3, 4], [(3080, 3080)], [], [], [], []⟩)], cout := [(0, ⟨[3], [(3080, 3080)], [], [], [], []⟩)], lp := lpOf [n0 K] }
noncomputable def b (a1 : List (List Cl)) (R : List (List Cl) → O) : O :=
 bif decide ((a1.length : Int) = (a1.length : Int)) && decide (0 ≤ (a1.length : Int)) && decide ((a1.length : Int) * 56 ≤ 140737488355328) then (l0 a1 (fun y7 =>
  R y7) fuel 0 (List.replicate ((a1.length : Int).toNat) [.b false, .l [], .l []]))
 else none
noncomputable def g := seal_ b
theorem e : g = b := seal_eq b
noncomputable def a : Fn [.l] St := fun a1 => argSt [one (.tr 0 1 e_1 (.cells a1))] [] []
noncomputable def con := conOf 10 [.l] [.l] a g m
theorem hx (K : Res → O) : CtxOk Pg Γ0 byt0 eqs0 (X K) [laws_toVar.con] := ctx_of (X := X) (.cons laws_toVar.ok .nil) (by kernel_rfl) K
theorem w0 (K : Res → O) : LpSound Pg (X K) 0 b0 := lp_fin (L := [n0 K]) laid (hx K) .nil (.cons (ent_ok (fun x2 k r => l0s x2 r (fun y1 => k (o0 x2 y1))) (by kernel_rfl) (by kernel_rfl) (by kernel_rfl) (by kernel_rfl) (by kernel_rfl)) .nil) (by kernel_rfl) (by kernel_rfl)
theorem ok : Con Pg con := con_fin (fn := Tryz.f10) (c := c) (Fi := fi) (X := X) laid hx (fun K => (.cons (w0 K) .nil)) e (by kernel_rfl) (by kernel_rfl) (by kernel_rfl) (by kernel_rfl)
end laws_toVarS
namespace spec_l1In
noncomputable def c : Code := bodyOf Tryz.f52
noncomputable def fi : Fin := ⟨Γ0, [(.tmp 6, 4)], [[1]], [], [], []⟩
noncomputable def m : Fn [.i, .i, .i] (Fn [.b] Res) := fun _ _ _ r1 => ⟨[⟨false, [.bool r1]⟩], [], [], [], []⟩
noncomputable def X (K : Res → O) : Ctx := cx0 [] fi true K
noncomputable def b (a1 a2 a3 : Int) (R : Bool → O) : O :=
 bif decide (a2 ≤ a1) then R (decide (a1 ≤ a3))
 else R false
noncomputable def g := seal_ b
theorem e : g = b := seal_eq b
noncomputable def a : Fn [.i, .i, .i] St := fun a1 a2 a3 => argSt [oI a1, oI a2, oI a3] [] []
noncomputable def con := conOf 52 [.i, .i, .i] [.b] a g m
theorem ok : Con Pg con := con_fin (fn := Tryz.f52) (c := c) (Fi := fi) (X := X) laid (ctx_of .nil (by kernel_rfl)) (fun K => .nil) e (by kernel_rfl) (by kernel_rfl) (by kernel_rfl) (by kernel_rfl)
end spec_l1In
namespace spec_NumOk
noncomputable def c : Code := bodyOf Tryz.f91
noncomputable def fi : Fin := ⟨Γ0, [(.tmp 2, 4)], [[1]], [], [], []⟩
noncomputable def m : Fn [.i] (Fn [.b] Res) := fun _ r1 => ⟨[⟨false, [.bool r1]⟩], [], [], [], []⟩
noncomputable def X (K : Res → O) : Ctx := cx0 [spec_l1In.con] fi true K
noncomputable def b (a1 : Int) (R : Bool → O) : O :=
 spec_l1In.g a1 (-1000000000000) 1000000000000 fun r2 =>
 R r2
noncomputable def g := seal_ b
theorem e : g = b := seal_eq b
noncomputable def a : Fn [.i] St := fun a1 => argSt [oI a1] [] []
noncomputable def con := conOf 91 [.i] [.b] a g m
theorem ok : Con Pg con := con_fin (fn := Tryz.f91) (c := c) (Fi := fi) (X := X) laid (ctx_of (.cons spec_l1In.ok .nil) (by kernel_rfl)) (fun K => .nil) e (by kernel_rfl) (by kernel_rfl) (by kernel_rfl) (by kernel_rfl)
end spec_NumOk
namespace spec_l9Nums
noncomputable def c : Code := bodyOf Tryz.f88
noncomputable def fi : Fin := ⟨Γ0, [(.tmp 2, 4)], [[1]], [], [], []⟩
noncomputable def m : Fn [.z] (Fn [.b] Res) := fun _ r1 => ⟨[⟨false, [.bool r1]⟩], [], [], [], []⟩
noncomputable def b0 : Code := codeAt c [1, 0, 1, 0, 0]
noncomputable def l0s (x2 : List Int) (rec : Int → O) (k : O) (R : Bool → O) (x3 : Int) : O :=
 bif decide (x3 < (x2.length : Int)) then (bif decide (0 ≤ x3) && decide (x3 < (x2.length : Int)) then (spec_NumOk.g (x2.getD x3.toNat 0) fun r4 =>
  bif !r4 then R false
  else rec (IntKind.i64.wrap (x3 + 1)))
  else none)
 else k
noncomputable def l0 (x2 : List Int) (k : O) (R : Bool → O) : Nat → Int → O
 | 0, _ => none
 | n + 1, x3 => l0s x2 (l0 x2 k R n) k R x3
noncomputable def o0 : Fn [.z] St := fun x2 => ⟨mkT 19 [(0, one (.tr 0 1 [.int .i64] (.ints x2)))], [], []⟩
noncomputable def n0 (K : Res → O) := ent 0 [.z] [.i] [0, 1] (fun x2 x3 => ⟨mkT 19 [(0, one (.tr 0 1 [.int .i64] (.ints x2))), (3, oI x3)], [], []⟩) fun x2 k => l0 x2 (k (o0 x2)) (fun r1 => K (m [] r1))
noncomputable def X (K : Res → O) : Ctx := { cx0 [spec_NumOk.con, spec_l1In.con] fi true K with cin := [(0, ⟨[0, 3], [], [], [], [], []⟩)], cout := [(0, ⟨[0], [], [], [], [], []⟩)], lp := lpOf [n0 K] }
noncomputable def b (a1 : List Int) (R : Bool → O) : O :=
 l0 a1 (
 spec_l1In.g (a1.length : Int) 1 300 fun r5 =>
 R r5) R fuel 0
noncomputable def g := seal_ b
theorem e : g = b := seal_eq b
noncomputable def a : Fn [.z] St := fun a1 => argSt [one (.tr 0 1 [.int .i64] (.ints a1))] [] []
noncomputable def con := conOf 88 [.z] [.b] a g m
theorem hx (K : Res → O) : CtxOk Pg Γ0 byt0 eqs0 (X K) [spec_NumOk.con, spec_l1In.con] := ctx_of (X := X) (.cons spec_NumOk.ok (.cons spec_l1In.ok .nil)) (by kernel_rfl) K
theorem w0 (K : Res → O) : LpSound Pg (X K) 0 b0 := lp_fin (L := [n0 K]) laid (hx K) .nil (.cons (ent_ok (fun x2 k r => l0s x2 r (k (o0 x2)) (fun r1 => K (m [] r1))) (by kernel_rfl) (by kernel_rfl) (by kernel_rfl) (by kernel_rfl) (by kernel_rfl)) .nil) (by kernel_rfl) (by kernel_rfl)
theorem ok : Con Pg con := con_fin (fn := Tryz.f88) (c := c) (Fi := fi) (X := X) laid hx (fun K => (.cons (w0 K) .nil)) e (by kernel_rfl) (by kernel_rfl) (by kernel_rfl) (by kernel_rfl)
end spec_l9Nums
namespace spec_l1Sign2
noncomputable def c : Code := bodyOf Tryz.f122
noncomputable def fi : Fin := ⟨Γ0, [(.tmp 2, 4)], [[1]], [], [], []⟩
noncomputable def m : Fn [.i] (Fn [.b] Res) := fun _ r1 => ⟨[⟨false, [.bool r1]⟩], [], [], [], []⟩
noncomputable def X (K : Res → O) : Ctx := cx0 [] fi true K
noncomputable def b (a1 : Int) (R : Bool → O) : O :=
 bif (a1 == 43) then R true
 else bif (a1 == 45) then R true
 else bif (a1 == 42) then R true
 else bif (a1 == 37) then R true
 else bif (a1 == 124) then R true
 else bif (a1 == 38) then R true
 else bif (a1 == 94) then R true
 else bif (a1 == 61) then R true
 else bif (a1 == 60) then R true
 else R (a1 == 62)
noncomputable def g := seal_ b
theorem e : g = b := seal_eq b
noncomputable def a : Fn [.i] St := fun a1 => argSt [oI a1] [] []
noncomputable def con := conOf 122 [.i] [.b] a g m
theorem ok : Con Pg con := con_fin (fn := Tryz.f122) (c := c) (Fi := fi) (X := X) laid (ctx_of .nil (by kernel_rfl)) (fun K => .nil) e (by kernel_rfl) (by kernel_rfl) (by kernel_rfl) (by kernel_rfl)
end spec_l1Sign2
namespace spec_l1Sign1
noncomputable def c : Code := bodyOf Tryz.f121
noncomputable def fi : Fin := ⟨Γ0, [(.tmp 2, 4)], [[1]], [], [], []⟩
noncomputable def m : Fn [.i] (Fn [.b] Res) := fun _ r1 => ⟨[⟨false, [.bool r1]⟩], [], [], [], []⟩
noncomputable def X (K : Res → O) : Ctx := cx0 [] fi true K
noncomputable def b (a1 : Int) (R : Bool → O) : O :=
 bif (a1 == 43) then R true
 else bif (a1 == 45) then R true
 else bif (a1 == 42) then R true
 else bif (a1 == 124) then R true
 else R (a1 == 126)
noncomputable def g := seal_ b
theorem e : g = b := seal_eq b
noncomputable def a : Fn [.i] St := fun a1 => argSt [oI a1] [] []
noncomputable def con := conOf 121 [.i] [.b] a g m
theorem ok : Con Pg con := con_fin (fn := Tryz.f121) (c := c) (Fi := fi) (X := X) laid (ctx_of .nil (by kernel_rfl)) (fun K => .nil) e (by kernel_rfl) (by kernel_rfl) (by kernel_rfl) (by kernel_rfl)
end spec_l1Sign1
namespace spec_FunOne
noncomputable def c : Code := bodyOf Tryz.f89
noncomputable def fi : Fin := ⟨Γ0, [(.tmp 2, 4)], [[1]], [], [], []⟩
noncomputable def m : Fn [.i, .i, .i] (Fn [.b] Res) := fun _ _ _ r1 => ⟨[⟨false, [.bool r1]⟩], [], [], [], []⟩
noncomputable def X (K : Res → O) : Ctx := cx0 [spec_l1Sign2.con, spec_l1Sign1.con] fi true K
noncomputable def b (a1 a2 a3 : Int) (R : Bool → O) : O :=
 bif (a3 != 0) then R false
 else bif (a2 == 47) then (spec_l1Sign2.g a1 fun r4 =>
  R r4)
 else bif (a2 == 92) then (spec_l1Sign2.g a1 fun r5 =>
  R r5)
 else bif (a2 != 0) then R false
 else (spec_l1Sign1.g a1 fun r6 =>
 bif r6 then R true
 else bif (a1 == 105) then R true
 else bif (a1 == 35) then R true
 else bif (a1 == 44) then R true
 else bif (a1 == 114) then R true
 else bif (a1 == 122) then R true
 else R (a1 == 103))
noncomputable def g := seal_ b
theorem e : g = b := seal_eq b
noncomputable def a : Fn [.i, .i, .i] St := fun a1 a2 a3 => argSt [.v ⟨true, [cI a1, cI a2, cI a3]⟩] [] []
noncomputable def con := conOf 89 [.i, .i, .i] [.b] a g m
theorem ok : Con Pg con := con_fin (fn := Tryz.f89) (c := c) (Fi := fi) (X := X) laid (ctx_of (.cons spec_l1Sign2.ok (.cons spec_l1Sign1.ok .nil)) (by kernel_rfl)) (fun K => .nil) e (by kernel_rfl) (by kernel_rfl) (by kernel_rfl) (by kernel_rfl)
end spec_FunOne
namespace spec_FunTwo
noncomputable def c : Code := bodyOf Tryz.f90
noncomputable def fi : Fin := ⟨Γ0, [(.tmp 2, 4)], [[1]], [], [], []⟩
noncomputable def m : Fn [.i, .i, .i] (Fn [.b] Res) := fun _ _ _ r1 => ⟨[⟨false, [.bool r1]⟩], [], [], [], []⟩
noncomputable def X (K : Res → O) : Ctx := cx0 [spec_l1Sign2.con] fi true K
noncomputable def b (a1 a2 a3 : Int) (R : Bool → O) : O :=
 bif (a2 == 46) then (spec_l1Sign2.g a1 fun r4 =>
  bif r4 then (spec_l1Sign2.g a3 fun r5 =>
   R r5)
  else R false)
 else bif (a3 != 0) then R false
 else bif (a2 == 111) then (spec_l1Sign2.g a1 fun r6 =>
  R r6)
 else bif (a2 != 0) then R false
 else (spec_l1Sign2.g a1 fun r7 =>
 bif r7 then R true
 else bif (a1 == 35) then R true
 else bif (a1 == 44) then R true
 else bif (a1 == 116) then R true
 else bif (a1 == 100) then R true
 else bif (a1 == 114) then R true
 else bif (a1 == 64) then R true
 else bif (a1 == 63) then R true
 else bif (a1 == 36) then R true
 else R (a1 == 101))
noncomputable def g := seal_ b
theorem e : g = b := seal_eq b
noncomputable def a : Fn [.i, .i, .i] St := fun a1 a2 a3 => argSt [.v ⟨true, [cI a1, cI a2, cI a3]⟩] [] []
noncomputable def con := conOf 90 [.i, .i, .i] [.b] a g m
theorem ok : Con Pg con := con_fin (fn := Tryz.f90) (c := c) (Fi := fi) (X := X) laid (ctx_of (.cons spec_l1Sign2.ok .nil) (by kernel_rfl)) (fun K => .nil) e (by kernel_rfl) (by kernel_rfl) (by kernel_rfl) (by kernel_rfl)
end spec_FunTwo
namespace spec_l11Instr
noncomputable def c : Code := bodyOf Tryz.f53
noncomputable def fi : Fin := ⟨Γ0, [(.tmp 2, 4)], [[1]], [], [], []⟩
noncomputable def m : Fn [.i, .i, .i, .i, .i, .z] (Fn [.b] Res) := fun _ _ _ _ _ _ r1 => ⟨[⟨false, [.bool r1]⟩], [], [], [], []⟩
noncomputable def X (K : Res → O) : Ctx := cx0 [spec_l9Nums.con, spec_l1In.con, spec_FunOne.con, spec_FunTwo.con] fi true K
noncomputable def b (a1 a2 a3 a4 a5 : Int) (a6 : List Int) (R : Bool → O) : O :=
 bif (a1 == 1) then (bif (a2 == 0) then (bif ((a3 == 0) && ((a4 == 0) && ((a5 == 0) && true))) then (spec_l9Nums.g a6 fun r7 =>
  R r7)
  else R false)
  else R false)
 else bif (a1 == 2) then (spec_l1In.g a2 0 25 fun r8 =>
  bif r8 then (bif ((a3 == 0) && ((a4 == 0) && ((a5 == 0) && true))) then R ((a6.length : Int) == 0)
   else R false)
  else R false)
 else bif (a1 == 3) then (spec_l1In.g a2 0 25 fun r9 =>
  bif r9 then (bif ((a3 == 0) && ((a4 == 0) && ((a5 == 0) && true))) then R ((a6.length : Int) == 0)
   else R false)
  else R false)
 else bif (a1 == 4) then (bif (a2 == 0) then (spec_FunOne.g a3 a4 a5 fun r10 =>
  bif r10 then R ((a6.length : Int) == 0)
  else R false)
  else R false)
 else bif (a1 == 5) then (bif (a2 == 0) then (spec_FunTwo.g a3 a4 a5 fun r11 =>
  bif r11 then R ((a6.length : Int) == 0)
  else R false)
  else R false)
 else R false
noncomputable def g := seal_ b
theorem e : g = b := seal_eq b
noncomputable def a : Fn [.i, .i, .i, .i, .i, .z] St := fun a1 a2 a3 a4 a5 a6 => argSt [.v ⟨true, [cI a1, cI a2, cI a3, cI a4, cI a5, .tr 0 1 [.int .i64] (.ints a6)]⟩] [] []
noncomputable def con := conOf 53 [.i, .i, .i, .i, .i, .z] [.b] a g m
theorem ok : Con Pg con := con_fin (fn := Tryz.f53) (c := c) (Fi := fi) (X := X) laid (ctx_of (.cons spec_l9Nums.ok (.cons spec_l1In.ok (.cons spec_FunOne.ok (.cons spec_FunTwo.ok .nil)))) (by kernel_rfl)) (fun K => .nil) e (by kernel_rfl) (by kernel_rfl) (by kernel_rfl) (by kernel_rfl)
end spec_l11Instr
namespace spec_l11Takes
noncomputable def c : Code := bodyOf Tryz.f87
noncomputable def fi : Fin := ⟨Γ0, [(.tmp 2, 3), (.tmp 3, 3)], [[1], [1]], [], [], []⟩
noncomputable def m : Fn [.i, .i, .i, .i, .i, .z] (Fn [.i, .i] Res) := fun _ _ _ _ _ _ r1 r2 => ⟨[⟨false, [cI r1]⟩, ⟨false, [cI r2]⟩], [], [], [], []⟩
noncomputable def X (K : Res → O) : Ctx := cx0 [] fi true K
noncomputable def b (a1 a2 a3 a4 a5 : Int) (a6 : List Int) (R : Int → Int → O) : O :=
 bif (a1 == 1) then R 0 1
 else bif (a1 == 2) then R 0 1
 else bif (a1 == 5) then R 2 (-1)
 else R 1 0
noncomputable def g := seal_ b
theorem e : g = b := seal_eq b
noncomputable def a : Fn [.i, .i, .i, .i, .i, .z] St := fun a1 a2 a3 a4 a5 a6 => argSt [.v ⟨true, [cI a1, cI a2, cI a3, cI a4, cI a5, .tr 0 1 [.int .i64] (.ints a6)]⟩] [] []
noncomputable def con := conOf 87 [.i, .i, .i, .i, .i, .z] [.i, .i] a g m
theorem ok : Con Pg con := con_fin (fn := Tryz.f87) (c := c) (Fi := fi) (X := X) laid (ctx_of .nil (by kernel_rfl)) (fun K => .nil) e (by kernel_rfl) (by kernel_rfl) (by kernel_rfl) (by kernel_rfl)
end spec_l11Takes
namespace spec_l11Depths
noncomputable def c : Code := bodyOf Tryz.f54
noncomputable def fi : Fin := ⟨Γ0, [(.tmp 2, 28), (.tmp 3, 4)], [[1], [1]], [], [], []⟩
noncomputable def m : Fn [.l] (Fn [.z, .b] Res) := fun _ r1 r2 => ⟨[⟨false, [.ow 1000]⟩, ⟨false, [.bool r2]⟩], [], [⟨[.int .i64], .ints r1, true, 0, none⟩], [], []⟩
noncomputable def b0 : Code := codeAt c [1, 1, 1, 0, 1, 0, 0]
noncomputable def l0s (x2 : List (List Cl)) (rec : Int → Int → List Int → O) (k : List Int → O) (R : List Int → Bool → O) (x3 x4 : Int) (x5 : List Int) : O :=
 bif decide (x4 < (x2.length : Int)) then (bif decide (0 ≤ x4) && decide (x4 < (x2.length : Int)) then (spec_l11Takes.g (((x2.getD x4.toNat []).getD 0 (.i 0)).toI) (((x2.getD x4.toNat []).getD 1 (.i 0)).toI) (((x2.getD x4.toNat []).getD 2 (.i 0)).toI) (((x2.getD x4.toNat []).getD 3 (.i 0)).toI) (((x2.getD x4.toNat []).getD 4 (.i 0)).toI) (((x2.getD x4.toNat []).getD 5 (.i 0)).toL) fun r6 r7 =>
  bif decide (x3 < r6) then R x5 false
  else bif decide ((x5.length + 1) * 8 ≤ 140737488355328) then rec (IntKind.i64.wrap (x3 + r7)) (IntKind.i64.wrap (x4 + 1)) (x5 ++ ([IntKind.i64.wrap (x3 + r7)] : List Int))
  else none)
  else none)
 else k x5
noncomputable def l0 (x2 : List (List Cl)) (k : List Int → O) (R : List Int → Bool → O) : Nat → Int → Int → List Int → O
 | 0, _, _, _ => none
 | n + 1, x3, x4, x5 => l0s x2 (l0 x2 k R n) k R x3 x4 x5
noncomputable def o0 : Fn [.l, .z] St := fun _ y1 => ⟨mkT 36 [(4, one (.ow 3048))], [(3048, ⟨[.int .i64], .ints y1, true, 0, none⟩)], []⟩
noncomputable def n0 (K : Res → O) := ent 0 [.l] [.i, .i, .z] [0, 1, 2, 3] (fun x2 x3 x4 x5 => ⟨mkT 36 [(0, one (.tr 0 1 e_0 (.cells x2))), (4, one (.ow 3048)), (5, oI x3), (6, oI x4)], [(3048, ⟨[.int .i64], .ints x5, true, 0, none⟩)], []⟩) fun x2 k => l0 x2 (fun y1 => k (o0 x2 y1)) (fun r1 r2 => K (m [] r1 r2))
noncomputable def X (K : Res → O) : Ctx := { cx0 [spec_l11Takes.con] fi true K with cin := [(0, ⟨[0, 4, 5, 6], [(3048, 3048), (21528, 3048)], [], [], [], []⟩)], cout := [(0, ⟨[4], [(3048, 3048)], [], [], [], []⟩)], lp := lpOf [n0 K] }
noncomputable def b (a1 : List (List Cl)) (R : List Int → Bool → O) : O :=
 l0 a1 (fun y8 =>
 R y8 true) R fuel 0 0 ([0] : List Int)
noncomputable def g := seal_ b
theorem e : g = b := seal_eq b
noncomputable def a : Fn [.l] St := fun a1 => argSt [one (.tr 0 1 e_0 (.cells a1))] [] []
noncomputable def con := conOf 54 [.l] [.z, .b] a g m
theorem hx (K : Res → O) : CtxOk Pg Γ0 byt0 eqs0 (X K) [spec_l11Takes.con] := ctx_of (X := X) (.cons spec_l11Takes.ok .nil) (by kernel_rfl) K
theorem w0 (K : Res → O) : LpSound Pg (X K) 0 b0 := lp_fin (L := [n0 K]) laid (hx K) .nil (.cons (ent_ok (fun x2 k r => l0s x2 r (fun y1 => k (o0 x2 y1)) (fun r1 r2 => K (m [] r1 r2))) (by kernel_rfl) (by kernel_rfl) (by kernel_rfl) (by kernel_rfl) (by kernel_rfl)) .nil) (by kernel_rfl) (by kernel_rfl)
theorem ok : Con Pg con := con_fin (fn := Tryz.f54) (c := c) (Fi := fi) (X := X) laid hx (fun K => (.cons (w0 K) .nil)) e (by kernel_rfl) (by kernel_rfl) (by kernel_rfl) (by kernel_rfl)
end spec_l11Depths
namespace spec_CodeOk
noncomputable def c : Code := bodyOf Tryz.f26
noncomputable def fi : Fin := ⟨Γ0, [(.tmp 2, 4)], [[1]], [], [], []⟩
noncomputable def m : Fn [.l] (Fn [.b] Res) := fun _ r1 => ⟨[⟨false, [.bool r1]⟩], [], [], [], []⟩
noncomputable def b0 : Code := codeAt c [1, 1, 0, 1, 0, 0]
noncomputable def l0s (x3 : List (List Cl)) (rec : Int → O) (k : O) (R : Bool → O) (x4 : Int) : O :=
 bif decide (x4 < (x3.length : Int)) then (bif decide (0 ≤ x4) && decide (x4 < (x3.length : Int)) then (spec_l11Instr.g (((x3.getD x4.toNat []).getD 0 (.i 0)).toI) (((x3.getD x4.toNat []).getD 1 (.i 0)).toI) (((x3.getD x4.toNat []).getD 2 (.i 0)).toI) (((x3.getD x4.toNat []).getD 3 (.i 0)).toI) (((x3.getD x4.toNat []).getD 4 (.i 0)).toI) (((x3.getD x4.toNat []).getD 5 (.i 0)).toL) fun r5 =>
  bif !r5 then R false
  else rec (IntKind.i64.wrap (x4 + 1)))
  else none)
 else k
noncomputable def l0 (x3 : List (List Cl)) (k : O) (R : Bool → O) : Nat → Int → O
 | 0, _ => none
 | n + 1, x4 => l0s x3 (l0 x3 k R n) k R x4
noncomputable def o0 : Fn [.l] St := fun x3 => ⟨mkT 36 [(0, one (.tr 0 1 e_0 (.cells x3)))], [], []⟩
noncomputable def n0 (K : Res → O) := ent 0 [.l] [.i] [0, 1] (fun x3 x4 => ⟨mkT 36 [(0, one (.tr 0 1 e_0 (.cells x3))), (3, oI x4)], [], []⟩) fun x3 k => l0 x3 (k (o0 x3)) (fun r1 => K (m [] r1))
noncomputable def X (K : Res → O) : Ctx := { cx0 [spec_l1In.con, spec_l11Instr.con, spec_l11Depths.con] fi true K with cin := [(0, ⟨[0, 3], [], [], [], [], []⟩)], cout := [(0, ⟨[0], [], [], [], [], []⟩)], lp := lpOf [n0 K] }
noncomputable def b (a1 : List (List Cl)) (R : Bool → O) : O :=
 spec_l1In.g (a1.length : Int) 1 60 fun r2 =>
 bif !r2 then R false
 else (l0 a1 (
 spec_l11Depths.g a1 fun r6 r7 =>
 bif r7 then (bif decide (0 ≤ (a1.length : Int)) && decide ((a1.length : Int) < (r6.length : Int)) then R (r6.getD ((a1.length : Int).toNat) 0 == 1)
  else none)
 else R false) R fuel 0)
noncomputable def g := seal_ b
theorem e : g = b := seal_eq b
noncomputable def a : Fn [.l] St := fun a1 => argSt [one (.tr 0 1 e_0 (.cells a1))] [] []
noncomputable def con := conOf 26 [.l] [.b] a g m
theorem hx (K : Res → O) : CtxOk Pg Γ0 byt0 eqs0 (X K) [spec_l1In.con, spec_l11Instr.con, spec_l11Depths.con] := ctx_of (X := X) (.cons spec_l1In.ok (.cons spec_l11Instr.ok (.cons spec_l11Depths.ok .nil))) (by kernel_rfl) K
theorem w0 (K : Res → O) : LpSound Pg (X K) 0 b0 := lp_fin (L := [n0 K]) laid (hx K) .nil (.cons (ent_ok (fun x3 k r => l0s x3 r (k (o0 x3)) (fun r1 => K (m [] r1))) (by kernel_rfl) (by kernel_rfl) (by kernel_rfl) (by kernel_rfl) (by kernel_rfl)) .nil) (by kernel_rfl) (by kernel_rfl)
theorem ok : Con Pg con := con_fin (fn := Tryz.f26) (c := c) (Fi := fi) (X := X) laid hx (fun K => (.cons (w0 K) .nil)) e (by kernel_rfl) (by kernel_rfl) (by kernel_rfl) (by kernel_rfl)
end spec_CodeOk
namespace spec_SizeOf
noncomputable def c : Code := bodyOf Tryz.f57
noncomputable def fi : Fin := ⟨Γ0, [(.tmp 2, 3)], [[1]], [], [], []⟩
noncomputable def m : Fn [.z] (Fn [.i] Res) := fun _ r1 => ⟨[⟨false, [cI r1]⟩], [], [], [], []⟩
noncomputable def b0 : Code := codeAt c [1, 1, 1, 0, 1, 0, 0]
noncomputable def b2 : Code := codeAt c [1, 1, 1, 1, 1, 0, 1, 0, 0]
noncomputable def l0s (x2 : List Int) (rec : Bool → Int → O) (k : Bool → O) (R : Int → O) (x3 : Bool) (x4 : Int) : O :=
 bif decide (x4 < (x2.length : Int)) then (bif decide (0 ≤ x4) && decide (x4 < (x2.length : Int)) then (spec_l1In.g (x2.getD x4.toNat 0) 0 300 fun r5 =>
  bif !r5 then R (-1)
  else bif x3 then rec true (IntKind.i64.wrap (x4 + 1))
  else bif decide (0 ≤ x4) && decide (x4 < (x2.length : Int)) then rec (x2.getD x4.toNat 0 == 0) (IntKind.i64.wrap (x4 + 1))
  else none)
  else none)
 else k x3
noncomputable def l0 (x2 : List Int) (k : Bool → O) (R : Int → O) : Nat → Bool → Int → O
 | 0, _, _ => none
 | n + 1, x3, x4 => l0s x2 (l0 x2 k R n) k R x3 x4
noncomputable def o0 : Fn [.z, .b] St := fun x2 y2 => ⟨mkT 49 [(0, one (.tr 0 1 [.int .i64] (.ints x2))), (3, one (.bool y2))], [], []⟩
noncomputable def n0 (K : Res → O) := ent 0 [.z] [.b, .i] [0, 1, 2] (fun x2 x3 x4 => ⟨mkT 49 [(0, one (.tr 0 1 [.int .i64] (.ints x2))), (3, one (.bool x3)), (4, oI x4)], [], []⟩) fun x2 k => l0 x2 (fun y2 => k (o0 x2 y2)) (fun r1 => K (m [] r1))
noncomputable def l2s (x7 : List Int) (x8 : Bool) (rec : Int → Int → O) (k : Int → O) (x9 x10 : Int) : O :=
 bif decide (x10 < (x7.length : Int)) then (bif decide (0 ≤ x10) && decide (x10 < (x7.length : Int)) then rec (IntKind.i64.wrap (x9 * (x7.getD x10.toNat 0))) (IntKind.i64.wrap (x10 + 1))
  else none)
 else k x9
noncomputable def l2 (x7 : List Int) (x8 : Bool) (k : Int → O) : Nat → Int → Int → O
 | 0, _, _ => none
 | n + 1, x9, x10 => l2s x7 x8 (l2 x7 x8 k n) k x9 x10
noncomputable def o2 : Fn [.z, .b, .i] St := fun _ x8 y2 => ⟨mkT 49 [(3, one (.bool x8)), (5, oI y2)], [], []⟩
noncomputable def n2 (K : Res → O) := ent 2 [.z, .b] [.i, .i] [0, 1, 2, 3] (fun x7 x8 x9 x10 => ⟨mkT 49 [(0, one (.tr 0 1 [.int .i64] (.ints x7))), (3, one (.bool x8)), (5, oI x9), (6, oI x10)], [], []⟩) fun x7 x8 k => l2 x7 x8 (fun y2 => k (o2 x7 x8 y2))
noncomputable def X (K : Res → O) : Ctx := { cx0 [spec_l1In.con] fi true K with cin := [(0, ⟨[0, 3, 4], [], [], [], [], []⟩), (2, ⟨[0, 3, 5, 6], [], [], [], [], []⟩)], cout := [(0, ⟨[0, 3], [], [], [], [], []⟩), (2, ⟨[3, 5], [], [], [], [], []⟩)], lp := lpOf [n0 K, n2 K] }
noncomputable def b (a1 : List Int) (R : Int → O) : O :=
 bif decide (3 < (a1.length : Int)) then R (-1)
 else (l0 a1 (fun y6 =>
 l2 a1 y6 (fun y11 =>
 bif decide (300 < y11) then (bif !y6 then R (-1)
  else R y11)
 else R y11) fuel 1 0) R fuel false 0)
noncomputable def g := seal_ b
theorem e : g = b := seal_eq b
noncomputable def a : Fn [.z] St := fun a1 => argSt [one (.tr 0 1 [.int .i64] (.ints a1))] [] []
noncomputable def con := conOf 57 [.z] [.i] a g m
theorem hx (K : Res → O) : CtxOk Pg Γ0 byt0 eqs0 (X K) [spec_l1In.con] := ctx_of (X := X) (.cons spec_l1In.ok .nil) (by kernel_rfl) K
theorem w2 (K : Res → O) : LpSound Pg (X K) 2 b2 := lp_fin (L := [n0 K, n2 K]) laid (hx K) .nil (.skip rfl (.cons (ent_ok (fun x7 x8 k r => l2s x7 x8 r (fun y2 => k (o2 x7 x8 y2))) (by kernel_rfl) (by kernel_rfl) (by kernel_rfl) (by kernel_rfl) (by kernel_rfl)) .nil)) (by kernel_rfl) (by kernel_rfl)
theorem w0 (K : Res → O) : LpSound Pg (X K) 0 b0 := lp_fin (L := [n0 K, n2 K]) laid (hx K) .nil (.cons (ent_ok (fun x2 k r => l0s x2 r (fun y2 => k (o0 x2 y2)) (fun r1 => K (m [] r1))) (by kernel_rfl) (by kernel_rfl) (by kernel_rfl) (by kernel_rfl) (by kernel_rfl)) (.skip rfl .nil)) (by kernel_rfl) (by kernel_rfl)
theorem ok : Con Pg con := con_fin (fn := Tryz.f57) (c := c) (Fi := fi) (X := X) laid hx (fun K => (.cons (w0 K) (.cons (w2 K) .nil))) e (by kernel_rfl) (by kernel_rfl) (by kernel_rfl) (by kernel_rfl)
end spec_SizeOf
namespace spec_ArrayOk
noncomputable def c : Code := bodyOf Tryz.f55
noncomputable def fi : Fin := ⟨Γ0, [(.tmp 2, 4)], [[1]], [], [], []⟩
noncomputable def m : Fn [.z, .z] (Fn [.b] Res) := fun _ _ r1 => ⟨[⟨false, [.bool r1]⟩], [], [], [], []⟩
noncomputable def b0 : Code := codeAt c [1, 1, 0, 1, 0, 0]
noncomputable def l0s (x5 x6 : List Int) (rec : Int → O) (k : O) (R : Bool → O) (x4 : Int) : O :=
 bif decide (x4 < (x6.length : Int)) then (bif decide (0 ≤ x4) && decide (x4 < (x6.length : Int)) then (spec_NumOk.g (x6.getD x4.toNat 0) fun r7 =>
  bif !r7 then R false
  else rec (IntKind.i64.wrap (x4 + 1)))
  else none)
 else k
noncomputable def l0 (x5 x6 : List Int) (k : O) (R : Bool → O) : Nat → Int → O
 | 0, _ => none
 | n + 1, x4 => l0s x5 x6 (l0 x5 x6 k R n) k R x4
noncomputable def o0 : Fn [.z, .z] St := fun _ _ => ⟨mkT 25 [], [], []⟩
noncomputable def n0 (K : Res → O) := ent 0 [.z, .z] [.i] [1, 2, 0] (fun x5 x6 x4 => ⟨mkT 25 [(1, one (.bp 1000 0)), (3, oI x4)], [], [(1000, [.tr 0 1 [.int .i64] (.ints x5), .tr 0 1 [.int .i64] (.ints x6)])]⟩) fun x5 x6 k => l0 x5 x6 (k (o0 x5 x6)) (fun r1 => K (m [] [] r1))
noncomputable def X (K : Res → O) : Ctx := { cx0 [spec_SizeOf.con, spec_NumOk.con] fi true K with cin := [(0, ⟨[1, 3], [], [1000], [], [], []⟩)], cout := [(0, ⟨[], [], [], [], [], []⟩)], lp := lpOf [n0 K] }
noncomputable def b (a1 a2 : List Int) (R : Bool → O) : O :=
 spec_SizeOf.g a1 fun r3 =>
 bif (r3 != (a2.length : Int)) then R false
 else (l0 a1 a2 (
 R true) R fuel 0)
noncomputable def g := seal_ b
theorem e : g = b := seal_eq b
noncomputable def a : Fn [.z, .z] St := fun a1 a2 => argSt [.v ⟨true, [.tr 0 1 [.int .i64] (.ints a1), .tr 0 1 [.int .i64] (.ints a2)]⟩] [] []
noncomputable def con := conOf 55 [.z, .z] [.b] a g m
theorem hx (K : Res → O) : CtxOk Pg Γ0 byt0 eqs0 (X K) [spec_SizeOf.con, spec_NumOk.con] := ctx_of (X := X) (.cons spec_SizeOf.ok (.cons spec_NumOk.ok .nil)) (by kernel_rfl) K
theorem w0 (K : Res → O) : LpSound Pg (X K) 0 b0 := lp_fin (L := [n0 K]) laid (hx K) .nil (.cons (ent_ok (fun x5 x6 k r => l0s x5 x6 r (k (o0 x5 x6)) (fun r1 => K (m [] [] r1))) (by kernel_rfl) (by kernel_rfl) (by kernel_rfl) (by kernel_rfl) (by kernel_rfl)) .nil) (by kernel_rfl) (by kernel_rfl)
theorem ok : Con Pg con := con_fin (fn := Tryz.f55) (c := c) (Fi := fi) (X := X) laid hx (fun K => (.cons (w0 K) .nil)) e (by kernel_rfl) (by kernel_rfl) (by kernel_rfl) (by kernel_rfl)
end spec_ArrayOk
namespace spec_VarsOk
noncomputable def c : Code := bodyOf Tryz.f27
noncomputable def fi : Fin := ⟨Γ0, [(.tmp 2, 4)], [[1]], [], [], []⟩
noncomputable def m : Fn [.l] (Fn [.b] Res) := fun _ r1 => ⟨[⟨false, [.bool r1]⟩], [], [], [], []⟩
noncomputable def b0 : Code := codeAt c [1, 1, 0, 1, 0, 0]
noncomputable def l0s (x2 : List (List Cl)) (rec : Int → O) (k : O) (R : Bool → O) (x3 : Int) : O :=
 bif decide (x3 < 26) then (bif decide (0 ≤ x3) && decide (x3 < (x2.length : Int)) then (bif ((x2.getD x3.toNat []).getD 0 (.i 0)).toB then (spec_ArrayOk.g (((x2.getD x3.toNat []).getD 1 (.i 0)).toL) (((x2.getD x3.toNat []).getD 2 (.i 0)).toL) fun r4 =>
  bif !r4 then R false
  else bif !(((x2.getD x3.toNat []).getD 0 (.i 0)).toB) then (bif decide (0 < IntKind.i64.wrap (((((x2.getD x3.toNat []).getD 1 (.i 0)).toL).length : Int) + ((((x2.getD x3.toNat []).getD 2 (.i 0)).toL).length : Int))) then R false
   else rec (IntKind.i64.wrap (x3 + 1)))
  else rec (IntKind.i64.wrap (x3 + 1)))
  else bif !(((x2.getD x3.toNat []).getD 0 (.i 0)).toB) then (bif decide (0 < IntKind.i64.wrap (((((x2.getD x3.toNat []).getD 1 (.i 0)).toL).length : Int) + ((((x2.getD x3.toNat []).getD 2 (.i 0)).toL).length : Int))) then R false
   else rec (IntKind.i64.wrap (x3 + 1)))
  else rec (IntKind.i64.wrap (x3 + 1)))
  else none)
 else k
noncomputable def l0 (x2 : List (List Cl)) (k : O) (R : Bool → O) : Nat → Int → O
 | 0, _ => none
 | n + 1, x3 => l0s x2 (l0 x2 k R n) k R x3
noncomputable def o0 : Fn [.l] St := fun _ => ⟨mkT 41 [], [], []⟩
noncomputable def n0 (K : Res → O) := ent 0 [.l] [.i] [0, 1] (fun x2 x3 => ⟨mkT 41 [(0, one (.tr 0 1 e_1 (.cells x2))), (3, oI x3)], [], []⟩) fun x2 k => l0 x2 (k (o0 x2)) (fun r1 => K (m [] r1))
noncomputable def X (K : Res → O) : Ctx := { cx0 [spec_ArrayOk.con] fi true K with cin := [(0, ⟨[0, 3], [], [], [], [], []⟩)], cout := [(0, ⟨[], [], [], [], [], []⟩)], lp := lpOf [n0 K] }
noncomputable def b (a1 : List (List Cl)) (R : Bool → O) : O :=
 bif ((a1.length : Int) != 26) then R false
 else (l0 a1 (
 R true) R fuel 0)
noncomputable def g := seal_ b
theorem e : g = b := seal_eq b
noncomputable def a : Fn [.l] St := fun a1 => argSt [one (.tr 0 1 e_1 (.cells a1))] [] []
noncomputable def con := conOf 27 [.l] [.b] a g m
theorem hx (K : Res → O) : CtxOk Pg Γ0 byt0 eqs0 (X K) [spec_ArrayOk.con] := ctx_of (X := X) (.cons spec_ArrayOk.ok .nil) (by kernel_rfl) K
theorem w0 (K : Res → O) : LpSound Pg (X K) 0 b0 := lp_fin (L := [n0 K]) laid (hx K) .nil (.cons (ent_ok (fun x2 k r => l0s x2 r (k (o0 x2)) (fun r1 => K (m [] r1))) (by kernel_rfl) (by kernel_rfl) (by kernel_rfl) (by kernel_rfl) (by kernel_rfl)) .nil) (by kernel_rfl) (by kernel_rfl)
theorem ok : Con Pg con := con_fin (fn := Tryz.f27) (c := c) (Fi := fi) (X := X) laid hx (fun K => (.cons (w0 K) .nil)) e (by kernel_rfl) (by kernel_rfl) (by kernel_rfl) (by kernel_rfl)
end spec_VarsOk
namespace spec_l15Plain
noncomputable def c : Code := bodyOf Tryz.f86
noncomputable def fi : Fin := ⟨Γ0, [(.tmp 2, 4)], [[1]], [], [], []⟩
noncomputable def m : Fn [.i, .i, .i, .i, .i, .z] (Fn [.b] Res) := fun _ _ _ _ _ _ r1 => ⟨[⟨false, [.bool r1]⟩], [], [], [], []⟩
noncomputable def X (K : Res → O) : Ctx := cx0 [spec_l1Sign1.con, spec_l1Sign2.con] fi true K
noncomputable def b (a1 a2 a3 a4 a5 : Int) (a6 : List Int) (R : Bool → O) : O :=
 bif (a1 == 1) then R true
 else bif (a1 == 2) then R true
 else bif (a1 == 4) then (bif (a4 == 0) then (spec_l1Sign1.g a3 fun r7 =>
  R r7)
  else R false)
 else bif (a1 == 5) then (bif (a4 == 0) then (spec_l1Sign2.g a3 fun r8 =>
  R r8)
  else R false)
 else R false
noncomputable def g := seal_ b
theorem e : g = b := seal_eq b
noncomputable def a : Fn [.i, .i, .i, .i, .i, .z] St := fun a1 a2 a3 a4 a5 a6 => argSt [.v ⟨true, [cI a1, cI a2, cI a3, cI a4, cI a5, .tr 0 1 [.int .i64] (.ints a6)]⟩] [] []
noncomputable def con := conOf 86 [.i, .i, .i, .i, .i, .z] [.b] a g m
theorem ok : Con Pg con := con_fin (fn := Tryz.f86) (c := c) (Fi := fi) (X := X) laid (ctx_of (.cons spec_l1Sign1.ok (.cons spec_l1Sign2.ok .nil)) (by kernel_rfl)) (fun K => .nil) e (by kernel_rfl) (by kernel_rfl) (by kernel_rfl) (by kernel_rfl)
end spec_l15Plain
namespace spec_l15End
noncomputable def c : Code := bodyOf Tryz.f49
noncomputable def fi : Fin := ⟨Γ0, [(.tmp 4, 3)], [[1]], [], [], []⟩
noncomputable def m : Fn [.l, .i] (Fn [.i] Res) := fun _ _ r1 => ⟨[⟨false, [cI r1]⟩], [], [], [], []⟩
noncomputable def b0 : Code := codeAt c [1, 1, 1, 1, 0, 1, 0, 0]
noncomputable def l0s (x3 : List (List Cl)) (rec : Int → Int → Bool → Int → O) (k : Int → O) (R : Int → O) (x4 x5 : Int) (x6 : Bool) (x7 : Int) : O :=
 bif decide (x7 < (x3.length : Int)) then (bif decide (0 ≤ x7) && decide (x7 < (x3.length : Int)) then (spec_l15Plain.g (((x3.getD x7.toNat []).getD 0 (.i 0)).toI) (((x3.getD x7.toNat []).getD 1 (.i 0)).toI) (((x3.getD x7.toNat []).getD 2 (.i 0)).toI) (((x3.getD x7.toNat []).getD 3 (.i 0)).toI) (((x3.getD x7.toNat []).getD 4 (.i 0)).toI) (((x3.getD x7.toNat []).getD 5 (.i 0)).toL) fun r8 =>
  bif r8 then (bif decide (0 ≤ x7) && decide (x7 < (x3.length : Int)) then (spec_l11Takes.g (((x3.getD x7.toNat []).getD 0 (.i 0)).toI) (((x3.getD x7.toNat []).getD 1 (.i 0)).toI) (((x3.getD x7.toNat []).getD 2 (.i 0)).toI) (((x3.getD x7.toNat []).getD 3 (.i 0)).toI) (((x3.getD x7.toNat []).getD 4 (.i 0)).toI) (((x3.getD x7.toNat []).getD 5 (.i 0)).toL) fun r9 r10 =>
   bif decide (x5 < r9) then R x4
   else bif x6 then (bif (IntKind.i64.wrap (x5 + r10) == 1) then rec (IntKind.i64.wrap (x7 + 1)) (IntKind.i64.wrap (x5 + r10)) true (IntKind.i64.wrap (x7 + 1))
    else rec x4 (IntKind.i64.wrap (x5 + r10)) true (IntKind.i64.wrap (x7 + 1)))
   else bif (IntKind.i64.wrap (x5 + r10) == 1) then (bif decide (0 < r9) then rec (IntKind.i64.wrap (x7 + 1)) (IntKind.i64.wrap (x5 + r10)) (decide (0 < r9)) (IntKind.i64.wrap (x7 + 1))
    else rec x4 (IntKind.i64.wrap (x5 + r10)) (decide (0 < r9)) (IntKind.i64.wrap (x7 + 1)))
   else rec x4 (IntKind.i64.wrap (x5 + r10)) (decide (0 < r9)) (IntKind.i64.wrap (x7 + 1)))
   else none)
  else k x4)
  else none)
 else k x4
noncomputable def l0 (x3 : List (List Cl)) (k : Int → O) (R : Int → O) : Nat → Int → Int → Bool → Int → O
 | 0, _, _, _, _ => none
 | n + 1, x4, x5, x6, x7 => l0s x3 (l0 x3 k R n) k R x4 x5 x6 x7
noncomputable def o0 : Fn [.l, .i] St := fun _ y1 => ⟨mkT 53 [(5, oI y1)], [], []⟩
noncomputable def n0 (K : Res → O) := ent 0 [.l] [.i, .i, .b, .i] [0, 1, 2, 3, 4] (fun x3 x4 x5 x6 x7 => ⟨mkT 53 [(0, one (.tr 0 1 e_0 (.cells x3))), (5, oI x4), (6, oI x5), (7, one (.bool x6)), (8, oI x7)], [], []⟩) fun x3 k => l0 x3 (fun y1 => k (o0 x3 y1)) (fun r1 => K (m [] (0 : Int) r1))
noncomputable def X (K : Res → O) : Ctx := { cx0 [spec_l15Plain.con, spec_l11Takes.con] fi true K with cin := [(0, ⟨[0, 5, 6, 7, 8], [], [], [], [], []⟩)], cout := [(0, ⟨[5], [], [], [], [], []⟩)], lp := lpOf [n0 K] }
noncomputable def b (a1 : List (List Cl)) (a2 : Int) (R : Int → O) : O :=
 l0 a1 (fun y11 =>
 R y11) R fuel 0 0 false a2
noncomputable def g := seal_ b
theorem e : g = b := seal_eq b
noncomputable def a : Fn [.l, .i] St := fun a1 a2 => argSt [one (.tr 0 1 e_0 (.cells a1)), oI a2] [] []
noncomputable def con := conOf 49 [.l, .i] [.i] a g m
theorem hx (K : Res → O) : CtxOk Pg Γ0 byt0 eqs0 (X K) [spec_l15Plain.con, spec_l11Takes.con] := ctx_of (X := X) (.cons spec_l15Plain.ok (.cons spec_l11Takes.ok .nil)) (by kernel_rfl) K
theorem w0 (K : Res → O) : LpSound Pg (X K) 0 b0 := lp_fin (L := [n0 K]) laid (hx K) .nil (.cons (ent_ok (fun x3 k r => l0s x3 r (fun y1 => k (o0 x3 y1)) (fun r1 => K (m [] (0 : Int) r1))) (by kernel_rfl) (by kernel_rfl) (by kernel_rfl) (by kernel_rfl) (by kernel_rfl)) .nil) (by kernel_rfl) (by kernel_rfl)
theorem ok : Con Pg con := con_fin (fn := Tryz.f49) (c := c) (Fi := fi) (X := X) laid hx (fun K => (.cons (w0 K) .nil)) e (by kernel_rfl) (by kernel_rfl) (by kernel_rfl) (by kernel_rfl)
end spec_l15End
namespace spec_Spans
noncomputable def c : Code := bodyOf Tryz.f22
noncomputable def fi : Fin := ⟨Γ0, [(.tmp 2, 50)], [[1]], [], [], []⟩
noncomputable def m : Fn [.l] (Fn [.l] Res) := fun _ r1 => ⟨[⟨false, [.ow 1000]⟩], [], [⟨e_2, .cells r1, true, 0, none⟩], [], []⟩
noncomputable def b0 : Code := codeAt c [1, 1, 1, 1, 0, 0, 0]
noncomputable def l0s (x3 : List (List Cl)) (rec : Int → List (List Cl) → O) (k : List (List Cl) → O) (x4 : Int) (x5 : List (List Cl)) : O :=
 bif decide (x4 < (x3.length : Int)) then (spec_l15End.g x3 x4 fun r6 =>
  bif (r6 == 0) then rec (IntKind.i64.wrap (x4 + 1)) x5
  else bif decide ((x5.length + 1) * 16 ≤ 140737488355328) then rec r6 (x5 ++ ([[.i x4, .i r6]] : List (List Cl)))
  else none)
 else k x5
noncomputable def l0 (x3 : List (List Cl)) (k : List (List Cl) → O) : Nat → Int → List (List Cl) → O
 | 0, _, _ => none
 | n + 1, x4, x5 => l0s x3 (l0 x3 k n) k x4 x5
noncomputable def o0 : Fn [.l, .l] St := fun _ y1 => ⟨mkT 30 [(3, one (.ow 3048))], [(3048, ⟨e_2, .cells y1, true, 0, none⟩)], []⟩
noncomputable def n0 (K : Res → O) := ent 0 [.l] [.i, .l] [0, 1, 2] (fun x3 x4 x5 => ⟨mkT 30 [(0, one (.tr 0 1 e_0 (.cells x3))), (3, one (.ow 3048)), (4, oI x4)], [(3048, ⟨e_2, .cells x5, true, 0, none⟩)], []⟩) fun x3 k => l0 x3 (fun y1 => k (o0 x3 y1))
noncomputable def X (K : Res → O) : Ctx := { cx0 [spec_CodeOk.con, spec_l15End.con] fi true K with cin := [(0, ⟨[0, 3, 4], [(3048, 3048), (19512, 3048)], [], [], [], []⟩)], cout := [(0, ⟨[3], [(3048, 3048)], [], [], [], []⟩)], lp := lpOf [n0 K] }
noncomputable def b (a1 : List (List Cl)) (R : List (List Cl) → O) : O :=
 spec_CodeOk.g a1 fun r2 =>
 bif !r2 then R ([] : List (List Cl))
 else (l0 a1 (fun y7 =>
 R y7) fuel 0 ([] : List (List Cl)))
noncomputable def g := seal_ b
theorem e : g = b := seal_eq b
noncomputable def a : Fn [.l] St := fun a1 => argSt [one (.tr 0 1 e_0 (.cells a1))] [] []
noncomputable def con := conOf 22 [.l] [.l] a g m
theorem hx (K : Res → O) : CtxOk Pg Γ0 byt0 eqs0 (X K) [spec_CodeOk.con, spec_l15End.con] := ctx_of (X := X) (.cons spec_CodeOk.ok (.cons spec_l15End.ok .nil)) (by kernel_rfl) K
theorem w0 (K : Res → O) : LpSound Pg (X K) 0 b0 := lp_fin (L := [n0 K]) laid (hx K) .nil (.cons (ent_ok (fun x3 k r => l0s x3 r (fun y1 => k (o0 x3 y1))) (by kernel_rfl) (by kernel_rfl) (by kernel_rfl) (by kernel_rfl) (by kernel_rfl)) .nil) (by kernel_rfl) (by kernel_rfl)
theorem ok : Con Pg con := con_fin (fn := Tryz.f22) (c := c) (Fi := fi) (X := X) laid hx (fun K => (.cons (w0 K) .nil)) e (by kernel_rfl) (by kernel_rfl) (by kernel_rfl) (by kernel_rfl)
end spec_Spans
namespace spec_l3Scalar
noncomputable def c : Code := bodyOf Tryz.f142
noncomputable def fi : Fin := ⟨Γ0, [(.cell 2 30, 30)], [[1, 1]], [], [], []⟩
noncomputable def m : Fn [.i] (Fn [.z, .z] Res) := fun _ r1 r2 => ⟨[⟨true, [.ow 1000, .ow 1001]⟩], [], [⟨[.int .i64], .ints r1, true, 0, none⟩, ⟨[.int .i64], .ints r2, true, 0, none⟩], [], []⟩
noncomputable def X (K : Res → O) : Ctx := cx0 [] fi true K
noncomputable def b (a1 : Int) (R : List Int → List Int → O) : O :=
 R ([] : List Int) ([a1] : List Int)
noncomputable def g := seal_ b
theorem e : g = b := seal_eq b
noncomputable def a : Fn [.i] St := fun a1 => argSt [oI a1] [] []
noncomputable def con := conOf 142 [.i] [.z, .z] a g m
theorem ok : Con Pg con := con_fin (fn := Tryz.f142) (c := c) (Fi := fi) (X := X) laid (ctx_of .nil (by kernel_rfl)) (fun K => .nil) e (by kernel_rfl) (by kernel_rfl) (by kernel_rfl) (by kernel_rfl)
end spec_l3Scalar
namespace spec_l3Vector
noncomputable def c : Code := bodyOf Tryz.f143
noncomputable def fi : Fin := ⟨Γ0, [(.cell 2 30, 30)], [[1, 1]], [], [], []⟩
noncomputable def m : Fn [.z] (Fn [.z, .z] Res) := fun _ r1 r2 => ⟨[⟨true, [.ow 1000, .ow 1001]⟩], [], [⟨[.int .i64], .ints r1, true, 0, none⟩, ⟨[.int .i64], .ints r2, true, 0, none⟩], [], []⟩
noncomputable def X (K : Res → O) : Ctx := cx0 [] fi true K
noncomputable def b (a1 : List Int) (R : List Int → List Int → O) : O :=
 bif decide ((0 + a1.length) * 8 ≤ 140737488355328) then R ([(a1.length : Int)] : List Int) (([] : List Int) ++ a1)
 else none
noncomputable def g := seal_ b
theorem e : g = b := seal_eq b
noncomputable def a : Fn [.z] St := fun a1 => argSt [one (.tr 0 1 [.int .i64] (.ints a1))] [] []
noncomputable def con := conOf 143 [.z] [.z, .z] a g m
theorem ok : Con Pg con := con_fin (fn := Tryz.f143) (c := c) (Fi := fi) (X := X) laid (ctx_of .nil (by kernel_rfl)) (fun K => .nil) e (by kernel_rfl) (by kernel_rfl) (by kernel_rfl) (by kernel_rfl)
end spec_l3Vector
namespace spec_l10Nums
noncomputable def c : Code := bodyOf Tryz.f123
noncomputable def fi : Fin := ⟨Γ0, [(.cell 2 30, 30)], [[1, 1]], [], [], []⟩
noncomputable def m : Fn [.z] (Fn [.z, .z] Res) := fun _ r1 r2 => ⟨[⟨true, [.ow 1000, .ow 1001]⟩], [], [⟨[.int .i64], .ints r1, true, 0, none⟩, ⟨[.int .i64], .ints r2, true, 0, none⟩], [], []⟩
noncomputable def X (K : Res → O) : Ctx := cx0 [spec_l3Scalar.con, spec_l3Vector.con] fi true K
noncomputable def b (a1 : List Int) (R : List Int → List Int → O) : O :=
 bif ((a1.length : Int) == 1) then (bif decide (0 < (a1.length : Int)) then (spec_l3Scalar.g (a1.getD 0 0) fun r2 r3 =>
  R r2 r3)
  else none)
 else (spec_l3Vector.g a1 fun r4 r5 =>
 R r4 r5)
noncomputable def g := seal_ b
theorem e : g = b := seal_eq b
noncomputable def a : Fn [.z] St := fun a1 => argSt [one (.tr 0 1 [.int .i64] (.ints a1))] [] []
noncomputable def con := conOf 123 [.z] [.z, .z] a g m
theorem ok : Con Pg con := con_fin (fn := Tryz.f123) (c := c) (Fi := fi) (X := X) laid (ctx_of (.cons spec_l3Scalar.ok (.cons spec_l3Vector.ok .nil)) (by kernel_rfl)) (fun K => .nil) e (by kernel_rfl) (by kernel_rfl) (by kernel_rfl) (by kernel_rfl)
end spec_l10Nums
namespace spec_l15Array
noncomputable def c : Code := bodyOf Tryz.f92
noncomputable def fi : Fin := ⟨Γ0, [(.cell 4 30, 30), (.tmp 5, 4)], [[0, 4], [1]], [], [], []⟩
noncomputable def m : Fn [.i, .i, .i, .i, .i, .z, .l] (Fn [.z, .z, .b] Res) := fun _ _ _ _ _ _ _ r1 r2 r3 => ⟨[⟨true, [.tr 2 2 [.int .i64] (.ints r1), .tr 1 1 [.int .i64] (.ints r2)]⟩, ⟨false, [.bool r3]⟩], [], [], [], []⟩
noncomputable def X (K : Res → O) : Ctx := cx0 [spec_l10Nums.con] fi true K
noncomputable def b (a1 a2 a3 a4 a5 : Int) (a6 : List Int) (a7 : List (List Cl)) (R : List Int → List Int → Bool → O) : O :=
 bif (a1 == 1) then (spec_l10Nums.g a6 fun r8 r9 =>
  R r8 r9 true)
 else bif decide (0 ≤ a2) && decide (a2 < (a7.length : Int)) then (bif decide (0 ≤ a2) && decide (a2 < (a7.length : Int)) then R (((a7.getD a2.toNat []).getD 1 (.i 0)).toL) (((a7.getD a2.toNat []).getD 2 (.i 0)).toL) (((a7.getD a2.toNat []).getD 0 (.i 0)).toB)
  else none)
 else none
noncomputable def g := seal_ b
theorem e : g = b := seal_eq b
noncomputable def a : Fn [.i, .i, .i, .i, .i, .z, .l] St := fun a1 a2 a3 a4 a5 a6 a7 => argSt [.v ⟨true, [cI a1, cI a2, cI a3, cI a4, cI a5, .tr 0 1 [.int .i64] (.ints a6)]⟩, one (.tr 0 2 e_1 (.cells a7))] [] []
noncomputable def con := conOf 92 [.i, .i, .i, .i, .i, .z, .l] [.z, .z, .b] a g m
theorem ok : Con Pg con := con_fin (fn := Tryz.f92) (c := c) (Fi := fi) (X := X) laid (ctx_of (.cons spec_l10Nums.ok .nil) (by kernel_rfl)) (fun K => .nil) e (by kernel_rfl) (by kernel_rfl) (by kernel_rfl) (by kernel_rfl)
end spec_l15Array
namespace spec_l2Same
noncomputable def c : Code := bodyOf Tryz.f93
noncomputable def fi : Fin := ⟨Γ0, [(.tmp 4, 4)], [[1]], [], [], []⟩
noncomputable def m : Fn [.z, .z] (Fn [.b] Res) := fun _ _ r1 => ⟨[⟨false, [.bool r1]⟩], [], [], [], []⟩
noncomputable def b0 : Code := codeAt c [1, 1, 0, 1, 0, 0]
noncomputable def l0s (x3 x4 : List Int) (rec : Int → O) (k : O) (R : Bool → O) (x5 : Int) : O :=
 bif decide (x5 < (x3.length : Int)) then (bif decide (0 ≤ x5) && decide (x5 < (x3.length : Int)) then (bif decide (0 ≤ x5) && decide (x5 < (x4.length : Int)) then (bif (x3.getD x5.toNat 0 != x4.getD x5.toNat 0) then R false
  else rec (IntKind.i64.wrap (x5 + 1)))
  else none)
  else none)
 else k
noncomputable def l0 (x3 x4 : List Int) (k : O) (R : Bool → O) : Nat → Int → O
 | 0, _ => none
 | n + 1, x5 => l0s x3 x4 (l0 x3 x4 k R n) k R x5
noncomputable def o0 : Fn [.z, .z] St := fun _ _ => ⟨mkT 26 [], [], []⟩
noncomputable def n0 (K : Res → O) := ent 0 [.z, .z] [.i] [0, 1, 2] (fun x3 x4 x5 => ⟨mkT 26 [(0, one (.tr 0 1 [.int .i64] (.ints x3))), (1, one (.tr 0 1 [.int .i64] (.ints x4))), (5, oI x5)], [], []⟩) fun x3 x4 k => l0 x3 x4 (k (o0 x3 x4)) (fun r1 => K (m [] [] r1))
noncomputable def X (K : Res → O) : Ctx := { cx0 [] fi true K with cin := [(0, ⟨[0, 1, 5], [], [], [], [], []⟩)], cout := [(0, ⟨[], [], [], [], [], []⟩)], lp := lpOf [n0 K] }
noncomputable def b (a1 a2 : List Int) (R : Bool → O) : O :=
 bif ((a1.length : Int) != (a2.length : Int)) then R false
 else (l0 a1 a2 (
 R true) R fuel 0)
noncomputable def g := seal_ b
theorem e : g = b := seal_eq b
noncomputable def a : Fn [.z, .z] St := fun a1 a2 => argSt [one (.tr 0 1 [.int .i64] (.ints a1)), one (.tr 0 1 [.int .i64] (.ints a2))] [] []
noncomputable def con := conOf 93 [.z, .z] [.b] a g m
theorem hx (K : Res → O) : CtxOk Pg Γ0 byt0 eqs0 (X K) [] := ctx_of (X := X) .nil (by kernel_rfl) K
theorem w0 (K : Res → O) : LpSound Pg (X K) 0 b0 := lp_fin (L := [n0 K]) laid (hx K) .nil (.cons (ent_ok (fun x3 x4 k r => l0s x3 x4 r (k (o0 x3 x4)) (fun r1 => K (m [] [] r1))) (by kernel_rfl) (by kernel_rfl) (by kernel_rfl) (by kernel_rfl) (by kernel_rfl)) .nil) (by kernel_rfl) (by kernel_rfl)
theorem ok : Con Pg con := con_fin (fn := Tryz.f93) (c := c) (Fi := fi) (X := X) laid hx (fun K => (.cons (w0 K) .nil)) e (by kernel_rfl) (by kernel_rfl) (by kernel_rfl) (by kernel_rfl)
end spec_l2Same
namespace spec_l15Shape
noncomputable def c : Code := bodyOf Tryz.f56
noncomputable def fi : Fin := ⟨Γ0, [(.tmp 6, 28), (.tmp 7, 4)], [[0], [1]], [], [], []⟩
noncomputable def m : Fn [.l, .i, .i, .l] (Fn [.z, .b] Res) := fun _ _ _ _ r1 r2 => ⟨[⟨false, [.tr 2 2 [.int .i64] (.ints r1)]⟩, ⟨false, [.bool r2]⟩], [], [], [], []⟩
noncomputable def b0 : Code := codeAt c [1, 1, 0, 1, 0, 0]
noncomputable def l0s (x5 x6 : List (List Cl)) (x9 x10 : Int) (rec : List Int → Int → O) (k : List Int → O) (R : List Int → Bool → O) (x7 : List Int) (x8 : Int) : O :=
 bif decide (x8 < x10) then (bif decide (0 ≤ x8) && decide (x8 < (x5.length : Int)) then (bif (((x5.getD x8.toNat []).getD 0 (.i 0)).toI != 1) then (bif decide (0 ≤ x8) && decide (x8 < (x5.length : Int)) then (bif (((x5.getD x8.toNat []).getD 0 (.i 0)).toI != 2) then rec x7 (IntKind.i64.wrap (x8 + 1))
  else bif decide (0 ≤ x8) && decide (x8 < (x5.length : Int)) then (spec_l15Array.g (((x5.getD x8.toNat []).getD 0 (.i 0)).toI) (((x5.getD x8.toNat []).getD 1 (.i 0)).toI) (((x5.getD x8.toNat []).getD 2 (.i 0)).toI) (((x5.getD x8.toNat []).getD 3 (.i 0)).toI) (((x5.getD x8.toNat []).getD 4 (.i 0)).toI) (((x5.getD x8.toNat []).getD 5 (.i 0)).toL) x6 fun r11 r12 r13 =>
   bif !r13 then R x7 false
   else bif ((r12.length : Int) == 0) then R x7 false
   else bif decide (0 < (r11.length : Int)) then (bif decide (0 < (x7.length : Int)) then (spec_l2Same.g r11 x7 fun r14 =>
    bif !r14 then R x7 false
    else bif decide (0 < (r11.length : Int)) then rec r11 (IntKind.i64.wrap (x8 + 1))
    else rec x7 (IntKind.i64.wrap (x8 + 1)))
    else bif decide (0 < (r11.length : Int)) then rec r11 (IntKind.i64.wrap (x8 + 1))
    else rec x7 (IntKind.i64.wrap (x8 + 1)))
   else bif decide (0 < (r11.length : Int)) then rec r11 (IntKind.i64.wrap (x8 + 1))
   else rec x7 (IntKind.i64.wrap (x8 + 1)))
  else none)
  else none)
  else bif decide (0 ≤ x8) && decide (x8 < (x5.length : Int)) then (spec_l15Array.g (((x5.getD x8.toNat []).getD 0 (.i 0)).toI) (((x5.getD x8.toNat []).getD 1 (.i 0)).toI) (((x5.getD x8.toNat []).getD 2 (.i 0)).toI) (((x5.getD x8.toNat []).getD 3 (.i 0)).toI) (((x5.getD x8.toNat []).getD 4 (.i 0)).toI) (((x5.getD x8.toNat []).getD 5 (.i 0)).toL) x6 fun r15 r16 r17 =>
   bif !r17 then R x7 false
   else bif ((r16.length : Int) == 0) then R x7 false
   else bif decide (0 < (r15.length : Int)) then (bif decide (0 < (x7.length : Int)) then (spec_l2Same.g r15 x7 fun r18 =>
    bif !r18 then R x7 false
    else bif decide (0 < (r15.length : Int)) then rec r15 (IntKind.i64.wrap (x8 + 1))
    else rec x7 (IntKind.i64.wrap (x8 + 1)))
    else bif decide (0 < (r15.length : Int)) then rec r15 (IntKind.i64.wrap (x8 + 1))
    else rec x7 (IntKind.i64.wrap (x8 + 1)))
   else bif decide (0 < (r15.length : Int)) then rec r15 (IntKind.i64.wrap (x8 + 1))
   else rec x7 (IntKind.i64.wrap (x8 + 1)))
  else none)
  else none)
 else k x7
noncomputable def l0 (x5 x6 : List (List Cl)) (x9 x10 : Int) (k : List Int → O) (R : List Int → Bool → O) : Nat → List Int → Int → O
 | 0, _, _ => none
 | n + 1, x7, x8 => l0s x5 x6 x9 x10 (l0 x5 x6 x9 x10 k R n) k R x7 x8
noncomputable def o0 : Fn [.l, .l, .i, .i, .z] St := fun _ _ _ _ y1 => ⟨mkT 80 [(8, one (.tr 2 2 [.int .i64] (.ints y1)))], [], []⟩
noncomputable def n0 (K : Res → O) := ent 0 [.l, .l, .i, .i] [.z, .i] [0, 1, 4, 5, 2, 3] (fun x5 x6 x9 x10 x7 x8 => ⟨mkT 80 [(0, one (.tr 0 1 e_0 (.cells x5))), (2, one (.tr 0 2 e_1 (.cells x6))), (4, one (.bp 1000 0)), (8, one (.tr 2 2 [.int .i64] (.ints x7))), (9, oI x8)], [], [(1000, [cI x9, cI x10])]⟩) fun x5 x6 x9 x10 k => l0 x5 x6 x9 x10 (fun y1 => k (o0 x5 x6 x9 x10 y1)) (fun r1 r2 => K (m [] (0 : Int) (0 : Int) [] r1 r2))
noncomputable def X (K : Res → O) : Ctx := { cx0 [spec_l15Array.con, spec_l2Same.con] fi true K with io := [(92, [⟨false, 0, 1⟩, ⟨false, 0, 2⟩])], cin := [(0, ⟨[0, 2, 4, 8, 9], [(3048, 3048)], [1000], [], [], [(16, 0, 2, 2, [.int .i64])]⟩)], cout := [(0, ⟨[8], [], [], [], [], []⟩)], lp := lpOf [n0 K] }
noncomputable def b (a1 : List (List Cl)) (a2 a3 : Int) (a4 : List (List Cl)) (R : List Int → Bool → O) : O :=
 l0 a1 a4 a2 a3 (fun y19 =>
 bif decide ((0 + y19.length) * 8 ≤ 140737488355328) then R (([] : List Int) ++ y19) true
 else none) R fuel ([] : List Int) a2
noncomputable def g := seal_ b
theorem e : g = b := seal_eq b
noncomputable def a : Fn [.l, .i, .i, .l] St := fun a1 a2 a3 a4 => argSt [one (.tr 0 1 e_0 (.cells a1)), .v ⟨true, [cI a2, cI a3]⟩, one (.tr 0 2 e_1 (.cells a4))] [] []
noncomputable def con := conOf 56 [.l, .i, .i, .l] [.z, .b] a g m
theorem hx (K : Res → O) : CtxOk Pg Γ0 byt0 eqs0 (X K) [spec_l15Array.con, spec_l2Same.con] := ctx_of (X := X) (.cons spec_l15Array.ok (.cons spec_l2Same.ok .nil)) (by kernel_rfl) K
theorem w0 (K : Res → O) : LpSound Pg (X K) 0 b0 := lp_fin (L := [n0 K]) laid (hx K) .nil (.cons (ent_ok (fun x5 x6 x9 x10 k r => l0s x5 x6 x9 x10 r (fun y1 => k (o0 x5 x6 x9 x10 y1)) (fun r1 r2 => K (m [] (0 : Int) (0 : Int) [] r1 r2))) (by kernel_rfl) (by kernel_rfl) (by kernel_rfl) (by kernel_rfl) (by kernel_rfl)) .nil) (by kernel_rfl) (by kernel_rfl)
theorem ok : Con Pg con := con_fin (fn := Tryz.f56) (c := c) (Fi := fi) (X := X) laid hx (fun K => (.cons (w0 K) .nil)) e (by kernel_rfl) (by kernel_rfl) (by kernel_rfl) (by kernel_rfl)
end spec_l15Shape
namespace spec_l1Bit
noncomputable def c : Code := bodyOf Tryz.f124
noncomputable def fi : Fin := ⟨Γ0, [(.tmp 2, 3)], [[1]], [], [], []⟩
noncomputable def m : Fn [.b] (Fn [.i] Res) := fun _ r1 => ⟨[⟨false, [cI r1]⟩], [], [], [], []⟩
noncomputable def X (K : Res → O) : Ctx := cx0 [] fi true K
noncomputable def b (a1 : Bool) (R : Int → O) : O :=
 bif a1 then R 1
 else R 0
noncomputable def g := seal_ b
theorem e : g = b := seal_eq b
noncomputable def a : Fn [.b] St := fun a1 => argSt [one (.bool a1)] [] []
noncomputable def con := conOf 124 [.b] [.i] a g m
theorem ok : Con Pg con := con_fin (fn := Tryz.f124) (c := c) (Fi := fi) (X := X) laid (ctx_of .nil (by kernel_rfl)) (fun K => .nil) e (by kernel_rfl) (by kernel_rfl) (by kernel_rfl) (by kernel_rfl)
end spec_l1Bit
namespace spec_l1Max
noncomputable def c : Code := bodyOf Tryz.f125
noncomputable def fi : Fin := ⟨Γ0, [(.tmp 4, 3)], [[1]], [], [], []⟩
noncomputable def m : Fn [.i, .i] (Fn [.i] Res) := fun _ _ r1 => ⟨[⟨false, [cI r1]⟩], [], [], [], []⟩
noncomputable def X (K : Res → O) : Ctx := cx0 [] fi true K
noncomputable def b (a1 a2 : Int) (R : Int → O) : O :=
 bif decide (a2 < a1) then R a1
 else R a2
noncomputable def g := seal_ b
theorem e : g = b := seal_eq b
noncomputable def a : Fn [.i, .i] St := fun a1 a2 => argSt [oI a1, oI a2] [] []
noncomputable def con := conOf 125 [.i, .i] [.i] a g m
theorem ok : Con Pg con := con_fin (fn := Tryz.f125) (c := c) (Fi := fi) (X := X) laid (ctx_of .nil (by kernel_rfl)) (fun K => .nil) e (by kernel_rfl) (by kernel_rfl) (by kernel_rfl) (by kernel_rfl)
end spec_l1Max
namespace spec_One
noncomputable def c : Code := bodyOf Tryz.f94
noncomputable def fi : Fin := ⟨Γ0, [(.tmp 4, 3), (.tmp 5, 3)], [[1], [1]], [], [], []⟩
noncomputable def m : Fn [.i, .i] (Fn [.i, .i] Res) := fun _ _ r1 r2 => ⟨[⟨false, [cI r1]⟩, ⟨false, [cI r2]⟩], [], [], [], []⟩
noncomputable def X (K : Res → O) : Ctx := cx0 [spec_l1Sign1.con, spec_NumOk.con, spec_l1Bit.con, spec_l1Max.con, spec_l1In.con] fi true K
noncomputable def b (a1 a2 : Int) (R : Int → Int → O) : O :=
 spec_l1Sign1.g a1 fun r3 =>
 bif !r3 then R 0 1
 else (spec_NumOk.g a2 fun r4 =>
 bif !r4 then R 0 1
 else bif (a1 == 45) then R (IntKind.i64.wrap (0 - a2)) 0
 else bif (a1 == 42) then (spec_l1Bit.g (decide (0 < a2)) fun r5 =>
  spec_l1Bit.g (decide (a2 < 0)) fun r6 =>
  R (IntKind.i64.wrap (r5 - r6)) 0)
 else bif (a1 == 124) then (spec_l1Max.g a2 (IntKind.i64.wrap (0 - a2)) fun r7 =>
  R r7 0)
 else bif (a1 == 126) then (spec_l1In.g a2 0 1 fun r8 =>
  bif !r8 then R 0 2
  else R (IntKind.i64.wrap (1 - a2)) 0)
 else R a2 0)
noncomputable def g := seal_ b
theorem e : g = b := seal_eq b
noncomputable def a : Fn [.i, .i] St := fun a1 a2 => argSt [oI a1, oI a2] [] []
noncomputable def con := conOf 94 [.i, .i] [.i, .i] a g m
theorem ok : Con Pg con := con_fin (fn := Tryz.f94) (c := c) (Fi := fi) (X := X) laid (ctx_of (.cons spec_l1Sign1.ok (.cons spec_NumOk.ok (.cons spec_l1Bit.ok (.cons spec_l1Max.ok (.cons spec_l1In.ok .nil))))) (by kernel_rfl)) (fun K => .nil) e (by kernel_rfl) (by kernel_rfl) (by kernel_rfl) (by kernel_rfl)
end spec_One
namespace spec_l1Times
noncomputable def c : Code := bodyOf Tryz.f126
noncomputable def fi : Fin := ⟨Γ0, [(.tmp 4, 3), (.tmp 5, 4)], [[1], [1]], [], [], []⟩
noncomputable def m : Fn [.i, .i] (Fn [.i, .b] Res) := fun _ _ r1 r2 => ⟨[⟨false, [cI r1]⟩, ⟨false, [.bool r2]⟩], [], [], [], []⟩
noncomputable def X (K : Res → O) : Ctx := cx0 [spec_l1Max.con] fi true K
noncomputable def b (a1 a2 : Int) (R : Int → Bool → O) : O :=
 bif (a1 == 0) then R 0 true
 else bif (a2 == 0) then R 0 true
 else (spec_l1Max.g a1 (IntKind.i64.wrap (0 - a1)) fun r3 =>
 spec_l1Max.g a2 (IntKind.i64.wrap (0 - a2)) fun r4 =>
 bif decide (r4 = 0) then none
 else bif decide (IntKind.i64.wrap ((1000000000000 : Int).tdiv r4) < r3) then R 0 false
 else R (IntKind.i64.wrap (a1 * a2)) true)
noncomputable def g := seal_ b
theorem e : g = b := seal_eq b
noncomputable def a : Fn [.i, .i] St := fun a1 a2 => argSt [oI a1, oI a2] [] []
noncomputable def con := conOf 126 [.i, .i] [.i, .b] a g m
theorem ok : Con Pg con := con_fin (fn := Tryz.f126) (c := c) (Fi := fi) (X := X) laid (ctx_of (.cons spec_l1Max.ok .nil) (by kernel_rfl)) (fun K => .nil) e (by kernel_rfl) (by kernel_rfl) (by kernel_rfl) (by kernel_rfl)
end spec_l1Times
namespace spec_l1Floor
noncomputable def c : Code := bodyOf Tryz.f127
noncomputable def fi : Fin := ⟨Γ0, [(.tmp 4, 3)], [[1]], [], [], []⟩
noncomputable def m : Fn [.i, .i] (Fn [.i] Res) := fun _ _ r1 => ⟨[⟨false, [cI r1]⟩], [], [], [], []⟩
noncomputable def X (K : Res → O) : Ctx := cx0 [] fi true K
noncomputable def b (a1 a2 : Int) (R : Int → O) : O :=
 bif decide (a2 = 0) then none
 else bif decide (a2 = 0) then none
 else bif (a1.tmod a2 != 0) then (bif ((decide (a1 < 0)) != (decide (a2 < 0))) then R (IntKind.i64.wrap ((IntKind.i64.wrap (a1.tdiv a2)) - 1))
  else R (IntKind.i64.wrap (a1.tdiv a2)))
 else R (IntKind.i64.wrap (a1.tdiv a2))
noncomputable def g := seal_ b
theorem e : g = b := seal_eq b
noncomputable def a : Fn [.i, .i] St := fun a1 a2 => argSt [oI a1, oI a2] [] []
noncomputable def con := conOf 127 [.i, .i] [.i] a g m
theorem ok : Con Pg con := con_fin (fn := Tryz.f127) (c := c) (Fi := fi) (X := X) laid (ctx_of .nil (by kernel_rfl)) (fun K => .nil) e (by kernel_rfl) (by kernel_rfl) (by kernel_rfl) (by kernel_rfl)
end spec_l1Floor
namespace spec_l1Min
noncomputable def c : Code := bodyOf Tryz.f128
noncomputable def fi : Fin := ⟨Γ0, [(.tmp 4, 3)], [[1]], [], [], []⟩
noncomputable def m : Fn [.i, .i] (Fn [.i] Res) := fun _ _ r1 => ⟨[⟨false, [cI r1]⟩], [], [], [], []⟩
noncomputable def X (K : Res → O) : Ctx := cx0 [] fi true K
noncomputable def b (a1 a2 : Int) (R : Int → O) : O :=
 bif decide (a1 < a2) then R a1
 else R a2
noncomputable def g := seal_ b
theorem e : g = b := seal_eq b
noncomputable def a : Fn [.i, .i] St := fun a1 a2 => argSt [oI a1, oI a2] [] []
noncomputable def con := conOf 128 [.i, .i] [.i] a g m
theorem ok : Con Pg con := con_fin (fn := Tryz.f128) (c := c) (Fi := fi) (X := X) laid (ctx_of .nil (by kernel_rfl)) (fun K => .nil) e (by kernel_rfl) (by kernel_rfl) (by kernel_rfl) (by kernel_rfl)
end spec_l1Min
namespace spec_Two
noncomputable def c : Code := bodyOf Tryz.f95
noncomputable def fi : Fin := ⟨Γ0, [(.tmp 6, 3), (.tmp 7, 3)], [[1], [1]], [], [], []⟩
noncomputable def m : Fn [.i, .i, .i] (Fn [.i, .i] Res) := fun _ _ _ r1 r2 => ⟨[⟨false, [cI r1]⟩, ⟨false, [cI r2]⟩], [], [], [], []⟩
noncomputable def X (K : Res → O) : Ctx := cx0 [spec_l1Sign2.con, spec_NumOk.con, spec_l1Times.con, spec_l1Floor.con, spec_l1Min.con, spec_l1Max.con, spec_l1Bit.con] fi true K
noncomputable def b (a1 a2 a3 : Int) (R : Int → Int → O) : O :=
 spec_l1Sign2.g a1 fun r4 =>
 bif !r4 then R 0 1
 else (spec_NumOk.g a2 fun r5 =>
 bif !r5 then R 0 1
 else (spec_NumOk.g a3 fun r6 =>
 bif !r6 then R 0 1
 else bif (a1 == 43) then (spec_NumOk.g (IntKind.i64.wrap (a2 + a3)) fun r7 =>
  bif !r7 then R 0 6
  else R (IntKind.i64.wrap (a2 + a3)) 0)
 else bif (a1 == 45) then (spec_NumOk.g (IntKind.i64.wrap (a2 - a3)) fun r8 =>
  bif !r8 then R 0 6
  else R (IntKind.i64.wrap (a2 - a3)) 0)
 else bif (a1 == 42) then (spec_l1Times.g a2 a3 fun r9 r10 =>
  bif !r10 then R 0 6
  else (spec_NumOk.g r9 fun r11 =>
  bif !r11 then R 0 6
  else R r9 0))
 else bif (a1 == 37) then (bif (a3 == 0) then R 0 2
  else (spec_l1Floor.g a2 a3 fun r12 =>
  spec_NumOk.g r12 fun r13 =>
  bif !r13 then R 0 6
  else R r12 0))
 else bif (a1 == 124) then (bif (a2 != 0) then (spec_l1Floor.g a3 a2 fun r14 =>
  spec_NumOk.g (IntKind.i64.wrap (a3 - (IntKind.i64.wrap (a2 * r14)))) fun r15 =>
  bif !r15 then R 0 6
  else R (IntKind.i64.wrap (a3 - (IntKind.i64.wrap (a2 * r14)))) 0)
  else (spec_NumOk.g a3 fun r16 =>
  bif !r16 then R 0 6
  else R a3 0))
 else bif (a1 == 38) then (spec_l1Min.g a2 a3 fun r17 =>
  spec_NumOk.g r17 fun r18 =>
  bif !r18 then R 0 6
  else R r17 0)
 else bif (a1 == 94) then (spec_l1Max.g a2 a3 fun r19 =>
  spec_NumOk.g r19 fun r20 =>
  bif !r20 then R 0 6
  else R r19 0)
 else bif (a1 == 61) then (spec_l1Bit.g (a2 == a3) fun r21 =>
  spec_NumOk.g r21 fun r22 =>
  bif !r22 then R 0 6
  else R r21 0)
 else bif (a1 == 60) then (spec_l1Bit.g (decide (a2 < a3)) fun r23 =>
  spec_NumOk.g r23 fun r24 =>
  bif !r24 then R 0 6
  else R r23 0)
 else bif (a1 == 62) then (spec_l1Bit.g (decide (a3 < a2)) fun r25 =>
  spec_NumOk.g r25 fun r26 =>
  bif !r26 then R 0 6
  else R r25 0)
 else (spec_NumOk.g 0 fun r27 =>
 bif !r27 then R 0 6
 else R 0 0)))
noncomputable def g := seal_ b
theorem e : g = b := seal_eq b
noncomputable def a : Fn [.i, .i, .i] St := fun a1 a2 a3 => argSt [oI a1, oI a2, oI a3] [] []
noncomputable def con := conOf 95 [.i, .i, .i] [.i, .i] a g m
theorem ok : Con Pg con := con_fin (fn := Tryz.f95) (c := c) (Fi := fi) (X := X) laid (ctx_of (.cons spec_l1Sign2.ok (.cons spec_NumOk.ok (.cons spec_l1Times.ok (.cons spec_l1Floor.ok (.cons spec_l1Min.ok (.cons spec_l1Max.ok (.cons spec_l1Bit.ok .nil))))))) (by kernel_rfl)) (fun K => .nil) e (by kernel_rfl) (by kernel_rfl) (by kernel_rfl) (by kernel_rfl)
end spec_Two
namespace spec_l4Of
noncomputable def c : Code := bodyOf Tryz.f96
noncomputable def fi : Fin := ⟨Γ0, [(.tmp 4, 3)], [[1]], [], [], []⟩
noncomputable def m : Fn [.z, .z, .i] (Fn [.i] Res) := fun _ _ _ r1 => ⟨[⟨false, [cI r1]⟩], [], [], [], []⟩
noncomputable def X (K : Res → O) : Ctx := cx0 [] fi true K
noncomputable def b (a1 a2 : List Int) (a3 : Int) (R : Int → O) : O :=
 bif ((a1.length : Int) == 0) then (bif decide (0 < (a2.length : Int)) then R (a2.getD 0 0)
  else none)
 else bif decide (0 ≤ a3) && decide (a3 < (a2.length : Int)) then R (a2.getD a3.toNat 0)
 else none
noncomputable def g := seal_ b
theorem e : g = b := seal_eq b
noncomputable def a : Fn [.z, .z, .i] St := fun a1 a2 a3 => argSt [.v ⟨true, [.tr 0 1 [.int .i64] (.ints a1), .tr 0 1 [.int .i64] (.ints a2)]⟩, oI a3] [] []
noncomputable def con := conOf 96 [.z, .z, .i] [.i] a g m
theorem ok : Con Pg con := con_fin (fn := Tryz.f96) (c := c) (Fi := fi) (X := X) laid (ctx_of .nil (by kernel_rfl)) (fun K => .nil) e (by kernel_rfl) (by kernel_rfl) (by kernel_rfl) (by kernel_rfl)
end spec_l4Of
namespace spec_l15Cell
noncomputable def c : Code := bodyOf Tryz.f58
noncomputable def fi : Fin := ⟨Γ0, [(.tmp 8, 3), (.tmp 9, 4)], [[1], [1]], [], [], []⟩
noncomputable def m : Fn [.l, .i, .i, .l, .i] (Fn [.i, .b] Res) := fun _ _ _ _ _ r1 r2 => ⟨[⟨false, [cI r1]⟩, ⟨false, [.bool r2]⟩], [], [], [], []⟩
noncomputable def b0 : Code := codeAt c [1, 1, 0, 1, 0, 0]
noncomputable def l0s (x6 x7 : List (List Cl)) (x8 x11 x12 : Int) (rec : Int → List Int → O) (k : List Int → O) (R : Int → Bool → O) (x9 : Int) (x10 : List Int) : O :=
 bif decide (x9 < x12) then (bif decide (0 ≤ x9) && decide (x9 < (x6.length : Int)) then (bif (((x6.getD x9.toNat []).getD 0 (.i 0)).toI == 4) then (bif decide (0 ≤ IntKind.i64.wrap ((x10.length : Int) - 1)) && decide (IntKind.i64.wrap ((x10.length : Int) - 1) < (x10.length : Int)) then (spec_One.g (((x6.getD x9.toNat []).getD 2 (.i 0)).toI) (x10.getD ((IntKind.i64.wrap ((x10.length : Int) - 1)).toNat) 0) fun r13 r14 =>
  bif (r14 != 0) then R 0 false
  else bif decide (0 ≤ IntKind.i64.wrap ((x10.length : Int) - 1)) && decide (IntKind.i64.wrap ((x10.length : Int) - 1) < (x10.length : Int)) then rec (IntKind.i64.wrap (x9 + 1)) (x10.set ((IntKind.i64.wrap ((x10.length : Int) - 1)).toNat) r13)
  else none)
  else none)
  else bif (((x6.getD x9.toNat []).getD 0 (.i 0)).toI == 5) then (bif decide (0 ≤ IntKind.i64.wrap ((x10.length : Int) - 1)) && decide (IntKind.i64.wrap ((x10.length : Int) - 1) < (x10.length : Int)) then (bif decide (0 ≤ IntKind.i64.wrap ((x10.length : Int) - 2)) && decide (IntKind.i64.wrap ((x10.length : Int) - 2) < (x10.length : Int)) then (spec_Two.g (((x6.getD x9.toNat []).getD 2 (.i 0)).toI) (x10.getD ((IntKind.i64.wrap ((x10.length : Int) - 1)).toNat) 0) (x10.getD ((IntKind.i64.wrap ((x10.length : Int) - 2)).toNat) 0) fun r15 r16 =>
   bif (r16 != 0) then R 0 false
   else bif decide (0 ≤ IntKind.i64.wrap ((x10.length : Int) - 2)) && decide (IntKind.i64.wrap ((x10.length : Int) - 2) ≤ (x10.length : Int)) then (bif decide (((IntKind.i64.wrap ((x10.length : Int) - 2)).toNat + 1) * 8 ≤ 140737488355328) then rec (IntKind.i64.wrap (x9 + 1)) ((x10.take ((IntKind.i64.wrap ((x10.length : Int) - 2)).toNat)) ++ ([r15] : List Int))
    else none)
   else none)
   else none)
   else none)
  else (spec_l15Array.g (((x6.getD x9.toNat []).getD 0 (.i 0)).toI) (((x6.getD x9.toNat []).getD 1 (.i 0)).toI) (((x6.getD x9.toNat []).getD 2 (.i 0)).toI) (((x6.getD x9.toNat []).getD 3 (.i 0)).toI) (((x6.getD x9.toNat []).getD 4 (.i 0)).toI) (((x6.getD x9.toNat []).getD 5 (.i 0)).toL) x7 fun r17 r18 r19 =>
  spec_l4Of.g r17 r18 x8 fun r20 =>
  bif decide ((x10.length + 1) * 8 ≤ 140737488355328) then rec (IntKind.i64.wrap (x9 + 1)) (x10 ++ ([r20] : List Int))
  else none))
  else none)
 else k x10
noncomputable def l0 (x6 x7 : List (List Cl)) (x8 x11 x12 : Int) (k : List Int → O) (R : Int → Bool → O) : Nat → Int → List Int → O
 | 0, _, _ => none
 | n + 1, x9, x10 => l0s x6 x7 x8 x11 x12 (l0 x6 x7 x8 x11 x12 k R n) k R x9 x10
noncomputable def o0 : Fn [.l, .l, .i, .i, .i, .z] St := fun _ _ _ _ _ y1 => ⟨mkT 101 [(10, one (.ow 3048))], [(3048, ⟨[.int .i64], .ints y1, true, 0, none⟩)], []⟩
noncomputable def n0 (K : Res → O) := ent 0 [.l, .l, .i, .i, .i] [.i, .z] [0, 1, 2, 5, 6, 3, 4] (fun x6 x7 x8 x11 x12 x9 x10 => ⟨mkT 101 [(0, one (.tr 0 1 e_0 (.cells x6))), (2, one (.tr 0 2 e_1 (.cells x7))), (3, oI x8), (5, one (.bp 1000 0)), (10, one (.ow 3048)), (11, oI x9)], [(3048, ⟨[.int .i64], .ints x10, true, 0, none⟩)], [(1000, [cI x11, cI x12])]⟩) fun x6 x7 x8 x11 x12 k => l0 x6 x7 x8 x11 x12 (fun y1 => k (o0 x6 x7 x8 x11 x12 y1)) (fun r1 r2 => K (m [] (0 : Int) (0 : Int) [] (0 : Int) r1 r2))
noncomputable def X (K : Res → O) : Ctx := { cx0 [spec_One.con, spec_Two.con, spec_l15Array.con, spec_l4Of.con] fi true K with io := [(92, [⟨false, 0, 1⟩, ⟨false, 0, 2⟩])], cin := [(0, ⟨[0, 2, 3, 5, 10, 11], [(3048, 3048), (40008, 3048), (19512, 3048)], [1000], [], [], []⟩)], cout := [(0, ⟨[10], [(3048, 3048)], [], [], [], []⟩)], lp := lpOf [n0 K] }
noncomputable def b (a1 : List (List Cl)) (a2 a3 : Int) (a4 : List (List Cl)) (a5 : Int) (R : Int → Bool → O) : O :=
 l0 a1 a4 a5 a2 a3 (fun y21 =>
 bif decide (0 < (y21.length : Int)) then R (y21.getD 0 0) true
 else none) R fuel a2 ([] : List Int)
noncomputable def g := seal_ b
theorem e : g = b := seal_eq b
noncomputable def a : Fn [.l, .i, .i, .l, .i] St := fun a1 a2 a3 a4 a5 => argSt [one (.tr 0 1 e_0 (.cells a1)), .v ⟨true, [cI a2, cI a3]⟩, one (.tr 0 2 e_1 (.cells a4)), oI a5] [] []
noncomputable def con := conOf 58 [.l, .i, .i, .l, .i] [.i, .b] a g m
theorem hx (K : Res → O) : CtxOk Pg Γ0 byt0 eqs0 (X K) [spec_One.con, spec_Two.con, spec_l15Array.con, spec_l4Of.con] := ctx_of (X := X) (.cons spec_One.ok (.cons spec_Two.ok (.cons spec_l15Array.ok (.cons spec_l4Of.ok .nil)))) (by kernel_rfl) K
theorem w0 (K : Res → O) : LpSound Pg (X K) 0 b0 := lp_fin (L := [n0 K]) laid (hx K) .nil (.cons (ent_ok (fun x6 x7 x8 x11 x12 k r => l0s x6 x7 x8 x11 x12 r (fun y1 => k (o0 x6 x7 x8 x11 x12 y1)) (fun r1 r2 => K (m [] (0 : Int) (0 : Int) [] (0 : Int) r1 r2))) (by kernel_rfl) (by kernel_rfl) (by kernel_rfl) (by kernel_rfl) (by kernel_rfl)) .nil) (by kernel_rfl) (by kernel_rfl)
theorem ok : Con Pg con := con_fin (fn := Tryz.f58) (c := c) (Fi := fi) (X := X) laid hx (fun K => (.cons (w0 K) .nil)) e (by kernel_rfl) (by kernel_rfl) (by kernel_rfl) (by kernel_rfl)
end spec_l15Cell
namespace spec_l15Try
noncomputable def c : Code := bodyOf Tryz.f28
noncomputable def fi : Fin := ⟨Γ0, [(.cell 6 30, 30), (.tmp 7, 4)], [[0, 1], [1]], [], [], []⟩
noncomputable def m : Fn [.l, .i, .i, .l] (Fn [.z, .z, .b] Res) := fun _ _ _ _ r1 r2 r3 => ⟨[⟨true, [.tr 2 2 [.int .i64] (.ints r1), .ow 1000]⟩, ⟨false, [.bool r3]⟩], [], [⟨[.int .i64], .ints r2, true, 0, none⟩], [], []⟩
noncomputable def b0 : Code := codeAt c [1, 1, 1, 1, 0, 1, 0, 0]
noncomputable def l0s (x7 x8 : List (List Cl)) (x9 : List Int) (x12 x13 : Int) (x14 : List Int) (rec : Int → List Int → O) (k : List Int → O) (R : List Int → List Int → Bool → O) (x10 : Int) (x11 : List Int) : O :=
 spec_SizeOf.g x9 fun r15 =>
 bif decide (x10 < r15) then (spec_l15Cell.g x7 x12 x13 x8 x10 fun r16 r17 =>
  bif !r17 then R ([] : List Int) ([] : List Int) false
  else bif decide ((x11.length + 1) * 8 ≤ 140737488355328) then rec (IntKind.i64.wrap (x10 + 1)) (x11 ++ ([r16] : List Int))
  else none)
 else k x11
noncomputable def l0 (x7 x8 : List (List Cl)) (x9 : List Int) (x12 x13 : Int) (x14 : List Int) (k : List Int → O) (R : List Int → List Int → Bool → O) : Nat → Int → List Int → O
 | 0, _, _ => none
 | n + 1, x10, x11 => l0s x7 x8 x9 x12 x13 x14 (l0 x7 x8 x9 x12 x13 x14 k R n) k R x10 x11
noncomputable def o0 : Fn [.l, .l, .z, .i, .i, .z, .z] St := fun _ _ _ _ _ x14 y1 => ⟨mkT 50 [(6, one (.bp 1016 0)), (10, one (.bp 9224 0))], [(9217, ⟨[.int .i64], .ints y1, true, 0, none⟩)], [(1016, [.nil, .nil]), (9224, [.tr 2 2 [.int .i64] (.ints x14), .ow 9217])]⟩
noncomputable def n0 (K : Res → O) := ent 0 [.l, .l, .z, .i, .i, .z] [.i, .z] [0, 1, 2, 5, 6, 7, 3, 4] (fun x7 x8 x9 x12 x13 x14 x10 x11 => ⟨mkT 50 [(0, one (.tr 0 1 e_0 (.cells x7))), (2, one (.tr 0 2 e_1 (.cells x8))), (4, one (.bp 1000 0)), (6, one (.bp 1016 0)), (8, one (.tr 2 2 [.int .i64] (.ints x9))), (10, one (.bp 9224 0)), (11, oI x10)], [(9217, ⟨[.int .i64], .ints x11, true, 0, none⟩)], [(1000, [cI x12, cI x13]), (1016, [.nil, .nil]), (9224, [.tr 2 2 [.int .i64] (.ints x14), .ow 9217])]⟩) fun x7 x8 x9 x12 x13 x14 k => l0 x7 x8 x9 x12 x13 x14 (fun y1 => k (o0 x7 x8 x9 x12 x13 x14 y1)) (fun r1 r2 r3 => K (m [] (0 : Int) (0 : Int) [] r1 r2 r3))
noncomputable def X (K : Res → O) : Ctx := { cx0 [spec_l15Shape.con, spec_SizeOf.con, spec_l15Cell.con] fi true K with io := [(56, [⟨false, 0, 1⟩, ⟨false, 0, 1⟩, ⟨false, 0, 2⟩]), (58, [⟨false, 0, 1⟩, ⟨false, 0, 1⟩, ⟨false, 0, 2⟩, ⟨false, 0, 1⟩])], own := [(4, 1, 1, [.int .i64])], cin := [(0, ⟨[0, 2, 4, 6, 8, 10, 11], [(9217, 9217), (23592, 9217)], [1000, 1016, 9224], [], [], []⟩)], cout := [(0, ⟨[6, 10], [(9217, 9217)], [1016, 9224], [], [], []⟩)], lp := lpOf [n0 K] }
noncomputable def b (a1 : List (List Cl)) (a2 a3 : Int) (a4 : List (List Cl)) (R : List Int → List Int → Bool → O) : O :=
 spec_l15Shape.g a1 a2 a3 a4 fun r5 r6 =>
 bif !r6 then R ([] : List Int) ([] : List Int) false
 else (l0 a1 a4 r5 a2 a3 r5 (fun y18 =>
 R r5 y18 true) R fuel 0 ([] : List Int))
noncomputable def g := seal_ b
theorem e : g = b := seal_eq b
noncomputable def a : Fn [.l, .i, .i, .l] St := fun a1 a2 a3 a4 => argSt [one (.tr 0 1 e_0 (.cells a1)), .v ⟨true, [cI a2, cI a3]⟩, one (.tr 0 2 e_1 (.cells a4))] [] []
noncomputable def con := conOf 28 [.l, .i, .i, .l] [.z, .z, .b] a g m
theorem hx (K : Res → O) : CtxOk Pg Γ0 byt0 eqs0 (X K) [spec_l15Shape.con, spec_SizeOf.con, spec_l15Cell.con] := ctx_of (X := X) (.cons spec_l15Shape.ok (.cons spec_SizeOf.ok (.cons spec_l15Cell.ok .nil))) (by kernel_rfl) K
theorem w0 (K : Res → O) : LpSound Pg (X K) 0 b0 := lp_fin (L := [n0 K]) laid (hx K) .nil (.cons (ent_ok (fun x7 x8 x9 x12 x13 x14 k r => l0s x7 x8 x9 x12 x13 x14 r (fun y1 => k (o0 x7 x8 x9 x12 x13 x14 y1)) (fun r1 r2 r3 => K (m [] (0 : Int) (0 : Int) [] r1 r2 r3))) (by kernel_rfl) (by kernel_rfl) (by kernel_rfl) (by kernel_rfl) (by kernel_rfl)) .nil) (by kernel_rfl) (by kernel_rfl)
theorem ok : Con Pg con := con_fin (fn := Tryz.f28) (c := c) (Fi := fi) (X := X) laid hx (fun K => (.cons (w0 K) .nil)) e (by kernel_rfl) (by kernel_rfl) (by kernel_rfl) (by kernel_rfl)
end spec_l15Try
namespace spec_FuseTry
noncomputable def c : Code := bodyOf Tryz.f7
noncomputable def fi : Fin := ⟨Γ0, [(.cell 6 30, 30), (.tmp 7, 4)], [[0, 1], [1]], [], [], []⟩
noncomputable def m : Fn [.l, .i, .i, .l] (Fn [.z, .z, .b] Res) := fun _ _ _ _ r1 r2 r3 => ⟨[⟨true, [.tr 2 2 [.int .i64] (.ints r1), .ow 1000]⟩, ⟨false, [.bool r3]⟩], [], [⟨[.int .i64], .ints r2, true, 0, none⟩], [], []⟩
noncomputable def b0 : Code := codeAt c [1, 1, 1, 0, 1, 0, 0]
noncomputable def l0s (x8 x9 x11 : List (List Cl)) (x12 x13 : Int) (rec : Int → O) (k : O) (R : List Int → List Int → Bool → O) (x10 : Int) : O :=
 bif decide (x10 < (x11.length : Int)) then (bif decide (0 ≤ x10) && decide (x10 < (x11.length : Int)) then (bif ((((x11.getD x10.toNat []).getD 0 (.i 0)).toI == x12) && ((((x11.getD x10.toNat []).getD 1 (.i 0)).toI == x13) && true)) then (spec_l15Try.g x8 x12 x13 x9 fun r14 r15 r16 =>
  R r14 r15 r16)
  else rec (IntKind.i64.wrap (x10 + 1)))
  else none)
 else k
noncomputable def l0 (x8 x9 x11 : List (List Cl)) (x12 x13 : Int) (k : O) (R : List Int → List Int → Bool → O) : Nat → Int → O
 | 0, _ => none
 | n + 1, x10 => l0s x8 x9 x11 x12 x13 (l0 x8 x9 x11 x12 x13 k R n) k R x10
noncomputable def o0 : Fn [.l, .l, .l, .i, .i] St := fun _ _ _ _ _ => ⟨mkT 40 [(6, one (.bp 1016 0))], [], [(1016, [.nil, .nil])]⟩
noncomputable def n0 (K : Res → O) := ent 0 [.l, .l, .l, .i, .i] [.i] [0, 1, 3, 4, 5, 2] (fun x8 x9 x11 x12 x13 x10 => ⟨mkT 40 [(0, one (.tr 0 1 e_0 (.cells x8))), (2, one (.tr 0 2 e_1 (.cells x9))), (4, one (.bp 1000 0)), (6, one (.bp 1016 0)), (8, one (.ow 7161)), (9, oI x10)], [(7161, ⟨e_2, .cells x11, true, 0, none⟩)], [(1000, [cI x12, cI x13]), (1016, [.nil, .nil])]⟩) fun x8 x9 x11 x12 x13 k => l0 x8 x9 x11 x12 x13 (k (o0 x8 x9 x11 x12 x13)) (fun r1 r2 r3 => K (m [] (0 : Int) (0 : Int) [] r1 r2 r3))
noncomputable def X (K : Res → O) : Ctx := { cx0 [spec_CodeOk.con, spec_VarsOk.con, spec_Spans.con, spec_l15Try.con] fi true K with io := [(28, [⟨false, 0, 1⟩, ⟨false, 0, 1⟩, ⟨false, 0, 2⟩])], cin := [(0, ⟨[0, 2, 4, 6, 8, 9], [(7161, 7161)], [1000, 1016], [], [], []⟩)], cout := [(0, ⟨[6], [], [1016], [], [], []⟩)], lp := lpOf [n0 K] }
noncomputable def b (a1 : List (List Cl)) (a2 a3 : Int) (a4 : List (List Cl)) (R : List Int → List Int → Bool → O) : O :=
 spec_CodeOk.g a1 fun r5 =>
 bif !r5 then R ([] : List Int) ([] : List Int) false
 else (spec_VarsOk.g a4 fun r6 =>
 bif !r6 then R ([] : List Int) ([] : List Int) false
 else (spec_Spans.g a1 fun r7 =>
 l0 a1 a4 r7 a2 a3 (
 R ([] : List Int) ([] : List Int) false) R fuel 0))
noncomputable def g := seal_ b
theorem e : g = b := seal_eq b
noncomputable def a : Fn [.l, .i, .i, .l] St := fun a1 a2 a3 a4 => argSt [one (.tr 0 1 e_0 (.cells a1)), .v ⟨true, [cI a2, cI a3]⟩, one (.tr 0 2 e_1 (.cells a4))] [] []
noncomputable def con := conOf 7 [.l, .i, .i, .l] [.z, .z, .b] a g m
theorem hx (K : Res → O) : CtxOk Pg Γ0 byt0 eqs0 (X K) [spec_CodeOk.con, spec_VarsOk.con, spec_Spans.con, spec_l15Try.con] := ctx_of (X := X) (.cons spec_CodeOk.ok (.cons spec_VarsOk.ok (.cons spec_Spans.ok (.cons spec_l15Try.ok .nil)))) (by kernel_rfl) K
theorem w0 (K : Res → O) : LpSound Pg (X K) 0 b0 := lp_fin (L := [n0 K]) laid (hx K) .nil (.cons (ent_ok (fun x8 x9 x11 x12 x13 k r => l0s x8 x9 x11 x12 x13 r (k (o0 x8 x9 x11 x12 x13)) (fun r1 r2 r3 => K (m [] (0 : Int) (0 : Int) [] r1 r2 r3))) (by kernel_rfl) (by kernel_rfl) (by kernel_rfl) (by kernel_rfl) (by kernel_rfl)) .nil) (by kernel_rfl) (by kernel_rfl)
theorem ok : Con Pg con := con_fin (fn := Tryz.f7) (c := c) (Fi := fi) (X := X) laid hx (fun K => (.cons (w0 K) .nil)) e (by kernel_rfl) (by kernel_rfl) (by kernel_rfl) (by kernel_rfl)
end spec_FuseTry
namespace impl_within
noncomputable def c : Code := bodyOf Tryz.f68
noncomputable def fi : Fin := ⟨Γ0, [(.tmp 6, 4)], [[1]], [], [], []⟩
noncomputable def m : Fn [.i, .i, .i] (Fn [.b] Res) := fun _ _ _ r1 => ⟨[⟨false, [.bool r1]⟩], [], [], [], []⟩
noncomputable def X (K : Res → O) : Ctx := cx0 [] fi true K
noncomputable def b (a1 a2 a3 : Int) (R : Bool → O) : O :=
 bif decide (a2 ≤ a1) then R (decide (a1 ≤ a3))
 else R false
noncomputable def g := seal_ b
theorem e : g = b := seal_eq b
noncomputable def a : Fn [.i, .i, .i] St := fun a1 a2 a3 => argSt [oI a1, oI a2, oI a3] [] []
noncomputable def con := conOf 68 [.i, .i, .i] [.b] a g m
theorem ok : Con Pg con := con_fin (fn := Tryz.f68) (c := c) (Fi := fi) (X := X) laid (ctx_of .nil (by kernel_rfl)) (fun K => .nil) e (by kernel_rfl) (by kernel_rfl) (by kernel_rfl) (by kernel_rfl)
end impl_within
namespace impl_SizeOf
noncomputable def c : Code := bodyOf Tryz.f34
noncomputable def fi : Fin := ⟨Γ0, [(.tmp 2, 3)], [[1]], [], [], []⟩
noncomputable def m : Fn [.z] (Fn [.i] Res) := fun _ r1 => ⟨[⟨false, [cI r1]⟩], [], [], [], []⟩
noncomputable def b0 : Code := codeAt c [1, 1, 1, 0, 1, 0, 0]
noncomputable def l0s (x3 : List Int) (x4 : Int) (rec : Int → Int → O) (k : Int → O) (R : Int → O) (x2 x5 : Int) : O :=
 bif decide (x5 < x4) then (bif decide (0 ≤ x5) && decide (x5 < (x3.length : Int)) then (impl_within.g (x3.getD x5.toNat 0) 0 300 fun r6 =>
  bif !r6 then R (-1)
  else rec (IntKind.i64.wrap (x2 * (x3.getD x5.toNat 0))) (IntKind.i64.wrap (x5 + 1)))
  else none)
 else k x2
noncomputable def l0 (x3 : List Int) (x4 : Int) (k : Int → O) (R : Int → O) : Nat → Int → Int → O
 | 0, _, _ => none
 | n + 1, x2, x5 => l0s x3 x4 (l0 x3 x4 k R n) k R x2 x5
noncomputable def o0 : Fn [.z, .i, .i] St := fun _ _ y1 => ⟨mkT 25 [(3, oI y1)], [], []⟩
noncomputable def n0 (K : Res → O) := ent 0 [.z, .i] [.i, .i] [1, 2, 0, 3] (fun x3 x4 x2 x5 => ⟨mkT 25 [(3, oI x2), (9, one (.tr 0 1 [.int .i64] (.ints x3))), (10, oI x4), (11, oI x5)], [], []⟩) fun x3 x4 k => l0 x3 x4 (fun y1 => k (o0 x3 x4 y1)) (fun r1 => K (m [] r1))
noncomputable def X (K : Res → O) : Ctx := { cx0 [impl_within.con] fi true K with cin := [(0, ⟨[3, 9, 10, 11], [], [], [], [], []⟩)], cout := [(0, ⟨[3], [], [], [], [], []⟩)], lp := lpOf [n0 K] }
noncomputable def b (a1 : List Int) (R : Int → O) : O :=
 bif decide (3 < (a1.length : Int)) then R (-1)
 else (l0 a1 (a1.length : Int) (fun y7 =>
 bif decide (300 < y7) then R (-1)
 else R y7) R fuel 1 0)
noncomputable def g := seal_ b
theorem e : g = b := seal_eq b
noncomputable def a : Fn [.z] St := fun a1 => argSt [one (.tr 0 1 [.int .i64] (.ints a1))] [] []
noncomputable def con := conOf 34 [.z] [.i] a g m
theorem hx (K : Res → O) : CtxOk Pg Γ0 byt0 eqs0 (X K) [impl_within.con] := ctx_of (X := X) (.cons impl_within.ok .nil) (by kernel_rfl) K
theorem w0 (K : Res → O) : LpSound Pg (X K) 0 b0 := lp_fin (L := [n0 K]) laid (hx K) .nil (.cons (ent_ok (fun x3 x4 k r => l0s x3 x4 r (fun y1 => k (o0 x3 x4 y1)) (fun r1 => K (m [] r1))) (by kernel_rfl) (by kernel_rfl) (by kernel_rfl) (by kernel_rfl) (by kernel_rfl)) .nil) (by kernel_rfl) (by kernel_rfl)
theorem ok : Con Pg con := con_fin (fn := Tryz.f34) (c := c) (Fi := fi) (X := X) laid hx (fun K => (.cons (w0 K) .nil)) e (by kernel_rfl) (by kernel_rfl) (by kernel_rfl) (by kernel_rfl)
end impl_SizeOf
namespace impl_NumOk
noncomputable def c : Code := bodyOf Tryz.f100
noncomputable def fi : Fin := ⟨Γ0, [(.tmp 2, 4)], [[1]], [], [], []⟩
noncomputable def m : Fn [.i] (Fn [.b] Res) := fun _ r1 => ⟨[⟨false, [.bool r1]⟩], [], [], [], []⟩
noncomputable def X (K : Res → O) : Ctx := cx0 [impl_within.con] fi true K
noncomputable def b (a1 : Int) (R : Bool → O) : O :=
 impl_within.g a1 (-1000000000000) 1000000000000 fun r2 =>
 R r2
noncomputable def g := seal_ b
theorem e : g = b := seal_eq b
noncomputable def a : Fn [.i] St := fun a1 => argSt [oI a1] [] []
noncomputable def con := conOf 100 [.i] [.b] a g m
theorem ok : Con Pg con := con_fin (fn := Tryz.f100) (c := c) (Fi := fi) (X := X) laid (ctx_of (.cons impl_within.ok .nil) (by kernel_rfl)) (fun K => .nil) e (by kernel_rfl) (by kernel_rfl) (by kernel_rfl) (by kernel_rfl)
end impl_NumOk
namespace impl_ArrayOk_1
noncomputable def c : Code := bodyOf Tryz.f99
noncomputable def fi : Fin := ⟨Γ0, [(.tmp 2, 4)], [[1]], [], [], []⟩
noncomputable def m : Fn [.i] (Fn [.b] Res) := fun _ r1 => ⟨[⟨false, [.bool r1]⟩], [], [], [], []⟩
noncomputable def X (K : Res → O) : Ctx := cx0 [impl_NumOk.con] fi true K
noncomputable def b (a1 : Int) (R : Bool → O) : O :=
 impl_NumOk.g a1 fun r2 =>
 R (!r2)
noncomputable def g := seal_ b
theorem e : g = b := seal_eq b
noncomputable def a : Fn [.i] St := fun a1 => argSt [oI a1] [] []
noncomputable def con := conOf 99 [.i] [.b] a g m
theorem ok : Con Pg con := con_fin (fn := Tryz.f99) (c := c) (Fi := fi) (X := X) laid (ctx_of (.cons impl_NumOk.ok .nil) (by kernel_rfl)) (fun K => .nil) e (by kernel_rfl) (by kernel_rfl) (by kernel_rfl) (by kernel_rfl)
end impl_ArrayOk_1
namespace slices_IndexFunc_int_int
noncomputable def c : Code := bodyOf Tryz.f129
noncomputable def fi : Fin := ⟨Γ0, [(.tmp 4, 3)], [[1]], [], [], []⟩
noncomputable def m : Fn [.z] (Fn [.i] Res) := fun _ r1 => ⟨[⟨false, [cI r1]⟩], [], [], [], []⟩
noncomputable def b0 : Code := codeAt c [1, 0, 1, 0, 0]
noncomputable def l0s (x2 : List Int) (x3 : Int) (rec : Int → O) (k : O) (R : Int → O) (x4 : Int) : O :=
 bif decide (x4 < x3) then (bif decide (0 ≤ x4) && decide (x4 < (x2.length : Int)) then (impl_ArrayOk_1.g (x2.getD x4.toNat 0) fun r5 =>
  bif r5 then R x4
  else rec (IntKind.i64.wrap (x4 + 1)))
  else none)
 else k
noncomputable def l0 (x2 : List Int) (x3 : Int) (k : O) (R : Int → O) : Nat → Int → O
 | 0, _ => none
 | n + 1, x4 => l0s x2 x3 (l0 x2 x3 k R n) k R x4
noncomputable def o0 : Fn [.z, .i] St := fun _ _ => ⟨mkT 19 [], [], []⟩
noncomputable def n0 (K : Res → O) := ent 0 [.z, .i] [.i] [0, 1, 2] (fun x2 x3 x4 => ⟨mkT 19 [(0, one (.tr 0 1 [.int .i64] (.ints x2))), (1, one (.fn 99 [])), (7, oI x3), (8, oI x4)], [], []⟩) fun x2 x3 k => l0 x2 x3 (k (o0 x2 x3)) (fun r1 => K (m [] r1))
noncomputable def X (K : Res → O) : Ctx := { cx0 [impl_ArrayOk_1.con] fi true K with cin := [(0, ⟨[0, 1, 7, 8], [], [], [], [], []⟩)], cout := [(0, ⟨[], [], [], [], [], []⟩)], lp := lpOf [n0 K] }
noncomputable def b (a1 : List Int) (R : Int → O) : O :=
 l0 a1 (a1.length : Int) (
 R (-1)) R fuel 0
noncomputable def g := seal_ b
theorem e : g = b := seal_eq b
noncomputable def a : Fn [.z] St := fun a1 => argSt [one (.tr 0 1 [.int .i64] (.ints a1)), one (.fn 99 [])] [] []
noncomputable def con := conOf 129 [.z] [.i] a g m
theorem hx (K : Res → O) : CtxOk Pg Γ0 byt0 eqs0 (X K) [impl_ArrayOk_1.con] := ctx_of (X := X) (.cons impl_ArrayOk_1.ok .nil) (by kernel_rfl) K
theorem w0 (K : Res → O) : LpSound Pg (X K) 0 b0 := lp_fin (L := [n0 K]) laid (hx K) .nil (.cons (ent_ok (fun x2 x3 k r => l0s x2 x3 r (k (o0 x2 x3)) (fun r1 => K (m [] r1))) (by kernel_rfl) (by kernel_rfl) (by kernel_rfl) (by kernel_rfl) (by kernel_rfl)) .nil) (by kernel_rfl) (by kernel_rfl)
theorem ok : Con Pg con := con_fin (fn := Tryz.f129) (c := c) (Fi := fi) (X := X) laid hx (fun K => (.cons (w0 K) .nil)) e (by kernel_rfl) (by kernel_rfl) (by kernel_rfl) (by kernel_rfl)
end slices_IndexFunc_int_int
namespace slices_ContainsFunc_int_int
noncomputable def c : Code := bodyOf Tryz.f98
noncomputable def fi : Fin := ⟨Γ0, [(.tmp 4, 4)], [[1]], [], [], []⟩
noncomputable def m : Fn [.z] (Fn [.b] Res) := fun _ r1 => ⟨[⟨false, [.bool r1]⟩], [], [], [], []⟩
noncomputable def X (K : Res → O) : Ctx := cx0 [slices_IndexFunc_int_int.con] fi true K
noncomputable def b (a1 : List Int) (R : Bool → O) : O :=
 slices_IndexFunc_int_int.g a1 fun r2 =>
 R (decide (0 ≤ r2))
noncomputable def g := seal_ b
theorem e : g = b := seal_eq b
noncomputable def a : Fn [.z] St := fun a1 => argSt [one (.tr 0 1 [.int .i64] (.ints a1)), one (.fn 99 [])] [] []
noncomputable def con := conOf 98 [.z] [.b] a g m
theorem ok : Con Pg con := con_fin (fn := Tryz.f98) (c := c) (Fi := fi) (X := X) laid (ctx_of (.cons slices_IndexFunc_int_int.ok .nil) (by kernel_rfl)) (fun K => .nil) e (by kernel_rfl) (by kernel_rfl) (by kernel_rfl) (by kernel_rfl)
end slices_ContainsFunc_int_int
namespace impl_ArrayOk
noncomputable def c : Code := bodyOf Tryz.f64
noncomputable def fi : Fin := ⟨Γ0, [(.tmp 2, 4)], [[1]], [], [], []⟩
noncomputable def m : Fn [.z, .z] (Fn [.b] Res) := fun _ _ r1 => ⟨[⟨false, [.bool r1]⟩], [], [], [], []⟩
noncomputable def X (K : Res → O) : Ctx := cx0 [impl_SizeOf.con, slices_ContainsFunc_int_int.con] fi true K
noncomputable def b (a1 a2 : List Int) (R : Bool → O) : O :=
 impl_SizeOf.g a1 fun r3 =>
 bif ((a2.length : Int) == r3) then (slices_ContainsFunc_int_int.g a2 fun r4 =>
  R (!r4))
 else R false
noncomputable def g := seal_ b
theorem e : g = b := seal_eq b
noncomputable def a : Fn [.z, .z] St := fun a1 a2 => argSt [.v ⟨true, [.tr 0 1 [.int .i64] (.ints a1), .tr 0 1 [.int .i64] (.ints a2)]⟩] [] []
noncomputable def con := conOf 64 [.z, .z] [.b] a g m
theorem ok : Con Pg con := con_fin (fn := Tryz.f64) (c := c) (Fi := fi) (X := X) laid (ctx_of (.cons impl_SizeOf.ok (.cons slices_ContainsFunc_int_int.ok .nil)) (by kernel_rfl)) (fun K => .nil) e (by kernel_rfl) (by kernel_rfl) (by kernel_rfl) (by kernel_rfl)
end impl_ArrayOk
namespace impl_VarsOk_1
noncomputable def c : Code := bodyOf Tryz.f63
noncomputable def fi : Fin := ⟨Γ0, [(.tmp 2, 4)], [[1]], [], [], []⟩
noncomputable def m : Fn [.b, .z, .z] (Fn [.b] Res) := fun _ _ _ r1 => ⟨[⟨false, [.bool r1]⟩], [], [], [], []⟩
noncomputable def X (K : Res → O) : Ctx := cx0 [impl_ArrayOk.con] fi true K
noncomputable def b (a1 : Bool) (a2 a3 : List Int) (R : Bool → O) : O :=
 bif a1 then (impl_ArrayOk.g a2 a3 fun r4 =>
  bif !r4 then R true
  else bif !a1 then R (decide (0 < IntKind.i64.wrap ((a2.length : Int) + (a3.length : Int))))
  else R false)
 else bif !a1 then R (decide (0 < IntKind.i64.wrap ((a2.length : Int) + (a3.length : Int))))
 else R false
noncomputable def g := seal_ b
theorem e : g = b := seal_eq b
noncomputable def a : Fn [.b, .z, .z] St := fun a1 a2 a3 => argSt [.v ⟨true, [.bool a1, .tr 0 1 [.int .i64] (.ints a2), .tr 0 1 [.int .i64] (.ints a3)]⟩] [] []
noncomputable def con := conOf 63 [.b, .z, .z] [.b] a g m
theorem ok : Con Pg con := con_fin (fn := Tryz.f63) (c := c) (Fi := fi) (X := X) laid (ctx_of (.cons impl_ArrayOk.ok .nil) (by kernel_rfl)) (fun K => .nil) e (by kernel_rfl) (by kernel_rfl) (by kernel_rfl) (by kernel_rfl)
end impl_VarsOk_1
namespace slices_IndexFunc_impl_Var_impl_Var
noncomputable def c : Code := bodyOf Tryz.f97
noncomputable def fi : Fin := ⟨Γ0, [(.tmp 4, 3)], [[1]], [], [], []⟩
noncomputable def m : Fn [.l] (Fn [.i] Res) := fun _ r1 => ⟨[⟨false, [cI r1]⟩], [], [], [], []⟩
noncomputable def b0 : Code := codeAt c [1, 0, 1, 0, 0]
noncomputable def l0s (x2 : List (List Cl)) (x3 : Int) (rec : Int → O) (k : O) (R : Int → O) (x4 : Int) : O :=
 bif decide (x4 < x3) then (bif decide (0 ≤ x4) && decide (x4 < (x2.length : Int)) then (impl_VarsOk_1.g (((x2.getD x4.toNat []).getD 0 (.i 0)).toB) (((x2.getD x4.toNat []).getD 1 (.i 0)).toL) (((x2.getD x4.toNat []).getD 2 (.i 0)).toL) fun r5 =>
  bif r5 then R x4
  else rec (IntKind.i64.wrap (x4 + 1)))
  else none)
 else k
noncomputable def l0 (x2 : List (List Cl)) (x3 : Int) (k : O) (R : Int → O) : Nat → Int → O
 | 0, _ => none
 | n + 1, x4 => l0s x2 x3 (l0 x2 x3 k R n) k R x4
noncomputable def o0 : Fn [.l, .i] St := fun _ _ => ⟨mkT 19 [], [], []⟩
noncomputable def n0 (K : Res → O) := ent 0 [.l, .i] [.i] [0, 1, 2] (fun x2 x3 x4 => ⟨mkT 19 [(0, one (.tr 0 1 e_1 (.cells x2))), (1, one (.fn 63 [])), (7, oI x3), (8, oI x4)], [], []⟩) fun x2 x3 k => l0 x2 x3 (k (o0 x2 x3)) (fun r1 => K (m [] r1))
noncomputable def X (K : Res → O) : Ctx := { cx0 [impl_VarsOk_1.con] fi true K with cin := [(0, ⟨[0, 1, 7, 8], [], [], [], [], []⟩)], cout := [(0, ⟨[], [], [], [], [], []⟩)], lp := lpOf [n0 K] }
noncomputable def b (a1 : List (List Cl)) (R : Int → O) : O :=
 l0 a1 (a1.length : Int) (
 R (-1)) R fuel 0
noncomputable def g := seal_ b
theorem e : g = b := seal_eq b
noncomputable def a : Fn [.l] St := fun a1 => argSt [one (.tr 0 1 e_1 (.cells a1)), one (.fn 63 [])] [] []
noncomputable def con := conOf 97 [.l] [.i] a g m
theorem hx (K : Res → O) : CtxOk Pg Γ0 byt0 eqs0 (X K) [impl_VarsOk_1.con] := ctx_of (X := X) (.cons impl_VarsOk_1.ok .nil) (by kernel_rfl) K
theorem w0 (K : Res → O) : LpSound Pg (X K) 0 b0 := lp_fin (L := [n0 K]) laid (hx K) .nil (.cons (ent_ok (fun x2 x3 k r => l0s x2 x3 r (k (o0 x2 x3)) (fun r1 => K (m [] r1))) (by kernel_rfl) (by kernel_rfl) (by kernel_rfl) (by kernel_rfl) (by kernel_rfl)) .nil) (by kernel_rfl) (by kernel_rfl)
theorem ok : Con Pg con := con_fin (fn := Tryz.f97) (c := c) (Fi := fi) (X := X) laid hx (fun K => (.cons (w0 K) .nil)) e (by kernel_rfl) (by kernel_rfl) (by kernel_rfl) (by kernel_rfl)
end slices_IndexFunc_impl_Var_impl_Var
namespace slices_ContainsFunc_impl_Var_impl_Var
noncomputable def c : Code := bodyOf Tryz.f62
noncomputable def fi : Fin := ⟨Γ0, [(.tmp 4, 4)], [[1]], [], [], []⟩
noncomputable def m : Fn [.l] (Fn [.b] Res) := fun _ r1 => ⟨[⟨false, [.bool r1]⟩], [], [], [], []⟩
noncomputable def X (K : Res → O) : Ctx := cx0 [slices_IndexFunc_impl_Var_impl_Var.con] fi true K
noncomputable def b (a1 : List (List Cl)) (R : Bool → O) : O :=
 slices_IndexFunc_impl_Var_impl_Var.g a1 fun r2 =>
 R (decide (0 ≤ r2))
noncomputable def g := seal_ b
theorem e : g = b := seal_eq b
noncomputable def a : Fn [.l] St := fun a1 => argSt [one (.tr 0 1 e_1 (.cells a1)), one (.fn 63 [])] [] []
noncomputable def con := conOf 62 [.l] [.b] a g m
theorem ok : Con Pg con := con_fin (fn := Tryz.f62) (c := c) (Fi := fi) (X := X) laid (ctx_of (.cons slices_IndexFunc_impl_Var_impl_Var.ok .nil) (by kernel_rfl)) (fun K => .nil) e (by kernel_rfl) (by kernel_rfl) (by kernel_rfl) (by kernel_rfl)
end slices_ContainsFunc_impl_Var_impl_Var
namespace impl_VarsOk
noncomputable def c : Code := bodyOf Tryz.f31
noncomputable def fi : Fin := ⟨Γ0, [(.tmp 2, 4)], [[1]], [], [], []⟩
noncomputable def m : Fn [.l] (Fn [.b] Res) := fun _ r1 => ⟨[⟨false, [.bool r1]⟩], [], [], [], []⟩
noncomputable def X (K : Res → O) : Ctx := cx0 [slices_ContainsFunc_impl_Var_impl_Var.con] fi true K
noncomputable def b (a1 : List (List Cl)) (R : Bool → O) : O :=
 bif ((a1.length : Int) == 26) then (slices_ContainsFunc_impl_Var_impl_Var.g a1 fun r2 =>
  R (!r2))
 else R false
noncomputable def g := seal_ b
theorem e : g = b := seal_eq b
noncomputable def a : Fn [.l] St := fun a1 => argSt [one (.tr 0 1 e_1 (.cells a1))] [] []
noncomputable def con := conOf 31 [.l] [.b] a g m
theorem ok : Con Pg con := con_fin (fn := Tryz.f31) (c := c) (Fi := fi) (X := X) laid (ctx_of (.cons slices_ContainsFunc_impl_Var_impl_Var.ok .nil) (by kernel_rfl)) (fun K => .nil) e (by kernel_rfl) (by kernel_rfl) (by kernel_rfl) (by kernel_rfl)
end impl_VarsOk
namespace impl_numsOk_1
noncomputable def c : Code := bodyOf Tryz.f141
noncomputable def fi : Fin := ⟨Γ0, [(.tmp 2, 4)], [[1]], [], [], []⟩
noncomputable def m : Fn [.i] (Fn [.b] Res) := fun _ r1 => ⟨[⟨false, [.bool r1]⟩], [], [], [], []⟩
noncomputable def X (K : Res → O) : Ctx := cx0 [impl_NumOk.con] fi true K
noncomputable def b (a1 : Int) (R : Bool → O) : O :=
 impl_NumOk.g a1 fun r2 =>
 R (!r2)
noncomputable def g := seal_ b
theorem e : g = b := seal_eq b
noncomputable def a : Fn [.i] St := fun a1 => argSt [oI a1] [] []
noncomputable def con := conOf 141 [.i] [.b] a g m
theorem ok : Con Pg con := con_fin (fn := Tryz.f141) (c := c) (Fi := fi) (X := X) laid (ctx_of (.cons impl_NumOk.ok .nil) (by kernel_rfl)) (fun K => .nil) e (by kernel_rfl) (by kernel_rfl) (by kernel_rfl) (by kernel_rfl)
end impl_numsOk_1
namespace slices_IndexFunc_int_int_i3
noncomputable def c : Code := bodyOf Tryz.f129
noncomputable def fi : Fin := ⟨Γ0, [(.tmp 4, 3)], [[1]], [], [], []⟩
noncomputable def m : Fn [.z] (Fn [.i] Res) := fun _ r1 => ⟨[⟨false, [cI r1]⟩], [], [], [], []⟩
noncomputable def b0 : Code := codeAt c [1, 0, 1, 0, 0]
noncomputable def l0s (x2 : List Int) (x3 : Int) (rec : Int → O) (k : O) (R : Int → O) (x4 : Int) : O :=
 bif decide (x4 < x3) then (bif decide (0 ≤ x4) && decide (x4 < (x2.length : Int)) then (impl_numsOk_1.g (x2.getD x4.toNat 0) fun r5 =>
  bif r5 then R x4
  else rec (IntKind.i64.wrap (x4 + 1)))
  else none)
 else k
noncomputable def l0 (x2 : List Int) (x3 : Int) (k : O) (R : Int → O) : Nat → Int → O
 | 0, _ => none
 | n + 1, x4 => l0s x2 x3 (l0 x2 x3 k R n) k R x4
noncomputable def o0 : Fn [.z, .i] St := fun _ _ => ⟨mkT 19 [], [], []⟩
noncomputable def n0 (K : Res → O) := ent 0 [.z, .i] [.i] [0, 1, 2] (fun x2 x3 x4 => ⟨mkT 19 [(0, one (.tr 0 1 [.int .i64] (.ints x2))), (1, one (.fn 141 [])), (7, oI x3), (8, oI x4)], [], []⟩) fun x2 x3 k => l0 x2 x3 (k (o0 x2 x3)) (fun r1 => K (m [] r1))
noncomputable def X (K : Res → O) : Ctx := { cx0 [impl_numsOk_1.con] fi true K with cin := [(0, ⟨[0, 1, 7, 8], [], [], [], [], []⟩)], cout := [(0, ⟨[], [], [], [], [], []⟩)], lp := lpOf [n0 K] }
noncomputable def b (a1 : List Int) (R : Int → O) : O :=
 l0 a1 (a1.length : Int) (
 R (-1)) R fuel 0
noncomputable def g := seal_ b
theorem e : g = b := seal_eq b
noncomputable def a : Fn [.z] St := fun a1 => argSt [one (.tr 0 1 [.int .i64] (.ints a1)), one (.fn 141 [])] [] []
noncomputable def con := conOf 129 [.z] [.i] a g m
theorem hx (K : Res → O) : CtxOk Pg Γ0 byt0 eqs0 (X K) [impl_numsOk_1.con] := ctx_of (X := X) (.cons impl_numsOk_1.ok .nil) (by kernel_rfl) K
theorem w0 (K : Res → O) : LpSound Pg (X K) 0 b0 := lp_fin (L := [n0 K]) laid (hx K) .nil (.cons (ent_ok (fun x2 x3 k r => l0s x2 x3 r (k (o0 x2 x3)) (fun r1 => K (m [] r1))) (by kernel_rfl) (by kernel_rfl) (by kernel_rfl) (by kernel_rfl) (by kernel_rfl)) .nil) (by kernel_rfl) (by kernel_rfl)
theorem ok : Con Pg con := con_fin (fn := Tryz.f129) (c := c) (Fi := fi) (X := X) laid hx (fun K => (.cons (w0 K) .nil)) e (by kernel_rfl) (by kernel_rfl) (by kernel_rfl) (by kernel_rfl)
end slices_IndexFunc_int_int_i3
namespace slices_ContainsFunc_int_int_i3
noncomputable def c : Code := bodyOf Tryz.f98
noncomputable def fi : Fin := ⟨Γ0, [(.tmp 4, 4)], [[1]], [], [], []⟩
noncomputable def m : Fn [.z] (Fn [.b] Res) := fun _ r1 => ⟨[⟨false, [.bool r1]⟩], [], [], [], []⟩
noncomputable def X (K : Res → O) : Ctx := cx0 [slices_IndexFunc_int_int_i3.con] fi true K
noncomputable def b (a1 : List Int) (R : Bool → O) : O :=
 slices_IndexFunc_int_int_i3.g a1 fun r2 =>
 R (decide (0 ≤ r2))
noncomputable def g := seal_ b
theorem e : g = b := seal_eq b
noncomputable def a : Fn [.z] St := fun a1 => argSt [one (.tr 0 1 [.int .i64] (.ints a1)), one (.fn 141 [])] [] []
noncomputable def con := conOf 98 [.z] [.b] a g m
theorem ok : Con Pg con := con_fin (fn := Tryz.f98) (c := c) (Fi := fi) (X := X) laid (ctx_of (.cons slices_IndexFunc_int_int_i3.ok .nil) (by kernel_rfl)) (fun K => .nil) e (by kernel_rfl) (by kernel_rfl) (by kernel_rfl) (by kernel_rfl)
end slices_ContainsFunc_int_int_i3
namespace impl_numsOk
noncomputable def c : Code := bodyOf Tryz.f118
noncomputable def fi : Fin := ⟨Γ0, [(.tmp 2, 4)], [[1]], [], [], []⟩
noncomputable def m : Fn [.z] (Fn [.b] Res) := fun _ r1 => ⟨[⟨false, [.bool r1]⟩], [], [], [], []⟩
noncomputable def X (K : Res → O) : Ctx := cx0 [impl_within.con, slices_ContainsFunc_int_int_i3.con] fi true K
noncomputable def b (a1 : List Int) (R : Bool → O) : O :=
 impl_within.g (a1.length : Int) 1 300 fun r2 =>
 bif r2 then (slices_ContainsFunc_int_int_i3.g a1 fun r3 =>
  R (!r3))
 else R false
noncomputable def g := seal_ b
theorem e : g = b := seal_eq b
noncomputable def a : Fn [.z] St := fun a1 => argSt [one (.tr 0 1 [.int .i64] (.ints a1))] [] []
noncomputable def con := conOf 118 [.z] [.b] a g m
theorem ok : Con Pg con := con_fin (fn := Tryz.f118) (c := c) (Fi := fi) (X := X) laid (ctx_of (.cons impl_within.ok (.cons slices_ContainsFunc_int_int_i3.ok .nil)) (by kernel_rfl)) (fun K => .nil) e (by kernel_rfl) (by kernel_rfl) (by kernel_rfl) (by kernel_rfl)
end impl_numsOk
namespace impl_hasSign
noncomputable def c : Code := bodyOf Tryz.f130
noncomputable def fi : Fin := ⟨Γ0, [(.tmp 4, 4)], [[1]], [], [], []⟩
noncomputable def m : Fn [.s, .i] (Fn [.b] Res) := fun _ _ r1 => ⟨[⟨false, [.bool r1]⟩], [], [], [], []⟩
noncomputable def b0 : Code := codeAt c [1, 0, 1, 0, 0]
noncomputable def l0s (x3 : ByteArray) (x4 : Int) (rec : Int → O) (k : O) (R : Bool → O) (x5 : Int) : O :=
 bif decide (x5 < (x3.size : Int)) then (bif decide (0 ≤ x5) && decide (x5 < (x3.size : Int)) then (bif (IntKind.i64.wrap ((bytesOf x3).getD x5.toNat 0) == x4) then R true
  else rec (IntKind.i64.wrap (x5 + 1)))
  else none)
 else k
noncomputable def l0 (x3 : ByteArray) (x4 : Int) (k : O) (R : Bool → O) : Nat → Int → O
 | 0, _ => none
 | n + 1, x5 => l0s x3 x4 (l0 x3 x4 k R n) k R x5
noncomputable def o0 : Fn [.s, .i] St := fun _ _ => ⟨mkT 18 [], [], []⟩
noncomputable def n0 (K : Res → O) := ent 0 [.s, .i] [.i] [0, 1, 2] (fun x3 x4 x5 => ⟨mkT 18 [(0, one (.str x3)), (1, oI x4), (5, oI x5)], [], []⟩) fun x3 x4 k => l0 x3 x4 (k (o0 x3 x4)) (fun r1 => K (m ByteArray.empty (0 : Int) r1))
noncomputable def X (K : Res → O) : Ctx := { cx0 [] fi true K with cin := [(0, ⟨[0, 1, 5], [], [], [], [], []⟩)], cout := [(0, ⟨[], [], [], [], [], []⟩)], lp := lpOf [n0 K] }
noncomputable def b (a1 : ByteArray) (a2 : Int) (R : Bool → O) : O :=
 l0 a1 a2 (
 R false) R fuel 0
noncomputable def g := seal_ b
theorem e : g = b := seal_eq b
noncomputable def a : Fn [.s, .i] St := fun a1 a2 => argSt [one (.str a1), oI a2] [] []
noncomputable def con := conOf 130 [.s, .i] [.b] a g m
theorem hx (K : Res → O) : CtxOk Pg Γ0 byt0 eqs0 (X K) [] := ctx_of (X := X) .nil (by kernel_rfl) K
theorem w0 (K : Res → O) : LpSound Pg (X K) 0 b0 := lp_fin (L := [n0 K]) laid (hx K) .nil (.cons (ent_ok (fun x3 x4 k r => l0s x3 x4 r (k (o0 x3 x4)) (fun r1 => K (m ByteArray.empty (0 : Int) r1))) (by kernel_rfl) (by kernel_rfl) (by kernel_rfl) (by kernel_rfl) (by kernel_rfl)) .nil) (by kernel_rfl) (by kernel_rfl)
theorem ok : Con Pg con := con_fin (fn := Tryz.f130) (c := c) (Fi := fi) (X := X) laid hx (fun K => (.cons (w0 K) .nil)) e (by kernel_rfl) (by kernel_rfl) (by kernel_rfl) (by kernel_rfl)
end impl_hasSign
namespace impl_oneSign
noncomputable def c : Code := bodyOf Tryz.f102
noncomputable def fi : Fin := ⟨Γ0, [(.tmp 2, 4)], [[1]], [], [], []⟩
noncomputable def m : Fn [.i] (Fn [.b] Res) := fun _ r1 => ⟨[⟨false, [.bool r1]⟩], [], [], [], []⟩
noncomputable def X (K : Res → O) : Ctx := cx0 [impl_hasSign.con] fi true K
noncomputable def b (a1 : Int) (R : Bool → O) : O :=
 impl_hasSign.g (⟨#[43, 45, 42, 124, 126]⟩ : ByteArray) a1 fun r2 =>
 R r2
noncomputable def g := seal_ b
theorem e : g = b := seal_eq b
noncomputable def a : Fn [.i] St := fun a1 => argSt [oI a1] [] []
noncomputable def con := conOf 102 [.i] [.b] a g m
theorem ok : Con Pg con := con_fin (fn := Tryz.f102) (c := c) (Fi := fi) (X := X) laid (ctx_of (.cons impl_hasSign.ok .nil) (by kernel_rfl)) (fun K => .nil) e (by kernel_rfl) (by kernel_rfl) (by kernel_rfl) (by kernel_rfl)
end impl_oneSign
namespace impl_twoSign
noncomputable def c : Code := bodyOf Tryz.f104
noncomputable def fi : Fin := ⟨Γ0, [(.tmp 2, 4)], [[1]], [], [], []⟩
noncomputable def m : Fn [.i] (Fn [.b] Res) := fun _ r1 => ⟨[⟨false, [.bool r1]⟩], [], [], [], []⟩
noncomputable def X (K : Res → O) : Ctx := cx0 [impl_hasSign.con] fi true K
noncomputable def b (a1 : Int) (R : Bool → O) : O :=
 impl_hasSign.g (⟨#[43, 45, 42, 37, 124, 38, 94, 61, 60, 62]⟩ : ByteArray) a1 fun r2 =>
 R r2
noncomputable def g := seal_ b
theorem e : g = b := seal_eq b
noncomputable def a : Fn [.i] St := fun a1 => argSt [oI a1] [] []
noncomputable def con := conOf 104 [.i] [.b] a g m
theorem ok : Con Pg con := con_fin (fn := Tryz.f104) (c := c) (Fi := fi) (X := X) laid (ctx_of (.cons impl_hasSign.ok .nil) (by kernel_rfl)) (fun K => .nil) e (by kernel_rfl) (by kernel_rfl) (by kernel_rfl) (by kernel_rfl)
end impl_twoSign
namespace impl_FunOne
noncomputable def c : Code := bodyOf Tryz.f119
noncomputable def fi : Fin := ⟨Γ0, [(.tmp 2, 4)], [[1]], [], [], []⟩
noncomputable def m : Fn [.i, .i, .i] (Fn [.b] Res) := fun _ _ _ r1 => ⟨[⟨false, [.bool r1]⟩], [], [], [], []⟩
noncomputable def X (K : Res → O) : Ctx := cx0 [impl_oneSign.con, impl_hasSign.con, impl_twoSign.con] fi true K
noncomputable def b (a1 a2 a3 : Int) (R : Bool → O) : O :=
 bif (a2 == 0) then (bif (a3 == 0) then (impl_oneSign.g a1 fun r4 =>
  bif r4 then R true
  else (impl_hasSign.g (⟨#[105, 35, 44, 114, 122, 103]⟩ : ByteArray) a1 fun r5 =>
  R r5))
  else R false)
 else bif (a2 == 47) then (bif (a3 == 0) then (impl_twoSign.g a1 fun r6 =>
  R r6)
  else R false)
 else bif (a2 == 92) then (bif (a3 == 0) then (impl_twoSign.g a1 fun r7 =>
  R r7)
  else R false)
 else R false
noncomputable def g := seal_ b
theorem e : g = b := seal_eq b
noncomputable def a : Fn [.i, .i, .i] St := fun a1 a2 a3 => argSt [.v ⟨true, [cI a1, cI a2, cI a3]⟩] [] []
noncomputable def con := conOf 119 [.i, .i, .i] [.b] a g m
theorem ok : Con Pg con := con_fin (fn := Tryz.f119) (c := c) (Fi := fi) (X := X) laid (ctx_of (.cons impl_oneSign.ok (.cons impl_hasSign.ok (.cons impl_twoSign.ok .nil))) (by kernel_rfl)) (fun K => .nil) e (by kernel_rfl) (by kernel_rfl) (by kernel_rfl) (by kernel_rfl)
end impl_FunOne
namespace impl_FunTwo
noncomputable def c : Code := bodyOf Tryz.f120
noncomputable def fi : Fin := ⟨Γ0, [(.tmp 2, 4)], [[1]], [], [], []⟩
noncomputable def m : Fn [.i, .i, .i] (Fn [.b] Res) := fun _ _ _ r1 => ⟨[⟨false, [.bool r1]⟩], [], [], [], []⟩
noncomputable def X (K : Res → O) : Ctx := cx0 [impl_twoSign.con, impl_hasSign.con] fi true K
noncomputable def b (a1 a2 a3 : Int) (R : Bool → O) : O :=
 bif (a2 == 0) then (bif (a3 == 0) then (impl_twoSign.g a1 fun r4 =>
  bif r4 then R true
  else (impl_hasSign.g (⟨#[35, 44, 116, 100, 114, 64, 63, 36, 101]⟩ : ByteArray) a1 fun r5 =>
  R r5))
  else R false)
 else bif (a2 == 111) then (bif (a3 == 0) then (impl_twoSign.g a1 fun r6 =>
  R r6)
  else R false)
 else bif (a2 == 46) then (impl_twoSign.g a1 fun r7 =>
  bif r7 then (impl_twoSign.g a3 fun r8 =>
   R r8)
  else R false)
 else R false
noncomputable def g := seal_ b
theorem e : g = b := seal_eq b
noncomputable def a : Fn [.i, .i, .i] St := fun a1 a2 a3 => argSt [.v ⟨true, [cI a1, cI a2, cI a3]⟩] [] []
noncomputable def con := conOf 120 [.i, .i, .i] [.b] a g m
theorem ok : Con Pg con := con_fin (fn := Tryz.f120) (c := c) (Fi := fi) (X := X) laid (ctx_of (.cons impl_twoSign.ok (.cons impl_hasSign.ok .nil)) (by kernel_rfl)) (fun K => .nil) e (by kernel_rfl) (by kernel_rfl) (by kernel_rfl) (by kernel_rfl)
end impl_FunTwo
namespace impl_instrOk
noncomputable def c : Code := bodyOf Tryz.f83
noncomputable def fi : Fin := ⟨Γ0, [(.tmp 2, 4)], [[1]], [], [], []⟩
noncomputable def m : Fn [.i, .i, .i, .i, .i, .z] (Fn [.b] Res) := fun _ _ _ _ _ _ r1 => ⟨[⟨false, [.bool r1]⟩], [], [], [], []⟩
noncomputable def X (K : Res → O) : Ctx := cx0 [impl_numsOk.con, impl_within.con, impl_FunOne.con, impl_FunTwo.con] fi true K
noncomputable def b (a1 a2 a3 a4 a5 : Int) (a6 : List Int) (R : Bool → O) : O :=
 bif (a1 == 1) then (impl_numsOk.g a6 fun r7 =>
  bif (a2 == 0) then (bif ((a3 == 0) && ((a4 == 0) && ((a5 == 0) && true))) then R r7
   else R false)
  else R false)
 else bif (a1 == 2) then (impl_within.g a2 0 25 fun r8 =>
  bif r8 then (bif ((a3 == 0) && ((a4 == 0) && ((a5 == 0) && true))) then R ((a6.length : Int) == 0)
   else R false)
  else R false)
 else bif (a1 == 3) then (impl_within.g a2 0 25 fun r9 =>
  bif r9 then (bif ((a3 == 0) && ((a4 == 0) && ((a5 == 0) && true))) then R ((a6.length : Int) == 0)
   else R false)
  else R false)
 else bif (a1 == 4) then (impl_FunOne.g a3 a4 a5 fun r10 =>
  bif (a2 == 0) then (bif r10 then R ((a6.length : Int) == 0)
   else R false)
  else R false)
 else bif (a1 == 5) then (impl_FunTwo.g a3 a4 a5 fun r11 =>
  bif (a2 == 0) then (bif r11 then R ((a6.length : Int) == 0)
   else R false)
  else R false)
 else R false
noncomputable def g := seal_ b
theorem e : g = b := seal_eq b
noncomputable def a : Fn [.i, .i, .i, .i, .i, .z] St := fun a1 a2 a3 a4 a5 a6 => argSt [.v ⟨true, [cI a1, cI a2, cI a3, cI a4, cI a5, .tr 0 1 [.int .i64] (.ints a6)]⟩] [] []
noncomputable def con := conOf 83 [.i, .i, .i, .i, .i, .z] [.b] a g m
theorem ok : Con Pg con := con_fin (fn := Tryz.f83) (c := c) (Fi := fi) (X := X) laid (ctx_of (.cons impl_numsOk.ok (.cons impl_within.ok (.cons impl_FunOne.ok (.cons impl_FunTwo.ok .nil)))) (by kernel_rfl)) (fun K => .nil) e (by kernel_rfl) (by kernel_rfl) (by kernel_rfl) (by kernel_rfl)
end impl_instrOk
namespace impl_CodeOk_1
noncomputable def c : Code := bodyOf Tryz.f82
noncomputable def fi : Fin := ⟨Γ0, [(.tmp 2, 4)], [[1]], [], [], []⟩
noncomputable def m : Fn [.i, .i, .i, .i, .i, .z] (Fn [.b] Res) := fun _ _ _ _ _ _ r1 => ⟨[⟨false, [.bool r1]⟩], [], [], [], []⟩
noncomputable def X (K : Res → O) : Ctx := cx0 [impl_instrOk.con] fi true K
noncomputable def b (a1 a2 a3 a4 a5 : Int) (a6 : List Int) (R : Bool → O) : O :=
 impl_instrOk.g a1 a2 a3 a4 a5 a6 fun r7 =>
 R (!r7)
noncomputable def g := seal_ b
theorem e : g = b := seal_eq b
noncomputable def a : Fn [.i, .i, .i, .i, .i, .z] St := fun a1 a2 a3 a4 a5 a6 => argSt [.v ⟨true, [cI a1, cI a2, cI a3, cI a4, cI a5, .tr 0 1 [.int .i64] (.ints a6)]⟩] [] []
noncomputable def con := conOf 82 [.i, .i, .i, .i, .i, .z] [.b] a g m
theorem ok : Con Pg con := con_fin (fn := Tryz.f82) (c := c) (Fi := fi) (X := X) laid (ctx_of (.cons impl_instrOk.ok .nil) (by kernel_rfl)) (fun K => .nil) e (by kernel_rfl) (by kernel_rfl) (by kernel_rfl) (by kernel_rfl)
end impl_CodeOk_1
namespace slices_IndexFunc_impl_Instr_impl_Instr
noncomputable def c : Code := bodyOf Tryz.f117
noncomputable def fi : Fin := ⟨Γ0, [(.tmp 4, 3)], [[1]], [], [], []⟩
noncomputable def m : Fn [.l] (Fn [.i] Res) := fun _ r1 => ⟨[⟨false, [cI r1]⟩], [], [], [], []⟩
noncomputable def b0 : Code := codeAt c [1, 0, 1, 0, 0]
noncomputable def l0s (x2 : List (List Cl)) (x3 : Int) (rec : Int → O) (k : O) (R : Int → O) (x4 : Int) : O :=
 bif decide (x4 < x3) then (bif decide (0 ≤ x4) && decide (x4 < (x2.length : Int)) then (impl_CodeOk_1.g (((x2.getD x4.toNat []).getD 0 (.i 0)).toI) (((x2.getD x4.toNat []).getD 1 (.i 0)).toI) (((x2.getD x4.toNat []).getD 2 (.i 0)).toI) (((x2.getD x4.toNat []).getD 3 (.i 0)).toI) (((x2.getD x4.toNat []).getD 4 (.i 0)).toI) (((x2.getD x4.toNat []).getD 5 (.i 0)).toL) fun r5 =>
  bif r5 then R x4
  else rec (IntKind.i64.wrap (x4 + 1)))
  else none)
 else k
noncomputable def l0 (x2 : List (List Cl)) (x3 : Int) (k : O) (R : Int → O) : Nat → Int → O
 | 0, _ => none
 | n + 1, x4 => l0s x2 x3 (l0 x2 x3 k R n) k R x4
noncomputable def o0 : Fn [.l, .i] St := fun _ _ => ⟨mkT 19 [], [], []⟩
noncomputable def n0 (K : Res → O) := ent 0 [.l, .i] [.i] [0, 1, 2] (fun x2 x3 x4 => ⟨mkT 19 [(0, one (.tr 0 1 e_0 (.cells x2))), (1, one (.fn 82 [])), (7, oI x3), (8, oI x4)], [], []⟩) fun x2 x3 k => l0 x2 x3 (k (o0 x2 x3)) (fun r1 => K (m [] r1))
noncomputable def X (K : Res → O) : Ctx := { cx0 [impl_CodeOk_1.con] fi true K with cin := [(0, ⟨[0, 1, 7, 8], [], [], [], [], []⟩)], cout := [(0, ⟨[], [], [], [], [], []⟩)], lp := lpOf [n0 K] }
noncomputable def b (a1 : List (List Cl)) (R : Int → O) : O :=
 l0 a1 (a1.length : Int) (
 R (-1)) R fuel 0
noncomputable def g := seal_ b
theorem e : g = b := seal_eq b
noncomputable def a : Fn [.l] St := fun a1 => argSt [one (.tr 0 1 e_0 (.cells a1)), one (.fn 82 [])] [] []
noncomputable def con := conOf 117 [.l] [.i] a g m
theorem hx (K : Res → O) : CtxOk Pg Γ0 byt0 eqs0 (X K) [impl_CodeOk_1.con] := ctx_of (X := X) (.cons impl_CodeOk_1.ok .nil) (by kernel_rfl) K
theorem w0 (K : Res → O) : LpSound Pg (X K) 0 b0 := lp_fin (L := [n0 K]) laid (hx K) .nil (.cons (ent_ok (fun x2 x3 k r => l0s x2 x3 r (k (o0 x2 x3)) (fun r1 => K (m [] r1))) (by kernel_rfl) (by kernel_rfl) (by kernel_rfl) (by kernel_rfl) (by kernel_rfl)) .nil) (by kernel_rfl) (by kernel_rfl)
theorem ok : Con Pg con := con_fin (fn := Tryz.f117) (c := c) (Fi := fi) (X := X) laid hx (fun K => (.cons (w0 K) .nil)) e (by kernel_rfl) (by kernel_rfl) (by kernel_rfl) (by kernel_rfl)
end slices_IndexFunc_impl_Instr_impl_Instr
namespace slices_ContainsFunc_impl_Instr_impl_Instr
noncomputable def c : Code := bodyOf Tryz.f81
noncomputable def fi : Fin := ⟨Γ0, [(.tmp 4, 4)], [[1]], [], [], []⟩
noncomputable def m : Fn [.l] (Fn [.b] Res) := fun _ r1 => ⟨[⟨false, [.bool r1]⟩], [], [], [], []⟩
noncomputable def X (K : Res → O) : Ctx := cx0 [slices_IndexFunc_impl_Instr_impl_Instr.con] fi true K
noncomputable def b (a1 : List (List Cl)) (R : Bool → O) : O :=
 slices_IndexFunc_impl_Instr_impl_Instr.g a1 fun r2 =>
 R (decide (0 ≤ r2))
noncomputable def g := seal_ b
theorem e : g = b := seal_eq b
noncomputable def a : Fn [.l] St := fun a1 => argSt [one (.tr 0 1 e_0 (.cells a1)), one (.fn 82 [])] [] []
noncomputable def con := conOf 81 [.l] [.b] a g m
theorem ok : Con Pg con := con_fin (fn := Tryz.f81) (c := c) (Fi := fi) (X := X) laid (ctx_of (.cons slices_IndexFunc_impl_Instr_impl_Instr.ok .nil) (by kernel_rfl)) (fun K => .nil) e (by kernel_rfl) (by kernel_rfl) (by kernel_rfl) (by kernel_rfl)
end slices_ContainsFunc_impl_Instr_impl_Instr
namespace impl_takes
noncomputable def c : Code := bodyOf Tryz.f72
noncomputable def fi : Fin := ⟨Γ0, [(.tmp 2, 3)], [[1]], [], [], []⟩
noncomputable def m : Fn [.i, .i, .i, .i, .i, .z] (Fn [.i] Res) := fun _ _ _ _ _ _ r1 => ⟨[⟨false, [cI r1]⟩], [], [], [], []⟩
noncomputable def X (K : Res → O) : Ctx := cx0 [] fi true K
noncomputable def b (a1 a2 a3 a4 a5 : Int) (a6 : List Int) (R : Int → O) : O :=
 bif (a1 == 3) then R 1
 else bif (a1 == 4) then R 1
 else bif (a1 == 5) then R 2
 else R 0
noncomputable def g := seal_ b
theorem e : g = b := seal_eq b
noncomputable def a : Fn [.i, .i, .i, .i, .i, .z] St := fun a1 a2 a3 a4 a5 a6 => argSt [.v ⟨true, [cI a1, cI a2, cI a3, cI a4, cI a5, .tr 0 1 [.int .i64] (.ints a6)]⟩] [] []
noncomputable def con := conOf 72 [.i, .i, .i, .i, .i, .z] [.i] a g m
theorem ok : Con Pg con := con_fin (fn := Tryz.f72) (c := c) (Fi := fi) (X := X) laid (ctx_of .nil (by kernel_rfl)) (fun K => .nil) e (by kernel_rfl) (by kernel_rfl) (by kernel_rfl) (by kernel_rfl)
end impl_takes
namespace impl_deep
noncomputable def c : Code := bodyOf Tryz.f84
noncomputable def fi : Fin := ⟨Γ0, [(.tmp 2, 28), (.tmp 3, 4)], [[1], [1]], [], [], []⟩
noncomputable def m : Fn [.l] (Fn [.z, .b] Res) := fun _ r1 r2 => ⟨[⟨false, [.ow 1000]⟩, ⟨false, [.bool r2]⟩], [], [⟨[.int .i64], .ints r1, true, 0, none⟩], [], []⟩
noncomputable def b0 : Code := codeAt c [1, 1, 0, 1, 0, 0]
noncomputable def l0s (x2 : List (List Cl)) (x3 : Int) (rec : Int → List Int → O) (k : List Int → O) (R : List Int → Bool → O) (x4 : Int) (x5 : List Int) : O :=
 bif decide (x4 < x3) then (bif decide (0 ≤ x4) && decide (x4 < (x2.length : Int)) then (bif decide (0 ≤ x4) && decide (x4 < (x5.length : Int)) then (impl_takes.g (((x2.getD x4.toNat []).getD 0 (.i 0)).toI) (((x2.getD x4.toNat []).getD 1 (.i 0)).toI) (((x2.getD x4.toNat []).getD 2 (.i 0)).toI) (((x2.getD x4.toNat []).getD 3 (.i 0)).toI) (((x2.getD x4.toNat []).getD 4 (.i 0)).toI) (((x2.getD x4.toNat []).getD 5 (.i 0)).toL) fun r6 =>
  bif decide (x5.getD x4.toNat 0 < r6) then R ([] : List Int) false
  else bif decide (0 ≤ x4) && decide (x4 < (x5.length : Int)) then (impl_takes.g (((x2.getD x4.toNat []).getD 0 (.i 0)).toI) (((x2.getD x4.toNat []).getD 1 (.i 0)).toI) (((x2.getD x4.toNat []).getD 2 (.i 0)).toI) (((x2.getD x4.toNat []).getD 3 (.i 0)).toI) (((x2.getD x4.toNat []).getD 4 (.i 0)).toI) (((x2.getD x4.toNat []).getD 5 (.i 0)).toL) fun r7 =>
   bif decide ((x5.length + 1) * 8 ≤ 140737488355328) then rec (IntKind.i64.wrap (x4 + 1)) (x5 ++ ([IntKind.i64.wrap ((IntKind.i64.wrap ((x5.getD x4.toNat 0) - r7)) + 1)] : List Int))
   else none)
  else none)
  else none)
  else none)
 else k x5
noncomputable def l0 (x2 : List (List Cl)) (x3 : Int) (k : List Int → O) (R : List Int → Bool → O) : Nat → Int → List Int → O
 | 0, _, _ => none
 | n + 1, x4, x5 => l0s x2 x3 (l0 x2 x3 k R n) k R x4 x5
noncomputable def o0 : Fn [.l, .i, .z] St := fun _ _ y1 => ⟨mkT 35 [(4, one (.ow 3048))], [(3048, ⟨[.int .i64], .ints y1, true, 0, none⟩)], []⟩
noncomputable def n0 (K : Res → O) := ent 0 [.l, .i] [.i, .z] [0, 1, 2, 3] (fun x2 x3 x4 x5 => ⟨mkT 35 [(4, one (.ow 3048)), (8, one (.tr 0 1 e_0 (.cells x2))), (9, oI x3), (10, oI x4)], [(3048, ⟨[.int .i64], .ints x5, true, 0, none⟩)], []⟩) fun x2 x3 k => l0 x2 x3 (fun y1 => k (o0 x2 x3 y1)) (fun r1 r2 => K (m [] r1 r2))
noncomputable def X (K : Res → O) : Ctx := { cx0 [impl_takes.con] fi true K with cin := [(0, ⟨[4, 8, 9, 10], [(3048, 3048), (15496, 3048)], [], [], [], []⟩)], cout := [(0, ⟨[4], [(3048, 3048)], [], [], [], []⟩)], lp := lpOf [n0 K] }
noncomputable def b (a1 : List (List Cl)) (R : List Int → Bool → O) : O :=
 l0 a1 (a1.length : Int) (fun y8 =>
 R y8 true) R fuel 0 ([0] : List Int)
noncomputable def g := seal_ b
theorem e : g = b := seal_eq b
noncomputable def a : Fn [.l] St := fun a1 => argSt [one (.tr 0 1 e_0 (.cells a1))] [] []
noncomputable def con := conOf 84 [.l] [.z, .b] a g m
theorem hx (K : Res → O) : CtxOk Pg Γ0 byt0 eqs0 (X K) [impl_takes.con] := ctx_of (X := X) (.cons impl_takes.ok .nil) (by kernel_rfl) K
theorem w0 (K : Res → O) : LpSound Pg (X K) 0 b0 := lp_fin (L := [n0 K]) laid (hx K) .nil (.cons (ent_ok (fun x2 x3 k r => l0s x2 x3 r (fun y1 => k (o0 x2 x3 y1)) (fun r1 r2 => K (m [] r1 r2))) (by kernel_rfl) (by kernel_rfl) (by kernel_rfl) (by kernel_rfl) (by kernel_rfl)) .nil) (by kernel_rfl) (by kernel_rfl)
theorem ok : Con Pg con := con_fin (fn := Tryz.f84) (c := c) (Fi := fi) (X := X) laid hx (fun K => (.cons (w0 K) .nil)) e (by kernel_rfl) (by kernel_rfl) (by kernel_rfl) (by kernel_rfl)
end impl_deep
namespace impl_CodeOk
noncomputable def c : Code := bodyOf Tryz.f47
noncomputable def fi : Fin := ⟨Γ0, [(.tmp 2, 4)], [[1]], [], [], []⟩
noncomputable def m : Fn [.l] (Fn [.b] Res) := fun _ r1 => ⟨[⟨false, [.bool r1]⟩], [], [], [], []⟩
noncomputable def X (K : Res → O) : Ctx := cx0 [impl_within.con, slices_ContainsFunc_impl_Instr_impl_Instr.con, impl_deep.con] fi true K
noncomputable def b (a1 : List (List Cl)) (R : Bool → O) : O :=
 impl_within.g (a1.length : Int) 1 60 fun r2 =>
 bif !r2 then R false
 else (slices_ContainsFunc_impl_Instr_impl_Instr.g a1 fun r3 =>
 bif r3 then R false
 else (impl_deep.g a1 fun r4 r5 =>
 bif r5 then (bif decide (0 ≤ (a1.length : Int)) && decide ((a1.length : Int) < (r4.length : Int)) then R (r4.getD ((a1.length : Int).toNat) 0 == 1)
  else none)
 else R false))
noncomputable def g := seal_ b
theorem e : g = b := seal_eq b
noncomputable def a : Fn [.l] St := fun a1 => argSt [one (.tr 0 1 e_0 (.cells a1))] [] []
noncomputable def con := conOf 47 [.l] [.b] a g m
theorem ok : Con Pg con := con_fin (fn := Tryz.f47) (c := c) (Fi := fi) (X := X) laid (ctx_of (.cons impl_within.ok (.cons slices_ContainsFunc_impl_Instr_impl_Instr.ok (.cons impl_deep.ok .nil))) (by kernel_rfl)) (fun K => .nil) e (by kernel_rfl) (by kernel_rfl) (by kernel_rfl) (by kernel_rfl)
end impl_CodeOk
namespace impl_plainStep
noncomputable def c : Code := bodyOf Tryz.f85
noncomputable def fi : Fin := ⟨Γ0, [(.tmp 2, 4)], [[1]], [], [], []⟩
noncomputable def m : Fn [.i, .i, .i, .i, .i, .z] (Fn [.b] Res) := fun _ _ _ _ _ _ r1 => ⟨[⟨false, [.bool r1]⟩], [], [], [], []⟩
noncomputable def X (K : Res → O) : Ctx := cx0 [impl_oneSign.con, impl_twoSign.con] fi true K
noncomputable def b (a1 a2 a3 a4 a5 : Int) (a6 : List Int) (R : Bool → O) : O :=
 bif (a1 == 1) then R true
 else bif (a1 == 2) then R true
 else bif (a1 == 4) then (bif (a4 == 0) then (impl_oneSign.g a3 fun r7 =>
  R r7)
  else R false)
 else bif (a1 == 5) then (bif (a4 == 0) then (impl_twoSign.g a3 fun r8 =>
  R r8)
  else R false)
 else R false
noncomputable def g := seal_ b
theorem e : g = b := seal_eq b
noncomputable def a : Fn [.i, .i, .i, .i, .i, .z] St := fun a1 a2 a3 a4 a5 a6 => argSt [.v ⟨true, [cI a1, cI a2, cI a3, cI a4, cI a5, .tr 0 1 [.int .i64] (.ints a6)]⟩] [] []
noncomputable def con := conOf 85 [.i, .i, .i, .i, .i, .z] [.b] a g m
theorem ok : Con Pg con := con_fin (fn := Tryz.f85) (c := c) (Fi := fi) (X := X) laid (ctx_of (.cons impl_oneSign.ok (.cons impl_twoSign.ok .nil)) (by kernel_rfl)) (fun K => .nil) e (by kernel_rfl) (by kernel_rfl) (by kernel_rfl) (by kernel_rfl)
end impl_plainStep
namespace impl_spanAt
noncomputable def c : Code := bodyOf Tryz.f48
noncomputable def fi : Fin := ⟨Γ0, [(.tmp 4, 3)], [[1]], [], [], []⟩
noncomputable def m : Fn [.l, .i] (Fn [.i] Res) := fun _ _ r1 => ⟨[⟨false, [cI r1]⟩], [], [], [], []⟩
noncomputable def b0 : Code := codeAt c [1, 1, 0, 1, 0, 0]
noncomputable def l0s (x3 : List (List Cl)) (rec : Int → Int → Bool → Int → O) (k : Int → O) (x4 x5 : Int) (x6 : Bool) (x7 : Int) : O :=
 bif decide (x7 < (x3.length : Int)) then (bif decide (0 ≤ x7) && decide (x7 < (x3.length : Int)) then (impl_plainStep.g (((x3.getD x7.toNat []).getD 0 (.i 0)).toI) (((x3.getD x7.toNat []).getD 1 (.i 0)).toI) (((x3.getD x7.toNat []).getD 2 (.i 0)).toI) (((x3.getD x7.toNat []).getD 3 (.i 0)).toI) (((x3.getD x7.toNat []).getD 4 (.i 0)).toI) (((x3.getD x7.toNat []).getD 5 (.i 0)).toL) fun r8 =>
  bif r8 then (bif decide (0 ≤ x7) && decide (x7 < (x3.length : Int)) then (impl_takes.g (((x3.getD x7.toNat []).getD 0 (.i 0)).toI) (((x3.getD x7.toNat []).getD 1 (.i 0)).toI) (((x3.getD x7.toNat []).getD 2 (.i 0)).toI) (((x3.getD x7.toNat []).getD 3 (.i 0)).toI) (((x3.getD x7.toNat []).getD 4 (.i 0)).toI) (((x3.getD x7.toNat []).getD 5 (.i 0)).toL) fun r9 =>
   bif decide (r9 ≤ x5) then (bif decide (0 ≤ x7) && decide (x7 < (x3.length : Int)) then (impl_takes.g (((x3.getD x7.toNat []).getD 0 (.i 0)).toI) (((x3.getD x7.toNat []).getD 1 (.i 0)).toI) (((x3.getD x7.toNat []).getD 2 (.i 0)).toI) (((x3.getD x7.toNat []).getD 3 (.i 0)).toI) (((x3.getD x7.toNat []).getD 4 (.i 0)).toI) (((x3.getD x7.toNat []).getD 5 (.i 0)).toL) fun r10 =>
    bif x6 then (bif (IntKind.i64.wrap (x5 + (IntKind.i64.wrap (1 - r10))) == 1) then rec (IntKind.i64.wrap (x7 + 1)) (IntKind.i64.wrap (x5 + (IntKind.i64.wrap (1 - r10)))) true (IntKind.i64.wrap (x7 + 1))
     else rec x4 (IntKind.i64.wrap (x5 + (IntKind.i64.wrap (1 - r10)))) true (IntKind.i64.wrap (x7 + 1)))
    else bif decide (0 ≤ x7) && decide (x7 < (x3.length : Int)) then (impl_takes.g (((x3.getD x7.toNat []).getD 0 (.i 0)).toI) (((x3.getD x7.toNat []).getD 1 (.i 0)).toI) (((x3.getD x7.toNat []).getD 2 (.i 0)).toI) (((x3.getD x7.toNat []).getD 3 (.i 0)).toI) (((x3.getD x7.toNat []).getD 4 (.i 0)).toI) (((x3.getD x7.toNat []).getD 5 (.i 0)).toL) fun r11 =>
     bif (IntKind.i64.wrap (x5 + (IntKind.i64.wrap (1 - r10))) == 1) then (bif decide (0 < r11) then rec (IntKind.i64.wrap (x7 + 1)) (IntKind.i64.wrap (x5 + (IntKind.i64.wrap (1 - r10)))) (decide (0 < r11)) (IntKind.i64.wrap (x7 + 1))
      else rec x4 (IntKind.i64.wrap (x5 + (IntKind.i64.wrap (1 - r10)))) (decide (0 < r11)) (IntKind.i64.wrap (x7 + 1)))
     else rec x4 (IntKind.i64.wrap (x5 + (IntKind.i64.wrap (1 - r10)))) (decide (0 < r11)) (IntKind.i64.wrap (x7 + 1)))
    else none)
    else none)
   else k x4)
   else none)
  else k x4)
  else none)
 else k x4
noncomputable def l0 (x3 : List (List Cl)) (k : Int → O) : Nat → Int → Int → Bool → Int → O
 | 0, _, _, _, _ => none
 | n + 1, x4, x5, x6, x7 => l0s x3 (l0 x3 k n) k x4 x5 x6 x7
noncomputable def o0 : Fn [.l, .i] St := fun _ y1 => ⟨mkT 58 [(5, oI y1)], [], []⟩
noncomputable def n0 (K : Res → O) := ent 0 [.l] [.i, .i, .b, .i] [0, 1, 2, 3, 4] (fun x3 x4 x5 x6 x7 => ⟨mkT 58 [(0, one (.tr 0 1 e_0 (.cells x3))), (5, oI x4), (6, oI x5), (7, one (.bool x6)), (8, oI x7)], [], []⟩) fun x3 k => l0 x3 (fun y1 => k (o0 x3 y1))
noncomputable def X (K : Res → O) : Ctx := { cx0 [impl_plainStep.con, impl_takes.con] fi true K with cin := [(0, ⟨[0, 5, 6, 7, 8], [], [], [], [], []⟩)], cout := [(0, ⟨[5], [], [], [], [], []⟩)], lp := lpOf [n0 K] }
noncomputable def b (a1 : List (List Cl)) (a2 : Int) (R : Int → O) : O :=
 l0 a1 (fun y12 =>
 R y12) fuel a2 0 false a2
noncomputable def g := seal_ b
theorem e : g = b := seal_eq b
noncomputable def a : Fn [.l, .i] St := fun a1 a2 => argSt [one (.tr 0 1 e_0 (.cells a1)), oI a2] [] []
noncomputable def con := conOf 48 [.l, .i] [.i] a g m
theorem hx (K : Res → O) : CtxOk Pg Γ0 byt0 eqs0 (X K) [impl_plainStep.con, impl_takes.con] := ctx_of (X := X) (.cons impl_plainStep.ok (.cons impl_takes.ok .nil)) (by kernel_rfl) K
theorem w0 (K : Res → O) : LpSound Pg (X K) 0 b0 := lp_fin (L := [n0 K]) laid (hx K) .nil (.cons (ent_ok (fun x3 k r => l0s x3 r (fun y1 => k (o0 x3 y1))) (by kernel_rfl) (by kernel_rfl) (by kernel_rfl) (by kernel_rfl) (by kernel_rfl)) .nil) (by kernel_rfl) (by kernel_rfl)
theorem ok : Con Pg con := con_fin (fn := Tryz.f48) (c := c) (Fi := fi) (X := X) laid hx (fun K => (.cons (w0 K) .nil)) e (by kernel_rfl) (by kernel_rfl) (by kernel_rfl) (by kernel_rfl)
end impl_spanAt
namespace impl_Spans
noncomputable def c : Code := bodyOf Tryz.f21
noncomputable def fi : Fin := ⟨Γ0, [(.tmp 2, 50)], [[1]], [], [], []⟩
noncomputable def m : Fn [.l] (Fn [.l] Res) := fun _ r1 => ⟨[⟨false, [.ow 1000]⟩], [], [⟨e_2, .cells r1, true, 0, none⟩], [], []⟩
noncomputable def b0 : Code := codeAt c [1, 1, 1, 0, 1, 0, 0]
noncomputable def l0s (x3 : List (List Cl)) (rec : Int → List (List Cl) → O) (k : List (List Cl) → O) (x4 : Int) (x5 : List (List Cl)) : O :=
 bif decide (x4 < (x3.length : Int)) then (impl_spanAt.g x3 x4 fun r6 =>
  bif (r6 == x4) then rec (IntKind.i64.wrap (x4 + 1)) x5
  else bif decide ((x5.length + 1) * 16 ≤ 140737488355328) then rec r6 (x5 ++ ([[.i x4, .i r6]] : List (List Cl)))
  else none)
 else k x5
noncomputable def l0 (x3 : List (List Cl)) (k : List (List Cl) → O) : Nat → Int → List (List Cl) → O
 | 0, _, _ => none
 | n + 1, x4, x5 => l0s x3 (l0 x3 k n) k x4 x5
noncomputable def o0 : Fn [.l, .l] St := fun _ y1 => ⟨mkT 29 [(3, one (.ow 7152))], [(7152, ⟨e_2, .cells y1, true, 0, none⟩)], []⟩
noncomputable def n0 (K : Res → O) := ent 0 [.l] [.i, .l] [0, 1, 2] (fun x3 x4 x5 => ⟨mkT 29 [(0, one (.tr 0 1 e_0 (.cells x3))), (3, one (.ow 7152)), (4, oI x4)], [(7152, ⟨e_2, .cells x5, true, 0, none⟩)], []⟩) fun x3 k => l0 x3 (fun y1 => k (o0 x3 y1))
noncomputable def X (K : Res → O) : Ctx := { cx0 [impl_CodeOk.con, impl_spanAt.con] fi true K with own := [(3, 0, 0, e_2)], cin := [(0, ⟨[0, 3, 4], [(7152, 7152), (19512, 7152)], [], [], [], []⟩)], cout := [(0, ⟨[3], [(7152, 7152)], [], [], [], []⟩)], lp := lpOf [n0 K] }
noncomputable def b (a1 : List (List Cl)) (R : List (List Cl) → O) : O :=
 impl_CodeOk.g a1 fun r2 =>
 bif !r2 then R ([] : List (List Cl))
 else (l0 a1 (fun y7 =>
 R y7) fuel 0 ([] : List (List Cl)))
noncomputable def g := seal_ b
theorem e : g = b := seal_eq b
noncomputable def a : Fn [.l] St := fun a1 => argSt [one (.tr 0 1 e_0 (.cells a1))] [] []
noncomputable def con := conOf 21 [.l] [.l] a g m
theorem hx (K : Res → O) : CtxOk Pg Γ0 byt0 eqs0 (X K) [impl_CodeOk.con, impl_spanAt.con] := ctx_of (X := X) (.cons impl_CodeOk.ok (.cons impl_spanAt.ok .nil)) (by kernel_rfl) K
theorem w0 (K : Res → O) : LpSound Pg (X K) 0 b0 := lp_fin (L := [n0 K]) laid (hx K) .nil (.cons (ent_ok (fun x3 k r => l0s x3 r (fun y1 => k (o0 x3 y1))) (by kernel_rfl) (by kernel_rfl) (by kernel_rfl) (by kernel_rfl) (by kernel_rfl)) .nil) (by kernel_rfl) (by kernel_rfl)
theorem ok : Con Pg con := con_fin (fn := Tryz.f21) (c := c) (Fi := fi) (X := X) laid hx (fun K => (.cons (w0 K) .nil)) e (by kernel_rfl) (by kernel_rfl) (by kernel_rfl) (by kernel_rfl)
end impl_Spans
namespace slices_Index_impl_Span_impl_Span
noncomputable def c : Code := bodyOf Tryz.f65
noncomputable def fi : Fin := ⟨Γ0, [(.tmp 4, 3)], [[1]], [], [], []⟩
noncomputable def m : Fn [.l, .i, .i] (Fn [.i] Res) := fun _ _ _ r1 => ⟨[⟨false, [cI r1]⟩], [], [], [], []⟩
noncomputable def b0 : Code := codeAt c [1, 0, 1, 0, 0]
noncomputable def l0s (x4 : List (List Cl)) (x5 x7 x8 : Int) (rec : Int → O) (k : O) (R : Int → O) (x6 : Int) : O :=
 bif decide (x6 < x5) then (bif decide (0 ≤ x6) && decide (x6 < (x4.length : Int)) then (bif ((x7 == ((x4.getD x6.toNat []).getD 0 (.i 0)).toI) && ((x8 == ((x4.getD x6.toNat []).getD 1 (.i 0)).toI) && true)) then R x6
  else rec (IntKind.i64.wrap (x6 + 1)))
  else none)
 else k
noncomputable def l0 (x4 : List (List Cl)) (x5 x7 x8 : Int) (k : O) (R : Int → O) : Nat → Int → O
 | 0, _ => none
 | n + 1, x6 => l0s x4 x5 x7 x8 (l0 x4 x5 x7 x8 k R n) k R x6
noncomputable def o0 : Fn [.l, .i, .i, .i] St := fun _ _ _ _ => ⟨mkT 19 [], [], []⟩
noncomputable def n0 (K : Res → O) := ent 0 [.l, .i, .i, .i] [.i] [0, 1, 3, 4, 2] (fun x4 x5 x7 x8 x6 => ⟨mkT 19 [(0, one (.tr 0 1 e_2 (.cells x4))), (3, one (.bp 1000 0)), (7, oI x5), (8, oI x6)], [], [(1000, [cI x7, cI x8])]⟩) fun x4 x5 x7 x8 k => l0 x4 x5 x7 x8 (k (o0 x4 x5 x7 x8)) (fun r1 => K (m [] (0 : Int) (0 : Int) r1))
noncomputable def X (K : Res → O) : Ctx := { cx0 [] fi true K with cin := [(0, ⟨[0, 3, 7, 8], [], [1000], [], [], []⟩)], cout := [(0, ⟨[], [], [], [], [], []⟩)], lp := lpOf [n0 K] }
noncomputable def b (a1 : List (List Cl)) (a2 a3 : Int) (R : Int → O) : O :=
 l0 a1 (a1.length : Int) a2 a3 (
 R (-1)) R fuel 0
noncomputable def g := seal_ b
theorem e : g = b := seal_eq b
noncomputable def a : Fn [.l, .i, .i] St := fun a1 a2 a3 => argSt [one (.tr 0 1 e_2 (.cells a1)), .v ⟨true, [cI a2, cI a3]⟩] [] []
noncomputable def con := conOf 65 [.l, .i, .i] [.i] a g m
theorem hx (K : Res → O) : CtxOk Pg Γ0 byt0 eqs0 (X K) [] := ctx_of (X := X) .nil (by kernel_rfl) K
theorem w0 (K : Res → O) : LpSound Pg (X K) 0 b0 := lp_fin (L := [n0 K]) laid (hx K) .nil (.cons (ent_ok (fun x4 x5 x7 x8 k r => l0s x4 x5 x7 x8 r (k (o0 x4 x5 x7 x8)) (fun r1 => K (m [] (0 : Int) (0 : Int) r1))) (by kernel_rfl) (by kernel_rfl) (by kernel_rfl) (by kernel_rfl) (by kernel_rfl)) .nil) (by kernel_rfl) (by kernel_rfl)
theorem ok : Con Pg con := con_fin (fn := Tryz.f65) (c := c) (Fi := fi) (X := X) laid hx (fun K => (.cons (w0 K) .nil)) e (by kernel_rfl) (by kernel_rfl) (by kernel_rfl) (by kernel_rfl)
end slices_Index_impl_Span_impl_Span
namespace slices_Contains_impl_Span_impl_Span
noncomputable def c : Code := bodyOf Tryz.f32
noncomputable def fi : Fin := ⟨Γ0, [(.tmp 4, 4)], [[1]], [], [], []⟩
noncomputable def m : Fn [.l, .i, .i] (Fn [.b] Res) := fun _ _ _ r1 => ⟨[⟨false, [.bool r1]⟩], [], [], [], []⟩
noncomputable def X (K : Res → O) : Ctx := cx0 [slices_Index_impl_Span_impl_Span.con] fi true K
noncomputable def b (a1 : List (List Cl)) (a2 a3 : Int) (R : Bool → O) : O :=
 slices_Index_impl_Span_impl_Span.g a1 a2 a3 fun r4 =>
 R (decide (0 ≤ r4))
noncomputable def g := seal_ b
theorem e : g = b := seal_eq b
noncomputable def a : Fn [.l, .i, .i] St := fun a1 a2 a3 => argSt [one (.tr 0 1 e_2 (.cells a1)), .v ⟨true, [cI a2, cI a3]⟩] [] []
noncomputable def con := conOf 32 [.l, .i, .i] [.b] a g m
theorem ok : Con Pg con := con_fin (fn := Tryz.f32) (c := c) (Fi := fi) (X := X) laid (ctx_of (.cons slices_Index_impl_Span_impl_Span.ok .nil) (by kernel_rfl)) (fun K => .nil) e (by kernel_rfl) (by kernel_rfl) (by kernel_rfl) (by kernel_rfl)
end slices_Contains_impl_Span_impl_Span
namespace impl_vector
noncomputable def c : Code := bodyOf Tryz.f101
noncomputable def fi : Fin := ⟨Γ0, [(.cell 2 30, 30)], [[1, 1]], [], [], []⟩
noncomputable def m : Fn [.z] (Fn [.z] Res) := fun a1 r1 => ⟨[⟨true, [.ow 1000, .ow 1001]⟩], [], [⟨[.int .i64], .ints r1, true, 0, none⟩, ⟨[.int .i64], .ints a1, true, 0, none⟩], [], []⟩
noncomputable def X (K : Res → O) : Ctx := cx0 [] fi true K
noncomputable def b (a1 : List Int) (R : List Int → O) : O :=
 bif decide (a1.length * 8 ≤ 140737488355328) then R ([(a1.length : Int)] : List Int)
 else none
noncomputable def g := seal_ b
theorem e : g = b := seal_eq b
noncomputable def a : Fn [.z] St := fun a1 => argSt [one (.tr 0 1 [.int .i64] (.ints a1))] [] []
noncomputable def con := conOf 101 [.z] [.z] a g m
theorem ok : Con Pg con := con_fin (fn := Tryz.f101) (c := c) (Fi := fi) (X := X) laid (ctx_of .nil (by kernel_rfl)) (fun K => .nil) e (by kernel_rfl) (by kernel_rfl) (by kernel_rfl) (by kernel_rfl)
end impl_vector
namespace impl_numsArray
noncomputable def c : Code := bodyOf Tryz.f66
noncomputable def fi : Fin := ⟨Γ0, [(.cell 2 30, 30)], [[1, 1]], [], [], []⟩
noncomputable def m : Fn [.z] (Fn [.z, .z] Res) := fun _ r1 r2 => ⟨[⟨true, [.ow 1000, .ow 1001]⟩], [], [⟨[.int .i64], .ints r1, true, 0, none⟩, ⟨[.int .i64], .ints r2, true, 0, none⟩], [], []⟩
noncomputable def X (K : Res → O) : Ctx := cx0 [impl_vector.con] fi true K
noncomputable def b (a1 : List Int) (R : List Int → List Int → O) : O :=
 bif ((a1.length : Int) == 1) then (bif decide (0 < (a1.length : Int)) then R ([] : List Int) ([a1.getD 0 0] : List Int)
  else none)
 else (impl_vector.g a1 fun r2 =>
 R r2 a1)
noncomputable def g := seal_ b
theorem e : g = b := seal_eq b
noncomputable def a : Fn [.z] St := fun a1 => argSt [one (.tr 0 1 [.int .i64] (.ints a1))] [] []
noncomputable def con := conOf 66 [.z] [.z, .z] a g m
theorem ok : Con Pg con := con_fin (fn := Tryz.f66) (c := c) (Fi := fi) (X := X) laid (ctx_of (.cons impl_vector.ok .nil) (by kernel_rfl)) (fun K => .nil) e (by kernel_rfl) (by kernel_rfl) (by kernel_rfl) (by kernel_rfl)
end impl_numsArray
namespace slices_Equal_int_int
noncomputable def c : Code := bodyOf Tryz.f67
noncomputable def fi : Fin := ⟨Γ0, [(.tmp 4, 4)], [[1]], [], [], []⟩
noncomputable def m : Fn [.z, .z] (Fn [.b] Res) := fun _ _ r1 => ⟨[⟨false, [.bool r1]⟩], [], [], [], []⟩
noncomputable def b0 : Code := codeAt c [1, 1, 0, 1, 0, 0]
noncomputable def l0s (x3 x4 : List Int) (x5 : Int) (rec : Int → O) (k : O) (R : Bool → O) (x6 : Int) : O :=
 bif decide (x6 < x5) then (bif decide (0 ≤ x6) && decide (x6 < (x3.length : Int)) then (bif decide (0 ≤ x6) && decide (x6 < (x4.length : Int)) then (bif (x3.getD x6.toNat 0 != x4.getD x6.toNat 0) then R false
  else rec (IntKind.i64.wrap (x6 + 1)))
  else none)
  else none)
 else k
noncomputable def l0 (x3 x4 : List Int) (x5 : Int) (k : O) (R : Bool → O) : Nat → Int → O
 | 0, _ => none
 | n + 1, x6 => l0s x3 x4 x5 (l0 x3 x4 x5 k R n) k R x6
noncomputable def o0 : Fn [.z, .z, .i] St := fun _ _ _ => ⟨mkT 26 [], [], []⟩
noncomputable def n0 (K : Res → O) := ent 0 [.z, .z, .i] [.i] [0, 1, 2, 3] (fun x3 x4 x5 x6 => ⟨mkT 26 [(0, one (.tr 0 1 [.int .i64] (.ints x3))), (1, one (.tr 0 1 [.int .i64] (.ints x4))), (12, oI x5), (13, oI x6)], [], []⟩) fun x3 x4 x5 k => l0 x3 x4 x5 (k (o0 x3 x4 x5)) (fun r1 => K (m [] [] r1))
noncomputable def X (K : Res → O) : Ctx := { cx0 [] fi true K with cin := [(0, ⟨[0, 1, 12, 13], [], [], [], [], []⟩)], cout := [(0, ⟨[], [], [], [], [], []⟩)], lp := lpOf [n0 K] }
noncomputable def b (a1 a2 : List Int) (R : Bool → O) : O :=
 bif ((a1.length : Int) != (a2.length : Int)) then R false
 else (l0 a1 a2 (a1.length : Int) (
 R true) R fuel 0)
noncomputable def g := seal_ b
theorem e : g = b := seal_eq b
noncomputable def a : Fn [.z, .z] St := fun a1 a2 => argSt [one (.tr 0 1 [.int .i64] (.ints a1)), one (.tr 0 1 [.int .i64] (.ints a2))] [] []
noncomputable def con := conOf 67 [.z, .z] [.b] a g m
theorem hx (K : Res → O) : CtxOk Pg Γ0 byt0 eqs0 (X K) [] := ctx_of (X := X) .nil (by kernel_rfl) K
theorem w0 (K : Res → O) : LpSound Pg (X K) 0 b0 := lp_fin (L := [n0 K]) laid (hx K) .nil (.cons (ent_ok (fun x3 x4 x5 k r => l0s x3 x4 x5 r (k (o0 x3 x4 x5)) (fun r1 => K (m [] [] r1))) (by kernel_rfl) (by kernel_rfl) (by kernel_rfl) (by kernel_rfl) (by kernel_rfl)) .nil) (by kernel_rfl) (by kernel_rfl)
theorem ok : Con Pg con := con_fin (fn := Tryz.f67) (c := c) (Fi := fi) (X := X) laid hx (fun K => (.cons (w0 K) .nil)) e (by kernel_rfl) (by kernel_rfl) (by kernel_rfl) (by kernel_rfl)
end slices_Equal_int_int
namespace impl_guarded
noncomputable def c : Code := bodyOf Tryz.f33
noncomputable def fi : Fin := ⟨Γ0, [(.tmp 4, 28), (.tmp 5, 4)], [[1], [1]], [], [], []⟩
noncomputable def m : Fn [.l, .l] (Fn [.z, .b] Res) := fun _ _ r1 r2 => ⟨[⟨false, [.ow 1000]⟩, ⟨false, [.bool r2]⟩], [], [⟨[.int .i64], .ints r1, true, 0, none⟩], [], []⟩
noncomputable def b0 : Code := codeAt c [1, 1, 0, 1, 0, 0]
noncomputable def l0s  (rec : List (List Cl) → List (List Cl) → Int → Int → List Int → O) (k : List Int → O) (R : List Int → Bool → O) (x9 x10 : List (List Cl)) (x11 x12 : Int) (x13 : List Int) : O :=
 bif decide (x12 < x11) then (bif decide (0 ≤ x12) && decide (x12 < (x10.length : Int)) then (bif (((x10.getD x12.toNat []).getD 0 (.i 0)).toI == 1) then (impl_numsArray.g (((x10.getD x12.toNat []).getD 5 (.i 0)).toL) fun r14 r15 =>
  bif ((r14.length : Int) == 0) then rec x9 x10 x11 (IntKind.i64.wrap (x12 + 1)) x13
  else bif ((r15.length : Int) == 0) then R ([] : List Int) false
  else bif decide (0 < x13.length) then (slices_Equal_int_int.g x13 r14 fun r16 =>
   bif !r16 then R ([] : List Int) false
   else bif decide (r14.length * 8 ≤ 140737488355328) then rec x9 x10 x11 (IntKind.i64.wrap (x12 + 1)) r14
   else none)
  else none)
  else bif (((x10.getD x12.toNat []).getD 0 (.i 0)).toI == 2) then (bif decide (0 ≤ ((x10.getD x12.toNat []).getD 1 (.i 0)).toI) && decide (((x10.getD x12.toNat []).getD 1 (.i 0)).toI < (x9.length : Int)) then (bif !(((x9.getD ((((x10.getD x12.toNat []).getD 1 (.i 0)).toI).toNat) []).getD 0 (.i 0)).toB) then R ([] : List Int) false
   else bif decide (0 ≤ ((x10.getD x12.toNat []).getD 1 (.i 0)).toI) && decide (((x10.getD x12.toNat []).getD 1 (.i 0)).toI < (x9.length : Int)) then (bif (((((x9.getD ((((x10.getD x12.toNat []).getD 1 (.i 0)).toI).toNat) []).getD 1 (.i 0)).toL).length : Int) == 0) then rec x9 x10 x11 (IntKind.i64.wrap (x12 + 1)) x13
    else bif (((((x9.getD ((((x10.getD x12.toNat []).getD 1 (.i 0)).toI).toNat) []).getD 2 (.i 0)).toL).length : Int) == 0) then R ([] : List Int) false
    else bif decide (0 < x13.length) then (slices_Equal_int_int.g x13 (((x9.getD ((((x10.getD x12.toNat []).getD 1 (.i 0)).toI).toNat) []).getD 1 (.i 0)).toL) fun r17 =>
     bif !r17 then R ([] : List Int) false
     else bif decide ((((x9.getD ((((x10.getD x12.toNat []).getD 1 (.i 0)).toI).toNat) []).getD 1 (.i 0)).toL).length * 8 ≤ 140737488355328) then rec x9 x10 x11 (IntKind.i64.wrap (x12 + 1)) (((x9.getD ((((x10.getD x12.toNat []).getD 1 (.i 0)).toI).toNat) []).getD 1 (.i 0)).toL)
     else none)
    else none)
   else none)
   else none)
  else rec x9 x10 x11 (IntKind.i64.wrap (x12 + 1)) x13)
  else none)
 else k x13
noncomputable def l0  (k : List Int → O) (R : List Int → Bool → O) : Nat → List (List Cl) → List (List Cl) → Int → Int → List Int → O
 | 0, _, _, _, _, _ => none
 | n + 1, x9, x10, x11, x12, x13 => l0s (l0 k R n) k R x9 x10 x11 x12 x13
noncomputable def o0 : Fn [.z] St := fun y1 => ⟨mkT 63 [(6, one (.ow 122893288))], [(122893288, ⟨[.int .i64], .ints y1, true, 0, none⟩)], []⟩
noncomputable def n0 (K : Res → O) := ent 0 [] [.l, .l, .i, .i, .z] [0, 1, 2, 3, 4] (fun x9 x10 x11 x12 x13 => ⟨mkT 63 [(1, one (.tr 0 1 e_1 (.cells x9))), (6, one (.ow 122893288)), (10, one (.tr 0 1 e_0 (.cells x10))), (11, oI x11), (12, oI x12)], [(122893288, ⟨[.int .i64], .ints x13, true, 0, none⟩)], []⟩) fun k => l0 (fun y1 => k (o0 y1)) (fun r1 r2 => K (m [] [] r1 r2))
noncomputable def l0_2s (x3 x4 : List (List Cl)) (x5 : Int) (rec : Int → O) (recB : List (List Cl) → List (List Cl) → Int → Int → List Int → O) (k : O) (kB : List Int → O) (R : List Int → Bool → O) (x6 : Int) : O :=
 bif decide (x6 < x5) then (bif decide (0 ≤ x6) && decide (x6 < (x4.length : Int)) then (bif (((x4.getD x6.toNat []).getD 0 (.i 0)).toI == 1) then (impl_numsArray.g (((x4.getD x6.toNat []).getD 5 (.i 0)).toL) fun r7 r8 =>
  bif ((r7.length : Int) == 0) then rec (IntKind.i64.wrap (x6 + 1))
  else bif ((r8.length : Int) == 0) then R ([] : List Int) false
  else bif decide (r7.length * 8 ≤ 140737488355328) then recB x3 x4 x5 (IntKind.i64.wrap (x6 + 1)) r7
  else none)
  else bif (((x4.getD x6.toNat []).getD 0 (.i 0)).toI == 2) then (bif decide (0 ≤ ((x4.getD x6.toNat []).getD 1 (.i 0)).toI) && decide (((x4.getD x6.toNat []).getD 1 (.i 0)).toI < (x3.length : Int)) then (bif !(((x3.getD ((((x4.getD x6.toNat []).getD 1 (.i 0)).toI).toNat) []).getD 0 (.i 0)).toB) then R ([] : List Int) false
   else bif decide (0 ≤ ((x4.getD x6.toNat []).getD 1 (.i 0)).toI) && decide (((x4.getD x6.toNat []).getD 1 (.i 0)).toI < (x3.length : Int)) then (bif (((((x3.getD ((((x4.getD x6.toNat []).getD 1 (.i 0)).toI).toNat) []).getD 1 (.i 0)).toL).length : Int) == 0) then rec (IntKind.i64.wrap (x6 + 1))
    else bif (((((x3.getD ((((x4.getD x6.toNat []).getD 1 (.i 0)).toI).toNat) []).getD 2 (.i 0)).toL).length : Int) == 0) then R ([] : List Int) false
    else bif decide ((((x3.getD ((((x4.getD x6.toNat []).getD 1 (.i 0)).toI).toNat) []).getD 1 (.i 0)).toL).length * 8 ≤ 140737488355328) then recB x3 x4 x5 (IntKind.i64.wrap (x6 + 1)) (((x3.getD ((((x4.getD x6.toNat []).getD 1 (.i 0)).toI).toNat) []).getD 1 (.i 0)).toL)
    else none)
   else none)
   else none)
  else rec (IntKind.i64.wrap (x6 + 1)))
  else none)
 else k
noncomputable def l0_2 (x3 x4 : List (List Cl)) (x5 : Int) (k : O) (kB : List Int → O) (R : List Int → Bool → O) : Nat → Int → O
 | 0, _ => none
 | n + 1, x6 => l0_2s x3 x4 x5 (l0_2 x3 x4 x5 k kB R n) (l0 kB R n) k kB R x6
noncomputable def o0_2 : Fn [.l, .l, .i] St := fun _ _ _ => ⟨mkT 63 [(6, one (.nil))], [], []⟩
noncomputable def n0_2 (K : Res → O) := ent 0 [.l, .l, .i] [.i] [0, 1, 2, 3] (fun x3 x4 x5 x6 => ⟨mkT 63 [(1, one (.tr 0 1 e_1 (.cells x3))), (6, one (.nil)), (10, one (.tr 0 1 e_0 (.cells x4))), (11, oI x5), (12, oI x6)], [], []⟩) fun x3 x4 x5 k => l0_2 x3 x4 x5 (k (o0_2 x3 x4 x5)) (fun y1 => k (o0 y1)) (fun r1 r2 => K (m [] [] r1 r2))
noncomputable def X (K : Res → O) : Ctx := { cx0 [impl_numsArray.con, slices_Equal_int_int.con] fi true K with cin := [(0, ⟨[1, 6, 10, 11, 12], [(33800, 122893288), (122893288, 122893288)], [], [], [], []⟩)], cout := [(0, ⟨[6], [(122893288, 122893288)], [], [], [], []⟩)], lp := lpOf [n0 K, n0_2 K] }
noncomputable def b (a1 a2 : List (List Cl)) (R : List Int → Bool → O) : O :=
 l0_2 a2 a1 (a1.length : Int) (
 R ([] : List Int) true) (fun y18 =>
 R y18 true) R fuel 0
noncomputable def g := seal_ b
theorem e : g = b := seal_eq b
noncomputable def a : Fn [.l, .l] St := fun a1 a2 => argSt [one (.tr 0 1 e_0 (.cells a1)), one (.tr 0 1 e_1 (.cells a2))] [] []
noncomputable def con := conOf 33 [.l, .l] [.z, .b] a g m
theorem hx (K : Res → O) : CtxOk Pg Γ0 byt0 eqs0 (X K) [impl_numsArray.con, slices_Equal_int_int.con] := ctx_of (X := X) (.cons impl_numsArray.ok (.cons slices_Equal_int_int.ok .nil)) (by kernel_rfl) K
theorem w0 (K : Res → O) : LpSound Pg (X K) 0 b0 := lp_fin (L := [n0 K, n0_2 K]) laid (hx K) .nil (.cons (ent_ok (fun k r => l0s r (fun y1 => k (o0 y1)) (fun r1 r2 => K (m [] [] r1 r2))) (by kernel_rfl) (by kernel_rfl) (by kernel_rfl) (by kernel_rfl) (by kernel_rfl)) (.cons (ent_ok2 (W' := [.l, .l, .i, .i, .z]) (s' := fun x9 x10 x11 x12 x13 => ⟨mkT 63 [(1, one (.tr 0 1 e_1 (.cells x9))), (6, one (.ow 122893288)), (10, one (.tr 0 1 e_0 (.cells x10))), (11, oI x11), (12, oI x12)], [(122893288, ⟨[.int .i64], .ints x13, true, 0, none⟩)], []⟩) (l' := fun k => l0 (fun y1 => k (o0 y1)) (fun r1 r2 => K (m [] [] r1 r2))) (fun k r => l0s r (fun y1 => k (o0 y1)) (fun r1 r2 => K (m [] [] r1 r2))) (fun x3 x4 x5 k r rB => l0_2s x3 x4 x5 r rB (k (o0_2 x3 x4 x5)) (fun y1 => k (o0 y1)) (fun r1 r2 => K (m [] [] r1 r2))) (by kernel_rfl) (by kernel_rfl) (by kernel_rfl) (by kernel_rfl) (by kernel_rfl) (by kernel_rfl) (by kernel_rfl) (by kernel_rfl)) .nil)) (by kernel_rfl) (by kernel_rfl)
theorem ok : Con Pg con := con_fin (fn := Tryz.f33) (c := c) (Fi := fi) (X := X) laid hx (fun K => (.cons (w0 K) .nil)) e (by kernel_rfl) (by kernel_rfl) (by kernel_rfl) (by kernel_rfl)
end impl_guarded
namespace impl_at
noncomputable def c : Code := bodyOf Tryz.f69
noncomputable def fi : Fin := ⟨Γ0, [(.tmp 4, 3)], [[1]], [], [], []⟩
noncomputable def m : Fn [.z, .z, .i] (Fn [.i] Res) := fun _ _ _ r1 => ⟨[⟨false, [cI r1]⟩], [], [], [], []⟩
noncomputable def X (K : Res → O) : Ctx := cx0 [] fi true K
noncomputable def b (a1 a2 : List Int) (a3 : Int) (R : Int → O) : O :=
 bif ((a1.length : Int) == 0) then (bif decide (0 < (a2.length : Int)) then R (a2.getD 0 0)
  else none)
 else bif decide (0 ≤ a3) && decide (a3 < (a2.length : Int)) then R (a2.getD a3.toNat 0)
 else none
noncomputable def g := seal_ b
theorem e : g = b := seal_eq b
noncomputable def a : Fn [.z, .z, .i] St := fun a1 a2 a3 => argSt [.v ⟨true, [.tr 0 1 [.int .i64] (.ints a1), .tr 0 1 [.int .i64] (.ints a2)]⟩, oI a3] [] []
noncomputable def con := conOf 69 [.z, .z, .i] [.i] a g m
theorem ok : Con Pg con := con_fin (fn := Tryz.f69) (c := c) (Fi := fi) (X := X) laid (ctx_of .nil (by kernel_rfl)) (fun K => .nil) e (by kernel_rfl) (by kernel_rfl) (by kernel_rfl) (by kernel_rfl)
end impl_at
namespace impl_truth
noncomputable def c : Code := bodyOf Tryz.f103
noncomputable def fi : Fin := ⟨Γ0, [(.tmp 2, 3)], [[1]], [], [], []⟩
noncomputable def m : Fn [.b] (Fn [.i] Res) := fun _ r1 => ⟨[⟨false, [cI r1]⟩], [], [], [], []⟩
noncomputable def X (K : Res → O) : Ctx := cx0 [] fi true K
noncomputable def b (a1 : Bool) (R : Int → O) : O :=
 bif a1 then R 1
 else R 0
noncomputable def g := seal_ b
theorem e : g = b := seal_eq b
noncomputable def a : Fn [.b] St := fun a1 => argSt [one (.bool a1)] [] []
noncomputable def con := conOf 103 [.b] [.i] a g m
theorem ok : Con Pg con := con_fin (fn := Tryz.f103) (c := c) (Fi := fi) (X := X) laid (ctx_of .nil (by kernel_rfl)) (fun K => .nil) e (by kernel_rfl) (by kernel_rfl) (by kernel_rfl) (by kernel_rfl)
end impl_truth
namespace impl_One
noncomputable def c : Code := bodyOf Tryz.f70
noncomputable def fi : Fin := ⟨Γ0, [(.tmp 4, 3), (.tmp 5, 3)], [[1], [1]], [], [], []⟩
noncomputable def m : Fn [.i, .i] (Fn [.i, .i] Res) := fun _ _ r1 r2 => ⟨[⟨false, [cI r1]⟩, ⟨false, [cI r2]⟩], [], [], [], []⟩
noncomputable def X (K : Res → O) : Ctx := cx0 [impl_oneSign.con, impl_NumOk.con, impl_truth.con, impl_within.con] fi true K
noncomputable def b (a1 a2 : Int) (R : Int → Int → O) : O :=
 impl_oneSign.g a1 fun r3 =>
 bif !r3 then R 0 1
 else (impl_NumOk.g a2 fun r4 =>
 bif !r4 then R 0 1
 else bif (a1 == 45) then R (IntKind.i64.wrap (0 - a2)) 0
 else bif (a1 == 42) then (impl_truth.g (decide (0 < a2)) fun r5 =>
  impl_truth.g (decide (a2 < 0)) fun r6 =>
  R (IntKind.i64.wrap (r5 - r6)) 0)
 else bif (a1 == 124) then R (minmax true a2 (IntKind.i64.wrap (0 - a2))) 0
 else bif (a1 == 126) then (impl_within.g a2 0 1 fun r7 =>
  bif !r7 then R 0 2
  else R (IntKind.i64.wrap (1 - a2)) 0)
 else R a2 0)
noncomputable def g := seal_ b
theorem e : g = b := seal_eq b
noncomputable def a : Fn [.i, .i] St := fun a1 a2 => argSt [oI a1, oI a2] [] []
noncomputable def con := conOf 70 [.i, .i] [.i, .i] a g m
theorem ok : Con Pg con := con_fin (fn := Tryz.f70) (c := c) (Fi := fi) (X := X) laid (ctx_of (.cons impl_oneSign.ok (.cons impl_NumOk.ok (.cons impl_truth.ok (.cons impl_within.ok .nil)))) (by kernel_rfl)) (fun K => .nil) e (by kernel_rfl) (by kernel_rfl) (by kernel_rfl) (by kernel_rfl)
end impl_One
namespace impl_product
noncomputable def c : Code := bodyOf Tryz.f105
noncomputable def fi : Fin := ⟨Γ0, [(.tmp 4, 3), (.tmp 5, 4)], [[1], [1]], [], [], []⟩
noncomputable def m : Fn [.i, .i] (Fn [.i, .b] Res) := fun _ _ r1 r2 => ⟨[⟨false, [cI r1]⟩, ⟨false, [.bool r2]⟩], [], [], [], []⟩
noncomputable def X (K : Res → O) : Ctx := cx0 [] fi true K
noncomputable def b (a1 a2 : Int) (R : Int → Bool → O) : O :=
 bif (a1 != 0) then (bif decide (minmax true a1 (IntKind.i64.wrap (0 - a1)) = 0) then none
  else bif decide (IntKind.i64.wrap ((1000000000000 : Int).tdiv (minmax true a1 (IntKind.i64.wrap (0 - a1)))) < minmax true a2 (IntKind.i64.wrap (0 - a2))) then R 0 false
  else R (IntKind.i64.wrap (a1 * a2)) true)
 else R (IntKind.i64.wrap (a1 * a2)) true
noncomputable def g := seal_ b
theorem e : g = b := seal_eq b
noncomputable def a : Fn [.i, .i] St := fun a1 a2 => argSt [oI a1, oI a2] [] []
noncomputable def con := conOf 105 [.i, .i] [.i, .b] a g m
theorem ok : Con Pg con := con_fin (fn := Tryz.f105) (c := c) (Fi := fi) (X := X) laid (ctx_of .nil (by kernel_rfl)) (fun K => .nil) e (by kernel_rfl) (by kernel_rfl) (by kernel_rfl) (by kernel_rfl)
end impl_product
namespace impl_floor
noncomputable def c : Code := bodyOf Tryz.f106
noncomputable def fi : Fin := ⟨Γ0, [(.tmp 4, 3)], [[1]], [], [], []⟩
noncomputable def m : Fn [.i, .i] (Fn [.i] Res) := fun _ _ r1 => ⟨[⟨false, [cI r1]⟩], [], [], [], []⟩
noncomputable def X (K : Res → O) : Ctx := cx0 [] fi true K
noncomputable def b (a1 a2 : Int) (R : Int → O) : O :=
 bif decide (a2 = 0) then none
 else bif decide (a2 = 0) then none
 else bif (a1.tmod a2 != 0) then (bif ((decide (a1 < 0)) != (decide (a2 < 0))) then R (IntKind.i64.wrap ((IntKind.i64.wrap (a1.tdiv a2)) - 1))
  else R (IntKind.i64.wrap (a1.tdiv a2)))
 else R (IntKind.i64.wrap (a1.tdiv a2))
noncomputable def g := seal_ b
theorem e : g = b := seal_eq b
noncomputable def a : Fn [.i, .i] St := fun a1 a2 => argSt [oI a1, oI a2] [] []
noncomputable def con := conOf 106 [.i, .i] [.i] a g m
theorem ok : Con Pg con := con_fin (fn := Tryz.f106) (c := c) (Fi := fi) (X := X) laid (ctx_of .nil (by kernel_rfl)) (fun K => .nil) e (by kernel_rfl) (by kernel_rfl) (by kernel_rfl) (by kernel_rfl)
end impl_floor
namespace impl_Two
noncomputable def c : Code := bodyOf Tryz.f71
noncomputable def fi : Fin := ⟨Γ0, [(.tmp 6, 3), (.tmp 7, 3)], [[1], [1]], [], [], []⟩
noncomputable def m : Fn [.i, .i, .i] (Fn [.i, .i] Res) := fun _ _ _ r1 r2 => ⟨[⟨false, [cI r1]⟩, ⟨false, [cI r2]⟩], [], [], [], []⟩
noncomputable def X (K : Res → O) : Ctx := cx0 [impl_twoSign.con, impl_NumOk.con, impl_product.con, impl_floor.con, impl_truth.con] fi true K
noncomputable def b (a1 a2 a3 : Int) (R : Int → Int → O) : O :=
 impl_twoSign.g a1 fun r4 =>
 bif !r4 then R 0 1
 else (impl_NumOk.g a2 fun r5 =>
 bif !r5 then R 0 1
 else (impl_NumOk.g a3 fun r6 =>
 bif !r6 then R 0 1
 else bif (a1 == 43) then (impl_NumOk.g (IntKind.i64.wrap (a2 + a3)) fun r7 =>
  bif !r7 then R 0 6
  else R (IntKind.i64.wrap (a2 + a3)) 0)
 else bif (a1 == 45) then (impl_NumOk.g (IntKind.i64.wrap (a2 - a3)) fun r8 =>
  bif !r8 then R 0 6
  else R (IntKind.i64.wrap (a2 - a3)) 0)
 else bif (a1 == 42) then (impl_product.g a2 a3 fun r9 r10 =>
  bif !r10 then R 0 6
  else (impl_NumOk.g r9 fun r11 =>
  bif !r11 then R 0 6
  else R r9 0))
 else bif (a1 == 37) then (bif (a3 == 0) then R 0 2
  else (impl_floor.g a2 a3 fun r12 =>
  impl_NumOk.g r12 fun r13 =>
  bif !r13 then R 0 6
  else R r12 0))
 else bif (a1 == 124) then (bif (a2 != 0) then (impl_floor.g a3 a2 fun r14 =>
  impl_NumOk.g (IntKind.i64.wrap (a3 - (IntKind.i64.wrap (a2 * r14)))) fun r15 =>
  bif !r15 then R 0 6
  else R (IntKind.i64.wrap (a3 - (IntKind.i64.wrap (a2 * r14)))) 0)
  else (impl_NumOk.g a3 fun r16 =>
  bif !r16 then R 0 6
  else R a3 0))
 else bif (a1 == 38) then (impl_NumOk.g (minmax false a2 a3) fun r17 =>
  bif !r17 then R 0 6
  else R (minmax false a2 a3) 0)
 else bif (a1 == 94) then (impl_NumOk.g (minmax true a2 a3) fun r18 =>
  bif !r18 then R 0 6
  else R (minmax true a2 a3) 0)
 else bif (a1 == 61) then (impl_truth.g (a2 == a3) fun r19 =>
  impl_NumOk.g r19 fun r20 =>
  bif !r20 then R 0 6
  else R r19 0)
 else bif (a1 == 60) then (impl_truth.g (decide (a2 < a3)) fun r21 =>
  impl_NumOk.g r21 fun r22 =>
  bif !r22 then R 0 6
  else R r21 0)
 else (impl_truth.g (decide (a3 < a2)) fun r23 =>
 impl_NumOk.g r23 fun r24 =>
 bif !r24 then R 0 6
 else R r23 0)))
noncomputable def g := seal_ b
theorem e : g = b := seal_eq b
noncomputable def a : Fn [.i, .i, .i] St := fun a1 a2 a3 => argSt [oI a1, oI a2, oI a3] [] []
noncomputable def con := conOf 71 [.i, .i, .i] [.i, .i] a g m
theorem ok : Con Pg con := con_fin (fn := Tryz.f71) (c := c) (Fi := fi) (X := X) laid (ctx_of (.cons impl_twoSign.ok (.cons impl_NumOk.ok (.cons impl_product.ok (.cons impl_floor.ok (.cons impl_truth.ok .nil))))) (by kernel_rfl)) (fun K => .nil) e (by kernel_rfl) (by kernel_rfl) (by kernel_rfl) (by kernel_rfl)
end impl_Two
namespace impl_atPlace
noncomputable def c : Code := bodyOf Tryz.f35
noncomputable def fi : Fin := ⟨Γ0, [(.tmp 6, 3), (.tmp 7, 4)], [[1], [1]], [], [], []⟩
noncomputable def m : Fn [.l, .l, .i] (Fn [.i, .b] Res) := fun _ _ _ r1 r2 => ⟨[⟨false, [cI r1]⟩, ⟨false, [.bool r2]⟩], [], [], [], []⟩
noncomputable def b0 : Code := codeAt c [1, 1, 0, 1, 0, 0]
noncomputable def l0s (x4 : List (List Cl)) (x5 : Int) (x6 : List (List Cl)) (x7 : Int) (rec : Int → List Int → O) (k : List Int → O) (R : Int → Bool → O) (x8 : Int) (x9 : List Int) : O :=
 bif decide (x8 < x7) then (bif decide (0 ≤ x8) && decide (x8 < (x6.length : Int)) then (bif (((x6.getD x8.toNat []).getD 0 (.i 0)).toI == 1) then (impl_numsArray.g (((x6.getD x8.toNat []).getD 5 (.i 0)).toL) fun r10 r11 =>
  impl_at.g r10 r11 x5 fun r12 =>
  impl_takes.g (((x6.getD x8.toNat []).getD 0 (.i 0)).toI) (((x6.getD x8.toNat []).getD 1 (.i 0)).toI) (((x6.getD x8.toNat []).getD 2 (.i 0)).toI) (((x6.getD x8.toNat []).getD 3 (.i 0)).toI) (((x6.getD x8.toNat []).getD 4 (.i 0)).toI) (((x6.getD x8.toNat []).getD 5 (.i 0)).toL) fun r13 =>
  bif decide (0 ≤ IntKind.i64.wrap ((x9.length : Int) - r13)) && decide (IntKind.i64.wrap ((x9.length : Int) - r13) ≤ (x9.length : Int)) then (bif decide (((IntKind.i64.wrap ((x9.length : Int) - r13)).toNat + 1) * 8 ≤ 140737488355328) then rec (IntKind.i64.wrap (x8 + 1)) ((x9.take ((IntKind.i64.wrap ((x9.length : Int) - r13)).toNat)) ++ ([r12] : List Int))
   else none)
  else none)
  else bif (((x6.getD x8.toNat []).getD 0 (.i 0)).toI == 2) then (bif decide (0 ≤ ((x6.getD x8.toNat []).getD 1 (.i 0)).toI) && decide (((x6.getD x8.toNat []).getD 1 (.i 0)).toI < (x4.length : Int)) then (impl_at.g (((x4.getD ((((x6.getD x8.toNat []).getD 1 (.i 0)).toI).toNat) []).getD 1 (.i 0)).toL) (((x4.getD ((((x6.getD x8.toNat []).getD 1 (.i 0)).toI).toNat) []).getD 2 (.i 0)).toL) x5 fun r14 =>
   impl_takes.g (((x6.getD x8.toNat []).getD 0 (.i 0)).toI) (((x6.getD x8.toNat []).getD 1 (.i 0)).toI) (((x6.getD x8.toNat []).getD 2 (.i 0)).toI) (((x6.getD x8.toNat []).getD 3 (.i 0)).toI) (((x6.getD x8.toNat []).getD 4 (.i 0)).toI) (((x6.getD x8.toNat []).getD 5 (.i 0)).toL) fun r15 =>
   bif decide (0 ≤ IntKind.i64.wrap ((x9.length : Int) - r15)) && decide (IntKind.i64.wrap ((x9.length : Int) - r15) ≤ (x9.length : Int)) then (bif decide (((IntKind.i64.wrap ((x9.length : Int) - r15)).toNat + 1) * 8 ≤ 140737488355328) then rec (IntKind.i64.wrap (x8 + 1)) ((x9.take ((IntKind.i64.wrap ((x9.length : Int) - r15)).toNat)) ++ ([r14] : List Int))
    else none)
   else none)
   else none)
  else bif (((x6.getD x8.toNat []).getD 0 (.i 0)).toI == 4) then (bif decide (0 ≤ IntKind.i64.wrap ((x9.length : Int) - 1)) && decide (IntKind.i64.wrap ((x9.length : Int) - 1) < (x9.length : Int)) then (impl_One.g (((x6.getD x8.toNat []).getD 2 (.i 0)).toI) (x9.getD ((IntKind.i64.wrap ((x9.length : Int) - 1)).toNat) 0) fun r16 r17 =>
   bif (r17 != 0) then R 0 false
   else (impl_takes.g (((x6.getD x8.toNat []).getD 0 (.i 0)).toI) (((x6.getD x8.toNat []).getD 1 (.i 0)).toI) (((x6.getD x8.toNat []).getD 2 (.i 0)).toI) (((x6.getD x8.toNat []).getD 3 (.i 0)).toI) (((x6.getD x8.toNat []).getD 4 (.i 0)).toI) (((x6.getD x8.toNat []).getD 5 (.i 0)).toL) fun r18 =>
   bif decide (0 ≤ IntKind.i64.wrap ((x9.length : Int) - r18)) && decide (IntKind.i64.wrap ((x9.length : Int) - r18) ≤ (x9.length : Int)) then (bif decide (((IntKind.i64.wrap ((x9.length : Int) - r18)).toNat + 1) * 8 ≤ 140737488355328) then rec (IntKind.i64.wrap (x8 + 1)) ((x9.take ((IntKind.i64.wrap ((x9.length : Int) - r18)).toNat)) ++ ([r16] : List Int))
    else none)
   else none))
   else none)
  else bif decide (0 ≤ IntKind.i64.wrap ((x9.length : Int) - 1)) && decide (IntKind.i64.wrap ((x9.length : Int) - 1) < (x9.length : Int)) then (bif decide (0 ≤ IntKind.i64.wrap ((x9.length : Int) - 2)) && decide (IntKind.i64.wrap ((x9.length : Int) - 2) < (x9.length : Int)) then (impl_Two.g (((x6.getD x8.toNat []).getD 2 (.i 0)).toI) (x9.getD ((IntKind.i64.wrap ((x9.length : Int) - 1)).toNat) 0) (x9.getD ((IntKind.i64.wrap ((x9.length : Int) - 2)).toNat) 0) fun r19 r20 =>
   bif (r20 != 0) then R 0 false
   else (impl_takes.g (((x6.getD x8.toNat []).getD 0 (.i 0)).toI) (((x6.getD x8.toNat []).getD 1 (.i 0)).toI) (((x6.getD x8.toNat []).getD 2 (.i 0)).toI) (((x6.getD x8.toNat []).getD 3 (.i 0)).toI) (((x6.getD x8.toNat []).getD 4 (.i 0)).toI) (((x6.getD x8.toNat []).getD 5 (.i 0)).toL) fun r21 =>
   bif decide (0 ≤ IntKind.i64.wrap ((x9.length : Int) - r21)) && decide (IntKind.i64.wrap ((x9.length : Int) - r21) ≤ (x9.length : Int)) then (bif decide (((IntKind.i64.wrap ((x9.length : Int) - r21)).toNat + 1) * 8 ≤ 140737488355328) then rec (IntKind.i64.wrap (x8 + 1)) ((x9.take ((IntKind.i64.wrap ((x9.length : Int) - r21)).toNat)) ++ ([r19] : List Int))
    else none)
   else none))
   else none)
  else none)
  else none)
 else k x9
noncomputable def l0 (x4 : List (List Cl)) (x5 : Int) (x6 : List (List Cl)) (x7 : Int) (k : List Int → O) (R : Int → Bool → O) : Nat → Int → List Int → O
 | 0, _, _ => none
 | n + 1, x8, x9 => l0s x4 x5 x6 x7 (l0 x4 x5 x6 x7 k R n) k R x8 x9
noncomputable def o0 : Fn [.l, .i, .l, .i, .z] St := fun _ _ _ _ y1 => ⟨mkT 87 [(8, one (.ow 3056))], [(3056, ⟨[.int .i64], .ints y1, true, 0, none⟩)], []⟩
noncomputable def n0 (K : Res → O) := ent 0 [.l, .i, .l, .i] [.i, .z] [0, 1, 2, 3, 4, 5] (fun x4 x5 x6 x7 x8 x9 => ⟨mkT 87 [(1, one (.tr 0 1 e_1 (.cells x4))), (2, oI x5), (8, one (.ow 3056)), (14, one (.tr 0 1 e_0 (.cells x6))), (15, oI x7), (16, oI x8)], [(3056, ⟨[.int .i64], .ints x9, true, 0, none⟩)], []⟩) fun x4 x5 x6 x7 k => l0 x4 x5 x6 x7 (fun y1 => k (o0 x4 x5 x6 x7 y1)) (fun r1 r2 => K (m [] [] (0 : Int) r1 r2))
noncomputable def X (K : Res → O) : Ctx := { cx0 [impl_numsArray.con, impl_at.con, impl_takes.con, impl_One.con, impl_Two.con] fi true K with own := [(1, 0, 0, [.int .i64])], cin := [(0, ⟨[1, 2, 8, 14, 15, 16], [(3056, 3056), (35944, 3056)], [], [], [], []⟩)], cout := [(0, ⟨[8], [(3056, 3056)], [], [], [], []⟩)], lp := lpOf [n0 K] }
noncomputable def b (a1 a2 : List (List Cl)) (a3 : Int) (R : Int → Bool → O) : O :=
 l0 a2 a3 a1 (a1.length : Int) (fun y22 =>
 bif decide (0 < (y22.length : Int)) then R (y22.getD 0 0) true
 else none) R fuel 0 ([] : List Int)
noncomputable def g := seal_ b
theorem e : g = b := seal_eq b
noncomputable def a : Fn [.l, .l, .i] St := fun a1 a2 a3 => argSt [one (.tr 0 1 e_0 (.cells a1)), one (.tr 0 1 e_1 (.cells a2)), oI a3] [] []
noncomputable def con := conOf 35 [.l, .l, .i] [.i, .b] a g m
theorem hx (K : Res → O) : CtxOk Pg Γ0 byt0 eqs0 (X K) [impl_numsArray.con, impl_at.con, impl_takes.con, impl_One.con, impl_Two.con] := ctx_of (X := X) (.cons impl_numsArray.ok (.cons impl_at.ok (.cons impl_takes.ok (.cons impl_One.ok (.cons impl_Two.ok .nil))))) (by kernel_rfl) K
theorem w0 (K : Res → O) : LpSound Pg (X K) 0 b0 := lp_fin (L := [n0 K]) laid (hx K) .nil (.cons (ent_ok (fun x4 x5 x6 x7 k r => l0s x4 x5 x6 x7 r (fun y1 => k (o0 x4 x5 x6 x7 y1)) (fun r1 r2 => K (m [] [] (0 : Int) r1 r2))) (by kernel_rfl) (by kernel_rfl) (by kernel_rfl) (by kernel_rfl) (by kernel_rfl)) .nil) (by kernel_rfl) (by kernel_rfl)
theorem ok : Con Pg con := con_fin (fn := Tryz.f35) (c := c) (Fi := fi) (X := X) laid hx (fun K => (.cons (w0 K) .nil)) e (by kernel_rfl) (by kernel_rfl) (by kernel_rfl) (by kernel_rfl)
end impl_atPlace
namespace impl_FuseTry
noncomputable def c : Code := bodyOf Tryz.f11
noncomputable def fi : Fin := ⟨Γ0, [(.cell 6 30, 30), (.tmp 7, 4)], [[1, 1], [1]], [], [], []⟩
noncomputable def m : Fn [.l, .i, .i, .l] (Fn [.z, .z, .b] Res) := fun _ _ _ _ r1 r2 r3 => ⟨[⟨true, [.ow 1000, .ow 1001]⟩, ⟨false, [.bool r3]⟩], [], [⟨[.int .i64], .ints r1, true, 0, none⟩, ⟨[.int .i64], .ints r2, true, 0, none⟩], [], []⟩
noncomputable def b0 : Code := codeAt c [1, 1, 1, 1, 1, 1, 0, 1, 0, 0]
noncomputable def l0s (x10 x11 : List (List Cl)) (x13 : List Int) (rec : Int → List Int → O) (k : List Int → O) (R : List Int → List Int → Bool → O) (x12 : Int) (x14 : List Int) : O :=
 impl_SizeOf.g x13 fun r15 =>
 bif decide (x12 < r15) then (impl_atPlace.g x11 x10 x12 fun r16 r17 =>
  bif !r17 then R ([] : List Int) ([] : List Int) false
  else bif decide ((x14.length + 1) * 8 ≤ 140737488355328) then rec (IntKind.i64.wrap (x12 + 1)) (x14 ++ ([r16] : List Int))
  else none)
 else k x14
noncomputable def l0 (x10 x11 : List (List Cl)) (x13 : List Int) (k : List Int → O) (R : List Int → List Int → Bool → O) : Nat → Int → List Int → O
 | 0, _, _ => none
 | n + 1, x12, x14 => l0s x10 x11 x13 (l0 x10 x11 x13 k R n) k R x12 x14
noncomputable def o0 : Fn [.l, .l, .z, .z] St := fun _ _ x13 y2 => ⟨mkT 66 [(6, one (.bp 1016 0)), (11, one (.bp 15368 0))], [(9225, ⟨[.int .i64], .ints x13, true, 0, none⟩), (15361, ⟨[.int .i64], .ints y2, true, 0, none⟩)], [(1016, [.nil, .nil]), (15368, [.ow 9225, .ow 15361])]⟩
noncomputable def n0 (K : Res → O) := ent 0 [.l, .l, .z] [.i, .z] [0, 1, 3, 2, 4] (fun x10 x11 x13 x12 x14 => ⟨mkT 66 [(2, one (.tr 0 1 e_1 (.cells x10))), (6, one (.bp 1016 0)), (8, one (.tr 0 1 e_0 (.cells x11))), (9, one (.ow 9225)), (11, one (.bp 15368 0)), (12, oI x12)], [(9225, ⟨[.int .i64], .ints x13, true, 0, none⟩), (15361, ⟨[.int .i64], .ints x14, true, 0, none⟩)], [(1016, [.nil, .nil]), (15368, [.ow 9225, .ow 15361])]⟩) fun x10 x11 x13 k => l0 x10 x11 x13 (fun y2 => k (o0 x10 x11 x13 y2)) (fun r1 r2 r3 => K (m [] (0 : Int) (0 : Int) [] r1 r2 r3))
noncomputable def X (K : Res → O) : Ctx := { cx0 [impl_VarsOk.con, impl_Spans.con, slices_Contains_impl_Span_impl_Span.con, impl_guarded.con, impl_SizeOf.con, impl_atPlace.con] fi true K with own := [(7, 1, 1, [.int .i64])], cin := [(0, ⟨[2, 6, 8, 9, 11, 12], [(9225, 9225), (15361, 15361), (29736, 15361)], [1016, 15368], [], [], []⟩)], cout := [(0, ⟨[6, 11], [(9225, 9225), (15361, 15361)], [1016, 15368], [], [], []⟩)], lp := lpOf [n0 K] }
noncomputable def b (a1 : List (List Cl)) (a2 a3 : Int) (a4 : List (List Cl)) (R : List Int → List Int → Bool → O) : O :=
 impl_VarsOk.g a4 fun r5 =>
 bif !r5 then R ([] : List Int) ([] : List Int) false
 else (impl_Spans.g a1 fun r6 =>
 slices_Contains_impl_Span_impl_Span.g r6 a2 a3 fun r7 =>
 bif !r7 then R ([] : List Int) ([] : List Int) false
 else bif decide (0 ≤ a2) && decide (a2 ≤ a3) && decide (a3 ≤ (a1.length : Int)) then (impl_guarded.g ((a1.drop a2.toNat).take (a3.toNat - a2.toNat)) a4 fun r8 r9 =>
  bif !r9 then R ([] : List Int) ([] : List Int) false
  else (l0 a4 ((a1.drop a2.toNat).take (a3.toNat - a2.toNat)) r8 (fun y18 =>
  R r8 y18 true) R fuel 0 ([] : List Int)))
 else none)
noncomputable def g := seal_ b
theorem e : g = b := seal_eq b
noncomputable def a : Fn [.l, .i, .i, .l] St := fun a1 a2 a3 a4 => argSt [one (.tr 0 1 e_0 (.cells a1)), .v ⟨true, [cI a2, cI a3]⟩, one (.tr 0 1 e_1 (.cells a4))] [] []
noncomputable def con := conOf 11 [.l, .i, .i, .l] [.z, .z, .b] a g m
theorem hx (K : Res → O) : CtxOk Pg Γ0 byt0 eqs0 (X K) [impl_VarsOk.con, impl_Spans.con, slices_Contains_impl_Span_impl_Span.con, impl_guarded.con, impl_SizeOf.con, impl_atPlace.con] := ctx_of (X := X) (.cons impl_VarsOk.ok (.cons impl_Spans.ok (.cons slices_Contains_impl_Span_impl_Span.ok (.cons impl_guarded.ok (.cons impl_SizeOf.ok (.cons impl_atPlace.ok .nil)))))) (by kernel_rfl) K
theorem w0 (K : Res → O) : LpSound Pg (X K) 0 b0 := lp_fin (L := [n0 K]) laid (hx K) .nil (.cons (ent_ok (fun x10 x11 x13 k r => l0s x10 x11 x13 r (fun y2 => k (o0 x10 x11 x13 y2)) (fun r1 r2 r3 => K (m [] (0 : Int) (0 : Int) [] r1 r2 r3))) (by kernel_rfl) (by kernel_rfl) (by kernel_rfl) (by kernel_rfl) (by kernel_rfl)) .nil) (by kernel_rfl) (by kernel_rfl)
theorem ok : Con Pg con := con_fin (fn := Tryz.f11) (c := c) (Fi := fi) (X := X) laid hx (fun K => (.cons (w0 K) .nil)) e (by kernel_rfl) (by kernel_rfl) (by kernel_rfl) (by kernel_rfl)
end impl_FuseTry
namespace laws_eqIntS
noncomputable def c : Code := bodyOf Tryz.f36
noncomputable def fi : Fin := ⟨Γ0, [(.tmp 4, 4)], [[1]], [], [], []⟩
noncomputable def m : Fn [.z, .z] (Fn [.b] Res) := fun _ _ r1 => ⟨[⟨false, [.bool r1]⟩], [], [], [], []⟩
noncomputable def b0 : Code := codeAt c [1, 1, 0, 1, 0, 0]
noncomputable def l0s (x3 x4 : List Int) (rec : Int → O) (k : O) (R : Bool → O) (x5 : Int) : O :=
 bif decide (x5 < (x3.length : Int)) then (bif decide (0 ≤ x5) && decide (x5 < (x3.length : Int)) then (bif decide (0 ≤ x5) && decide (x5 < (x4.length : Int)) then (bif (x3.getD x5.toNat 0 != x4.getD x5.toNat 0) then R false
  else rec (IntKind.i64.wrap (x5 + 1)))
  else none)
  else none)
 else k
noncomputable def l0 (x3 x4 : List Int) (k : O) (R : Bool → O) : Nat → Int → O
 | 0, _ => none
 | n + 1, x5 => l0s x3 x4 (l0 x3 x4 k R n) k R x5
noncomputable def o0 : Fn [.z, .z] St := fun _ _ => ⟨mkT 26 [], [], []⟩
noncomputable def n0 (K : Res → O) := ent 0 [.z, .z] [.i] [0, 1, 2] (fun x3 x4 x5 => ⟨mkT 26 [(0, one (.tr 0 1 [.int .i64] (.ints x3))), (1, one (.tr 0 1 [.int .i64] (.ints x4))), (5, oI x5)], [], []⟩) fun x3 x4 k => l0 x3 x4 (k (o0 x3 x4)) (fun r1 => K (m [] [] r1))
noncomputable def X (K : Res → O) : Ctx := { cx0 [] fi true K with cin := [(0, ⟨[0, 1, 5], [], [], [], [], []⟩)], cout := [(0, ⟨[], [], [], [], [], []⟩)], lp := lpOf [n0 K] }
noncomputable def b (a1 a2 : List Int) (R : Bool → O) : O :=
 bif ((a1.length : Int) != (a2.length : Int)) then R false
 else (l0 a1 a2 (
 R true) R fuel 0)
noncomputable def g := seal_ b
theorem e : g = b := seal_eq b
noncomputable def a : Fn [.z, .z] St := fun a1 a2 => argSt [one (.tr 0 1 [.int .i64] (.ints a1)), one (.tr 0 1 [.int .i64] (.ints a2))] [] []
noncomputable def con := conOf 36 [.z, .z] [.b] a g m
theorem hx (K : Res → O) : CtxOk Pg Γ0 byt0 eqs0 (X K) [] := ctx_of (X := X) .nil (by kernel_rfl) K
theorem w0 (K : Res → O) : LpSound Pg (X K) 0 b0 := lp_fin (L := [n0 K]) laid (hx K) .nil (.cons (ent_ok (fun x3 x4 k r => l0s x3 x4 r (k (o0 x3 x4)) (fun r1 => K (m [] [] r1))) (by kernel_rfl) (by kernel_rfl) (by kernel_rfl) (by kernel_rfl) (by kernel_rfl)) .nil) (by kernel_rfl) (by kernel_rfl)
theorem ok : Con Pg con := con_fin (fn := Tryz.f36) (c := c) (Fi := fi) (X := X) laid hx (fun K => (.cons (w0 K) .nil)) e (by kernel_rfl) (by kernel_rfl) (by kernel_rfl) (by kernel_rfl)
end laws_eqIntS
namespace laws_eqArray
noncomputable def c : Code := bodyOf Tryz.f12
noncomputable def fi : Fin := ⟨Γ0, [(.tmp 4, 4)], [[1]], [], [], []⟩
noncomputable def m : Fn [.z, .z, .z, .z] (Fn [.b] Res) := fun _ _ _ _ r1 => ⟨[⟨false, [.bool r1]⟩], [], [], [], []⟩
noncomputable def X (K : Res → O) : Ctx := cx0 [laws_eqIntS.con] fi true K
noncomputable def b (a1 a2 a3 a4 : List Int) (R : Bool → O) : O :=
 laws_eqIntS.g a1 a3 fun r5 =>
 bif !r5 then R false
 else (laws_eqIntS.g a2 a4 fun r6 =>
 bif !r6 then R false
 else R true)
noncomputable def g := seal_ b
theorem e : g = b := seal_eq b
noncomputable def a : Fn [.z, .z, .z, .z] St := fun a1 a2 a3 a4 => argSt [.v ⟨true, [.tr 0 1 [.int .i64] (.ints a1), .tr 0 1 [.int .i64] (.ints a2)]⟩, .v ⟨true, [.tr 0 1 [.int .i64] (.ints a3), .tr 0 1 [.int .i64] (.ints a4)]⟩] [] []
noncomputable def con := conOf 12 [.z, .z, .z, .z] [.b] a g m
theorem ok : Con Pg con := con_fin (fn := Tryz.f12) (c := c) (Fi := fi) (X := X) laid (ctx_of (.cons laws_eqIntS.ok .nil) (by kernel_rfl)) (fun K => .nil) e (by kernel_rfl) (by kernel_rfl) (by kernel_rfl) (by kernel_rfl)
end laws_eqArray
namespace laws_eqFun
noncomputable def c : Code := bodyOf Tryz.f73
noncomputable def fi : Fin := ⟨Γ0, [(.tmp 4, 4)], [[1]], [], [], []⟩
noncomputable def m : Fn [.i, .i, .i, .i, .i, .i] (Fn [.b] Res) := fun _ _ _ _ _ _ r1 => ⟨[⟨false, [.bool r1]⟩], [], [], [], []⟩
noncomputable def X (K : Res → O) : Ctx := cx0 [] fi true K
noncomputable def b (a1 a2 a3 a4 a5 a6 : Int) (R : Bool → O) : O :=
 bif (a1 != a4) then R false
 else bif (a2 != a5) then R false
 else bif (a3 != a6) then R false
 else R true
noncomputable def g := seal_ b
theorem e : g = b := seal_eq b
noncomputable def a : Fn [.i, .i, .i, .i, .i, .i] St := fun a1 a2 a3 a4 a5 a6 => argSt [.v ⟨true, [cI a1, cI a2, cI a3]⟩, .v ⟨true, [cI a4, cI a5, cI a6]⟩] [] []
noncomputable def con := conOf 73 [.i, .i, .i, .i, .i, .i] [.b] a g m
theorem ok : Con Pg con := con_fin (fn := Tryz.f73) (c := c) (Fi := fi) (X := X) laid (ctx_of .nil (by kernel_rfl)) (fun K => .nil) e (by kernel_rfl) (by kernel_rfl) (by kernel_rfl) (by kernel_rfl)
end laws_eqFun
namespace laws_eqInstr
noncomputable def c : Code := bodyOf Tryz.f37
noncomputable def fi : Fin := ⟨Γ0, [(.tmp 4, 4)], [[1]], [], [], []⟩
noncomputable def m : Fn [.i, .i, .i, .i, .i, .z, .i, .i, .i, .i, .i, .z] (Fn [.b] Res) := fun _ _ _ _ _ _ _ _ _ _ _ _ r1 => ⟨[⟨false, [.bool r1]⟩], [], [], [], []⟩
noncomputable def X (K : Res → O) : Ctx := cx0 [laws_eqFun.con, laws_eqIntS.con] fi true K
noncomputable def b (a1 a2 a3 a4 a5 : Int) (a6 : List Int) (a7 a8 a9 a10 a11 : Int) (a12 : List Int) (R : Bool → O) : O :=
 bif (a1 != a7) then R false
 else bif (a2 != a8) then R false
 else (laws_eqFun.g a3 a4 a5 a9 a10 a11 fun r13 =>
 bif !r13 then R false
 else (laws_eqIntS.g a6 a12 fun r14 =>
 bif !r14 then R false
 else R true))
noncomputable def g := seal_ b
theorem e : g = b := seal_eq b
noncomputable def a : Fn [.i, .i, .i, .i, .i, .z, .i, .i, .i, .i, .i, .z] St := fun a1 a2 a3 a4 a5 a6 a7 a8 a9 a10 a11 a12 => argSt [.v ⟨true, [cI a1, cI a2, cI a3, cI a4, cI a5, .tr 0 1 [.int .i64] (.ints a6)]⟩, .v ⟨true, [cI a7, cI a8, cI a9, cI a10, cI a11, .tr 0 1 [.int .i64] (.ints a12)]⟩] [] []
noncomputable def con := conOf 37 [.i, .i, .i, .i, .i, .z, .i, .i, .i, .i, .i, .z] [.b] a g m
theorem ok : Con Pg con := con_fin (fn := Tryz.f37) (c := c) (Fi := fi) (X := X) laid (ctx_of (.cons laws_eqFun.ok (.cons laws_eqIntS.ok .nil)) (by kernel_rfl)) (fun K => .nil) e (by kernel_rfl) (by kernel_rfl) (by kernel_rfl) (by kernel_rfl)
end laws_eqInstr
namespace laws_eqInstrS
noncomputable def c : Code := bodyOf Tryz.f13
noncomputable def fi : Fin := ⟨Γ0, [(.tmp 4, 4)], [[1]], [], [], []⟩
noncomputable def m : Fn [.l, .l] (Fn [.b] Res) := fun _ _ r1 => ⟨[⟨false, [.bool r1]⟩], [], [], [], []⟩
noncomputable def b0 : Code := codeAt c [1, 1, 0, 1, 0, 0]
noncomputable def l0s (x3 x4 : List (List Cl)) (rec : Int → O) (k : O) (R : Bool → O) (x5 : Int) : O :=
 bif decide (x5 < (x3.length : Int)) then (bif decide (0 ≤ x5) && decide (x5 < (x3.length : Int)) then (bif decide (0 ≤ x5) && decide (x5 < (x4.length : Int)) then (laws_eqInstr.g (((x3.getD x5.toNat []).getD 0 (.i 0)).toI) (((x3.getD x5.toNat []).getD 1 (.i 0)).toI) (((x3.getD x5.toNat []).getD 2 (.i 0)).toI) (((x3.getD x5.toNat []).getD 3 (.i 0)).toI) (((x3.getD x5.toNat []).getD 4 (.i 0)).toI) (((x3.getD x5.toNat []).getD 5 (.i 0)).toL) (((x4.getD x5.toNat []).getD 0 (.i 0)).toI) (((x4.getD x5.toNat []).getD 1 (.i 0)).toI) (((x4.getD x5.toNat []).getD 2 (.i 0)).toI) (((x4.getD x5.toNat []).getD 3 (.i 0)).toI) (((x4.getD x5.toNat []).getD 4 (.i 0)).toI) (((x4.getD x5.toNat []).getD 5 (.i 0)).toL) fun r6 =>
  bif !r6 then R false
  else rec (IntKind.i64.wrap (x5 + 1)))
  else none)
  else none)
 else k
noncomputable def l0 (x3 x4 : List (List Cl)) (k : O) (R : Bool → O) : Nat → Int → O
 | 0, _ => none
 | n + 1, x5 => l0s x3 x4 (l0 x3 x4 k R n) k R x5
noncomputable def o0 : Fn [.l, .l] St := fun _ _ => ⟨mkT 27 [], [], []⟩
noncomputable def n0 (K : Res → O) := ent 0 [.l, .l] [.i] [0, 1, 2] (fun x3 x4 x5 => ⟨mkT 27 [(0, one (.tr 0 1 e_0 (.cells x3))), (1, one (.tr 0 1 e_0 (.cells x4))), (5, oI x5)], [], []⟩) fun x3 x4 k => l0 x3 x4 (k (o0 x3 x4)) (fun r1 => K (m [] [] r1))
noncomputable def X (K : Res → O) : Ctx := { cx0 [laws_eqInstr.con] fi true K with cin := [(0, ⟨[0, 1, 5], [], [], [], [], []⟩)], cout := [(0, ⟨[], [], [], [], [], []⟩)], lp := lpOf [n0 K] }
noncomputable def b (a1 a2 : List (List Cl)) (R : Bool → O) : O :=
 bif ((a1.length : Int) != (a2.length : Int)) then R false
 else (l0 a1 a2 (
 R true) R fuel 0)
noncomputable def g := seal_ b
theorem e : g = b := seal_eq b
noncomputable def a : Fn [.l, .l] St := fun a1 a2 => argSt [one (.tr 0 1 e_0 (.cells a1)), one (.tr 0 1 e_0 (.cells a2))] [] []
noncomputable def con := conOf 13 [.l, .l] [.b] a g m
theorem hx (K : Res → O) : CtxOk Pg Γ0 byt0 eqs0 (X K) [laws_eqInstr.con] := ctx_of (X := X) (.cons laws_eqInstr.ok .nil) (by kernel_rfl) K
theorem w0 (K : Res → O) : LpSound Pg (X K) 0 b0 := lp_fin (L := [n0 K]) laid (hx K) .nil (.cons (ent_ok (fun x3 x4 k r => l0s x3 x4 r (k (o0 x3 x4)) (fun r1 => K (m [] [] r1))) (by kernel_rfl) (by kernel_rfl) (by kernel_rfl) (by kernel_rfl) (by kernel_rfl)) .nil) (by kernel_rfl) (by kernel_rfl)
theorem ok : Con Pg con := con_fin (fn := Tryz.f13) (c := c) (Fi := fi) (X := X) laid hx (fun K => (.cons (w0 K) .nil)) e (by kernel_rfl) (by kernel_rfl) (by kernel_rfl) (by kernel_rfl)
end laws_eqInstrS
namespace laws_eqVar
noncomputable def c : Code := bodyOf Tryz.f38
noncomputable def fi : Fin := ⟨Γ0, [(.tmp 4, 4)], [[1]], [], [], []⟩
noncomputable def m : Fn [.b, .z, .z, .b, .z, .z] (Fn [.b] Res) := fun _ _ _ _ _ _ r1 => ⟨[⟨false, [.bool r1]⟩], [], [], [], []⟩
noncomputable def X (K : Res → O) : Ctx := cx0 [laws_eqArray.con] fi true K
noncomputable def b (a1 : Bool) (a2 a3 : List Int) (a4 : Bool) (a5 a6 : List Int) (R : Bool → O) : O :=
 bif (a1 != a4) then R false
 else (laws_eqArray.g a2 a3 a5 a6 fun r7 =>
 bif !r7 then R false
 else R true)
noncomputable def g := seal_ b
theorem e : g = b := seal_eq b
noncomputable def a : Fn [.b, .z, .z, .b, .z, .z] St := fun a1 a2 a3 a4 a5 a6 => argSt [.v ⟨true, [.bool a1, .tr 0 1 [.int .i64] (.ints a2), .tr 0 1 [.int .i64] (.ints a3)]⟩, .v ⟨true, [.bool a4, .tr 0 1 [.int .i64] (.ints a5), .tr 0 1 [.int .i64] (.ints a6)]⟩] [] []
noncomputable def con := conOf 38 [.b, .z, .z, .b, .z, .z] [.b] a g m
theorem ok : Con Pg con := con_fin (fn := Tryz.f38) (c := c) (Fi := fi) (X := X) laid (ctx_of (.cons laws_eqArray.ok .nil) (by kernel_rfl)) (fun K => .nil) e (by kernel_rfl) (by kernel_rfl) (by kernel_rfl) (by kernel_rfl)
end laws_eqVar
namespace laws_eqVarS
noncomputable def c : Code := bodyOf Tryz.f14
noncomputable def fi : Fin := ⟨Γ0, [(.tmp 4, 4)], [[1]], [], [], []⟩
noncomputable def m : Fn [.l, .l] (Fn [.b] Res) := fun _ _ r1 => ⟨[⟨false, [.bool r1]⟩], [], [], [], []⟩
noncomputable def b0 : Code := codeAt c [1, 1, 0, 1, 0, 0]
noncomputable def l0s (x3 x4 : List (List Cl)) (rec : Int → O) (k : O) (R : Bool → O) (x5 : Int) : O :=
 bif decide (x5 < (x3.length : Int)) then (bif decide (0 ≤ x5) && decide (x5 < (x3.length : Int)) then (bif decide (0 ≤ x5) && decide (x5 < (x4.length : Int)) then (laws_eqVar.g (((x3.getD x5.toNat []).getD 0 (.i 0)).toB) (((x3.getD x5.toNat []).getD 1 (.i 0)).toL) (((x3.getD x5.toNat []).getD 2 (.i 0)).toL) (((x4.getD x5.toNat []).getD 0 (.i 0)).toB) (((x4.getD x5.toNat []).getD 1 (.i 0)).toL) (((x4.getD x5.toNat []).getD 2 (.i 0)).toL) fun r6 =>
  bif !r6 then R false
  else rec (IntKind.i64.wrap (x5 + 1)))
  else none)
  else none)
 else k
noncomputable def l0 (x3 x4 : List (List Cl)) (k : O) (R : Bool → O) : Nat → Int → O
 | 0, _ => none
 | n + 1, x5 => l0s x3 x4 (l0 x3 x4 k R n) k R x5
noncomputable def o0 : Fn [.l, .l] St := fun _ _ => ⟨mkT 27 [], [], []⟩
noncomputable def n0 (K : Res → O) := ent 0 [.l, .l] [.i] [0, 1, 2] (fun x3 x4 x5 => ⟨mkT 27 [(0, one (.tr 0 1 e_1 (.cells x3))), (1, one (.tr 0 1 e_1 (.cells x4))), (5, oI x5)], [], []⟩) fun x3 x4 k => l0 x3 x4 (k (o0 x3 x4)) (fun r1 => K (m [] [] r1))
noncomputable def X (K : Res → O) : Ctx := { cx0 [laws_eqVar.con] fi true K with cin := [(0, ⟨[0, 1, 5], [], [], [], [], []⟩)], cout := [(0, ⟨[], [], [], [], [], []⟩)], lp := lpOf [n0 K] }
noncomputable def b (a1 a2 : List (List Cl)) (R : Bool → O) : O :=
 bif ((a1.length : Int) != (a2.length : Int)) then R false
 else (l0 a1 a2 (
 R true) R fuel 0)
noncomputable def g := seal_ b
theorem e : g = b := seal_eq b
noncomputable def a : Fn [.l, .l] St := fun a1 a2 => argSt [one (.tr 0 1 e_1 (.cells a1)), one (.tr 0 1 e_1 (.cells a2))] [] []
noncomputable def con := conOf 14 [.l, .l] [.b] a g m
theorem hx (K : Res → O) : CtxOk Pg Γ0 byt0 eqs0 (X K) [laws_eqVar.con] := ctx_of (X := X) (.cons laws_eqVar.ok .nil) (by kernel_rfl) K
theorem w0 (K : Res → O) : LpSound Pg (X K) 0 b0 := lp_fin (L := [n0 K]) laid (hx K) .nil (.cons (ent_ok (fun x3 x4 k r => l0s x3 x4 r (k (o0 x3 x4)) (fun r1 => K (m [] [] r1))) (by kernel_rfl) (by kernel_rfl) (by kernel_rfl) (by kernel_rfl) (by kernel_rfl)) .nil) (by kernel_rfl) (by kernel_rfl)
theorem ok : Con Pg con := con_fin (fn := Tryz.f14) (c := c) (Fi := fi) (X := X) laid hx (fun K => (.cons (w0 K) .nil)) e (by kernel_rfl) (by kernel_rfl) (by kernel_rfl) (by kernel_rfl)
end laws_eqVarS
namespace laws_markIntS
noncomputable def c : Code := bodyOf Tryz.f39
noncomputable def fi : Fin := ⟨Γ0, [(.tmp 4, 3)], [[1]], [true], [], []⟩
noncomputable def m : Fn [.i, .z] (Fn [.i, .z] Res) := fun _ _ r1 r2 => ⟨[⟨false, [cI r1]⟩], [some ⟨[.int .i64], .ints r2, true, 0, none⟩], [], [], []⟩
noncomputable def b0 : Code := codeAt c [1, 0, 1, 0, 0]
noncomputable def l0s  (rec : Int → Int → List Int → O) (k : Int → List Int → O) (x3 x4 : Int) (x5 : List Int) : O :=
 bif decide (x4 < (x5.length : Int)) then (bif decide (0 ≤ x4) && decide (x4 < (x5.length : Int)) then rec (IntKind.i64.wrap (x3 + 1)) (IntKind.i64.wrap (x4 + 1)) (x5.set x4.toNat x3)
  else none)
 else k x3 x5
noncomputable def l0  (k : Int → List Int → O) : Nat → Int → Int → List Int → O
 | 0, _, _, _ => none
 | n + 1, x3, x4, x5 => l0s (l0 k n) k x3 x4 x5
noncomputable def o0 : Fn [.i, .z] St := fun y1 y2 => ⟨mkT 19 [(1, oI y1)], [(0, ⟨[.int .i64], .ints y2, true, 0, none⟩)], []⟩
noncomputable def n0 (K : Res → O) := ent 0 [] [.i, .i, .z] [0, 1, 2] (fun x3 x4 x5 => ⟨mkT 19 [(0, one (.ow 0)), (1, oI x3), (5, oI x4)], [(0, ⟨[.int .i64], .ints x5, true, 0, none⟩)], []⟩) fun k => l0 (fun y1 y2 => k (o0 y1 y2))
noncomputable def X (K : Res → O) : Ctx := { cx0 [] fi true K with cin := [(0, ⟨[0, 1, 5], [(0, 0)], [], [], [], []⟩)], cout := [(0, ⟨[1], [(0, 0)], [], [], [], []⟩)], lp := lpOf [n0 K] }
noncomputable def b (a1 : Int) (a2 : List Int) (R : Int → List Int → O) : O :=
 l0 (fun y6 y7 =>
 R y6 y7) fuel a1 0 a2
noncomputable def g := seal_ b
theorem e : g = b := seal_eq b
noncomputable def a : Fn [.i, .z] St := fun a1 a2 => argSt [one (.ow 0), oI a1] [⟨[.int .i64], .ints a2, true, 0, none⟩] []
noncomputable def con := conOf 39 [.i, .z] [.i, .z] a g m
theorem hx (K : Res → O) : CtxOk Pg Γ0 byt0 eqs0 (X K) [] := ctx_of (X := X) .nil (by kernel_rfl) K
theorem w0 (K : Res → O) : LpSound Pg (X K) 0 b0 := lp_fin (L := [n0 K]) laid (hx K) .nil (.cons (ent_ok (fun k r => l0s r (fun y1 y2 => k (o0 y1 y2))) (by kernel_rfl) (by kernel_rfl) (by kernel_rfl) (by kernel_rfl) (by kernel_rfl)) .nil) (by kernel_rfl) (by kernel_rfl)
theorem ok : Con Pg con := con_fin (fn := Tryz.f39) (c := c) (Fi := fi) (X := X) laid hx (fun K => (.cons (w0 K) .nil)) e (by kernel_rfl) (by kernel_rfl) (by kernel_rfl) (by kernel_rfl)
end laws_markIntS
namespace laws_markInstrS
noncomputable def c : Code := bodyOf Tryz.f15
noncomputable def fi : Fin := ⟨Γ0, [(.tmp 4, 3)], [[1]], [true], [], []⟩
noncomputable def m : Fn [.i, .l] (Fn [.i, .l] Res) := fun _ _ r1 r2 => ⟨[⟨false, [cI r1]⟩], [some ⟨e_0, .cells r2, true, 0, none⟩], [], [], []⟩
noncomputable def b0 : Code := codeAt c [1, 0, 1, 0, 0]
noncomputable def l0s  (rec : Int → Int → List (List Cl) → O) (k : Int → List (List Cl) → O) (x3 x4 : Int) (x5 : List (List Cl)) : O :=
 bif decide (x4 < (x5.length : Int)) then (bif decide (0 ≤ x4) && decide (x4 < (x5.length : Int)) then (bif decide (0 ≤ x4) && decide (x4 < ((x5.set x4.toNat (splice (x5.getD x4.toNat []) 0 [.i x3])).length : Int)) then (bif decide (0 ≤ x4) && decide (x4 < (((x5.set x4.toNat (splice (x5.getD x4.toNat []) 0 [.i x3])).set x4.toNat (splice ((x5.set x4.toNat (splice (x5.getD x4.toNat []) 0 [.i x3])).getD x4.toNat []) 1 [.i (IntKind.i64.wrap (x3 + 1))])).length : Int)) then (bif decide (0 ≤ x4) && decide (x4 < ((((x5.set x4.toNat (splice (x5.getD x4.toNat []) 0 [.i x3])).set x4.toNat (splice ((x5.set x4.toNat (splice (x5.getD x4.toNat []) 0 [.i x3])).getD x4.toNat []) 1 [.i (IntKind.i64.wrap (x3 + 1))])).set x4.toNat (splice (((x5.set x4.toNat (splice (x5.getD x4.toNat []) 0 [.i x3])).set x4.toNat (splice ((x5.set x4.toNat (splice (x5.getD x4.toNat []) 0 [.i x3])).getD x4.toNat []) 1 [.i (IntKind.i64.wrap (x3 + 1))])).getD x4.toNat []) 2 [.i (IntKind.i64.wrap ((IntKind.i64.wrap (x3 + 1)) + 1))])).length : Int)) then (bif decide (0 ≤ x4) && decide (x4 < (((((x5.set x4.toNat (splice (x5.getD x4.toNat []) 0 [.i x3])).set x4.toNat (splice ((x5.set x4.toNat (splice (x5.getD x4.toNat []) 0 [.i x3])).getD x4.toNat []) 1 [.i (IntKind.i64.wrap (x3 + 1))])).set x4.toNat (splice (((x5.set x4.toNat (splice (x5.getD x4.toNat []) 0 [.i x3])).set x4.toNat (splice ((x5.set x4.toNat (splice (x5.getD x4.toNat []) 0 [.i x3])).getD x4.toNat []) 1 [.i (IntKind.i64.wrap (x3 + 1))])).getD x4.toNat []) 2 [.i (IntKind.i64.wrap ((IntKind.i64.wrap (x3 + 1)) + 1))])).set x4.toNat (splice ((((x5.set x4.toNat (splice (x5.getD x4.toNat []) 0 [.i x3])).set x4.toNat (splice ((x5.set x4.toNat (splice (x5.getD x4.toNat []) 0 [.i x3])).getD x4.toNat []) 1 [.i (IntKind.i64.wrap (x3 + 1))])).set x4.toNat (splice (((x5.set x4.toNat (splice (x5.getD x4.toNat []) 0 [.i x3])).set x4.toNat (splice ((x5.set x4.toNat (splice (x5.getD x4.toNat []) 0 [.i x3])).getD x4.toNat []) 1 [.i (IntKind.i64.wrap (x3 + 1))])).getD x4.toNat []) 2 [.i (IntKind.i64.wrap ((IntKind.i64.wrap (x3 + 1)) + 1))])).getD x4.toNat []) 3 [.i (IntKind.i64.wrap ((IntKind.i64.wrap ((IntKind.i64.wrap (x3 + 1)) + 1)) + 1))])).length : Int)) then (bif decide (0 ≤ x4) && decide (x4 < ((((((x5.set x4.toNat (splice (x5.getD x4.toNat []) 0 [.i x3])).set x4.toNat (splice ((x5.set x4.toNat (splice (x5.getD x4.toNat []) 0 [.i x3])).getD x4.toNat []) 1 [.i (IntKind.i64.wrap (x3 + 1))])).set x4.toNat (splice (((x5.set x4.toNat (splice (x5.getD x4.toNat []) 0 [.i x3])).set x4.toNat (splice ((x5.set x4.toNat (splice (x5.getD x4.toNat []) 0 [.i x3])).getD x4.toNat []) 1 [.i (IntKind.i64.wrap (x3 + 1))])).getD x4.toNat []) 2 [.i (IntKind.i64.wrap ((IntKind.i64.wrap (x3 + 1)) + 1))])).set x4.toNat (splice ((((x5.set x4.toNat (splice (x5.getD x4.toNat []) 0 [.i x3])).set x4.toNat (splice ((x5.set x4.toNat (splice (x5.getD x4.toNat []) 0 [.i x3])).getD x4.toNat []) 1 [.i (IntKind.i64.wrap (x3 + 1))])).set x4.toNat (splice (((x5.set x4.toNat (splice (x5.getD x4.toNat []) 0 [.i x3])).set x4.toNat (splice ((x5.set x4.toNat (splice (x5.getD x4.toNat []) 0 [.i x3])).getD x4.toNat []) 1 [.i (IntKind.i64.wrap (x3 + 1))])).getD x4.toNat []) 2 [.i (IntKind.i64.wrap ((IntKind.i64.wrap (x3 + 1)) + 1))])).getD x4.toNat []) 3 [.i (IntKind.i64.wrap ((IntKind.i64.wrap ((IntKind.i64.wrap (x3 + 1)) + 1)) + 1))])).set x4.toNat (splice (((((x5.set x4.toNat (splice (x5.getD x4.toNat []) 0 [.i x3])).set x4.toNat (splice ((x5.set x4.toNat (splice (x5.getD x4.toNat []) 0 [.i x3])).getD x4.toNat []) 1 [.i (IntKind.i64.wrap (x3 + 1))])).set x4.toNat (splice (((x5.set x4.toNat (splice (x5.getD x4.toNat []) 0 [.i x3])).set x4.toNat (splice ((x5.set x4.toNat (splice (x5.getD x4.toNat []) 0 [.i x3])).getD x4.toNat []) 1 [.i (IntKind.i64.wrap (x3 + 1))])).getD x4.toNat []) 2 [.i (IntKind.i64.wrap ((IntKind.i64.wrap (x3 + 1)) + 1))])).set x4.toNat (splice ((((x5.set x4.toNat (splice (x5.getD x4.toNat []) 0 [.i x3])).set x4.toNat (splice ((x5.set x4.toNat (splice (x5.getD x4.toNat []) 0 [.i x3])).getD x4.toNat []) 1 [.i (IntKind.i64.wrap (x3 + 1))])).set x4.toNat (splice (((x5.set x4.toNat (splice (x5.getD x4.toNat []) 0 [.i x3])).set x4.toNat (splice ((x5.set x4.toNat (splice (x5.getD x4.toNat []) 0 [.i x3])).getD x4.toNat []) 1 [.i (IntKind.i64.wrap (x3 + 1))])).getD x4.toNat []) 2 [.i (IntKind.i64.wrap ((IntKind.i64.wrap (x3 + 1)) + 1))])).getD x4.toNat []) 3 [.i (IntKind.i64.wrap ((IntKind.i64.wrap ((IntKind.i64.wrap (x3 + 1)) + 1)) + 1))])).getD x4.toNat []) 4 [.i (IntKind.i64.wrap ((IntKind.i64.wrap ((IntKind.i64.wrap ((IntKind.i64.wrap (x3 + 1)) + 1)) + 1)) + 1))])).length : Int)) then (bif decide (0 ≤ x4) && decide (x4 < ((((((x5.set x4.toNat (splice (x5.getD x4.toNat []) 0 [.i x3])).set x4.toNat (splice ((x5.set x4.toNat (splice (x5.getD x4.toNat []) 0 [.i x3])).getD x4.toNat []) 1 [.i (IntKind.i64.wrap (x3 + 1))])).set x4.toNat (splice (((x5.set x4.toNat (splice (x5.getD x4.toNat []) 0 [.i x3])).set x4.toNat (splice ((x5.set x4.toNat (splice (x5.getD x4.toNat []) 0 [.i x3])).getD x4.toNat []) 1 [.i (IntKind.i64.wrap (x3 + 1))])).getD x4.toNat []) 2 [.i (IntKind.i64.wrap ((IntKind.i64.wrap (x3 + 1)) + 1))])).set x4.toNat (splice ((((x5.set x4.toNat (splice (x5.getD x4.toNat []) 0 [.i x3])).set x4.toNat (splice ((x5.set x4.toNat (splice (x5.getD x4.toNat []) 0 [.i x3])).getD x4.toNat []) 1 [.i (IntKind.i64.wrap (x3 + 1))])).set x4.toNat (splice (((x5.set x4.toNat (splice (x5.getD x4.toNat []) 0 [.i x3])).set x4.toNat (splice ((x5.set x4.toNat (splice (x5.getD x4.toNat []) 0 [.i x3])).getD x4.toNat []) 1 [.i (IntKind.i64.wrap (x3 + 1))])).getD x4.toNat []) 2 [.i (IntKind.i64.wrap ((IntKind.i64.wrap (x3 + 1)) + 1))])).getD x4.toNat []) 3 [.i (IntKind.i64.wrap ((IntKind.i64.wrap ((IntKind.i64.wrap (x3 + 1)) + 1)) + 1))])).set x4.toNat (splice (((((x5.set x4.toNat (splice (x5.getD x4.toNat []) 0 [.i x3])).set x4.toNat (splice ((x5.set x4.toNat (splice (x5.getD x4.toNat []) 0 [.i x3])).getD x4.toNat []) 1 [.i (IntKind.i64.wrap (x3 + 1))])).set x4.toNat (splice (((x5.set x4.toNat (splice (x5.getD x4.toNat []) 0 [.i x3])).set x4.toNat (splice ((x5.set x4.toNat (splice (x5.getD x4.toNat []) 0 [.i x3])).getD x4.toNat []) 1 [.i (IntKind.i64.wrap (x3 + 1))])).getD x4.toNat []) 2 [.i (IntKind.i64.wrap ((IntKind.i64.wrap (x3 + 1)) + 1))])).set x4.toNat (splice ((((x5.set x4.toNat (splice (x5.getD x4.toNat []) 0 [.i x3])).set x4.toNat (splice ((x5.set x4.toNat (splice (x5.getD x4.toNat []) 0 [.i x3])).getD x4.toNat []) 1 [.i (IntKind.i64.wrap (x3 + 1))])).set x4.toNat (splice (((x5.set x4.toNat (splice (x5.getD x4.toNat []) 0 [.i x3])).set x4.toNat (splice ((x5.set x4.toNat (splice (x5.getD x4.toNat []) 0 [.i x3])).getD x4.toNat []) 1 [.i (IntKind.i64.wrap (x3 + 1))])).getD x4.toNat []) 2 [.i (IntKind.i64.wrap ((IntKind.i64.wrap (x3 + 1)) + 1))])).getD x4.toNat []) 3 [.i (IntKind.i64.wrap ((IntKind.i64.wrap ((IntKind.i64.wrap (x3 + 1)) + 1)) + 1))])).getD x4.toNat []) 4 [.i (IntKind.i64.wrap ((IntKind.i64.wrap ((IntKind.i64.wrap ((IntKind.i64.wrap (x3 + 1)) + 1)) + 1)) + 1))])).length : Int)) then (bif decide (x4.toNat = x4.toNat) then (laws_markIntS.g (IntKind.i64.wrap ((IntKind.i64.wrap ((IntKind.i64.wrap ((IntKind.i64.wrap ((IntKind.i64.wrap (x3 + 1)) + 1)) + 1)) + 1)) + 1)) ((((((((x5.set x4.toNat (splice (x5.getD x4.toNat []) 0 [.i x3])).set x4.toNat (splice ((x5.set x4.toNat (splice (x5.getD x4.toNat []) 0 [.i x3])).getD x4.toNat []) 1 [.i (IntKind.i64.wrap (x3 + 1))])).set x4.toNat (splice (((x5.set x4.toNat (splice (x5.getD x4.toNat []) 0 [.i x3])).set x4.toNat (splice ((x5.set x4.toNat (splice (x5.getD x4.toNat []) 0 [.i x3])).getD x4.toNat []) 1 [.i (IntKind.i64.wrap (x3 + 1))])).getD x4.toNat []) 2 [.i (IntKind.i64.wrap ((IntKind.i64.wrap (x3 + 1)) + 1))])).set x4.toNat (splice ((((x5.set x4.toNat (splice (x5.getD x4.toNat []) 0 [.i x3])).set x4.toNat (splice ((x5.set x4.toNat (splice (x5.getD x4.toNat []) 0 [.i x3])).getD x4.toNat []) 1 [.i (IntKind.i64.wrap (x3 + 1))])).set x4.toNat (splice (((x5.set x4.toNat (splice (x5.getD x4.toNat []) 0 [.i x3])).set x4.toNat (splice ((x5.set x4.toNat (splice (x5.getD x4.toNat []) 0 [.i x3])).getD x4.toNat []) 1 [.i (IntKind.i64.wrap (x3 + 1))])).getD x4.toNat []) 2 [.i (IntKind.i64.wrap ((IntKind.i64.wrap (x3 + 1)) + 1))])).getD x4.toNat []) 3 [.i (IntKind.i64.wrap ((IntKind.i64.wrap ((IntKind.i64.wrap (x3 + 1)) + 1)) + 1))])).set x4.toNat (splice (((((x5.set x4.toNat (splice (x5.getD x4.toNat []) 0 [.i x3])).set x4.toNat (splice ((x5.set x4.toNat (splice (x5.getD x4.toNat []) 0 [.i x3])).getD x4.toNat []) 1 [.i (IntKind.i64.wrap (x3 + 1))])).set x4.toNat (splice (((x5.set x4.toNat (splice (x5.getD x4.toNat []) 0 [.i x3])).set x4.toNat (splice ((x5.set x4.toNat (splice (x5.getD x4.toNat []) 0 [.i x3])).getD x4.toNat []) 1 [.i (IntKind.i64.wrap (x3 + 1))])).getD x4.toNat []) 2 [.i (IntKind.i64.wrap ((IntKind.i64.wrap (x3 + 1)) + 1))])).set x4.toNat (splice ((((x5.set x4.toNat (splice (x5.getD x4.toNat []) 0 [.i x3])).set x4.toNat (splice ((x5.set x4.toNat (splice (x5.getD x4.toNat []) 0 [.i x3])).getD x4.toNat []) 1 [.i (IntKind.i64.wrap (x3 + 1))])).set x4.toNat (splice (((x5.set x4.toNat (splice (x5.getD x4.toNat []) 0 [.i x3])).set x4.toNat (splice ((x5.set x4.toNat (splice (x5.getD x4.toNat []) 0 [.i x3])).getD x4.toNat []) 1 [.i (IntKind.i64.wrap (x3 + 1))])).getD x4.toNat []) 2 [.i (IntKind.i64.wrap ((IntKind.i64.wrap (x3 + 1)) + 1))])).getD x4.toNat []) 3 [.i (IntKind.i64.wrap ((IntKind.i64.wrap ((IntKind.i64.wrap (x3 + 1)) + 1)) + 1))])).getD x4.toNat []) 4 [.i (IntKind.i64.wrap ((IntKind.i64.wrap ((IntKind.i64.wrap ((IntKind.i64.wrap (x3 + 1)) + 1)) + 1)) + 1))])).getD x4.toNat []).getD 5 (.i 0)).toL) fun r6 r7 =>
  rec r6 (IntKind.i64.wrap (x4 + 1)) ((((((x5.set x4.toNat (splice (x5.getD x4.toNat []) 0 [.i x3])).set x4.toNat (splice ((x5.set x4.toNat (splice (x5.getD x4.toNat []) 0 [.i x3])).getD x4.toNat []) 1 [.i (IntKind.i64.wrap (x3 + 1))])).set x4.toNat (splice (((x5.set x4.toNat (splice (x5.getD x4.toNat []) 0 [.i x3])).set x4.toNat (splice ((x5.set x4.toNat (splice (x5.getD x4.toNat []) 0 [.i x3])).getD x4.toNat []) 1 [.i (IntKind.i64.wrap (x3 + 1))])).getD x4.toNat []) 2 [.i (IntKind.i64.wrap ((IntKind.i64.wrap (x3 + 1)) + 1))])).set x4.toNat (splice ((((x5.set x4.toNat (splice (x5.getD x4.toNat []) 0 [.i x3])).set x4.toNat (splice ((x5.set x4.toNat (splice (x5.getD x4.toNat []) 0 [.i x3])).getD x4.toNat []) 1 [.i (IntKind.i64.wrap (x3 + 1))])).set x4.toNat (splice (((x5.set x4.toNat (splice (x5.getD x4.toNat []) 0 [.i x3])).set x4.toNat (splice ((x5.set x4.toNat (splice (x5.getD x4.toNat []) 0 [.i x3])).getD x4.toNat []) 1 [.i (IntKind.i64.wrap (x3 + 1))])).getD x4.toNat []) 2 [.i (IntKind.i64.wrap ((IntKind.i64.wrap (x3 + 1)) + 1))])).getD x4.toNat []) 3 [.i (IntKind.i64.wrap ((IntKind.i64.wrap ((IntKind.i64.wrap (x3 + 1)) + 1)) + 1))])).set x4.toNat (splice (((((x5.set x4.toNat (splice (x5.getD x4.toNat []) 0 [.i x3])).set x4.toNat (splice ((x5.set x4.toNat (splice (x5.getD x4.toNat []) 0 [.i x3])).getD x4.toNat []) 1 [.i (IntKind.i64.wrap (x3 + 1))])).set x4.toNat (splice (((x5.set x4.toNat (splice (x5.getD x4.toNat []) 0 [.i x3])).set x4.toNat (splice ((x5.set x4.toNat (splice (x5.getD x4.toNat []) 0 [.i x3])).getD x4.toNat []) 1 [.i (IntKind.i64.wrap (x3 + 1))])).getD x4.toNat []) 2 [.i (IntKind.i64.wrap ((IntKind.i64.wrap (x3 + 1)) + 1))])).set x4.toNat (splice ((((x5.set x4.toNat (splice (x5.getD x4.toNat []) 0 [.i x3])).set x4.toNat (splice ((x5.set x4.toNat (splice (x5.getD x4.toNat []) 0 [.i x3])).getD x4.toNat []) 1 [.i (IntKind.i64.wrap (x3 + 1))])).set x4.toNat (splice (((x5.set x4.toNat (splice (x5.getD x4.toNat []) 0 [.i x3])).set x4.toNat (splice ((x5.set x4.toNat (splice (x5.getD x4.toNat []) 0 [.i x3])).getD x4.toNat []) 1 [.i (IntKind.i64.wrap (x3 + 1))])).getD x4.toNat []) 2 [.i (IntKind.i64.wrap ((IntKind.i64.wrap (x3 + 1)) + 1))])).getD x4.toNat []) 3 [.i (IntKind.i64.wrap ((IntKind.i64.wrap ((IntKind.i64.wrap (x3 + 1)) + 1)) + 1))])).getD x4.toNat []) 4 [.i (IntKind.i64.wrap ((IntKind.i64.wrap ((IntKind.i64.wrap ((IntKind.i64.wrap (x3 + 1)) + 1)) + 1)) + 1))])).set x4.toNat (splice ((((((x5.set x4.toNat (splice (x5.getD x4.toNat []) 0 [.i x3])).set x4.toNat (splice ((x5.set x4.toNat (splice (x5.getD x4.toNat []) 0 [.i x3])).getD x4.toNat []) 1 [.i (IntKind.i64.wrap (x3 + 1))])).set x4.toNat (splice (((x5.set x4.toNat (splice (x5.getD x4.toNat []) 0 [.i x3])).set x4.toNat (splice ((x5.set x4.toNat (splice (x5.getD x4.toNat []) 0 [.i x3])).getD x4.toNat []) 1 [.i (IntKind.i64.wrap (x3 + 1))])).getD x4.toNat []) 2 [.i (IntKind.i64.wrap ((IntKind.i64.wrap (x3 + 1)) + 1))])).set x4.toNat (splice ((((x5.set x4.toNat (splice (x5.getD x4.toNat []) 0 [.i x3])).set x4.toNat (splice ((x5.set x4.toNat (splice (x5.getD x4.toNat []) 0 [.i x3])).getD x4.toNat []) 1 [.i (IntKind.i64.wrap (x3 + 1))])).set x4.toNat (splice (((x5.set x4.toNat (splice (x5.getD x4.toNat []) 0 [.i x3])).set x4.toNat (splice ((x5.set x4.toNat (splice (x5.getD x4.toNat []) 0 [.i x3])).getD x4.toNat []) 1 [.i (IntKind.i64.wrap (x3 + 1))])).getD x4.toNat []) 2 [.i (IntKind.i64.wrap ((IntKind.i64.wrap (x3 + 1)) + 1))])).getD x4.toNat []) 3 [.i (IntKind.i64.wrap ((IntKind.i64.wrap ((IntKind.i64.wrap (x3 + 1)) + 1)) + 1))])).set x4.toNat (splice (((((x5.set x4.toNat (splice (x5.getD x4.toNat []) 0 [.i x3])).set x4.toNat (splice ((x5.set x4.toNat (splice (x5.getD x4.toNat []) 0 [.i x3])).getD x4.toNat []) 1 [.i (IntKind.i64.wrap (x3 + 1))])).set x4.toNat (splice (((x5.set x4.toNat (splice (x5.getD x4.toNat []) 0 [.i x3])).set x4.toNat (splice ((x5.set x4.toNat (splice (x5.getD x4.toNat []) 0 [.i x3])).getD x4.toNat []) 1 [.i (IntKind.i64.wrap (x3 + 1))])).getD x4.toNat []) 2 [.i (IntKind.i64.wrap ((IntKind.i64.wrap (x3 + 1)) + 1))])).set x4.toNat (splice ((((x5.set x4.toNat (splice (x5.getD x4.toNat []) 0 [.i x3])).set x4.toNat (splice ((x5.set x4.toNat (splice (x5.getD x4.toNat []) 0 [.i x3])).getD x4.toNat []) 1 [.i (IntKind.i64.wrap (x3 + 1))])).set x4.toNat (splice (((x5.set x4.toNat (splice (x5.getD x4.toNat []) 0 [.i x3])).set x4.toNat (splice ((x5.set x4.toNat (splice (x5.getD x4.toNat []) 0 [.i x3])).getD x4.toNat []) 1 [.i (IntKind.i64.wrap (x3 + 1))])).getD x4.toNat []) 2 [.i (IntKind.i64.wrap ((IntKind.i64.wrap (x3 + 1)) + 1))])).getD x4.toNat []) 3 [.i (IntKind.i64.wrap ((IntKind.i64.wrap ((IntKind.i64.wrap (x3 + 1)) + 1)) + 1))])).getD x4.toNat []) 4 [.i (IntKind.i64.wrap ((IntKind.i64.wrap ((IntKind.i64.wrap ((IntKind.i64.wrap (x3 + 1)) + 1)) + 1)) + 1))])).getD x4.toNat []) 5 [.l r7])))
  else none)
  else none)
  else none)
  else none)
  else none)
  else none)
  else none)
  else none)
 else k x3 x5
noncomputable def l0  (k : Int → List (List Cl) → O) : Nat → Int → Int → List (List Cl) → O
 | 0, _, _, _ => none
 | n + 1, x3, x4, x5 => l0s (l0 k n) k x3 x4 x5
noncomputable def o0 : Fn [.i, .l] St := fun y1 y2 => ⟨mkT 58 [(1, oI y1)], [(0, ⟨e_0, .cells y2, true, 0, none⟩)], []⟩
noncomputable def n0 (K : Res → O) := ent 0 [] [.i, .i, .l] [0, 1, 2] (fun x3 x4 x5 => ⟨mkT 58 [(0, one (.ow 0)), (1, oI x3), (5, oI x4)], [(0, ⟨e_0, .cells x5, true, 0, none⟩)], []⟩) fun k => l0 (fun y1 y2 => k (o0 y1 y2))
noncomputable def X (K : Res → O) : Ctx := { cx0 [laws_markIntS.con] fi false K with io := [(39, [⟨true, 0, 1⟩, ⟨false, 0, 1⟩])], opn := [(14, 0, 5, 5)], cin := [(0, ⟨[0, 1, 5], [(0, 0)], [], [], [], []⟩)], cout := [(0, ⟨[1], [(0, 0)], [], [], [], []⟩)], lp := lpOf [n0 K] }
noncomputable def b (a1 : Int) (a2 : List (List Cl)) (R : Int → List (List Cl) → O) : O :=
 l0 (fun y8 y9 =>
 R y8 y9) fuel a1 0 a2
noncomputable def g := seal_ b
theorem e : g = b := seal_eq b
noncomputable def a : Fn [.i, .l] St := fun a1 a2 => argSt [one (.ow 0), oI a1] [⟨e_0, .cells a2, true, 0, none⟩] []
noncomputable def con := conOf 15 [.i, .l] [.i, .l] a g m
theorem hx (K : Res → O) : CtxOk Pg Γ0 byt0 eqs0 (X K) [laws_markIntS.con] := ctx_of (X := X) (.cons laws_markIntS.ok .nil) (by kernel_rfl) K
theorem w0 (K : Res → O) : LpSound Pg (X K) 0 b0 := lp_fin (L := [n0 K]) laid (hx K) .nil (.cons (ent_ok (fun k r => l0s r (fun y1 y2 => k (o0 y1 y2))) (by kernel_rfl) (by kernel_rfl) (by kernel_rfl) (by kernel_rfl) (by kernel_rfl)) .nil) (by kernel_rfl) (by kernel_rfl)
theorem ok : Con Pg con := con_fin (fn := Tryz.f15) (c := c) (Fi := fi) (X := X) laid hx (fun K => (.cons (w0 K) .nil)) e (by kernel_rfl) (by kernel_rfl) (by kernel_rfl) (by kernel_rfl)
end laws_markInstrS
namespace laws_markVarS
noncomputable def c : Code := bodyOf Tryz.f16
noncomputable def fi : Fin := ⟨Γ0, [(.tmp 4, 3)], [[1]], [true], [], []⟩
noncomputable def m : Fn [.i, .l] (Fn [.i, .l] Res) := fun _ _ r1 r2 => ⟨[⟨false, [cI r1]⟩], [some ⟨e_1, .cells r2, true, 0, none⟩], [], [], []⟩
noncomputable def b0 : Code := codeAt c [1, 0, 1, 0, 0]
noncomputable def l0s  (rec : Int → Int → List (List Cl) → O) (k : Int → List (List Cl) → O) (x3 x4 : Int) (x5 : List (List Cl)) : O :=
 bif decide (x4 < (x5.length : Int)) then (bif decide (0 ≤ x4) && decide (x4 < (x5.length : Int)) then (bif decide (0 ≤ x4) && decide (x4 < ((x5.set x4.toNat (splice (x5.getD x4.toNat []) 0 [.b (x3.tmod 3 == 0)])).length : Int)) then (bif decide (0 ≤ x4) && decide (x4 < ((x5.set x4.toNat (splice (x5.getD x4.toNat []) 0 [.b (x3.tmod 3 == 0)])).length : Int)) then (bif decide (x4.toNat = x4.toNat) then (laws_markIntS.g (IntKind.i64.wrap (x3 + 1)) ((((x5.set x4.toNat (splice (x5.getD x4.toNat []) 0 [.b (x3.tmod 3 == 0)])).getD x4.toNat []).getD 1 (.i 0)).toL) fun r6 r7 =>
  bif decide (0 ≤ x4) && decide (x4 < (((x5.set x4.toNat (splice (x5.getD x4.toNat []) 0 [.b (x3.tmod 3 == 0)])).set x4.toNat (splice ((x5.set x4.toNat (splice (x5.getD x4.toNat []) 0 [.b (x3.tmod 3 == 0)])).getD x4.toNat []) 1 [.l r7])).length : Int)) then (bif decide (0 ≤ x4) && decide (x4 < (((x5.set x4.toNat (splice (x5.getD x4.toNat []) 0 [.b (x3.tmod 3 == 0)])).set x4.toNat (splice ((x5.set x4.toNat (splice (x5.getD x4.toNat []) 0 [.b (x3.tmod 3 == 0)])).getD x4.toNat []) 1 [.l r7])).length : Int)) then (bif decide (x4.toNat = x4.toNat) then (laws_markIntS.g r6 (((((x5.set x4.toNat (splice (x5.getD x4.toNat []) 0 [.b (x3.tmod 3 == 0)])).set x4.toNat (splice ((x5.set x4.toNat (splice (x5.getD x4.toNat []) 0 [.b (x3.tmod 3 == 0)])).getD x4.toNat []) 1 [.l r7])).getD x4.toNat []).getD 2 (.i 0)).toL) fun r8 r9 =>
   rec r8 (IntKind.i64.wrap (x4 + 1)) (((x5.set x4.toNat (splice (x5.getD x4.toNat []) 0 [.b (x3.tmod 3 == 0)])).set x4.toNat (splice ((x5.set x4.toNat (splice (x5.getD x4.toNat []) 0 [.b (x3.tmod 3 == 0)])).getD x4.toNat []) 1 [.l r7])).set x4.toNat (splice (((x5.set x4.toNat (splice (x5.getD x4.toNat []) 0 [.b (x3.tmod 3 == 0)])).set x4.toNat (splice ((x5.set x4.toNat (splice (x5.getD x4.toNat []) 0 [.b (x3.tmod 3 == 0)])).getD x4.toNat []) 1 [.l r7])).getD x4.toNat []) 2 [.l r9])))
   else none)
   else none)
  else none)
  else none)
  else none)
  else none)
  else none)
 else k x3 x5
noncomputable def l0  (k : Int → List (List Cl) → O) : Nat → Int → Int → List (List Cl) → O
 | 0, _, _, _ => none
 | n + 1, x3, x4, x5 => l0s (l0 k n) k x3 x4 x5
noncomputable def o0 : Fn [.i, .l] St := fun y1 y2 => ⟨mkT 38 [(1, oI y1)], [(0, ⟨e_1, .cells y2, true, 0, none⟩)], []⟩
noncomputable def n0 (K : Res → O) := ent 0 [] [.i, .i, .l] [0, 1, 2] (fun x3 x4 x5 => ⟨mkT 38 [(0, one (.ow 0)), (1, oI x3), (5, oI x4)], [(0, ⟨e_1, .cells x5, true, 0, none⟩)], []⟩) fun k => l0 (fun y1 y2 => k (o0 y1 y2))
noncomputable def X (K : Res → O) : Ctx := { cx0 [laws_markIntS.con] fi false K with io := [(39, [⟨true, 0, 1⟩, ⟨false, 0, 1⟩])], opn := [(6, 0, 5, 1), (7, 0, 5, 2)], cin := [(0, ⟨[0, 1, 5], [(0, 0)], [], [], [], []⟩)], cout := [(0, ⟨[1], [(0, 0)], [], [], [], []⟩)], lp := lpOf [n0 K] }
noncomputable def b (a1 : Int) (a2 : List (List Cl)) (R : Int → List (List Cl) → O) : O :=
 l0 (fun y10 y11 =>
 R y10 y11) fuel a1 0 a2
noncomputable def g := seal_ b
theorem e : g = b := seal_eq b
noncomputable def a : Fn [.i, .l] St := fun a1 a2 => argSt [one (.ow 0), oI a1] [⟨e_1, .cells a2, true, 0, none⟩] []
noncomputable def con := conOf 16 [.i, .l] [.i, .l] a g m
theorem hx (K : Res → O) : CtxOk Pg Γ0 byt0 eqs0 (X K) [laws_markIntS.con] := ctx_of (X := X) (.cons laws_markIntS.ok .nil) (by kernel_rfl) K
theorem w0 (K : Res → O) : LpSound Pg (X K) 0 b0 := lp_fin (L := [n0 K]) laid (hx K) .nil (.cons (ent_ok (fun k r => l0s r (fun y1 y2 => k (o0 y1 y2))) (by kernel_rfl) (by kernel_rfl) (by kernel_rfl) (by kernel_rfl) (by kernel_rfl)) .nil) (by kernel_rfl) (by kernel_rfl)
theorem ok : Con Pg con := con_fin (fn := Tryz.f16) (c := c) (Fi := fi) (X := X) laid hx (fun K => (.cons (w0 K) .nil)) e (by kernel_rfl) (by kernel_rfl) (by kernel_rfl) (by kernel_rfl)
end laws_markVarS
namespace laws_markArray
noncomputable def c : Code := bodyOf Tryz.f17
noncomputable def fi : Fin := ⟨Γ0, [(.tmp 4, 3)], [[1]], [true, true], [], []⟩
noncomputable def m : Fn [.i, .z, .z] (Fn [.i, .z, .z] Res) := fun _ _ _ r1 r2 r3 => ⟨[⟨false, [cI r1]⟩], [some ⟨[.int .i64], .ints r2, true, 0, none⟩, some ⟨[.int .i64], .ints r3, true, 0, none⟩], [], [], []⟩
noncomputable def X (K : Res → O) : Ctx := { cx0 [laws_markIntS.con] fi true K with io := [(39, [⟨true, 0, 1⟩, ⟨false, 0, 1⟩])] }
noncomputable def b (a1 : Int) (a2 a3 : List Int) (R : Int → List Int → List Int → O) : O :=
 laws_markIntS.g a1 a2 fun r4 r5 =>
 laws_markIntS.g r4 a3 fun r6 r7 =>
 R r6 r5 r7
noncomputable def g := seal_ b
theorem e : g = b := seal_eq b
noncomputable def a : Fn [.i, .z, .z] St := fun a1 a2 a3 => argSt [.v ⟨true, [.ow 0, .ow 1]⟩, oI a1] [⟨[.int .i64], .ints a2, true, 0, none⟩, ⟨[.int .i64], .ints a3, true, 0, none⟩] []
noncomputable def con := conOf 17 [.i, .z, .z] [.i, .z, .z] a g m
theorem ok : Con Pg con := con_fin (fn := Tryz.f17) (c := c) (Fi := fi) (X := X) laid (ctx_of (.cons laws_markIntS.ok .nil) (by kernel_rfl)) (fun K => .nil) e (by kernel_rfl) (by kernel_rfl) (by kernel_rfl) (by kernel_rfl)
end laws_markArray
namespace laws_heldIntS
noncomputable def c : Code := bodyOf Tryz.f40
noncomputable def fi : Fin := ⟨Γ0, [(.tmp 4, 3)], [[1]], [], [], []⟩
noncomputable def m : Fn [.z, .i] (Fn [.i] Res) := fun _ _ r1 => ⟨[⟨false, [cI r1]⟩], [], [], [], []⟩
noncomputable def b0 : Code := codeAt c [1, 0, 1, 0, 0]
noncomputable def l0s (x3 : List Int) (rec : Int → Int → O) (k : Int → O) (R : Int → O) (x4 x5 : Int) : O :=
 bif decide (x5 < (x3.length : Int)) then (bif decide (0 ≤ x5) && decide (x5 < (x3.length : Int)) then (bif (x3.getD x5.toNat 0 != x4) then R (-1)
  else rec (IntKind.i64.wrap (x4 + 1)) (IntKind.i64.wrap (x5 + 1)))
  else none)
 else k x4
noncomputable def l0 (x3 : List Int) (k : Int → O) (R : Int → O) : Nat → Int → Int → O
 | 0, _, _ => none
 | n + 1, x4, x5 => l0s x3 (l0 x3 k R n) k R x4 x5
noncomputable def o0 : Fn [.z, .i] St := fun _ y1 => ⟨mkT 21 [(1, oI y1)], [], []⟩
noncomputable def n0 (K : Res → O) := ent 0 [.z] [.i, .i] [0, 1, 2] (fun x3 x4 x5 => ⟨mkT 21 [(0, one (.tr 0 1 [.int .i64] (.ints x3))), (1, oI x4), (5, oI x5)], [], []⟩) fun x3 k => l0 x3 (fun y1 => k (o0 x3 y1)) (fun r1 => K (m [] (0 : Int) r1))
noncomputable def X (K : Res → O) : Ctx := { cx0 [] fi true K with cin := [(0, ⟨[0, 1, 5], [], [], [], [], []⟩)], cout := [(0, ⟨[1], [], [], [], [], []⟩)], lp := lpOf [n0 K] }
noncomputable def b (a1 : List Int) (a2 : Int) (R : Int → O) : O :=
 l0 a1 (fun y6 =>
 R y6) R fuel a2 0
noncomputable def g := seal_ b
theorem e : g = b := seal_eq b
noncomputable def a : Fn [.z, .i] St := fun a1 a2 => argSt [one (.tr 0 1 [.int .i64] (.ints a1)), oI a2] [] []
noncomputable def con := conOf 40 [.z, .i] [.i] a g m
theorem hx (K : Res → O) : CtxOk Pg Γ0 byt0 eqs0 (X K) [] := ctx_of (X := X) .nil (by kernel_rfl) K
theorem w0 (K : Res → O) : LpSound Pg (X K) 0 b0 := lp_fin (L := [n0 K]) laid (hx K) .nil (.cons (ent_ok (fun x3 k r => l0s x3 r (fun y1 => k (o0 x3 y1)) (fun r1 => K (m [] (0 : Int) r1))) (by kernel_rfl) (by kernel_rfl) (by kernel_rfl) (by kernel_rfl) (by kernel_rfl)) .nil) (by kernel_rfl) (by kernel_rfl)
theorem ok : Con Pg con := con_fin (fn := Tryz.f40) (c := c) (Fi := fi) (X := X) laid hx (fun K => (.cons (w0 K) .nil)) e (by kernel_rfl) (by kernel_rfl) (by kernel_rfl) (by kernel_rfl)
end laws_heldIntS
namespace laws_heldArray
noncomputable def c : Code := bodyOf Tryz.f18
noncomputable def fi : Fin := ⟨Γ0, [(.tmp 4, 3)], [[1]], [], [], []⟩
noncomputable def m : Fn [.z, .z, .i] (Fn [.i] Res) := fun _ _ _ r1 => ⟨[⟨false, [cI r1]⟩], [], [], [], []⟩
noncomputable def X (K : Res → O) : Ctx := cx0 [laws_heldIntS.con] fi true K
noncomputable def b (a1 a2 : List Int) (a3 : Int) (R : Int → O) : O :=
 laws_heldIntS.g a1 a3 fun r4 =>
 bif decide (r4 < 0) then R (-1)
 else (laws_heldIntS.g a2 r4 fun r5 =>
 bif decide (r5 < 0) then R (-1)
 else R r5)
noncomputable def g := seal_ b
theorem e : g = b := seal_eq b
noncomputable def a : Fn [.z, .z, .i] St := fun a1 a2 a3 => argSt [.v ⟨true, [.tr 0 1 [.int .i64] (.ints a1), .tr 0 1 [.int .i64] (.ints a2)]⟩, oI a3] [] []
noncomputable def con := conOf 18 [.z, .z, .i] [.i] a g m
theorem ok : Con Pg con := con_fin (fn := Tryz.f18) (c := c) (Fi := fi) (X := X) laid (ctx_of (.cons laws_heldIntS.ok .nil) (by kernel_rfl)) (fun K => .nil) e (by kernel_rfl) (by kernel_rfl) (by kernel_rfl) (by kernel_rfl)
end laws_heldArray
namespace laws_FnExactFuseTry
noncomputable def c : Code := bodyOf Tryz.f3
noncomputable def fi : Fin := ⟨Γ0, [(.tmp 6, 4)], [[1]], [], [], []⟩
noncomputable def m : Fn [.l, .i, .i, .l] (Fn [.b] Res) := fun _ _ _ _ r1 => ⟨[⟨false, [.bool r1]⟩], [], [], [], []⟩
noncomputable def X (K : Res → O) : Ctx := { cx0 [laws_szInstrS.con, laws_szVarS.con, laws_toInstrS.con, laws_toSpan.con, laws_toVarS.con, spec_FuseTry.con, impl_FuseTry.con, laws_eqArray.con, laws_eqInstrS.con, laws_eqVarS.con, laws_markInstrS.con, laws_markVarS.con, laws_markArray.con, laws_heldArray.con] fi false K with io := [(7, [⟨false, 0, 1⟩, ⟨false, 0, 1⟩, ⟨false, 0, 2⟩]), (15, [⟨true, 0, 1⟩, ⟨false, 0, 1⟩]), (16, [⟨true, 0, 1⟩, ⟨false, 0, 1⟩]), (17, [⟨true, 0, 1⟩, ⟨false, 0, 1⟩])] }
noncomputable def b (a1 : List (List Cl)) (a2 a3 : Int) (a4 : List (List Cl)) (R : Bool → O) : O :=
 laws_szInstrS.g a1 1048576 fun r5 =>
 bif decide (r5 < 0) then R true
 else (laws_szVarS.g a4 r5 fun r6 =>
 bif decide (r6 < 0) then R true
 else (laws_toInstrS.g a1 fun r7 =>
 laws_toSpan.g a2 a3 (
 laws_toVarS.g a4 fun r8 =>
 spec_FuseTry.g r7 a2 a3 r8 fun r9 r10 r11 =>
 laws_toInstrS.g a1 fun r12 =>
 laws_toVarS.g a4 fun r13 =>
 laws_toSpan.g a2 a3 (
 impl_FuseTry.g r12 a2 a3 r13 fun r14 r15 r16 =>
 laws_eqArray.g r14 r15 r9 r10 fun r17 =>
 bif !r17 then R false
 else bif (r16 != r11) then R false
 else (laws_toInstrS.g a1 fun r18 =>
 laws_eqInstrS.g r12 r18 fun r19 =>
 bif !r19 then R false
 else (laws_toVarS.g a4 fun r20 =>
 laws_eqVarS.g r13 r20 fun r21 =>
 bif !r21 then R false
 else (laws_markInstrS.g 1 r12 fun r22 r23 =>
 laws_markVarS.g r22 r13 fun r24 r25 =>
 bif decide (r24 < 0) then R false
 else (laws_eqArray.g r14 r15 r9 r10 fun r26 =>
 bif !r26 then R false
 else bif (r16 != r11) then R false
 else (laws_markArray.g 1 r14 r15 fun r27 r28 r29 =>
 laws_heldArray.g r28 r29 1 fun r30 =>
 bif decide (r30 < 0) then R false
 else bif (r30 != r27) then R false
 else (laws_toInstrS.g a1 fun r31 =>
 laws_toSpan.g a2 a3 (
 laws_toVarS.g a4 fun r32 =>
 impl_FuseTry.g r31 a2 a3 r32 fun r33 r34 r35 =>
 laws_eqArray.g r33 r34 r9 r10 fun r36 =>
 bif !r36 then R false
 else bif (r35 != r11) then R false
 else (laws_heldArray.g r28 r29 1 fun r37 =>
 bif decide (r37 < 0) then R false
 else bif (r37 != r27) then R false
 else R true))))))))))))
noncomputable def g := seal_ b
theorem e : g = b := seal_eq b
noncomputable def a : Fn [.l, .i, .i, .l] St := fun a1 a2 a3 a4 => argSt [one (.tr 2 2 e_0 (.cells a1)), .v ⟨true, [cI a2, cI a3]⟩, one (.tr 2 2 e_1 (.cells a4))] [] []
noncomputable def con := conOf 3 [.l, .i, .i, .l] [.b] a g m
theorem ok : Con Pg con := con_fin (fn := Tryz.f3) (c := c) (Fi := fi) (X := X) laid (ctx_of (.cons laws_szInstrS.ok (.cons laws_szVarS.ok (.cons laws_toInstrS.ok (.cons laws_toSpan.ok (.cons laws_toVarS.ok (.cons spec_FuseTry.ok (.cons impl_FuseTry.ok (.cons laws_eqArray.ok (.cons laws_eqInstrS.ok (.cons laws_eqVarS.ok (.cons laws_markInstrS.ok (.cons laws_markVarS.ok (.cons laws_markArray.ok (.cons laws_heldArray.ok .nil)))))))))))))) (by kernel_rfl)) (fun K => .nil) e (by kernel_rfl) (by kernel_rfl) (by kernel_rfl) (by kernel_rfl)
end laws_FnExactFuseTry
namespace spec_l9Behind
noncomputable def c : Code := bodyOf Tryz.f149
noncomputable def fi : Fin := ⟨Γ0, [], [], [false], [([.sl e_2 16, .int .i64, .sl e_3 72], [0, 1, 1])], []⟩
noncomputable def m : Fn [.l, .l, .l, .i] (Fn [.l, .i, .l] Res) := fun _ _ _ _ r1 r2 r3 => ⟨[], [none], [⟨e_3, .cells r3, false, 0, none⟩], [[.tr 2 2 e_2 (.cells r1), cI r2, .ow 1000]], []⟩
noncomputable def b0 : Code := codeAt c [1, 1, 0, 0]
noncomputable def l0s (x5 : List (List Cl)) (x6 : Int) (x9 : List (List Cl)) (x10 : Int) (rec : Int → List (List Cl) → O) (k : List (List Cl) → O) (x7 : Int) (x8 : List (List Cl)) : O :=
 bif decide (x7 < (x5.length : Int)) then (bif decide (0 ≤ x7) && decide (x7 < (x5.length : Int)) then (bif (((x5.getD x7.toNat []).getD 0 (.i 0)).toI == 5) then (bif decide ((x8.length + 1) * 72 ≤ 140737488355328) then rec (IntKind.i64.wrap (x7 + 1)) (x8 ++ ([[.i (((x5.getD x7.toNat []).getD 0 (.i 0)).toI), .i (IntKind.i64.wrap ((((x5.getD x7.toNat []).getD 1 (.i 0)).toI) + x6)), .i (IntKind.i64.wrap ((((x5.getD x7.toNat []).getD 2 (.i 0)).toI) + x6)), .i (((x5.getD x7.toNat []).getD 3 (.i 0)).toI), .i (((x5.getD x7.toNat []).getD 4 (.i 0)).toI), .i (((x5.getD x7.toNat []).getD 5 (.i 0)).toI), .l (((x5.getD x7.toNat []).getD 6 (.i 0)).toL)]] : List (List Cl)))
  else none)
  else bif (((x5.getD x7.toNat []).getD 0 (.i 0)).toI == 4) then (bif decide ((x8.length + 1) * 72 ≤ 140737488355328) then rec (IntKind.i64.wrap (x7 + 1)) (x8 ++ ([[.i (((x5.getD x7.toNat []).getD 0 (.i 0)).toI), .i (((x5.getD x7.toNat []).getD 1 (.i 0)).toI), .i (IntKind.i64.wrap ((((x5.getD x7.toNat []).getD 2 (.i 0)).toI) + x6)), .i (((x5.getD x7.toNat []).getD 3 (.i 0)).toI), .i (((x5.getD x7.toNat []).getD 4 (.i 0)).toI), .i (((x5.getD x7.toNat []).getD 5 (.i 0)).toI), .l (((x5.getD x7.toNat []).getD 6 (.i 0)).toL)]] : List (List Cl)))
   else none)
  else bif (((x5.getD x7.toNat []).getD 0 (.i 0)).toI == 3) then (bif decide ((x8.length + 1) * 72 ≤ 140737488355328) then rec (IntKind.i64.wrap (x7 + 1)) (x8 ++ ([[.i (((x5.getD x7.toNat []).getD 0 (.i 0)).toI), .i (((x5.getD x7.toNat []).getD 1 (.i 0)).toI), .i (IntKind.i64.wrap ((((x5.getD x7.toNat []).getD 2 (.i 0)).toI) + x6)), .i (((x5.getD x7.toNat []).getD 3 (.i 0)).toI), .i (((x5.getD x7.toNat []).getD 4 (.i 0)).toI), .i (((x5.getD x7.toNat []).getD 5 (.i 0)).toI), .l (((x5.getD x7.toNat []).getD 6 (.i 0)).toL)]] : List (List Cl)))
   else none)
  else bif decide ((x8.length + 1) * 72 ≤ 140737488355328) then rec (IntKind.i64.wrap (x7 + 1)) (x8 ++ ([[.i (((x5.getD x7.toNat []).getD 0 (.i 0)).toI), .i (((x5.getD x7.toNat []).getD 1 (.i 0)).toI), .i (((x5.getD x7.toNat []).getD 2 (.i 0)).toI), .i (((x5.getD x7.toNat []).getD 3 (.i 0)).toI), .i (((x5.getD x7.toNat []).getD 4 (.i 0)).toI), .i (((x5.getD x7.toNat []).getD 5 (.i 0)).toI), .l (((x5.getD x7.toNat []).getD 6 (.i 0)).toL)]] : List (List Cl)))
  else none)
  else none)
 else k x8
noncomputable def l0 (x5 : List (List Cl)) (x6 : Int) (x9 : List (List Cl)) (x10 : Int) (k : List (List Cl) → O) : Nat → Int → List (List Cl) → O
 | 0, _, _ => none
 | n + 1, x7, x8 => l0s x5 x6 x9 x10 (l0 x5 x6 x9 x10 k n) k x7 x8
noncomputable def o0 : Fn [.l, .i, .l, .i, .l] St := fun _ _ x9 x10 y1 => ⟨mkT 54 [], [(102401000, ⟨e_3, .cells y1, false, 0, none⟩)], [(0, [.tr 2 2 e_2 (.cells x9), cI x10, .ow 102401000])]⟩
noncomputable def n0 (K : Res → O) := ent 0 [.l, .i, .l, .i] [.i, .l] [0, 1, 4, 5, 2, 3] (fun x5 x6 x9 x10 x7 x8 => ⟨mkT 54 [(0, one (.bp 0 0)), (1, one (.tr 0 2 e_3 (.cells x5))), (4, oI x6), (5, oI x7)], [(102401000, ⟨e_3, .cells x8, false, 0, none⟩)], [(0, [.tr 2 2 e_2 (.cells x9), cI x10, .ow 102401000])]⟩) fun x5 x6 x9 x10 k => l0 x5 x6 x9 x10 (fun y1 => k (o0 x5 x6 x9 x10 y1))
noncomputable def X (K : Res → O) : Ctx := { cx0 [] fi true K with cin := [(0, ⟨[0, 1, 4, 5], [(0, 102401000), (25688, 102401000)], [0], [102401000], [], []⟩)], cout := [(0, ⟨[], [(102401000, 102401000)], [0], [], [], []⟩)], lp := lpOf [n0 K] }
noncomputable def b (a1 a2 a3 : List (List Cl)) (a4 : Int) (R : List (List Cl) → Int → List (List Cl) → O) : O :=
 l0 a1 (a2.length : Int) a3 a4 (fun y11 =>
 R a3 a4 y11) fuel 0 a2
noncomputable def g := seal_ b
theorem e : g = b := seal_eq b
noncomputable def a : Fn [.l, .l, .l, .i] St := fun a1 a2 a3 a4 => argSt [one (.bp 0 0), one (.tr 0 2 e_3 (.cells a1))] [⟨e_3, .cells a2, true, 0, none⟩] [[.tr 2 2 e_2 (.cells a3), cI a4, .ow 0]]
noncomputable def con := conOf 149 [.l, .l, .l, .i] [.l, .i, .l] a g m
theorem hx (K : Res → O) : CtxOk Pg Γ0 byt0 eqs0 (X K) [] := ctx_of (X := X) .nil (by kernel_rfl) K
theorem w0 (K : Res → O) : LpSound Pg (X K) 0 b0 := lp_fin (L := [n0 K]) laid (hx K) .nil (.cons (ent_ok (fun x5 x6 x9 x10 k r => l0s x5 x6 x9 x10 r (fun y1 => k (o0 x5 x6 x9 x10 y1))) (by kernel_rfl) (by kernel_rfl) (by kernel_rfl) (by kernel_rfl) (by kernel_rfl)) .nil) (by kernel_rfl) (by kernel_rfl)
theorem ok : Con Pg con := con_fin (fn := Tryz.f149) (c := c) (Fi := fi) (X := X) laid hx (fun K => (.cons (w0 K) .nil)) e (by kernel_rfl) (by kernel_rfl) (by kernel_rfl) (by kernel_rfl)
end spec_l9Behind
end Go.Tv.F
