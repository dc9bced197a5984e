/- The law's functions, printed by a program of ours, each with its contract. They hold without condition. -/
import Derived.Test.YtkokikbdndegkaaDoorProg
import Derived.Test.YtkokikbdndegkaaDoorExactTreeTextShelf
import Derived.Test.YtkokikbdndegkaaDoorTvC
set_option linter.unusedVariables false
set_option linter.unusedSectionVars false
set_option linter.unusedSimpArgs false
set_option linter.unnecessarySimpa false
set_option maxRecDepth 100000
set_option autoImplicit false
namespace Go.Tv.F
open Go Go.Tv
open Go.Proofs
noncomputable abbrev Pg := Go.Proofs.Tryd.prog
noncomputable instance envI : Env := envTab Pg []
noncomputable abbrev e_0 : List Ct := [.int .i64, .int .i64, .int .i64, .int .i64, .int .i64, .int .i64, .ints .i64]
noncomputable abbrev e_1 : List Ct := [.int .i64, .int .i64]
noncomputable def Γ0 : List (Nat × TI) := [(2, ⟨false, [.int .i64], []⟩),
 (3, ⟨false, [.int .i64], []⟩),
 (4, ⟨false, [.bool], []⟩),
 (5, ⟨false, [.int .u8], []⟩),
 (6, ⟨false, [.int .u8], []⟩),
 (9, ⟨false, [.str], []⟩),
 (10, ⟨false, [.str], []⟩),
 (11, ⟨false, [.str], []⟩),
 (12, ⟨false, [.int .u64], []⟩),
 (21, ⟨false, [.int .i32], []⟩),
 (22, ⟨false, [.sl e_0 72], []⟩),
 (24, ⟨true, [.sl e_0 72], [(0, 1, false)]⟩),
 (27, ⟨false, [.sl e_0 72], []⟩),
 (29, ⟨true, [.sl e_0 72], [(0, 1, false)]⟩),
 (36, ⟨false, [.sl e_1 16], []⟩),
 (42, ⟨true, [.int .i64, .int .i64, .int .i64], [(0, 1, false), (1, 1, false), (2, 1, false)]⟩),
 (43, ⟨false, [.sl [.int .i64] 8], []⟩),
 (45, ⟨true, [.int .i64, .int .i64, .int .i64, .int .i64, .int .i64, .int .i64, .sl [.int .i64] 8], [(0, 1, false), (1, 1, false), (2, 1, false), (3, 3, true), (6, 1, false)]⟩),
 (49, ⟨true, [.int .i64, .int .i64, .int .i64], [(0, 1, false), (1, 1, false), (2, 1, false)]⟩),
 (51, ⟨true, [.int .i64, .int .i64, .int .i64, .int .i64, .int .i64, .int .i64, .sl [.int .i64] 8], [(0, 1, false), (1, 1, false), (2, 1, false), (3, 3, true), (6, 1, false)]⟩),
 (55, ⟨true, [.int .i64, .int .i64], [(0, 1, false), (1, 1, false)]⟩),
 (59, ⟨false, [.fn], []⟩),
 (62, ⟨false, [.sl [.str] 16], []⟩),
 (69, ⟨false, [.fn], []⟩),
 (71, ⟨false, [.sl [.int .u8] 1], []⟩),
 (86, ⟨false, [.sl [.ints .i64] 24], []⟩),
 (90, ⟨false, [.fn], []⟩),
 (101, ⟨false, [.int .u64], []⟩),
 (109, ⟨false, [.int .u32], []⟩),
 (111, ⟨false, [.int .u64], []⟩),
 (122, ⟨false, [.int .u8], []⟩),
 (123, ⟨false, [.int .u8], []⟩),
 (125, ⟨false, [.int .i32], []⟩),
 (126, ⟨false, [.int .i32], []⟩)]
noncomputable def byt0 : List TypeId := [71]
noncomputable def eqs0 : List TypeId := [42, 49, 55]
theorem laid : Laid Pg Γ0 byt0 eqs0 := ⟨by kernel_rfl, by kernel_rfl, by kernel_rfl, by kernel_rfl⟩
noncomputable def cx0 (os : List (FuncId × St × (List Lf → (Res → O) → O))) (fi : Fin) (nk : Bool) (K : Res → O) : Ctx := { Γ := Γ0, orc := orcOf os, lp := lpOf [], kl := Env.kl, nk := nk, eqs := eqs0, byt := byt0, fin := finK fi K }
namespace laws_szIntS
noncomputable def c : Code := bodyOf Tryd.f36
noncomputable def fi : Fin := ⟨Γ0, [(.tmp 4, 3)], [[1]], [], [], []⟩
noncomputable def m : Fn [.z, .i] (Fn [.i] Res) := fun _ _ r1 => ⟨[⟨false, [cI r1]⟩], [], [], [], []⟩
noncomputable def X (K : Res → O) : Ctx := cx0 [] fi true K
noncomputable def b (a1 : List Int) (a2 : Int) (R : Int → O) : O :=
 bif decide (IntKind.i64.wrap (a2 - (a1.length : Int)) < 0) then R (-1)
 else R (IntKind.i64.wrap (a2 - (a1.length : Int)))
noncomputable def g := seal_ b
theorem e : g = b := seal_eq b
noncomputable def a : Fn [.z, .i] St := fun a1 a2 => argSt [one (.tr 0 1 [.int .i64] (.ints a1)), oI a2] [] []
noncomputable def con := conOf 36 [.z, .i] [.i] a g m
theorem ok : Con Pg con := con_fin (fn := Tryd.f36) (c := c) (Fi := fi) (X := X) laid (ctx_of .nil (by kernel_rfl)) (fun K => .nil) e (by kernel_rfl) (by kernel_rfl) (by kernel_rfl) (by kernel_rfl)
end laws_szIntS
namespace laws_szExpr
noncomputable def c : Code := bodyOf Tryd.f18
noncomputable def fi : Fin := ⟨Γ0, [(.tmp 4, 3)], [[1]], [], [], []⟩
noncomputable def m : Fn [.i, .i, .i, .i, .i, .i, .z, .i] (Fn [.i] Res) := fun _ _ _ _ _ _ _ _ r1 => ⟨[⟨false, [cI r1]⟩], [], [], [], []⟩
noncomputable def X (K : Res → O) : Ctx := cx0 [laws_szIntS.con] fi true K
noncomputable def b (a1 a2 a3 a4 a5 a6 : Int) (a7 : List Int) (a8 : Int) (R : Int → O) : O :=
 laws_szIntS.g a7 a8 fun r9 =>
 bif decide (r9 < 0) then R (-1)
 else R r9
noncomputable def g := seal_ b
theorem e : g = b := seal_eq b
noncomputable def a : Fn [.i, .i, .i, .i, .i, .i, .z, .i] St := fun a1 a2 a3 a4 a5 a6 a7 a8 => argSt [.v ⟨true, [cI a1, cI a2, cI a3, cI a4, cI a5, cI a6, .tr 0 1 [.int .i64] (.ints a7)]⟩, oI a8] [] []
noncomputable def con := conOf 18 [.i, .i, .i, .i, .i, .i, .z, .i] [.i] a g m
theorem ok : Con Pg con := con_fin (fn := Tryd.f18) (c := c) (Fi := fi) (X := X) laid (ctx_of (.cons laws_szIntS.ok .nil) (by kernel_rfl)) (fun K => .nil) e (by kernel_rfl) (by kernel_rfl) (by kernel_rfl) (by kernel_rfl)
end laws_szExpr
namespace laws_szExprS
noncomputable def c : Code := bodyOf Tryd.f9
noncomputable def fi : Fin := ⟨Γ0, [(.tmp 4, 3)], [[1]], [], [], []⟩
noncomputable def m : Fn [.l, .i] (Fn [.i] Res) := fun _ _ r1 => ⟨[⟨false, [cI r1]⟩], [], [], [], []⟩
noncomputable def b0 : Code := codeAt c [1, 1, 1, 0, 1, 0, 0]
noncomputable def l0s (x3 : List (List Cl)) (rec : Int → Int → O) (k : Int → O) (R : Int → O) (x4 x5 : Int) : O :=
 bif decide (x5 < (x3.length : Int)) then (bif decide (0 ≤ x5) && decide (x5 < (x3.length : Int)) then (laws_szExpr.g (((x3.getD x5.toNat []).getD 0 (.i 0)).toI) (((x3.getD x5.toNat []).getD 1 (.i 0)).toI) (((x3.getD x5.toNat []).getD 2 (.i 0)).toI) (((x3.getD x5.toNat []).getD 3 (.i 0)).toI) (((x3.getD x5.toNat []).getD 4 (.i 0)).toI) (((x3.getD x5.toNat []).getD 5 (.i 0)).toI) (((x3.getD x5.toNat []).getD 6 (.i 0)).toL) x4 fun r6 =>
  bif decide (r6 < 0) then R (-1)
  else rec r6 (IntKind.i64.wrap (x5 + 1)))
  else none)
 else k x4
noncomputable def l0 (x3 : List (List Cl)) (k : Int → O) (R : Int → O) : Nat → Int → Int → O
 | 0, _, _ => none
 | n + 1, x4, x5 => l0s x3 (l0 x3 k R n) k R x4 x5
noncomputable def o0 : Fn [.l, .i] St := fun _ y1 => ⟨mkT 27 [(1, oI y1)], [], []⟩
noncomputable def n0 (K : Res → O) := ent 0 [.l] [.i, .i] [0, 1, 2] (fun x3 x4 x5 => ⟨mkT 27 [(0, one (.tr 0 1 e_0 (.cells x3))), (1, oI x4), (5, oI x5)], [], []⟩) fun x3 k => l0 x3 (fun y1 => k (o0 x3 y1)) (fun r1 => K (m [] (0 : Int) r1))
noncomputable def X (K : Res → O) : Ctx := { cx0 [laws_szExpr.con] fi true K with cin := [(0, ⟨[0, 1, 5], [], [], [], [], []⟩)], cout := [(0, ⟨[1], [], [], [], [], []⟩)], lp := lpOf [n0 K] }
noncomputable def b (a1 : List (List Cl)) (a2 : Int) (R : Int → O) : O :=
 bif decide (IntKind.i64.wrap (a2 - (a1.length : Int)) < 0) then R (-1)
 else (l0 a1 (fun y7 =>
 R y7) R fuel (IntKind.i64.wrap (a2 - (a1.length : Int))) 0)
noncomputable def g := seal_ b
theorem e : g = b := seal_eq b
noncomputable def a : Fn [.l, .i] St := fun a1 a2 => argSt [one (.tr 0 1 e_0 (.cells a1)), oI a2] [] []
noncomputable def con := conOf 9 [.l, .i] [.i] a g m
theorem hx (K : Res → O) : CtxOk Pg Γ0 byt0 eqs0 (X K) [laws_szExpr.con] := ctx_of (X := X) (.cons laws_szExpr.ok .nil) (by kernel_rfl) K
theorem w0 (K : Res → O) : LpSound Pg (X K) 0 b0 := lp_fin (L := [n0 K]) laid (hx K) .nil (.cons (ent_ok (fun x3 k r => l0s x3 r (fun y1 => k (o0 x3 y1)) (fun r1 => K (m [] (0 : Int) r1))) (by kernel_rfl) (by kernel_rfl) (by kernel_rfl) (by kernel_rfl) (by kernel_rfl)) .nil) (by kernel_rfl) (by kernel_rfl)
theorem ok : Con Pg con := con_fin (fn := Tryd.f9) (c := c) (Fi := fi) (X := X) laid hx (fun K => (.cons (w0 K) .nil)) e (by kernel_rfl) (by kernel_rfl) (by kernel_rfl) (by kernel_rfl)
end laws_szExprS
namespace laws_szTree
noncomputable def c : Code := bodyOf Tryd.f4
noncomputable def fi : Fin := ⟨Γ0, [(.tmp 4, 3)], [[1]], [], [], []⟩
noncomputable def m : Fn [.l, .i] (Fn [.i] Res) := fun _ _ r1 => ⟨[⟨false, [cI r1]⟩], [], [], [], []⟩
noncomputable def X (K : Res → O) : Ctx := cx0 [laws_szExprS.con] fi true K
noncomputable def b (a1 : List (List Cl)) (a2 : Int) (R : Int → O) : O :=
 laws_szExprS.g a1 a2 fun r3 =>
 bif decide (r3 < 0) then R (-1)
 else R r3
noncomputable def g := seal_ b
theorem e : g = b := seal_eq b
noncomputable def a : Fn [.l, .i] St := fun a1 a2 => argSt [.v ⟨true, [.tr 0 1 e_0 (.cells a1)]⟩, oI a2] [] []
noncomputable def con := conOf 4 [.l, .i] [.i] a g m
theorem ok : Con Pg con := con_fin (fn := Tryd.f4) (c := c) (Fi := fi) (X := X) laid (ctx_of (.cons laws_szExprS.ok .nil) (by kernel_rfl)) (fun K => .nil) e (by kernel_rfl) (by kernel_rfl) (by kernel_rfl) (by kernel_rfl)
end laws_szTree
namespace laws_toFun
noncomputable def c : Code := bodyOf Tryd.f43
noncomputable def fi : Fin := ⟨Γ0, [(.cell 2 49, 49)], [[1, 1, 1]], [], [], []⟩
noncomputable def m : Fn [.i, .i, .i] (Fn [] Res) := fun a1 a2 a3 => ⟨[⟨true, [cI a1, cI a2, cI a3]⟩], [], [], [], []⟩
noncomputable def X (K : Res → O) : Ctx := cx0 [] fi true K
noncomputable def b (a1 a2 a3 : Int) (R : O) : O :=
 R
noncomputable def g := seal_ b
theorem e : g = b := seal_eq b
noncomputable def a : Fn [.i, .i, .i] St := fun a1 a2 a3 => argSt [.v ⟨true, [cI a1, cI a2, cI a3]⟩] [] []
noncomputable def con := conOf 43 [.i, .i, .i] [] a g m
theorem ok : Con Pg con := con_fin (fn := Tryd.f43) (c := c) (Fi := fi) (X := X) laid (ctx_of .nil (by kernel_rfl)) (fun K => .nil) e (by kernel_rfl) (by kernel_rfl) (by kernel_rfl) (by kernel_rfl)
end laws_toFun
namespace laws_toIntS
noncomputable def c : Code := bodyOf Tryd.f44
noncomputable def fi : Fin := ⟨Γ0, [(.tmp 2, 43)], [[1]], [], [], []⟩
noncomputable def m : Fn [.z] (Fn [.z] Res) := fun _ r1 => ⟨[⟨false, [.ow 1000]⟩], [], [⟨[.int .i64], .ints r1, true, 0, none⟩], [], []⟩
noncomputable def b0 : Code := codeAt c [1, 1, 0, 1, 0, 0]
noncomputable def l0s (x2 : List Int) (rec : Int → List Int → O) (k : List Int → O) (x3 : Int) (x4 : List Int) : O :=
 bif decide (x3 < (x2.length : Int)) then (bif decide (0 ≤ x3) && decide (x3 < (x2.length : Int)) then (bif decide (0 ≤ x3) && decide (x3 < (x4.length : Int)) then rec (IntKind.i64.wrap (x3 + 1)) (x4.set x3.toNat (x2.getD x3.toNat 0))
  else none)
  else none)
 else k x4
noncomputable def l0 (x2 : List Int) (k : List Int → O) : Nat → Int → List Int → O
 | 0, _, _ => none
 | n + 1, x3, x4 => l0s x2 (l0 x2 k n) k x3 x4
noncomputable def o0 : Fn [.z, .z] St := fun _ y1 => ⟨mkT 22 [(3, one (.ow 3080))], [(3080, ⟨[.int .i64], .ints y1, true, 0, none⟩)], []⟩
noncomputable def n0 (K : Res → O) := ent 0 [.z] [.i, .z] [0, 1, 2] (fun x2 x3 x4 => ⟨mkT 22 [(0, one (.tr 0 1 [.int .i64] (.ints x2))), (3, one (.ow 3080)), (4, oI x3)], [(3080, ⟨[.int .i64], .ints x4, true, 0, none⟩)], []⟩) fun x2 k => l0 x2 (fun y1 => k (o0 x2 y1))
noncomputable def X (K : Res → O) : Ctx := { cx0 [] fi true K with cin := [(0, ⟨[0, 3, 4], [(3080, 3080)], [], [], [], []⟩)], cout := [(0, ⟨[3], [(3080, 3080)], [], [], [], []⟩)], lp := lpOf [n0 K] }
noncomputable def b (a1 : List Int) (R : List Int → O) : O :=
 bif decide ((a1.length : Int) = (a1.length : Int)) && decide (0 ≤ (a1.length : Int)) && decide ((a1.length : Int) * 8 ≤ 140737488355328) then (l0 a1 (fun y5 =>
  R y5) fuel 0 (List.replicate ((a1.length : Int).toNat) 0))
 else none
noncomputable def g := seal_ b
theorem e : g = b := seal_eq b
noncomputable def a : Fn [.z] St := fun a1 => argSt [one (.tr 0 1 [.int .i64] (.ints a1))] [] []
noncomputable def con := conOf 44 [.z] [.z] a g m
theorem hx (K : Res → O) : CtxOk Pg Γ0 byt0 eqs0 (X K) [] := ctx_of (X := X) .nil (by kernel_rfl) K
theorem w0 (K : Res → O) : LpSound Pg (X K) 0 b0 := lp_fin (L := [n0 K]) laid (hx K) .nil (.cons (ent_ok (fun x2 k r => l0s x2 r (fun y1 => k (o0 x2 y1))) (by kernel_rfl) (by kernel_rfl) (by kernel_rfl) (by kernel_rfl) (by kernel_rfl)) .nil) (by kernel_rfl) (by kernel_rfl)
theorem ok : Con Pg con := con_fin (fn := Tryd.f44) (c := c) (Fi := fi) (X := X) laid hx (fun K => (.cons (w0 K) .nil)) e (by kernel_rfl) (by kernel_rfl) (by kernel_rfl) (by kernel_rfl)
end laws_toIntS
namespace laws_toExpr
noncomputable def c : Code := bodyOf Tryd.f24
noncomputable def fi : Fin := ⟨Γ0, [(.cell 2 51, 51)], [[1, 1, 1, 1, 1, 1, 1]], [], [], []⟩
noncomputable def m : Fn [.i, .i, .i, .i, .i, .i, .z] (Fn [.z] Res) := fun a1 a2 a3 a4 a5 a6 _ r7 => ⟨[⟨true, [cI a1, cI a2, cI a3, cI a4, cI a5, cI a6, .ow 1000]⟩], [], [⟨[.int .i64], .ints r7, true, 0, none⟩], [], []⟩
noncomputable def X (K : Res → O) : Ctx := cx0 [laws_toFun.con, laws_toIntS.con] fi true K
noncomputable def b (a1 a2 a3 a4 a5 a6 : Int) (a7 : List Int) (R : List Int → O) : O :=
 laws_toFun.g a4 a5 a6 (
 laws_toIntS.g a7 fun r8 =>
 R r8)
noncomputable def g := seal_ b
theorem e : g = b := seal_eq b
noncomputable def a : Fn [.i, .i, .i, .i, .i, .i, .z] St := fun a1 a2 a3 a4 a5 a6 a7 => argSt [.v ⟨true, [cI a1, cI a2, cI a3, cI a4, cI a5, cI a6, .tr 0 1 [.int .i64] (.ints a7)]⟩] [] []
noncomputable def con := conOf 24 [.i, .i, .i, .i, .i, .i, .z] [.z] a g m
theorem ok : Con Pg con := con_fin (fn := Tryd.f24) (c := c) (Fi := fi) (X := X) laid (ctx_of (.cons laws_toFun.ok (.cons laws_toIntS.ok .nil)) (by kernel_rfl)) (fun K => .nil) e (by kernel_rfl) (by kernel_rfl) (by kernel_rfl) (by kernel_rfl)
end laws_toExpr
namespace laws_toExprS
noncomputable def c : Code := bodyOf Tryd.f13
noncomputable def fi : Fin := ⟨Γ0, [(.tmp 2, 27)], [[1]], [], [], []⟩
noncomputable def m : Fn [.l] (Fn [.l] Res) := fun _ r1 => ⟨[⟨false, [.ow 1000]⟩], [], [⟨e_0, .cells r1, true, 0, none⟩], [], []⟩
noncomputable def b0 : Code := codeAt c [1, 1, 0, 1, 0, 0]
noncomputable def l0s (x2 : List (List Cl)) (rec : Int → List (List Cl) → O) (k : List (List Cl) → O) (x3 : Int) (x4 : List (List Cl)) : O :=
 bif decide (x3 < (x2.length : Int)) then (bif decide (0 ≤ x3) && decide (x3 < (x2.length : Int)) then (laws_toExpr.g (((x2.getD x3.toNat []).getD 0 (.i 0)).toI) (((x2.getD x3.toNat []).getD 1 (.i 0)).toI) (((x2.getD x3.toNat []).getD 2 (.i 0)).toI) (((x2.getD x3.toNat []).getD 3 (.i 0)).toI) (((x2.getD x3.toNat []).getD 4 (.i 0)).toI) (((x2.getD x3.toNat []).getD 5 (.i 0)).toI) (((x2.getD x3.toNat []).getD 6 (.i 0)).toL) fun r5 =>
  bif decide (0 ≤ x3) && decide (x3 < (x4.length : Int)) then rec (IntKind.i64.wrap (x3 + 1)) (x4.set x3.toNat [.i (((x2.getD x3.toNat []).getD 0 (.i 0)).toI), .i (((x2.getD x3.toNat []).getD 1 (.i 0)).toI), .i (((x2.getD x3.toNat []).getD 2 (.i 0)).toI), .i (((x2.getD x3.toNat []).getD 3 (.i 0)).toI), .i (((x2.getD x3.toNat []).getD 4 (.i 0)).toI), .i (((x2.getD x3.toNat []).getD 5 (.i 0)).toI), .l r5])
  else none)
  else none)
 else k x4
noncomputable def l0 (x2 : List (List Cl)) (k : List (List Cl) → O) : Nat → Int → List (List Cl) → O
 | 0, _, _ => none
 | n + 1, x3, x4 => l0s x2 (l0 x2 k n) k x3 x4
noncomputable def o0 : Fn [.l, .l] St := fun _ y1 => ⟨mkT 23 [(3, one (.ow 3080))], [(3080, ⟨e_0, .cells y1, true, 0, none⟩)], []⟩
noncomputable def n0 (K : Res → O) := ent 0 [.l] [.i, .l] [0, 1, 2] (fun x2 x3 x4 => ⟨mkT 23 [(0, one (.tr 0 1 e_0 (.cells x2))), (3, one (.ow 3080)), (4, oI x3)], [(3080, ⟨e_0, .cells x4, true, 0, none⟩)], []⟩) fun x2 k => l0 x2 (fun y1 => k (o0 x2 y1))
noncomputable def X (K : Res → O) : Ctx := { cx0 [laws_toExpr.con] fi true K with cin := [(0, ⟨[0, 3, 4], [(3080, 3080)], [], [], [], []⟩)], cout := [(0, ⟨[3], [(3080, 3080)], [], [], [], []⟩)], lp := lpOf [n0 K] }
noncomputable def b (a1 : List (List Cl)) (R : List (List Cl) → O) : O :=
 bif decide ((a1.length : Int) = (a1.length : Int)) && decide (0 ≤ (a1.length : Int)) && decide ((a1.length : Int) * 72 ≤ 140737488355328) then (l0 a1 (fun y6 =>
  R y6) fuel 0 (List.replicate ((a1.length : Int).toNat) ([.i 0, .i 0, .i 0, .i 0, .i 0, .i 0, .l []] : List Cl)))
 else none
noncomputable def g := seal_ b
theorem e : g = b := seal_eq b
noncomputable def a : Fn [.l] St := fun a1 => argSt [one (.tr 0 1 e_0 (.cells a1))] [] []
noncomputable def con := conOf 13 [.l] [.l] a g m
theorem hx (K : Res → O) : CtxOk Pg Γ0 byt0 eqs0 (X K) [laws_toExpr.con] := ctx_of (X := X) (.cons laws_toExpr.ok .nil) (by kernel_rfl) K
theorem w0 (K : Res → O) : LpSound Pg (X K) 0 b0 := lp_fin (L := [n0 K]) laid (hx K) .nil (.cons (ent_ok (fun x2 k r => l0s x2 r (fun y1 => k (o0 x2 y1))) (by kernel_rfl) (by kernel_rfl) (by kernel_rfl) (by kernel_rfl) (by kernel_rfl)) .nil) (by kernel_rfl) (by kernel_rfl)
theorem ok : Con Pg con := con_fin (fn := Tryd.f13) (c := c) (Fi := fi) (X := X) laid hx (fun K => (.cons (w0 K) .nil)) e (by kernel_rfl) (by kernel_rfl) (by kernel_rfl) (by kernel_rfl)
end laws_toExprS
namespace laws_toTree
noncomputable def c : Code := bodyOf Tryd.f6
noncomputable def fi : Fin := ⟨Γ0, [(.cell 2 29, 29)], [[1]], [], [], []⟩
noncomputable def m : Fn [.l] (Fn [.l] Res) := fun _ r1 => ⟨[⟨true, [.ow 1000]⟩], [], [⟨e_0, .cells r1, true, 0, none⟩], [], []⟩
noncomputable def X (K : Res → O) : Ctx := cx0 [laws_toExprS.con] fi true K
noncomputable def b (a1 : List (List Cl)) (R : List (List Cl) → O) : O :=
 laws_toExprS.g a1 fun r2 =>
 R r2
noncomputable def g := seal_ b
theorem e : g = b := seal_eq b
noncomputable def a : Fn [.l] St := fun a1 => argSt [.v ⟨true, [.tr 0 1 e_0 (.cells a1)]⟩] [] []
noncomputable def con := conOf 6 [.l] [.l] a g m
theorem ok : Con Pg con := con_fin (fn := Tryd.f6) (c := c) (Fi := fi) (X := X) laid (ctx_of (.cons laws_toExprS.ok .nil) (by kernel_rfl)) (fun K => .nil) e (by kernel_rfl) (by kernel_rfl) (by kernel_rfl) (by kernel_rfl)
end laws_toTree
namespace spec_l1In
noncomputable def c : Code := bodyOf Tryd.f19
noncomputable def fi : Fin := ⟨Γ0, [(.tmp 6, 4)], [[1]], [], [], []⟩
noncomputable def m : Fn [.i, .i, .i] (Fn [.b] Res) := fun _ _ _ r1 => ⟨[⟨false, [.bool r1]⟩], [], [], [], []⟩
noncomputable def X (K : Res → O) : Ctx := cx0 [] fi true K
noncomputable def b (a1 a2 a3 : Int) (R : Bool → O) : O :=
 bif decide (a2 ≤ a1) then R (decide (a1 ≤ a3))
 else R false
noncomputable def g := seal_ b
theorem e : g = b := seal_eq b
noncomputable def a : Fn [.i, .i, .i] St := fun a1 a2 a3 => argSt [oI a1, oI a2, oI a3] [] []
noncomputable def con := conOf 19 [.i, .i, .i] [.b] a g m
theorem ok : Con Pg con := con_fin (fn := Tryd.f19) (c := c) (Fi := fi) (X := X) laid (ctx_of .nil (by kernel_rfl)) (fun K => .nil) e (by kernel_rfl) (by kernel_rfl) (by kernel_rfl) (by kernel_rfl)
end spec_l1In
namespace spec_NumOk
noncomputable def c : Code := bodyOf Tryd.f60
noncomputable def fi : Fin := ⟨Γ0, [(.tmp 2, 4)], [[1]], [], [], []⟩
noncomputable def m : Fn [.i] (Fn [.b] Res) := fun _ r1 => ⟨[⟨false, [.bool r1]⟩], [], [], [], []⟩
noncomputable def X (K : Res → O) : Ctx := cx0 [spec_l1In.con] fi true K
noncomputable def b (a1 : Int) (R : Bool → O) : O :=
 spec_l1In.g a1 (-1000000000000) 1000000000000 fun r2 =>
 R r2
noncomputable def g := seal_ b
theorem e : g = b := seal_eq b
noncomputable def a : Fn [.i] St := fun a1 => argSt [oI a1] [] []
noncomputable def con := conOf 60 [.i] [.b] a g m
theorem ok : Con Pg con := con_fin (fn := Tryd.f60) (c := c) (Fi := fi) (X := X) laid (ctx_of (.cons spec_l1In.ok .nil) (by kernel_rfl)) (fun K => .nil) e (by kernel_rfl) (by kernel_rfl) (by kernel_rfl) (by kernel_rfl)
end spec_NumOk
namespace spec_l9Nums
noncomputable def c : Code := bodyOf Tryd.f37
noncomputable def fi : Fin := ⟨Γ0, [(.tmp 2, 4)], [[1]], [], [], []⟩
noncomputable def m : Fn [.z] (Fn [.b] Res) := fun _ r1 => ⟨[⟨false, [.bool r1]⟩], [], [], [], []⟩
noncomputable def b0 : Code := codeAt c [1, 0, 1, 0, 0]
noncomputable def l0s (x2 : List Int) (rec : Int → O) (k : O) (R : Bool → O) (x3 : Int) : O :=
 bif decide (x3 < (x2.length : Int)) then (bif decide (0 ≤ x3) && decide (x3 < (x2.length : Int)) then (spec_NumOk.g (x2.getD x3.toNat 0) fun r4 =>
  bif !r4 then R false
  else rec (IntKind.i64.wrap (x3 + 1)))
  else none)
 else k
noncomputable def l0 (x2 : List Int) (k : O) (R : Bool → O) : Nat → Int → O
 | 0, _ => none
 | n + 1, x3 => l0s x2 (l0 x2 k R n) k R x3
noncomputable def o0 : Fn [.z] St := fun x2 => ⟨mkT 19 [(0, one (.tr 0 1 [.int .i64] (.ints x2)))], [], []⟩
noncomputable def n0 (K : Res → O) := ent 0 [.z] [.i] [0, 1] (fun x2 x3 => ⟨mkT 19 [(0, one (.tr 0 1 [.int .i64] (.ints x2))), (3, oI x3)], [], []⟩) fun x2 k => l0 x2 (k (o0 x2)) (fun r1 => K (m [] r1))
noncomputable def X (K : Res → O) : Ctx := { cx0 [spec_NumOk.con, spec_l1In.con] fi true K with cin := [(0, ⟨[0, 3], [], [], [], [], []⟩)], cout := [(0, ⟨[0], [], [], [], [], []⟩)], lp := lpOf [n0 K] }
noncomputable def b (a1 : List Int) (R : Bool → O) : O :=
 l0 a1 (
 spec_l1In.g (a1.length : Int) 1 300 fun r5 =>
 R r5) R fuel 0
noncomputable def g := seal_ b
theorem e : g = b := seal_eq b
noncomputable def a : Fn [.z] St := fun a1 => argSt [one (.tr 0 1 [.int .i64] (.ints a1))] [] []
noncomputable def con := conOf 37 [.z] [.b] a g m
theorem hx (K : Res → O) : CtxOk Pg Γ0 byt0 eqs0 (X K) [spec_NumOk.con, spec_l1In.con] := ctx_of (X := X) (.cons spec_NumOk.ok (.cons spec_l1In.ok .nil)) (by kernel_rfl) K
theorem w0 (K : Res → O) : LpSound Pg (X K) 0 b0 := lp_fin (L := [n0 K]) laid (hx K) .nil (.cons (ent_ok (fun x2 k r => l0s x2 r (k (o0 x2)) (fun r1 => K (m [] r1))) (by kernel_rfl) (by kernel_rfl) (by kernel_rfl) (by kernel_rfl) (by kernel_rfl)) .nil) (by kernel_rfl) (by kernel_rfl)
theorem ok : Con Pg con := con_fin (fn := Tryd.f37) (c := c) (Fi := fi) (X := X) laid hx (fun K => (.cons (w0 K) .nil)) e (by kernel_rfl) (by kernel_rfl) (by kernel_rfl) (by kernel_rfl)
end spec_l9Nums
namespace spec_l1Sign2
noncomputable def c : Code := bodyOf Tryd.f61
noncomputable def fi : Fin := ⟨Γ0, [(.tmp 2, 4)], [[1]], [], [], []⟩
noncomputable def m : Fn [.i] (Fn [.b] Res) := fun _ r1 => ⟨[⟨false, [.bool r1]⟩], [], [], [], []⟩
noncomputable def X (K : Res → O) : Ctx := cx0 [] fi true K
noncomputable def b (a1 : Int) (R : Bool → O) : O :=
 bif (a1 == 43) then R true
 else bif (a1 == 45) then R true
 else bif (a1 == 42) then R true
 else bif (a1 == 37) then R true
 else bif (a1 == 124) then R true
 else bif (a1 == 38) then R true
 else bif (a1 == 94) then R true
 else bif (a1 == 61) then R true
 else bif (a1 == 60) then R true
 else R (a1 == 62)
noncomputable def g := seal_ b
theorem e : g = b := seal_eq b
noncomputable def a : Fn [.i] St := fun a1 => argSt [oI a1] [] []
noncomputable def con := conOf 61 [.i] [.b] a g m
theorem ok : Con Pg con := con_fin (fn := Tryd.f61) (c := c) (Fi := fi) (X := X) laid (ctx_of .nil (by kernel_rfl)) (fun K => .nil) e (by kernel_rfl) (by kernel_rfl) (by kernel_rfl) (by kernel_rfl)
end spec_l1Sign2
namespace spec_l1Sign1
noncomputable def c : Code := bodyOf Tryd.f62
noncomputable def fi : Fin := ⟨Γ0, [(.tmp 2, 4)], [[1]], [], [], []⟩
noncomputable def m : Fn [.i] (Fn [.b] Res) := fun _ r1 => ⟨[⟨false, [.bool r1]⟩], [], [], [], []⟩
noncomputable def X (K : Res → O) : Ctx := cx0 [] fi true K
noncomputable def b (a1 : Int) (R : Bool → O) : O :=
 bif (a1 == 43) then R true
 else bif (a1 == 45) then R true
 else bif (a1 == 42) then R true
 else bif (a1 == 124) then R true
 else R (a1 == 126)
noncomputable def g := seal_ b
theorem e : g = b := seal_eq b
noncomputable def a : Fn [.i] St := fun a1 => argSt [oI a1] [] []
noncomputable def con := conOf 62 [.i] [.b] a g m
theorem ok : Con Pg con := con_fin (fn := Tryd.f62) (c := c) (Fi := fi) (X := X) laid (ctx_of .nil (by kernel_rfl)) (fun K => .nil) e (by kernel_rfl) (by kernel_rfl) (by kernel_rfl) (by kernel_rfl)
end spec_l1Sign1
namespace spec_FunOne
noncomputable def c : Code := bodyOf Tryd.f38
noncomputable def fi : Fin := ⟨Γ0, [(.tmp 2, 4)], [[1]], [], [], []⟩
noncomputable def m : Fn [.i, .i, .i] (Fn [.b] Res) := fun _ _ _ r1 => ⟨[⟨false, [.bool r1]⟩], [], [], [], []⟩
noncomputable def X (K : Res → O) : Ctx := cx0 [spec_l1Sign2.con, spec_l1Sign1.con] fi true K
noncomputable def b (a1 a2 a3 : Int) (R : Bool → O) : O :=
 bif (a3 != 0) then R false
 else bif (a2 == 47) then (spec_l1Sign2.g a1 fun r4 =>
  R r4)
 else bif (a2 == 92) then (spec_l1Sign2.g a1 fun r5 =>
  R r5)
 else bif (a2 != 0) then R false
 else (spec_l1Sign1.g a1 fun r6 =>
 bif r6 then R true
 else bif (a1 == 105) then R true
 else bif (a1 == 35) then R true
 else bif (a1 == 44) then R true
 else bif (a1 == 114) then R true
 else bif (a1 == 122) then R true
 else R (a1 == 103))
noncomputable def g := seal_ b
theorem e : g = b := seal_eq b
noncomputable def a : Fn [.i, .i, .i] St := fun a1 a2 a3 => argSt [.v ⟨true, [cI a1, cI a2, cI a3]⟩] [] []
noncomputable def con := conOf 38 [.i, .i, .i] [.b] a g m
theorem ok : Con Pg con := con_fin (fn := Tryd.f38) (c := c) (Fi := fi) (X := X) laid (ctx_of (.cons spec_l1Sign2.ok (.cons spec_l1Sign1.ok .nil)) (by kernel_rfl)) (fun K => .nil) e (by kernel_rfl) (by kernel_rfl) (by kernel_rfl) (by kernel_rfl)
end spec_FunOne
namespace spec_FunTwo
noncomputable def c : Code := bodyOf Tryd.f39
noncomputable def fi : Fin := ⟨Γ0, [(.tmp 2, 4)], [[1]], [], [], []⟩
noncomputable def m : Fn [.i, .i, .i] (Fn [.b] Res) := fun _ _ _ r1 => ⟨[⟨false, [.bool r1]⟩], [], [], [], []⟩
noncomputable def X (K : Res → O) : Ctx := cx0 [spec_l1Sign2.con] fi true K
noncomputable def b (a1 a2 a3 : Int) (R : Bool → O) : O :=
 bif (a2 == 46) then (spec_l1Sign2.g a1 fun r4 =>
  bif r4 then (spec_l1Sign2.g a3 fun r5 =>
   R r5)
  else R false)
 else bif (a3 != 0) then R false
 else bif (a2 == 111) then (spec_l1Sign2.g a1 fun r6 =>
  R r6)
 else bif (a2 != 0) then R false
 else (spec_l1Sign2.g a1 fun r7 =>
 bif r7 then R true
 else bif (a1 == 35) then R true
 else bif (a1 == 44) then R true
 else bif (a1 == 116) then R true
 else bif (a1 == 100) then R true
 else bif (a1 == 114) then R true
 else bif (a1 == 64) then R true
 else bif (a1 == 63) then R true
 else bif (a1 == 36) then R true
 else R (a1 == 101))
noncomputable def g := seal_ b
theorem e : g = b := seal_eq b
noncomputable def a : Fn [.i, .i, .i] St := fun a1 a2 a3 => argSt [.v ⟨true, [cI a1, cI a2, cI a3]⟩] [] []
noncomputable def con := conOf 39 [.i, .i, .i] [.b] a g m
theorem ok : Con Pg con := con_fin (fn := Tryd.f39) (c := c) (Fi := fi) (X := X) laid (ctx_of (.cons spec_l1Sign2.ok .nil) (by kernel_rfl)) (fun K => .nil) e (by kernel_rfl) (by kernel_rfl) (by kernel_rfl) (by kernel_rfl)
end spec_FunTwo
namespace spec_l9Node
noncomputable def c : Code := bodyOf Tryd.f20
noncomputable def fi : Fin := ⟨Γ0, [(.tmp 6, 3), (.tmp 7, 4)], [[1], [1]], [], [], []⟩
noncomputable def m : Fn [.i, .i, .i, .i, .i, .i, .z, .i, .z] (Fn [.i, .b] Res) := fun _ _ _ _ _ _ _ _ _ r1 r2 => ⟨[⟨false, [cI r1]⟩, ⟨false, [.bool r2]⟩], [], [], [], []⟩
noncomputable def X (K : Res → O) : Ctx := cx0 [spec_l9Nums.con, spec_l1In.con, spec_FunOne.con, spec_FunTwo.con] fi true K
noncomputable def b (a1 a2 a3 a4 a5 a6 : Int) (a7 : List Int) (a8 : Int) (a9 : List Int) (R : Int → Bool → O) : O :=
 bif (a1 == 1) then (bif (a2 == 0) then (bif (a3 == 0) then (bif ((a4 == 0) && ((a5 == 0) && ((a6 == 0) && true))) then (spec_l9Nums.g a7 fun r10 =>
  R 1 r10)
  else R 1 false)
  else R 1 false)
  else R 1 false)
 else bif (a1 == 2) then (spec_l1In.g a2 0 25 fun r11 =>
  bif r11 then (bif (a3 == 0) then (bif ((a4 == 0) && ((a5 == 0) && ((a6 == 0) && true))) then R 1 ((a7.length : Int) == 0)
   else R 1 false)
   else R 1 false)
  else R 1 false)
 else bif (a1 == 3) then (bif decide (a8 < 1) then R 0 false
  else bif (a3 != IntKind.i64.wrap (a8 - 1)) then R 0 false
  else bif decide (0 ≤ IntKind.i64.wrap (a8 - 1)) && decide (IntKind.i64.wrap (a8 - 1) < (a9.length : Int)) then (spec_l1In.g a2 0 25 fun r12 =>
   bif r12 then (bif ((a4 == 0) && ((a5 == 0) && ((a6 == 0) && true))) then R (IntKind.i64.wrap ((a9.getD ((IntKind.i64.wrap (a8 - 1)).toNat) 0) + 1)) ((a7.length : Int) == 0)
    else R (IntKind.i64.wrap ((a9.getD ((IntKind.i64.wrap (a8 - 1)).toNat) 0) + 1)) false)
   else R (IntKind.i64.wrap ((a9.getD ((IntKind.i64.wrap (a8 - 1)).toNat) 0) + 1)) false)
  else none)
 else bif (a1 == 4) then (bif decide (a8 < 1) then R 0 false
  else bif (a3 != IntKind.i64.wrap (a8 - 1)) then R 0 false
  else bif decide (0 ≤ IntKind.i64.wrap (a8 - 1)) && decide (IntKind.i64.wrap (a8 - 1) < (a9.length : Int)) then (bif (a2 == 0) then (spec_FunOne.g a4 a5 a6 fun r13 =>
   bif r13 then R (IntKind.i64.wrap ((a9.getD ((IntKind.i64.wrap (a8 - 1)).toNat) 0) + 1)) ((a7.length : Int) == 0)
   else R (IntKind.i64.wrap ((a9.getD ((IntKind.i64.wrap (a8 - 1)).toNat) 0) + 1)) false)
   else R (IntKind.i64.wrap ((a9.getD ((IntKind.i64.wrap (a8 - 1)).toNat) 0) + 1)) false)
  else none)
 else bif (a1 == 5) then (bif decide (a8 < 2) then R 0 false
  else bif (a2 != IntKind.i64.wrap (a8 - 1)) then R 0 false
  else bif decide (0 ≤ IntKind.i64.wrap (a8 - 1)) && decide (IntKind.i64.wrap (a8 - 1) < (a9.length : Int)) then (bif (a3 != IntKind.i64.wrap ((IntKind.i64.wrap (a8 - 1)) - (a9.getD ((IntKind.i64.wrap (a8 - 1)).toNat) 0))) then R 0 false
   else bif decide (a3 < 0) then R 0 false
   else bif decide (0 ≤ a2) && decide (a2 < (a9.length : Int)) then (bif decide (0 ≤ a3) && decide (a3 < (a9.length : Int)) then (spec_FunTwo.g a4 a5 a6 fun r14 =>
    bif r14 then R (IntKind.i64.wrap ((IntKind.i64.wrap ((a9.getD a2.toNat 0) + (a9.getD a3.toNat 0))) + 1)) ((a7.length : Int) == 0)
    else R (IntKind.i64.wrap ((IntKind.i64.wrap ((a9.getD a2.toNat 0) + (a9.getD a3.toNat 0))) + 1)) false)
    else none)
   else none)
  else none)
 else R 0 false
noncomputable def g := seal_ b
theorem e : g = b := seal_eq b
noncomputable def a : Fn [.i, .i, .i, .i, .i, .i, .z, .i, .z] St := fun a1 a2 a3 a4 a5 a6 a7 a8 a9 => argSt [.v ⟨true, [cI a1, cI a2, cI a3, cI a4, cI a5, cI a6, .tr 0 1 [.int .i64] (.ints a7)]⟩, oI a8, one (.tr 0 1 [.int .i64] (.ints a9))] [] []
noncomputable def con := conOf 20 [.i, .i, .i, .i, .i, .i, .z, .i, .z] [.i, .b] a g m
theorem ok : Con Pg con := con_fin (fn := Tryd.f20) (c := c) (Fi := fi) (X := X) laid (ctx_of (.cons spec_l9Nums.ok (.cons spec_l1In.ok (.cons spec_FunOne.ok (.cons spec_FunTwo.ok .nil)))) (by kernel_rfl)) (fun K => .nil) e (by kernel_rfl) (by kernel_rfl) (by kernel_rfl) (by kernel_rfl)
end spec_l9Node
namespace spec_TreeOk
noncomputable def c : Code := bodyOf Tryd.f10
noncomputable def fi : Fin := ⟨Γ0, [(.tmp 2, 4)], [[1]], [], [], []⟩
noncomputable def m : Fn [.l] (Fn [.b] Res) := fun _ r1 => ⟨[⟨false, [.bool r1]⟩], [], [], [], []⟩
noncomputable def b0 : Code := codeAt c [1, 1, 1, 1, 0, 1, 0, 0]
noncomputable def l0s (x3 : Int) (x6 : List (List Cl)) (rec : Int → List Int → O) (k : List Int → O) (R : Bool → O) (x4 : Int) (x5 : List Int) : O :=
 bif decide (x4 < x3) then (bif decide (0 ≤ x4) && decide (x4 < (x6.length : Int)) then (spec_l9Node.g (((x6.getD x4.toNat []).getD 0 (.i 0)).toI) (((x6.getD x4.toNat []).getD 1 (.i 0)).toI) (((x6.getD x4.toNat []).getD 2 (.i 0)).toI) (((x6.getD x4.toNat []).getD 3 (.i 0)).toI) (((x6.getD x4.toNat []).getD 4 (.i 0)).toI) (((x6.getD x4.toNat []).getD 5 (.i 0)).toI) (((x6.getD x4.toNat []).getD 6 (.i 0)).toL) x4 x5 fun r7 r8 =>
  bif !r8 then R false
  else bif decide ((x5.length + 1) * 8 ≤ 140737488355328) then rec (IntKind.i64.wrap (x4 + 1)) (x5 ++ ([r7] : List Int))
  else none)
  else none)
 else k x5
noncomputable def l0 (x3 : Int) (x6 : List (List Cl)) (k : List Int → O) (R : Bool → O) : Nat → Int → List Int → O
 | 0, _, _ => none
 | n + 1, x4, x5 => l0s x3 x6 (l0 x3 x6 k R n) k R x4 x5
noncomputable def o0 : Fn [.i, .l, .z] St := fun x3 _ y2 => ⟨mkT 44 [(3, oI x3), (4, one (.ow 9192))], [(9192, ⟨[.int .i64], .ints y2, true, 0, none⟩)], []⟩
noncomputable def n0 (K : Res → O) := ent 0 [.i, .l] [.i, .z] [0, 3, 1, 2] (fun x3 x6 x4 x5 => ⟨mkT 44 [(1, one (.bp 1000 0)), (3, oI x3), (4, one (.ow 9192)), (5, oI x4)], [(9192, ⟨[.int .i64], .ints x5, true, 0, none⟩)], [(1000, [.tr 0 1 e_0 (.cells x6)])]⟩) fun x3 x6 k => l0 x3 x6 (fun y2 => k (o0 x3 x6 y2)) (fun r1 => K (m [] r1))
noncomputable def X (K : Res → O) : Ctx := { cx0 [spec_l1In.con, spec_l9Node.con] fi true K with cin := [(0, ⟨[1, 3, 4, 5], [(9192, 9192), (23576, 9192)], [1000], [], [], []⟩)], cout := [(0, ⟨[3, 4], [(9192, 9192)], [], [], [], []⟩)], lp := lpOf [n0 K] }
noncomputable def b (a1 : List (List Cl)) (R : Bool → O) : O :=
 spec_l1In.g (a1.length : Int) 1 60 fun r2 =>
 bif !r2 then R false
 else (l0 (a1.length : Int) a1 (fun y9 =>
 bif decide (0 ≤ IntKind.i64.wrap ((a1.length : Int) - 1)) && decide (IntKind.i64.wrap ((a1.length : Int) - 1) < (y9.length : Int)) then R (y9.getD ((IntKind.i64.wrap ((a1.length : Int) - 1)).toNat) 0 == (a1.length : Int))
 else none) R fuel 0 ([] : List Int))
noncomputable def g := seal_ b
theorem e : g = b := seal_eq b
noncomputable def a : Fn [.l] St := fun a1 => argSt [.v ⟨true, [.tr 0 1 e_0 (.cells a1)]⟩] [] []
noncomputable def con := conOf 10 [.l] [.b] a g m
theorem hx (K : Res → O) : CtxOk Pg Γ0 byt0 eqs0 (X K) [spec_l1In.con, spec_l9Node.con] := ctx_of (X := X) (.cons spec_l1In.ok (.cons spec_l9Node.ok .nil)) (by kernel_rfl) K
theorem w0 (K : Res → O) : LpSound Pg (X K) 0 b0 := lp_fin (L := [n0 K]) laid (hx K) .nil (.cons (ent_ok (fun x3 x6 k r => l0s x3 x6 r (fun y2 => k (o0 x3 x6 y2)) (fun r1 => K (m [] r1))) (by kernel_rfl) (by kernel_rfl) (by kernel_rfl) (by kernel_rfl) (by kernel_rfl)) .nil) (by kernel_rfl) (by kernel_rfl)
theorem ok : Con Pg con := con_fin (fn := Tryd.f10) (c := c) (Fi := fi) (X := X) laid hx (fun K => (.cons (w0 K) .nil)) e (by kernel_rfl) (by kernel_rfl) (by kernel_rfl) (by kernel_rfl)
end spec_TreeOk
namespace spec_l9SignToken
noncomputable def c : Code := bodyOf Tryd.f42
noncomputable def fi : Fin := ⟨Γ0, [(.cell 2 55, 55)], [[1, 1]], [], [], []⟩
noncomputable def m : Fn [.i] (Fn [.i] Res) := fun a1 r1 => ⟨[⟨true, [cI r1, cI a1]⟩], [], [], [], []⟩
noncomputable def X (K : Res → O) : Ctx := cx0 [] fi true K
noncomputable def b (a1 : Int) (R : Int → O) : O :=
 R 3
noncomputable def g := seal_ b
theorem e : g = b := seal_eq b
noncomputable def a : Fn [.i] St := fun a1 => argSt [oI a1] [] []
noncomputable def con := conOf 42 [.i] [.i] a g m
theorem ok : Con Pg con := con_fin (fn := Tryd.f42) (c := c) (Fi := fi) (X := X) laid (ctx_of .nil (by kernel_rfl)) (fun K => .nil) e (by kernel_rfl) (by kernel_rfl) (by kernel_rfl) (by kernel_rfl)
end spec_l9SignToken
namespace spec_l9FunTokens
noncomputable def c : Code := bodyOf Tryd.f23
noncomputable def fi : Fin := ⟨Γ0, [(.tmp 2, 36)], [[1]], [], [], []⟩
noncomputable def m : Fn [.i, .i, .i] (Fn [.l] Res) := fun _ _ _ r1 => ⟨[⟨false, [.ow 1000]⟩], [], [⟨e_1, .cells r1, true, 0, none⟩], [], []⟩
noncomputable def X (K : Res → O) : Ctx := cx0 [spec_l9SignToken.con] fi true K
noncomputable def b (a1 a2 a3 : Int) (R : List (List Cl) → O) : O :=
 bif (a2 == 111) then (spec_l9SignToken.g 111 fun r4 =>
  spec_l9SignToken.g a1 fun r5 =>
  R ([[.i r4, .i 111], [.i r5, .i a1]] : List (List Cl)))
 else bif (a2 == 47) then (spec_l9SignToken.g a1 fun r6 =>
  spec_l9SignToken.g a2 fun r7 =>
  R ([[.i r6, .i a1], [.i r7, .i a2]] : List (List Cl)))
 else bif (a2 == 92) then (spec_l9SignToken.g a1 fun r8 =>
  spec_l9SignToken.g a2 fun r9 =>
  R ([[.i r8, .i a1], [.i r9, .i a2]] : List (List Cl)))
 else bif (a2 == 46) then (spec_l9SignToken.g a1 fun r10 =>
  spec_l9SignToken.g 46 fun r11 =>
  spec_l9SignToken.g a3 fun r12 =>
  R ([[.i r10, .i a1], [.i r11, .i 46], [.i r12, .i a3]] : List (List Cl)))
 else (spec_l9SignToken.g a1 fun r13 =>
 R ([[.i r13, .i a1]] : List (List Cl)))
noncomputable def g := seal_ b
theorem e : g = b := seal_eq b
noncomputable def a : Fn [.i, .i, .i] St := fun a1 a2 a3 => argSt [.v ⟨true, [cI a1, cI a2, cI a3]⟩] [] []
noncomputable def con := conOf 23 [.i, .i, .i] [.l] a g m
theorem ok : Con Pg con := con_fin (fn := Tryd.f23) (c := c) (Fi := fi) (X := X) laid (ctx_of (.cons spec_l9SignToken.ok .nil) (by kernel_rfl)) (fun K => .nil) e (by kernel_rfl) (by kernel_rfl) (by kernel_rfl) (by kernel_rfl)
end spec_l9FunTokens
-- GROUP spec_l9Tokens
namespace spec_l9Tokens
noncomputable def c : Code := bodyOf Tryd.f12
noncomputable def fi : Fin := ⟨Γ0, [(.tmp 4, 36)], [[1]], [], [], []⟩
noncomputable def m : Fn [.l, .i] (Fn [.l] Res) := fun _ _ r1 => ⟨[⟨false, [.ow 1000]⟩], [], [⟨e_1, .cells r1, true, 0, none⟩], [], []⟩
noncomputable def b1 : Code := codeAt c [1, 1, 1, 0, 1, 0, 1, 0, 1, 0, 0]
noncomputable abbrev T : Type := List (List Cl) → Int → (List (List Cl) → O) → O
noncomputable def a : Fn [.l, .i] St := fun a1 a2 => argSt [.v ⟨true, [.tr 0 1 e_0 (.cells a1)]⟩, oI a2] [] []
noncomputable def conz (h : T) := conOf 12 [.l, .i] [.l] a h m
end spec_l9Tokens
noncomputable abbrev Z_spec_l9Tokens : Type := spec_l9Tokens.T
noncomputable def Gd_spec_l9Tokens (z : Z_spec_l9Tokens) : Prop := Con Pg (spec_l9Tokens.conz z)
namespace spec_l9Tokens
noncomputable def l1s (x5 x6 x7 x8 x9 x10 : Int) (x11 : List Int) (rec : Int → List (List Cl) → O) (k : List (List Cl) → O) (x3 : Int) (x4 : List (List Cl)) : O :=
 bif decide (x3 < (x11.length : Int)) then (bif decide (0 ≤ x3) && decide (x3 < (x11.length : Int)) then (bif decide ((x4.length + 1) * 16 ≤ 140737488355328) then rec (IntKind.i64.wrap (x3 + 1)) (x4 ++ ([[.i 1, .i (x11.getD x3.toNat 0)]] : List (List Cl)))
  else none)
  else none)
 else k x4
noncomputable def l1 (x5 x6 x7 x8 x9 x10 : Int) (x11 : List Int) (k : List (List Cl) → O) : Nat → Int → List (List Cl) → O
 | 0, _, _ => none
 | n + 1, x3, x4 => l1s x5 x6 x7 x8 x9 x10 x11 (l1 x5 x6 x7 x8 x9 x10 x11 k n) k x3 x4
noncomputable def o1 : Fn [.i, .i, .i, .i, .i, .i, .z, .l] St := fun _ _ _ _ _ _ _ y1 => ⟨mkT 109 [(6, one (.ow 5096))], [(5096, ⟨e_1, .cells y1, true, 0, none⟩)], []⟩
noncomputable def n1 (K : Res → O) := ent 1 [.i, .i, .i, .i, .i, .i, .z] [.i, .l] [2, 3, 4, 5, 6, 7, 8, 0, 1] (fun x5 x6 x7 x8 x9 x10 x11 x3 x4 => ⟨mkT 109 [(5, one (.bp 3128 0)), (6, one (.ow 5096)), (7, oI x3)], [(5096, ⟨e_1, .cells x4, true, 0, none⟩)], [(3128, [cI x5, cI x6, cI x7, cI x8, cI x9, cI x10, .tr 1 2 [.int .i64] (.ints x11)])]⟩) fun x5 x6 x7 x8 x9 x10 x11 k => l1 x5 x6 x7 x8 x9 x10 x11 (fun y1 => k (o1 x5 x6 x7 x8 x9 x10 x11 y1))
noncomputable def X (z : Z_spec_l9Tokens) (K : Res → O) : Ctx := { cx0 [spec_l9Tokens.conz z, spec_l9FunTokens.con] fi true K with cin := [(1, ⟨[5, 6, 7], [(5096, 5096), (17512, 5096)], [3128], [], [], []⟩)], cout := [(1, ⟨[6], [(5096, 5096)], [], [], [], []⟩)], lp := lpOf [n1 K] }
noncomputable def g (z : Z_spec_l9Tokens) (a1 : List (List Cl)) (a2 : Int) (R : List (List Cl) → O) : O :=
 bif decide (0 ≤ a2) && decide (a2 < (a1.length : Int)) then (bif (((a1.getD a2.toNat []).getD 0 (.i 0)).toI == 1) then (l1 (((a1.getD a2.toNat []).getD 0 (.i 0)).toI) (((a1.getD a2.toNat []).getD 1 (.i 0)).toI) (((a1.getD a2.toNat []).getD 2 (.i 0)).toI) (((a1.getD a2.toNat []).getD 3 (.i 0)).toI) (((a1.getD a2.toNat []).getD 4 (.i 0)).toI) (((a1.getD a2.toNat []).getD 5 (.i 0)).toI) (((a1.getD a2.toNat []).getD 6 (.i 0)).toL) (fun y12 =>
  R y12) fuel 0 ([] : List (List Cl)))
  else bif (((a1.getD a2.toNat []).getD 0 (.i 0)).toI == 2) then R (([] : List (List Cl)) ++ ([[.i 2, .i (((a1.getD a2.toNat []).getD 1 (.i 0)).toI)]] : List (List Cl)))
  else bif (((a1.getD a2.toNat []).getD 0 (.i 0)).toI == 3) then (z a1 (((a1.getD a2.toNat []).getD 2 (.i 0)).toI) fun r13 =>
   bif decide ((2 + r13.length) * 16 ≤ 140737488355328) then R ((([] : List (List Cl)) ++ ([[.i 2, .i (((a1.getD a2.toNat []).getD 1 (.i 0)).toI)], [.i 6, .i 0]] : List (List Cl))) ++ r13)
   else none)
  else bif (((a1.getD a2.toNat []).getD 0 (.i 0)).toI == 4) then (spec_l9FunTokens.g (((a1.getD a2.toNat []).getD 3 (.i 0)).toI) (((a1.getD a2.toNat []).getD 4 (.i 0)).toI) (((a1.getD a2.toNat []).getD 5 (.i 0)).toI) fun r14 =>
   z a1 (((a1.getD a2.toNat []).getD 2 (.i 0)).toI) fun r15 =>
   bif decide ((r14.length + r15.length) * 16 ≤ 140737488355328) then R (r14 ++ r15)
   else none)
  else bif (((a1.getD a2.toNat []).getD 0 (.i 0)).toI == 5) then (z a1 (((a1.getD a2.toNat []).getD 1 (.i 0)).toI) fun r16 =>
   bif decide (0 ≤ ((a1.getD a2.toNat []).getD 1 (.i 0)).toI) && decide (((a1.getD a2.toNat []).getD 1 (.i 0)).toI < (a1.length : Int)) then (bif (((a1.getD ((((a1.getD a2.toNat []).getD 1 (.i 0)).toI).toNat) []).getD 0 (.i 0)).toI != 1) then (bif decide (0 ≤ ((a1.getD a2.toNat []).getD 1 (.i 0)).toI) && decide (((a1.getD a2.toNat []).getD 1 (.i 0)).toI < (a1.length : Int)) then (bif (((a1.getD ((((a1.getD a2.toNat []).getD 1 (.i 0)).toI).toNat) []).getD 0 (.i 0)).toI != 2) then (bif decide ((1 + r16.length) * 16 ≤ 140737488355328) then (bif decide (((([[.i 4, .i 0]] : List (List Cl)) ++ r16).length + 1) * 16 ≤ 140737488355328) then (spec_l9FunTokens.g (((a1.getD a2.toNat []).getD 3 (.i 0)).toI) (((a1.getD a2.toNat []).getD 4 (.i 0)).toI) (((a1.getD a2.toNat []).getD 5 (.i 0)).toI) fun r17 =>
    bif decide ((((([[.i 4, .i 0]] : List (List Cl)) ++ r16) ++ ([[.i 5, .i 0]] : List (List Cl))).length + r17.length) * 16 ≤ 140737488355328) then (z a1 (((a1.getD a2.toNat []).getD 2 (.i 0)).toI) fun r18 =>
     bif decide (((((([[.i 4, .i 0]] : List (List Cl)) ++ r16) ++ ([[.i 5, .i 0]] : List (List Cl))) ++ r17).length + r18.length) * 16 ≤ 140737488355328) then R ((((([[.i 4, .i 0]] : List (List Cl)) ++ r16) ++ ([[.i 5, .i 0]] : List (List Cl))) ++ r17) ++ r18)
     else none)
    else none)
    else none)
    else none)
    else (spec_l9FunTokens.g (((a1.getD a2.toNat []).getD 3 (.i 0)).toI) (((a1.getD a2.toNat []).getD 4 (.i 0)).toI) (((a1.getD a2.toNat []).getD 5 (.i 0)).toI) fun r19 =>
    bif decide ((r16.length + r19.length) * 16 ≤ 140737488355328) then (z a1 (((a1.getD a2.toNat []).getD 2 (.i 0)).toI) fun r20 =>
     bif decide (((r16 ++ r19).length + r20.length) * 16 ≤ 140737488355328) then R ((r16 ++ r19) ++ r20)
     else none)
    else none))
    else none)
    else (spec_l9FunTokens.g (((a1.getD a2.toNat []).getD 3 (.i 0)).toI) (((a1.getD a2.toNat []).getD 4 (.i 0)).toI) (((a1.getD a2.toNat []).getD 5 (.i 0)).toI) fun r21 =>
    bif decide ((r16.length + r21.length) * 16 ≤ 140737488355328) then (z a1 (((a1.getD a2.toNat []).getD 2 (.i 0)).toI) fun r22 =>
     bif decide (((r16 ++ r21).length + r22.length) * 16 ≤ 140737488355328) then R ((r16 ++ r21) ++ r22)
     else none)
    else none))
   else none)
  else R ([] : List (List Cl)))
 else none
theorem hx (z : Z_spec_l9Tokens) (hz : Gd_spec_l9Tokens z) (K : Res → O) : CtxOk Pg Γ0 byt0 eqs0 ((X z) K) [spec_l9Tokens.conz z, spec_l9FunTokens.con] := ctx_of (X := (X z)) (.cons hz (.cons spec_l9FunTokens.ok .nil)) (by kernel_rfl) K
theorem w1 (z : Z_spec_l9Tokens) (hz : Gd_spec_l9Tokens z) (K : Res → O) : LpSound Pg ((X z) K) 1 b1 := lp_fin (L := [n1 K]) laid ((hx z hz) K) .nil (.cons (ent_ok (fun x5 x6 x7 x8 x9 x10 x11 k r => l1s x5 x6 x7 x8 x9 x10 x11 r (fun y1 => k (o1 x5 x6 x7 x8 x9 x10 x11 y1))) (by kernel_rfl) (by kernel_rfl) (by kernel_rfl) (by kernel_rfl) (by kernel_rfl)) .nil) (by kernel_rfl) (by kernel_rfl)
theorem ok (z : Z_spec_l9Tokens) (hz : Gd_spec_l9Tokens z) : Con Pg (conz (g z)) := con_fin (fn := Tryd.f12) (c := c) (Fi := fi) (X := (X z)) laid (hx z hz) (fun K => (.cons ((w1 z hz) K) .nil)) rfl (by kernel_rfl) (by kernel_rfl) (by kernel_rfl) (by kernel_rfl)
end spec_l9Tokens
noncomputable def rec_spec_l9Tokens : Nat → Z_spec_l9Tokens
 | 0 => (fun _ _ _ => none)
 | n + 1 => spec_l9Tokens.g (rec_spec_l9Tokens n)
theorem good_spec_l9Tokens : ∀ n, Gd_spec_l9Tokens (rec_spec_l9Tokens n)
 | 0 => con_cst rfl
 | n + 1 => spec_l9Tokens.ok _ (good_spec_l9Tokens n)
namespace spec_l9Tokens
noncomputable def gn (n : Nat) (a1 : List (List Cl)) (a2 : Int) (R : List (List Cl) → O) : O := (rec_spec_l9Tokens n) a1 a2 R
noncomputable def G : T := seal_ (gn fuel)
theorem Ge : G = gn fuel := seal_eq _
theorem gn_succ (n : Nat) (a1 : List (List Cl)) (a2 : Int) (R : List (List Cl) → O) : gn (n + 1) a1 a2 R = g (rec_spec_l9Tokens n) a1 a2 R := rfl
noncomputable def con := conz G
theorem okG : Con Pg con := by
 unfold con; rw [Ge]; exact (good_spec_l9Tokens fuel)
end spec_l9Tokens
-- END GROUP
namespace spec_l8Sign
noncomputable def c : Code := bodyOf Tryd.f63
noncomputable def fi : Fin := ⟨Γ0, [(.tmp 2, 4)], [[1]], [], [], []⟩
noncomputable def m : Fn [.i] (Fn [.b] Res) := fun _ r1 => ⟨[⟨false, [.bool r1]⟩], [], [], [], []⟩
noncomputable def b0 : Code := codeAt c [1, 1, 0, 1, 0, 0]
noncomputable def l0s (x2 : Int) (x3 : ByteArray) (rec : Int → O) (k : O) (R : Bool → O) (x4 : Int) : O :=
 bif decide (x4 < (x3.size : Int)) then (bif decide (0 ≤ x4) && decide (x4 < (x3.size : Int)) then (bif (IntKind.i64.wrap ((bytesOf x3).getD x4.toNat 0) == x2) then R true
  else rec (IntKind.i64.wrap (x4 + 1)))
  else none)
 else k
noncomputable def l0 (x2 : Int) (x3 : ByteArray) (k : O) (R : Bool → O) : Nat → Int → O
 | 0, _ => none
 | n + 1, x4 => l0s x2 x3 (l0 x2 x3 k R n) k R x4
noncomputable def o0 : Fn [.i, .s] St := fun _ _ => ⟨mkT 17 [], [], []⟩
noncomputable def n0 (K : Res → O) := ent 0 [.i, .s] [.i] [0, 1, 2] (fun x2 x3 x4 => ⟨mkT 17 [(0, oI x2), (3, one (.str x3)), (4, oI x4)], [], []⟩) fun x2 x3 k => l0 x2 x3 (k (o0 x2 x3)) (fun r1 => K (m (0 : Int) r1))
noncomputable def X (K : Res → O) : Ctx := { cx0 [] fi true K with cin := [(0, ⟨[0, 3, 4], [], [], [], [], []⟩)], cout := [(0, ⟨[], [], [], [], [], []⟩)], lp := lpOf [n0 K] }
noncomputable def b (a1 : Int) (R : Bool → O) : O :=
 l0 a1 (⟨#[43, 45, 42, 37, 124, 38, 94, 61, 60, 62, 126, 105, 35, 44, 116, 100, 114, 122, 64, 63, 103, 36, 101, 47, 92, 46, 111]⟩ : ByteArray) (
 R false) R fuel 0
noncomputable def g := seal_ b
theorem e : g = b := seal_eq b
noncomputable def a : Fn [.i] St := fun a1 => argSt [oI a1] [] []
noncomputable def con := conOf 63 [.i] [.b] a g m
theorem hx (K : Res → O) : CtxOk Pg Γ0 byt0 eqs0 (X K) [] := ctx_of (X := X) .nil (by kernel_rfl) K
theorem w0 (K : Res → O) : LpSound Pg (X K) 0 b0 := lp_fin (L := [n0 K]) laid (hx K) .nil (.cons (ent_ok (fun x2 x3 k r => l0s x2 x3 r (k (o0 x2 x3)) (fun r1 => K (m (0 : Int) r1))) (by kernel_rfl) (by kernel_rfl) (by kernel_rfl) (by kernel_rfl) (by kernel_rfl)) .nil) (by kernel_rfl) (by kernel_rfl)
theorem ok : Con Pg con := con_fin (fn := Tryd.f63) (c := c) (Fi := fi) (X := X) laid hx (fun K => (.cons (w0 K) .nil)) e (by kernel_rfl) (by kernel_rfl) (by kernel_rfl) (by kernel_rfl)
end spec_l8Sign
namespace spec_TokenOk
noncomputable def c : Code := bodyOf Tryd.f40
noncomputable def fi : Fin := ⟨Γ0, [(.tmp 2, 4)], [[1]], [], [], []⟩
noncomputable def m : Fn [.i, .i] (Fn [.b] Res) := fun _ _ r1 => ⟨[⟨false, [.bool r1]⟩], [], [], [], []⟩
noncomputable def X (K : Res → O) : Ctx := cx0 [spec_NumOk.con, spec_l1In.con, spec_l8Sign.con] fi true K
noncomputable def b (a1 a2 : Int) (R : Bool → O) : O :=
 bif (a1 == 1) then (spec_NumOk.g a2 fun r3 =>
  R r3)
 else bif (a1 == 2) then (spec_l1In.g a2 0 25 fun r4 =>
  R r4)
 else bif (a1 == 3) then (spec_l8Sign.g a2 fun r5 =>
  R r5)
 else bif (a1 == 4) then R (a2 == 0)
 else bif (a1 == 5) then R (a2 == 0)
 else bif (a1 == 6) then R (a2 == 0)
 else R false
noncomputable def g := seal_ b
theorem e : g = b := seal_eq b
noncomputable def a : Fn [.i, .i] St := fun a1 a2 => argSt [.v ⟨true, [cI a1, cI a2]⟩] [] []
noncomputable def con := conOf 40 [.i, .i] [.b] a g m
theorem ok : Con Pg con := con_fin (fn := Tryd.f40) (c := c) (Fi := fi) (X := X) laid (ctx_of (.cons spec_NumOk.ok (.cons spec_l1In.ok (.cons spec_l8Sign.ok .nil))) (by kernel_rfl)) (fun K => .nil) e (by kernel_rfl) (by kernel_rfl) (by kernel_rfl) (by kernel_rfl)
end spec_TokenOk
namespace spec_l8Tokens
noncomputable def c : Code := bodyOf Tryd.f21
noncomputable def fi : Fin := ⟨Γ0, [(.tmp 2, 4)], [[1]], [], [], []⟩
noncomputable def m : Fn [.l] (Fn [.b] Res) := fun _ r1 => ⟨[⟨false, [.bool r1]⟩], [], [], [], []⟩
noncomputable def b0 : Code := codeAt c [1, 0, 1, 0, 0]
noncomputable def l0s (x2 : List (List Cl)) (rec : Int → O) (k : O) (R : Bool → O) (x3 : Int) : O :=
 bif decide (x3 < (x2.length : Int)) then (bif decide (0 ≤ x3) && decide (x3 < (x2.length : Int)) then (spec_TokenOk.g (((x2.getD x3.toNat []).getD 0 (.i 0)).toI) (((x2.getD x3.toNat []).getD 1 (.i 0)).toI) fun r4 =>
  bif !r4 then R false
  else rec (IntKind.i64.wrap (x3 + 1)))
  else none)
 else k
noncomputable def l0 (x2 : List (List Cl)) (k : O) (R : Bool → O) : Nat → Int → O
 | 0, _ => none
 | n + 1, x3 => l0s x2 (l0 x2 k R n) k R x3
noncomputable def o0 : Fn [.l] St := fun x2 => ⟨mkT 19 [(0, one (.tr 0 1 e_1 (.cells x2)))], [], []⟩
noncomputable def n0 (K : Res → O) := ent 0 [.l] [.i] [0, 1] (fun x2 x3 => ⟨mkT 19 [(0, one (.tr 0 1 e_1 (.cells x2))), (3, oI x3)], [], []⟩) fun x2 k => l0 x2 (k (o0 x2)) (fun r1 => K (m [] r1))
noncomputable def X (K : Res → O) : Ctx := { cx0 [spec_TokenOk.con] fi true K with cin := [(0, ⟨[0, 3], [], [], [], [], []⟩)], cout := [(0, ⟨[0], [], [], [], [], []⟩)], lp := lpOf [n0 K] }
noncomputable def b (a1 : List (List Cl)) (R : Bool → O) : O :=
 l0 a1 (
 R (decide ((a1.length : Int) ≤ 300))) R fuel 0
noncomputable def g := seal_ b
theorem e : g = b := seal_eq b
noncomputable def a : Fn [.l] St := fun a1 => argSt [one (.tr 0 1 e_1 (.cells a1))] [] []
noncomputable def con := conOf 21 [.l] [.b] a g m
theorem hx (K : Res → O) : CtxOk Pg Γ0 byt0 eqs0 (X K) [spec_TokenOk.con] := ctx_of (X := X) (.cons spec_TokenOk.ok .nil) (by kernel_rfl) K
theorem w0 (K : Res → O) : LpSound Pg (X K) 0 b0 := lp_fin (L := [n0 K]) laid (hx K) .nil (.cons (ent_ok (fun x2 k r => l0s x2 r (k (o0 x2)) (fun r1 => K (m [] r1))) (by kernel_rfl) (by kernel_rfl) (by kernel_rfl) (by kernel_rfl) (by kernel_rfl)) .nil) (by kernel_rfl) (by kernel_rfl)
theorem ok : Con Pg con := con_fin (fn := Tryd.f21) (c := c) (Fi := fi) (X := X) laid hx (fun K => (.cons (w0 K) .nil)) e (by kernel_rfl) (by kernel_rfl) (by kernel_rfl) (by kernel_rfl)
end spec_l8Tokens
-- GROUP spec_l8Digits
namespace spec_l8Digits
noncomputable def c : Code := bodyOf Tryd.f41
noncomputable def fi : Fin := ⟨Γ0, [(.tmp 2, 9)], [[1]], [], [], []⟩
noncomputable def m : Fn [.i] (Fn [.s] Res) := fun _ r1 => ⟨[⟨false, [.str r1]⟩], [], [], [], []⟩
noncomputable def b0 : Code := codeAt c [1, 1, 1, 1, 0, 0, 0]
noncomputable abbrev T : Type := Int → (ByteArray → O) → O
noncomputable def a : Fn [.i] St := fun a1 => argSt [oI a1] [] []
noncomputable def conz (h : T) := conOf 41 [.i] [.s] a h m
end spec_l8Digits
noncomputable abbrev Z_spec_l8Digits : Type := spec_l8Digits.T
noncomputable def Gd_spec_l8Digits (z : Z_spec_l8Digits) : Prop := Con Pg (spec_l8Digits.conz z)
namespace spec_l8Digits
noncomputable def l0s  (rec : Int → ByteArray → O) (k : ByteArray → O) (x3 : Int) (x4 : ByteArray) : O :=
 bif decide (0 < x3) then (bif decide ((strOf ([IntKind.u8.wrap (IntKind.i64.wrap (48 + (x3.tmod 10)))] : List Int)).size + x4.size ≤ 9223372036854775807) then rec (IntKind.i64.wrap (x3.tdiv 10)) ((strOf ([IntKind.u8.wrap (IntKind.i64.wrap (48 + (x3.tmod 10)))] : List Int)) ++ x4)
  else none)
 else k x4
noncomputable def l0  (k : ByteArray → O) : Nat → Int → ByteArray → O
 | 0, _, _ => none
 | n + 1, x3, x4 => l0s (l0 k n) k x3 x4
noncomputable def o0 : Fn [.s] St := fun y1 => ⟨mkT 25 [(3, one (.str y1))], [], []⟩
noncomputable def n0 (K : Res → O) := ent 0 [] [.i, .s] [0, 1] (fun x3 x4 => ⟨mkT 25 [(0, oI x3), (3, one (.str x4))], [], []⟩) fun k => l0 (fun y1 => k (o0 y1))
noncomputable def X (z : Z_spec_l8Digits) (K : Res → O) : Ctx := { cx0 [spec_l8Digits.conz z] fi true K with cin := [(0, ⟨[0, 3], [], [], [], [], []⟩)], cout := [(0, ⟨[3], [], [], [], [], []⟩)], lp := lpOf [n0 K] }
noncomputable def g (z : Z_spec_l8Digits) (a1 : Int) (R : ByteArray → O) : O :=
 bif decide (a1 < 0) then (z (IntKind.i64.wrap (0 - a1)) fun r2 =>
  bif decide (1 + r2.size ≤ 9223372036854775807) then R ((⟨#[95]⟩ : ByteArray) ++ r2)
  else none)
 else bif (a1 == 0) then R (⟨#[48]⟩ : ByteArray)
 else (l0 (fun y5 =>
 R y5) fuel a1 (⟨#[]⟩ : ByteArray))
theorem hx (z : Z_spec_l8Digits) (hz : Gd_spec_l8Digits z) (K : Res → O) : CtxOk Pg Γ0 byt0 eqs0 ((X z) K) [spec_l8Digits.conz z] := ctx_of (X := (X z)) (.cons hz .nil) (by kernel_rfl) K
theorem w0 (z : Z_spec_l8Digits) (hz : Gd_spec_l8Digits z) (K : Res → O) : LpSound Pg ((X z) K) 0 b0 := lp_fin (L := [n0 K]) laid ((hx z hz) K) .nil (.cons (ent_ok (fun k r => l0s r (fun y1 => k (o0 y1))) (by kernel_rfl) (by kernel_rfl) (by kernel_rfl) (by kernel_rfl) (by kernel_rfl)) .nil) (by kernel_rfl) (by kernel_rfl)
theorem ok (z : Z_spec_l8Digits) (hz : Gd_spec_l8Digits z) : Con Pg (conz (g z)) := con_fin (fn := Tryd.f41) (c := c) (Fi := fi) (X := (X z)) laid (hx z hz) (fun K => (.cons ((w0 z hz) K) .nil)) rfl (by kernel_rfl) (by kernel_rfl) (by kernel_rfl) (by kernel_rfl)
end spec_l8Digits
noncomputable def rec_spec_l8Digits : Nat → Z_spec_l8Digits
 | 0 => (fun _ _ => none)
 | n + 1 => spec_l8Digits.g (rec_spec_l8Digits n)
theorem good_spec_l8Digits : ∀ n, Gd_spec_l8Digits (rec_spec_l8Digits n)
 | 0 => con_cst rfl
 | n + 1 => spec_l8Digits.ok _ (good_spec_l8Digits n)
namespace spec_l8Digits
noncomputable def gn (n : Nat) (a1 : Int) (R : ByteArray → O) : O := (rec_spec_l8Digits n) a1 R
noncomputable def G : T := seal_ (gn fuel)
theorem Ge : G = gn fuel := seal_eq _
theorem gn_succ (n : Nat) (a1 : Int) (R : ByteArray → O) : gn (n + 1) a1 R = g (rec_spec_l8Digits n) a1 R := rfl
noncomputable def con := conz G
theorem okG : Con Pg con := by
 unfold con; rw [Ge]; exact (good_spec_l8Digits fuel)
end spec_l8Digits
-- END GROUP
namespace spec_l8One
noncomputable def c : Code := bodyOf Tryd.f22
noncomputable def fi : Fin := ⟨Γ0, [(.tmp 2, 9)], [[1]], [], [], []⟩
noncomputable def m : Fn [.i, .i] (Fn [.s] Res) := fun _ _ r1 => ⟨[⟨false, [.str r1]⟩], [], [], [], []⟩
noncomputable def X (K : Res → O) : Ctx := cx0 [spec_l8Digits.con] fi true K
noncomputable def b (a1 a2 : Int) (R : ByteArray → O) : O :=
 bif (a1 == 1) then (spec_l8Digits.G a2 fun r3 =>
  R r3)
 else bif (a1 == 2) then R (strOf ([IntKind.u8.wrap (IntKind.i64.wrap (65 + a2))] : List Int))
 else bif (a1 == 3) then R (strOf ([IntKind.u8.wrap a2] : List Int))
 else bif (a1 == 4) then R (⟨#[40]⟩ : ByteArray)
 else bif (a1 == 5) then R (⟨#[41]⟩ : ByteArray)
 else R (⟨#[58]⟩ : ByteArray)
noncomputable def g := seal_ b
theorem e : g = b := seal_eq b
noncomputable def a : Fn [.i, .i] St := fun a1 a2 => argSt [.v ⟨true, [cI a1, cI a2]⟩] [] []
noncomputable def con := conOf 22 [.i, .i] [.s] a g m
theorem ok : Con Pg con := con_fin (fn := Tryd.f22) (c := c) (Fi := fi) (X := X) laid (ctx_of (.cons spec_l8Digits.okG .nil) (by kernel_rfl)) (fun K => .nil) e (by kernel_rfl) (by kernel_rfl) (by kernel_rfl) (by kernel_rfl)
end spec_l8One
namespace spec_TokenText
noncomputable def c : Code := bodyOf Tryd.f11
noncomputable def fi : Fin := ⟨Γ0, [(.tmp 2, 9)], [[1]], [], [], []⟩
noncomputable def m : Fn [.l] (Fn [.s] Res) := fun _ r1 => ⟨[⟨false, [.str r1]⟩], [], [], [], []⟩
noncomputable def b0 : Code := codeAt c [1, 1, 1, 0, 1, 0, 0]
noncomputable def l0s (x3 : List (List Cl)) (rec : ByteArray → Int → O) (k : ByteArray → O) (x4 : ByteArray) (x5 : Int) : O :=
 bif decide (x5 < (x3.length : Int)) then (bif decide (0 < x5) then (bif decide (x4.size + 1 ≤ 9223372036854775807) then (bif decide (0 ≤ x5) && decide (x5 < (x3.length : Int)) then (spec_l8One.g (((x3.getD x5.toNat []).getD 0 (.i 0)).toI) (((x3.getD x5.toNat []).getD 1 (.i 0)).toI) fun r6 =>
  bif decide ((x4 ++ (⟨#[32]⟩ : ByteArray)).size + r6.size ≤ 9223372036854775807) then rec ((x4 ++ (⟨#[32]⟩ : ByteArray)) ++ r6) (IntKind.i64.wrap (x5 + 1))
  else none)
  else none)
  else none)
  else bif decide (0 ≤ x5) && decide (x5 < (x3.length : Int)) then (spec_l8One.g (((x3.getD x5.toNat []).getD 0 (.i 0)).toI) (((x3.getD x5.toNat []).getD 1 (.i 0)).toI) fun r7 =>
   bif decide (x4.size + r7.size ≤ 9223372036854775807) then rec (x4 ++ r7) (IntKind.i64.wrap (x5 + 1))
   else none)
  else none)
 else k x4
noncomputable def l0 (x3 : List (List Cl)) (k : ByteArray → O) : Nat → ByteArray → Int → O
 | 0, _, _ => none
 | n + 1, x4, x5 => l0s x3 (l0 x3 k n) k x4 x5
noncomputable def o0 : Fn [.l, .s] St := fun _ y1 => ⟨mkT 27 [(3, one (.str y1))], [], []⟩
noncomputable def n0 (K : Res → O) := ent 0 [.l] [.s, .i] [0, 1, 2] (fun x3 x4 x5 => ⟨mkT 27 [(0, one (.tr 0 1 e_1 (.cells x3))), (3, one (.str x4)), (4, oI x5)], [], []⟩) fun x3 k => l0 x3 (fun y1 => k (o0 x3 y1))
noncomputable def X (K : Res → O) : Ctx := { cx0 [spec_l8Tokens.con, spec_l8One.con] fi true K with cin := [(0, ⟨[0, 3, 4], [], [], [], [], []⟩)], cout := [(0, ⟨[3], [], [], [], [], []⟩)], lp := lpOf [n0 K] }
noncomputable def b (a1 : List (List Cl)) (R : ByteArray → O) : O :=
 spec_l8Tokens.g a1 fun r2 =>
 bif !r2 then R (⟨#[]⟩ : ByteArray)
 else (l0 a1 (fun y8 =>
 R y8) fuel (⟨#[]⟩ : ByteArray) 0)
noncomputable def g := seal_ b
theorem e : g = b := seal_eq b
noncomputable def a : Fn [.l] St := fun a1 => argSt [one (.tr 0 1 e_1 (.cells a1))] [] []
noncomputable def con := conOf 11 [.l] [.s] a g m
theorem hx (K : Res → O) : CtxOk Pg Γ0 byt0 eqs0 (X K) [spec_l8Tokens.con, spec_l8One.con] := ctx_of (X := X) (.cons spec_l8Tokens.ok (.cons spec_l8One.ok .nil)) (by kernel_rfl) K
theorem w0 (K : Res → O) : LpSound Pg (X K) 0 b0 := lp_fin (L := [n0 K]) laid (hx K) .nil (.cons (ent_ok (fun x3 k r => l0s x3 r (fun y1 => k (o0 x3 y1))) (by kernel_rfl) (by kernel_rfl) (by kernel_rfl) (by kernel_rfl) (by kernel_rfl)) .nil) (by kernel_rfl) (by kernel_rfl)
theorem ok : Con Pg con := con_fin (fn := Tryd.f11) (c := c) (Fi := fi) (X := X) laid hx (fun K => (.cons (w0 K) .nil)) e (by kernel_rfl) (by kernel_rfl) (by kernel_rfl) (by kernel_rfl)
end spec_TokenText
namespace spec_TreeText
noncomputable def c : Code := bodyOf Tryd.f5
noncomputable def fi : Fin := ⟨Γ0, [(.tmp 2, 9)], [[1]], [], [], []⟩
noncomputable def m : Fn [.l] (Fn [.s] Res) := fun _ r1 => ⟨[⟨false, [.str r1]⟩], [], [], [], []⟩
noncomputable def X (K : Res → O) : Ctx := cx0 [spec_TreeOk.con, spec_l9Tokens.con, spec_TokenText.con] fi true K
noncomputable def b (a1 : List (List Cl)) (R : ByteArray → O) : O :=
 spec_TreeOk.g a1 fun r2 =>
 bif !r2 then R (⟨#[]⟩ : ByteArray)
 else (spec_l9Tokens.G a1 (IntKind.i64.wrap ((a1.length : Int) - 1)) fun r3 =>
 spec_TokenText.g r3 fun r4 =>
 R r4)
noncomputable def g := seal_ b
theorem e : g = b := seal_eq b
noncomputable def a : Fn [.l] St := fun a1 => argSt [.v ⟨true, [.tr 0 1 e_0 (.cells a1)]⟩] [] []
noncomputable def con := conOf 5 [.l] [.s] a g m
theorem ok : Con Pg con := con_fin (fn := Tryd.f5) (c := c) (Fi := fi) (X := X) laid (ctx_of (.cons spec_TreeOk.ok (.cons spec_l9Tokens.okG (.cons spec_TokenText.ok .nil))) (by kernel_rfl)) (fun K => .nil) e (by kernel_rfl) (by kernel_rfl) (by kernel_rfl) (by kernel_rfl)
end spec_TreeText
namespace impl_within
noncomputable def c : Code := bodyOf Tryd.f25
noncomputable def fi : Fin := ⟨Γ0, [(.tmp 6, 4)], [[1]], [], [], []⟩
noncomputable def m : Fn [.i, .i, .i] (Fn [.b] Res) := fun _ _ _ r1 => ⟨[⟨false, [.bool r1]⟩], [], [], [], []⟩
noncomputable def X (K : Res → O) : Ctx := cx0 [] fi true K
noncomputable def b (a1 a2 a3 : Int) (R : Bool → O) : O :=
 bif decide (a2 ≤ a1) then R (decide (a1 ≤ a3))
 else R false
noncomputable def g := seal_ b
theorem e : g = b := seal_eq b
noncomputable def a : Fn [.i, .i, .i] St := fun a1 a2 a3 => argSt [oI a1, oI a2, oI a3] [] []
noncomputable def con := conOf 25 [.i, .i, .i] [.b] a g m
theorem ok : Con Pg con := con_fin (fn := Tryd.f25) (c := c) (Fi := fi) (X := X) laid (ctx_of .nil (by kernel_rfl)) (fun K => .nil) e (by kernel_rfl) (by kernel_rfl) (by kernel_rfl) (by kernel_rfl)
end impl_within
namespace impl_NumOk
noncomputable def c : Code := bodyOf Tryd.f66
noncomputable def fi : Fin := ⟨Γ0, [(.tmp 2, 4)], [[1]], [], [], []⟩
noncomputable def m : Fn [.i] (Fn [.b] Res) := fun _ r1 => ⟨[⟨false, [.bool r1]⟩], [], [], [], []⟩
noncomputable def X (K : Res → O) : Ctx := cx0 [impl_within.con] fi true K
noncomputable def b (a1 : Int) (R : Bool → O) : O :=
 impl_within.g a1 (-1000000000000) 1000000000000 fun r2 =>
 R r2
noncomputable def g := seal_ b
theorem e : g = b := seal_eq b
noncomputable def a : Fn [.i] St := fun a1 => argSt [oI a1] [] []
noncomputable def con := conOf 66 [.i] [.b] a g m
theorem ok : Con Pg con := con_fin (fn := Tryd.f66) (c := c) (Fi := fi) (X := X) laid (ctx_of (.cons impl_within.ok .nil) (by kernel_rfl)) (fun K => .nil) e (by kernel_rfl) (by kernel_rfl) (by kernel_rfl) (by kernel_rfl)
end impl_NumOk
namespace impl_numsOk_1
noncomputable def c : Code := bodyOf Tryd.f65
noncomputable def fi : Fin := ⟨Γ0, [(.tmp 2, 4)], [[1]], [], [], []⟩
noncomputable def m : Fn [.i] (Fn [.b] Res) := fun _ r1 => ⟨[⟨false, [.bool r1]⟩], [], [], [], []⟩
noncomputable def X (K : Res → O) : Ctx := cx0 [impl_NumOk.con] fi true K
noncomputable def b (a1 : Int) (R : Bool → O) : O :=
 impl_NumOk.g a1 fun r2 =>
 R (!r2)
noncomputable def g := seal_ b
theorem e : g = b := seal_eq b
noncomputable def a : Fn [.i] St := fun a1 => argSt [oI a1] [] []
noncomputable def con := conOf 65 [.i] [.b] a g m
theorem ok : Con Pg con := con_fin (fn := Tryd.f65) (c := c) (Fi := fi) (X := X) laid (ctx_of (.cons impl_NumOk.ok .nil) (by kernel_rfl)) (fun K => .nil) e (by kernel_rfl) (by kernel_rfl) (by kernel_rfl) (by kernel_rfl)
end impl_numsOk_1
namespace slices_IndexFunc_int_int_i3
noncomputable def c : Code := bodyOf Tryd.f74
noncomputable def fi : Fin := ⟨Γ0, [(.tmp 4, 3)], [[1]], [], [], []⟩
noncomputable def m : Fn [.z] (Fn [.i] Res) := fun _ r1 => ⟨[⟨false, [cI r1]⟩], [], [], [], []⟩
noncomputable def b0 : Code := codeAt c [1, 0, 1, 0, 0]
noncomputable def l0s (x2 : List Int) (x3 : Int) (rec : Int → O) (k : O) (R : Int → O) (x4 : Int) : O :=
 bif decide (x4 < x3) then (bif decide (0 ≤ x4) && decide (x4 < (x2.length : Int)) then (impl_numsOk_1.g (x2.getD x4.toNat 0) fun r5 =>
  bif r5 then R x4
  else rec (IntKind.i64.wrap (x4 + 1)))
  else none)
 else k
noncomputable def l0 (x2 : List Int) (x3 : Int) (k : O) (R : Int → O) : Nat → Int → O
 | 0, _ => none
 | n + 1, x4 => l0s x2 x3 (l0 x2 x3 k R n) k R x4
noncomputable def o0 : Fn [.z, .i] St := fun _ _ => ⟨mkT 19 [], [], []⟩
noncomputable def n0 (K : Res → O) := ent 0 [.z, .i] [.i] [0, 1, 2] (fun x2 x3 x4 => ⟨mkT 19 [(0, one (.tr 0 1 [.int .i64] (.ints x2))), (1, one (.fn 65 [])), (7, oI x3), (8, oI x4)], [], []⟩) fun x2 x3 k => l0 x2 x3 (k (o0 x2 x3)) (fun r1 => K (m [] r1))
noncomputable def X (K : Res → O) : Ctx := { cx0 [impl_numsOk_1.con] fi true K with cin := [(0, ⟨[0, 1, 7, 8], [], [], [], [], []⟩)], cout := [(0, ⟨[], [], [], [], [], []⟩)], lp := lpOf [n0 K] }
noncomputable def b (a1 : List Int) (R : Int → O) : O :=
 l0 a1 (a1.length : Int) (
 R (-1)) R fuel 0
noncomputable def g := seal_ b
theorem e : g = b := seal_eq b
noncomputable def a : Fn [.z] St := fun a1 => argSt [one (.tr 0 1 [.int .i64] (.ints a1)), one (.fn 65 [])] [] []
noncomputable def con := conOf 74 [.z] [.i] a g m
theorem hx (K : Res → O) : CtxOk Pg Γ0 byt0 eqs0 (X K) [impl_numsOk_1.con] := ctx_of (X := X) (.cons impl_numsOk_1.ok .nil) (by kernel_rfl) K
theorem w0 (K : Res → O) : LpSound Pg (X K) 0 b0 := lp_fin (L := [n0 K]) laid (hx K) .nil (.cons (ent_ok (fun x2 x3 k r => l0s x2 x3 r (k (o0 x2 x3)) (fun r1 => K (m [] r1))) (by kernel_rfl) (by kernel_rfl) (by kernel_rfl) (by kernel_rfl) (by kernel_rfl)) .nil) (by kernel_rfl) (by kernel_rfl)
theorem ok : Con Pg con := con_fin (fn := Tryd.f74) (c := c) (Fi := fi) (X := X) laid hx (fun K => (.cons (w0 K) .nil)) e (by kernel_rfl) (by kernel_rfl) (by kernel_rfl) (by kernel_rfl)
end slices_IndexFunc_int_int_i3
namespace slices_ContainsFunc_int_int_i3
noncomputable def c : Code := bodyOf Tryd.f64
noncomputable def fi : Fin := ⟨Γ0, [(.tmp 4, 4)], [[1]], [], [], []⟩
noncomputable def m : Fn [.z] (Fn [.b] Res) := fun _ r1 => ⟨[⟨false, [.bool r1]⟩], [], [], [], []⟩
noncomputable def X (K : Res → O) : Ctx := cx0 [slices_IndexFunc_int_int_i3.con] fi true K
noncomputable def b (a1 : List Int) (R : Bool → O) : O :=
 slices_IndexFunc_int_int_i3.g a1 fun r2 =>
 R (decide (0 ≤ r2))
noncomputable def g := seal_ b
theorem e : g = b := seal_eq b
noncomputable def a : Fn [.z] St := fun a1 => argSt [one (.tr 0 1 [.int .i64] (.ints a1)), one (.fn 65 [])] [] []
noncomputable def con := conOf 64 [.z] [.b] a g m
theorem ok : Con Pg con := con_fin (fn := Tryd.f64) (c := c) (Fi := fi) (X := X) laid (ctx_of (.cons slices_IndexFunc_int_int_i3.ok .nil) (by kernel_rfl)) (fun K => .nil) e (by kernel_rfl) (by kernel_rfl) (by kernel_rfl) (by kernel_rfl)
end slices_ContainsFunc_int_int_i3
namespace impl_numsOk
noncomputable def c : Code := bodyOf Tryd.f46
noncomputable def fi : Fin := ⟨Γ0, [(.tmp 2, 4)], [[1]], [], [], []⟩
noncomputable def m : Fn [.z] (Fn [.b] Res) := fun _ r1 => ⟨[⟨false, [.bool r1]⟩], [], [], [], []⟩
noncomputable def X (K : Res → O) : Ctx := cx0 [impl_within.con, slices_ContainsFunc_int_int_i3.con] fi true K
noncomputable def b (a1 : List Int) (R : Bool → O) : O :=
 impl_within.g (a1.length : Int) 1 300 fun r2 =>
 bif r2 then (slices_ContainsFunc_int_int_i3.g a1 fun r3 =>
  R (!r3))
 else R false
noncomputable def g := seal_ b
theorem e : g = b := seal_eq b
noncomputable def a : Fn [.z] St := fun a1 => argSt [one (.tr 0 1 [.int .i64] (.ints a1))] [] []
noncomputable def con := conOf 46 [.z] [.b] a g m
theorem ok : Con Pg con := con_fin (fn := Tryd.f46) (c := c) (Fi := fi) (X := X) laid (ctx_of (.cons impl_within.ok (.cons slices_ContainsFunc_int_int_i3.ok .nil)) (by kernel_rfl)) (fun K => .nil) e (by kernel_rfl) (by kernel_rfl) (by kernel_rfl) (by kernel_rfl)
end impl_numsOk
namespace impl_hasSign
noncomputable def c : Code := bodyOf Tryd.f68
noncomputable def fi : Fin := ⟨Γ0, [(.tmp 4, 4)], [[1]], [], [], []⟩
noncomputable def m : Fn [.s, .i] (Fn [.b] Res) := fun _ _ r1 => ⟨[⟨false, [.bool r1]⟩], [], [], [], []⟩
noncomputable def b0 : Code := codeAt c [1, 0, 1, 0, 0]
noncomputable def l0s (x3 : ByteArray) (x4 : Int) (rec : Int → O) (k : O) (R : Bool → O) (x5 : Int) : O :=
 bif decide (x5 < (x3.size : Int)) then (bif decide (0 ≤ x5) && decide (x5 < (x3.size : Int)) then (bif (IntKind.i64.wrap ((bytesOf x3).getD x5.toNat 0) == x4) then R true
  else rec (IntKind.i64.wrap (x5 + 1)))
  else none)
 else k
noncomputable def l0 (x3 : ByteArray) (x4 : Int) (k : O) (R : Bool → O) : Nat → Int → O
 | 0, _ => none
 | n + 1, x5 => l0s x3 x4 (l0 x3 x4 k R n) k R x5
noncomputable def o0 : Fn [.s, .i] St := fun _ _ => ⟨mkT 18 [], [], []⟩
noncomputable def n0 (K : Res → O) := ent 0 [.s, .i] [.i] [0, 1, 2] (fun x3 x4 x5 => ⟨mkT 18 [(0, one (.str x3)), (1, oI x4), (5, oI x5)], [], []⟩) fun x3 x4 k => l0 x3 x4 (k (o0 x3 x4)) (fun r1 => K (m ByteArray.empty (0 : Int) r1))
noncomputable def X (K : Res → O) : Ctx := { cx0 [] fi true K with cin := [(0, ⟨[0, 1, 5], [], [], [], [], []⟩)], cout := [(0, ⟨[], [], [], [], [], []⟩)], lp := lpOf [n0 K] }
noncomputable def b (a1 : ByteArray) (a2 : Int) (R : Bool → O) : O :=
 l0 a1 a2 (
 R false) R fuel 0
noncomputable def g := seal_ b
theorem e : g = b := seal_eq b
noncomputable def a : Fn [.s, .i] St := fun a1 a2 => argSt [one (.str a1), oI a2] [] []
noncomputable def con := conOf 68 [.s, .i] [.b] a g m
theorem hx (K : Res → O) : CtxOk Pg Γ0 byt0 eqs0 (X K) [] := ctx_of (X := X) .nil (by kernel_rfl) K
theorem w0 (K : Res → O) : LpSound Pg (X K) 0 b0 := lp_fin (L := [n0 K]) laid (hx K) .nil (.cons (ent_ok (fun x3 x4 k r => l0s x3 x4 r (k (o0 x3 x4)) (fun r1 => K (m ByteArray.empty (0 : Int) r1))) (by kernel_rfl) (by kernel_rfl) (by kernel_rfl) (by kernel_rfl) (by kernel_rfl)) .nil) (by kernel_rfl) (by kernel_rfl)
theorem ok : Con Pg con := con_fin (fn := Tryd.f68) (c := c) (Fi := fi) (X := X) laid hx (fun K => (.cons (w0 K) .nil)) e (by kernel_rfl) (by kernel_rfl) (by kernel_rfl) (by kernel_rfl)
end impl_hasSign
namespace impl_oneSign
noncomputable def c : Code := bodyOf Tryd.f67
noncomputable def fi : Fin := ⟨Γ0, [(.tmp 2, 4)], [[1]], [], [], []⟩
noncomputable def m : Fn [.i] (Fn [.b] Res) := fun _ r1 => ⟨[⟨false, [.bool r1]⟩], [], [], [], []⟩
noncomputable def X (K : Res → O) : Ctx := cx0 [impl_hasSign.con] fi true K
noncomputable def b (a1 : Int) (R : Bool → O) : O :=
 impl_hasSign.g (⟨#[43, 45, 42, 124, 126]⟩ : ByteArray) a1 fun r2 =>
 R r2
noncomputable def g := seal_ b
theorem e : g = b := seal_eq b
noncomputable def a : Fn [.i] St := fun a1 => argSt [oI a1] [] []
noncomputable def con := conOf 67 [.i] [.b] a g m
theorem ok : Con Pg con := con_fin (fn := Tryd.f67) (c := c) (Fi := fi) (X := X) laid (ctx_of (.cons impl_hasSign.ok .nil) (by kernel_rfl)) (fun K => .nil) e (by kernel_rfl) (by kernel_rfl) (by kernel_rfl) (by kernel_rfl)
end impl_oneSign
namespace impl_twoSign
noncomputable def c : Code := bodyOf Tryd.f69
noncomputable def fi : Fin := ⟨Γ0, [(.tmp 2, 4)], [[1]], [], [], []⟩
noncomputable def m : Fn [.i] (Fn [.b] Res) := fun _ r1 => ⟨[⟨false, [.bool r1]⟩], [], [], [], []⟩
noncomputable def X (K : Res → O) : Ctx := cx0 [impl_hasSign.con] fi true K
noncomputable def b (a1 : Int) (R : Bool → O) : O :=
 impl_hasSign.g (⟨#[43, 45, 42, 37, 124, 38, 94, 61, 60, 62]⟩ : ByteArray) a1 fun r2 =>
 R r2
noncomputable def g := seal_ b
theorem e : g = b := seal_eq b
noncomputable def a : Fn [.i] St := fun a1 => argSt [oI a1] [] []
noncomputable def con := conOf 69 [.i] [.b] a g m
theorem ok : Con Pg con := con_fin (fn := Tryd.f69) (c := c) (Fi := fi) (X := X) laid (ctx_of (.cons impl_hasSign.ok .nil) (by kernel_rfl)) (fun K => .nil) e (by kernel_rfl) (by kernel_rfl) (by kernel_rfl) (by kernel_rfl)
end impl_twoSign
namespace impl_FunOne
noncomputable def c : Code := bodyOf Tryd.f47
noncomputable def fi : Fin := ⟨Γ0, [(.tmp 2, 4)], [[1]], [], [], []⟩
noncomputable def m : Fn [.i, .i, .i] (Fn [.b] Res) := fun _ _ _ r1 => ⟨[⟨false, [.bool r1]⟩], [], [], [], []⟩
noncomputable def X (K : Res → O) : Ctx := cx0 [impl_oneSign.con, impl_hasSign.con, impl_twoSign.con] fi true K
noncomputable def b (a1 a2 a3 : Int) (R : Bool → O) : O :=
 bif (a2 == 0) then (bif (a3 == 0) then (impl_oneSign.g a1 fun r4 =>
  bif r4 then R true
  else (impl_hasSign.g (⟨#[105, 35, 44, 114, 122, 103]⟩ : ByteArray) a1 fun r5 =>
  R r5))
  else R false)
 else bif (a2 == 47) then (bif (a3 == 0) then (impl_twoSign.g a1 fun r6 =>
  R r6)
  else R false)
 else bif (a2 == 92) then (bif (a3 == 0) then (impl_twoSign.g a1 fun r7 =>
  R r7)
  else R false)
 else R false
noncomputable def g := seal_ b
theorem e : g = b := seal_eq b
noncomputable def a : Fn [.i, .i, .i] St := fun a1 a2 a3 => argSt [.v ⟨true, [cI a1, cI a2, cI a3]⟩] [] []
noncomputable def con := conOf 47 [.i, .i, .i] [.b] a g m
theorem ok : Con Pg con := con_fin (fn := Tryd.f47) (c := c) (Fi := fi) (X := X) laid (ctx_of (.cons impl_oneSign.ok (.cons impl_hasSign.ok (.cons impl_twoSign.ok .nil))) (by kernel_rfl)) (fun K => .nil) e (by kernel_rfl) (by kernel_rfl) (by kernel_rfl) (by kernel_rfl)
end impl_FunOne
namespace impl_FunTwo
noncomputable def c : Code := bodyOf Tryd.f48
noncomputable def fi : Fin := ⟨Γ0, [(.tmp 2, 4)], [[1]], [], [], []⟩
noncomputable def m : Fn [.i, .i, .i] (Fn [.b] Res) := fun _ _ _ r1 => ⟨[⟨false, [.bool r1]⟩], [], [], [], []⟩
noncomputable def X (K : Res → O) : Ctx := cx0 [impl_twoSign.con, impl_hasSign.con] fi true K
noncomputable def b (a1 a2 a3 : Int) (R : Bool → O) : O :=
 bif (a2 == 0) then (bif (a3 == 0) then (impl_twoSign.g a1 fun r4 =>
  bif r4 then R true
  else (impl_hasSign.g (⟨#[35, 44, 116, 100, 114, 64, 63, 36, 101]⟩ : ByteArray) a1 fun r5 =>
  R r5))
  else R false)
 else bif (a2 == 111) then (bif (a3 == 0) then (impl_twoSign.g a1 fun r6 =>
  R r6)
  else R false)
 else bif (a2 == 46) then (impl_twoSign.g a1 fun r7 =>
  bif r7 then (impl_twoSign.g a3 fun r8 =>
   R r8)
  else R false)
 else R false
noncomputable def g := seal_ b
theorem e : g = b := seal_eq b
noncomputable def a : Fn [.i, .i, .i] St := fun a1 a2 a3 => argSt [.v ⟨true, [cI a1, cI a2, cI a3]⟩] [] []
noncomputable def con := conOf 48 [.i, .i, .i] [.b] a g m
theorem ok : Con Pg con := con_fin (fn := Tryd.f48) (c := c) (Fi := fi) (X := X) laid (ctx_of (.cons impl_twoSign.ok (.cons impl_hasSign.ok .nil)) (by kernel_rfl)) (fun K => .nil) e (by kernel_rfl) (by kernel_rfl) (by kernel_rfl) (by kernel_rfl)
end impl_FunTwo
namespace impl_nodeOk
noncomputable def c : Code := bodyOf Tryd.f28
noncomputable def fi : Fin := ⟨Γ0, [(.tmp 2, 4)], [[1]], [], [], []⟩
noncomputable def m : Fn [.i, .i, .i, .i, .i, .i, .z] (Fn [.b] Res) := fun _ _ _ _ _ _ _ r1 => ⟨[⟨false, [.bool r1]⟩], [], [], [], []⟩
noncomputable def X (K : Res → O) : Ctx := cx0 [impl_numsOk.con, impl_within.con, impl_FunOne.con, impl_FunTwo.con] fi true K
noncomputable def b (a1 a2 a3 a4 a5 a6 : Int) (a7 : List Int) (R : Bool → O) : O :=
 bif (a1 == 1) then (impl_numsOk.g a7 fun r8 =>
  bif (a2 == 0) then (bif (a3 == 0) then (bif ((a4 == 0) && ((a5 == 0) && ((a6 == 0) && true))) then R r8
   else R false)
   else R false)
  else R false)
 else bif (a1 == 2) then (impl_within.g a2 0 25 fun r9 =>
  bif r9 then (bif (a3 == 0) then (bif ((a4 == 0) && ((a5 == 0) && ((a6 == 0) && true))) then R ((a7.length : Int) == 0)
   else R false)
   else R false)
  else R false)
 else bif (a1 == 3) then (impl_within.g a2 0 25 fun r10 =>
  bif r10 then (bif ((a4 == 0) && ((a5 == 0) && ((a6 == 0) && true))) then R ((a7.length : Int) == 0)
   else R false)
  else R false)
 else bif (a1 == 4) then (impl_FunOne.g a4 a5 a6 fun r11 =>
  bif (a2 == 0) then (bif r11 then R ((a7.length : Int) == 0)
   else R false)
  else R false)
 else bif (a1 == 5) then (impl_FunTwo.g a4 a5 a6 fun r12 =>
  bif r12 then R ((a7.length : Int) == 0)
  else R false)
 else R false
noncomputable def g := seal_ b
theorem e : g = b := seal_eq b
noncomputable def a : Fn [.i, .i, .i, .i, .i, .i, .z] St := fun a1 a2 a3 a4 a5 a6 a7 => argSt [.v ⟨true, [cI a1, cI a2, cI a3, cI a4, cI a5, cI a6, .tr 0 1 [.int .i64] (.ints a7)]⟩] [] []
noncomputable def con := conOf 28 [.i, .i, .i, .i, .i, .i, .z] [.b] a g m
theorem ok : Con Pg con := con_fin (fn := Tryd.f28) (c := c) (Fi := fi) (X := X) laid (ctx_of (.cons impl_numsOk.ok (.cons impl_within.ok (.cons impl_FunOne.ok (.cons impl_FunTwo.ok .nil)))) (by kernel_rfl)) (fun K => .nil) e (by kernel_rfl) (by kernel_rfl) (by kernel_rfl) (by kernel_rfl)
end impl_nodeOk
namespace impl_TreeOk_1
noncomputable def c : Code := bodyOf Tryd.f27
noncomputable def fi : Fin := ⟨Γ0, [(.tmp 2, 4)], [[1]], [], [], []⟩
noncomputable def m : Fn [.i, .i, .i, .i, .i, .i, .z] (Fn [.b] Res) := fun _ _ _ _ _ _ _ r1 => ⟨[⟨false, [.bool r1]⟩], [], [], [], []⟩
noncomputable def X (K : Res → O) : Ctx := cx0 [impl_nodeOk.con] fi true K
noncomputable def b (a1 a2 a3 a4 a5 a6 : Int) (a7 : List Int) (R : Bool → O) : O :=
 impl_nodeOk.g a1 a2 a3 a4 a5 a6 a7 fun r8 =>
 R (!r8)
noncomputable def g := seal_ b
theorem e : g = b := seal_eq b
noncomputable def a : Fn [.i, .i, .i, .i, .i, .i, .z] St := fun a1 a2 a3 a4 a5 a6 a7 => argSt [.v ⟨true, [cI a1, cI a2, cI a3, cI a4, cI a5, cI a6, .tr 0 1 [.int .i64] (.ints a7)]⟩] [] []
noncomputable def con := conOf 27 [.i, .i, .i, .i, .i, .i, .z] [.b] a g m
theorem ok : Con Pg con := con_fin (fn := Tryd.f27) (c := c) (Fi := fi) (X := X) laid (ctx_of (.cons impl_nodeOk.ok .nil) (by kernel_rfl)) (fun K => .nil) e (by kernel_rfl) (by kernel_rfl) (by kernel_rfl) (by kernel_rfl)
end impl_TreeOk_1
namespace slices_IndexFunc_impl_Expr_impl_Expr
noncomputable def c : Code := bodyOf Tryd.f45
noncomputable def fi : Fin := ⟨Γ0, [(.tmp 4, 3)], [[1]], [], [], []⟩
noncomputable def m : Fn [.l] (Fn [.i] Res) := fun _ r1 => ⟨[⟨false, [cI r1]⟩], [], [], [], []⟩
noncomputable def b0 : Code := codeAt c [1, 0, 1, 0, 0]
noncomputable def l0s (x2 : List (List Cl)) (x3 : Int) (rec : Int → O) (k : O) (R : Int → O) (x4 : Int) : O :=
 bif decide (x4 < x3) then (bif decide (0 ≤ x4) && decide (x4 < (x2.length : Int)) then (impl_TreeOk_1.g (((x2.getD x4.toNat []).getD 0 (.i 0)).toI) (((x2.getD x4.toNat []).getD 1 (.i 0)).toI) (((x2.getD x4.toNat []).getD 2 (.i 0)).toI) (((x2.getD x4.toNat []).getD 3 (.i 0)).toI) (((x2.getD x4.toNat []).getD 4 (.i 0)).toI) (((x2.getD x4.toNat []).getD 5 (.i 0)).toI) (((x2.getD x4.toNat []).getD 6 (.i 0)).toL) fun r5 =>
  bif r5 then R x4
  else rec (IntKind.i64.wrap (x4 + 1)))
  else none)
 else k
noncomputable def l0 (x2 : List (List Cl)) (x3 : Int) (k : O) (R : Int → O) : Nat → Int → O
 | 0, _ => none
 | n + 1, x4 => l0s x2 x3 (l0 x2 x3 k R n) k R x4
noncomputable def o0 : Fn [.l, .i] St := fun _ _ => ⟨mkT 19 [], [], []⟩
noncomputable def n0 (K : Res → O) := ent 0 [.l, .i] [.i] [0, 1, 2] (fun x2 x3 x4 => ⟨mkT 19 [(0, one (.tr 0 1 e_0 (.cells x2))), (1, one (.fn 27 [])), (7, oI x3), (8, oI x4)], [], []⟩) fun x2 x3 k => l0 x2 x3 (k (o0 x2 x3)) (fun r1 => K (m [] r1))
noncomputable def X (K : Res → O) : Ctx := { cx0 [impl_TreeOk_1.con] fi true K with cin := [(0, ⟨[0, 1, 7, 8], [], [], [], [], []⟩)], cout := [(0, ⟨[], [], [], [], [], []⟩)], lp := lpOf [n0 K] }
noncomputable def b (a1 : List (List Cl)) (R : Int → O) : O :=
 l0 a1 (a1.length : Int) (
 R (-1)) R fuel 0
noncomputable def g := seal_ b
theorem e : g = b := seal_eq b
noncomputable def a : Fn [.l] St := fun a1 => argSt [one (.tr 0 1 e_0 (.cells a1)), one (.fn 27 [])] [] []
noncomputable def con := conOf 45 [.l] [.i] a g m
theorem hx (K : Res → O) : CtxOk Pg Γ0 byt0 eqs0 (X K) [impl_TreeOk_1.con] := ctx_of (X := X) (.cons impl_TreeOk_1.ok .nil) (by kernel_rfl) K
theorem w0 (K : Res → O) : LpSound Pg (X K) 0 b0 := lp_fin (L := [n0 K]) laid (hx K) .nil (.cons (ent_ok (fun x2 x3 k r => l0s x2 x3 r (k (o0 x2 x3)) (fun r1 => K (m [] r1))) (by kernel_rfl) (by kernel_rfl) (by kernel_rfl) (by kernel_rfl) (by kernel_rfl)) .nil) (by kernel_rfl) (by kernel_rfl)
theorem ok : Con Pg con := con_fin (fn := Tryd.f45) (c := c) (Fi := fi) (X := X) laid hx (fun K => (.cons (w0 K) .nil)) e (by kernel_rfl) (by kernel_rfl) (by kernel_rfl) (by kernel_rfl)
end slices_IndexFunc_impl_Expr_impl_Expr
namespace slices_ContainsFunc_impl_Expr_impl_Expr
noncomputable def c : Code := bodyOf Tryd.f26
noncomputable def fi : Fin := ⟨Γ0, [(.tmp 4, 4)], [[1]], [], [], []⟩
noncomputable def m : Fn [.l] (Fn [.b] Res) := fun _ r1 => ⟨[⟨false, [.bool r1]⟩], [], [], [], []⟩
noncomputable def X (K : Res → O) : Ctx := cx0 [slices_IndexFunc_impl_Expr_impl_Expr.con] fi true K
noncomputable def b (a1 : List (List Cl)) (R : Bool → O) : O :=
 slices_IndexFunc_impl_Expr_impl_Expr.g a1 fun r2 =>
 R (decide (0 ≤ r2))
noncomputable def g := seal_ b
theorem e : g = b := seal_eq b
noncomputable def a : Fn [.l] St := fun a1 => argSt [one (.tr 0 1 e_0 (.cells a1)), one (.fn 27 [])] [] []
noncomputable def con := conOf 26 [.l] [.b] a g m
theorem ok : Con Pg con := con_fin (fn := Tryd.f26) (c := c) (Fi := fi) (X := X) laid (ctx_of (.cons slices_IndexFunc_impl_Expr_impl_Expr.ok .nil) (by kernel_rfl)) (fun K => .nil) e (by kernel_rfl) (by kernel_rfl) (by kernel_rfl) (by kernel_rfl)
end slices_ContainsFunc_impl_Expr_impl_Expr
namespace impl_owned
noncomputable def c : Code := bodyOf Tryd.f29
noncomputable def fi : Fin := ⟨Γ0, [(.tmp 2, 43), (.tmp 3, 4)], [[1], [1]], [], [], []⟩
noncomputable def m : Fn [.l] (Fn [.z, .b] Res) := fun _ r1 r2 => ⟨[⟨false, [.ow 1000]⟩, ⟨false, [.bool r2]⟩], [], [⟨[.int .i64], .ints r1, true, 0, none⟩], [], []⟩
noncomputable def b0 : Code := codeAt c [1, 1, 0, 1, 0, 0]
noncomputable def l0s (x2 : List (List Cl)) (x3 : Int) (rec : Int → List Int → O) (k : List Int → O) (R : List Int → Bool → O) (x4 : Int) (x5 : List Int) : O :=
 bif decide (x4 < x3) then (bif decide (0 ≤ x4) && decide (x4 < (x2.length : Int)) then (bif decide (3 ≤ ((x2.getD x4.toNat []).getD 0 (.i 0)).toI) then (bif (((x2.getD x4.toNat []).getD 0 (.i 0)).toI == 5) then (bif (((x2.getD x4.toNat []).getD 1 (.i 0)).toI != IntKind.i64.wrap (x4 - 1)) then R ([] : List Int) false
  else bif (x4 == 0) then R ([] : List Int) false
  else bif decide (0 ≤ ((x2.getD x4.toNat []).getD 1 (.i 0)).toI) && decide (((x2.getD x4.toNat []).getD 1 (.i 0)).toI < (x5.length : Int)) then (bif (((x2.getD x4.toNat []).getD 0 (.i 0)).toI == 5) then (bif decide (0 ≤ ((x2.getD x4.toNat []).getD 1 (.i 0)).toI) && decide (((x2.getD x4.toNat []).getD 1 (.i 0)).toI < (x5.length : Int)) then (bif decide (IntKind.i64.wrap ((IntKind.i64.wrap (x4 - 1)) - (x5.getD ((((x2.getD x4.toNat []).getD 1 (.i 0)).toI).toNat) 0)) < 0) then R ([] : List Int) false
   else bif (((x2.getD x4.toNat []).getD 2 (.i 0)).toI != IntKind.i64.wrap ((IntKind.i64.wrap (x4 - 1)) - (x5.getD ((((x2.getD x4.toNat []).getD 1 (.i 0)).toI).toNat) 0))) then R ([] : List Int) false
   else bif decide (0 ≤ IntKind.i64.wrap ((IntKind.i64.wrap (x4 - 1)) - (x5.getD ((((x2.getD x4.toNat []).getD 1 (.i 0)).toI).toNat) 0))) && decide (IntKind.i64.wrap ((IntKind.i64.wrap (x4 - 1)) - (x5.getD ((((x2.getD x4.toNat []).getD 1 (.i 0)).toI).toNat) 0)) < (x5.length : Int)) then (bif decide ((x5.length + 1) * 8 ≤ 140737488355328) then rec (IntKind.i64.wrap (x4 + 1)) (x5 ++ ([IntKind.i64.wrap ((IntKind.i64.wrap (1 + (x5.getD ((((x2.getD x4.toNat []).getD 1 (.i 0)).toI).toNat) 0))) + (x5.getD ((IntKind.i64.wrap ((IntKind.i64.wrap (x4 - 1)) - (x5.getD ((((x2.getD x4.toNat []).getD 1 (.i 0)).toI).toNat) 0))).toNat) 0))] : List Int))
    else none)
   else none)
   else none)
   else bif decide ((x5.length + 1) * 8 ≤ 140737488355328) then rec (IntKind.i64.wrap (x4 + 1)) (x5 ++ ([IntKind.i64.wrap (1 + (x5.getD ((((x2.getD x4.toNat []).getD 1 (.i 0)).toI).toNat) 0))] : List Int))
   else none)
  else none)
  else bif (((x2.getD x4.toNat []).getD 2 (.i 0)).toI != IntKind.i64.wrap (x4 - 1)) then R ([] : List Int) false
  else bif (x4 == 0) then R ([] : List Int) false
  else bif decide (0 ≤ ((x2.getD x4.toNat []).getD 2 (.i 0)).toI) && decide (((x2.getD x4.toNat []).getD 2 (.i 0)).toI < (x5.length : Int)) then (bif (((x2.getD x4.toNat []).getD 0 (.i 0)).toI == 5) then (bif decide (0 ≤ ((x2.getD x4.toNat []).getD 1 (.i 0)).toI) && decide (((x2.getD x4.toNat []).getD 1 (.i 0)).toI < (x5.length : Int)) then (bif decide (IntKind.i64.wrap ((IntKind.i64.wrap (x4 - 1)) - (x5.getD ((((x2.getD x4.toNat []).getD 1 (.i 0)).toI).toNat) 0)) < 0) then R ([] : List Int) false
   else bif (((x2.getD x4.toNat []).getD 2 (.i 0)).toI != IntKind.i64.wrap ((IntKind.i64.wrap (x4 - 1)) - (x5.getD ((((x2.getD x4.toNat []).getD 1 (.i 0)).toI).toNat) 0))) then R ([] : List Int) false
   else bif decide (0 ≤ IntKind.i64.wrap ((IntKind.i64.wrap (x4 - 1)) - (x5.getD ((((x2.getD x4.toNat []).getD 1 (.i 0)).toI).toNat) 0))) && decide (IntKind.i64.wrap ((IntKind.i64.wrap (x4 - 1)) - (x5.getD ((((x2.getD x4.toNat []).getD 1 (.i 0)).toI).toNat) 0)) < (x5.length : Int)) then (bif decide ((x5.length + 1) * 8 ≤ 140737488355328) then rec (IntKind.i64.wrap (x4 + 1)) (x5 ++ ([IntKind.i64.wrap ((IntKind.i64.wrap (1 + (x5.getD ((((x2.getD x4.toNat []).getD 2 (.i 0)).toI).toNat) 0))) + (x5.getD ((IntKind.i64.wrap ((IntKind.i64.wrap (x4 - 1)) - (x5.getD ((((x2.getD x4.toNat []).getD 1 (.i 0)).toI).toNat) 0))).toNat) 0))] : List Int))
    else none)
   else none)
   else none)
   else bif decide ((x5.length + 1) * 8 ≤ 140737488355328) then rec (IntKind.i64.wrap (x4 + 1)) (x5 ++ ([IntKind.i64.wrap (1 + (x5.getD ((((x2.getD x4.toNat []).getD 2 (.i 0)).toI).toNat) 0))] : List Int))
   else none)
  else none)
  else bif (((x2.getD x4.toNat []).getD 0 (.i 0)).toI == 5) then (bif decide (0 ≤ ((x2.getD x4.toNat []).getD 1 (.i 0)).toI) && decide (((x2.getD x4.toNat []).getD 1 (.i 0)).toI < (x5.length : Int)) then (bif decide (IntKind.i64.wrap ((IntKind.i64.wrap (x4 - 1)) - (x5.getD ((((x2.getD x4.toNat []).getD 1 (.i 0)).toI).toNat) 0)) < 0) then R ([] : List Int) false
   else bif (((x2.getD x4.toNat []).getD 2 (.i 0)).toI != IntKind.i64.wrap ((IntKind.i64.wrap (x4 - 1)) - (x5.getD ((((x2.getD x4.toNat []).getD 1 (.i 0)).toI).toNat) 0))) then R ([] : List Int) false
   else bif decide (0 ≤ IntKind.i64.wrap ((IntKind.i64.wrap (x4 - 1)) - (x5.getD ((((x2.getD x4.toNat []).getD 1 (.i 0)).toI).toNat) 0))) && decide (IntKind.i64.wrap ((IntKind.i64.wrap (x4 - 1)) - (x5.getD ((((x2.getD x4.toNat []).getD 1 (.i 0)).toI).toNat) 0)) < (x5.length : Int)) then (bif decide ((x5.length + 1) * 8 ≤ 140737488355328) then rec (IntKind.i64.wrap (x4 + 1)) (x5 ++ ([IntKind.i64.wrap (1 + (x5.getD ((IntKind.i64.wrap ((IntKind.i64.wrap (x4 - 1)) - (x5.getD ((((x2.getD x4.toNat []).getD 1 (.i 0)).toI).toNat) 0))).toNat) 0))] : List Int))
    else none)
   else none)
   else none)
  else bif decide ((x5.length + 1) * 8 ≤ 140737488355328) then rec (IntKind.i64.wrap (x4 + 1)) (x5 ++ ([1] : List Int))
  else none)
  else none)
 else k x5
noncomputable def l0 (x2 : List (List Cl)) (x3 : Int) (k : List Int → O) (R : List Int → Bool → O) : Nat → Int → List Int → O
 | 0, _, _ => none
 | n + 1, x4, x5 => l0s x2 x3 (l0 x2 x3 k R n) k R x4 x5
noncomputable def o0 : Fn [.l, .i, .z] St := fun _ _ y1 => ⟨mkT 73 [(4, one (.ow 3056))], [(3056, ⟨[.int .i64], .ints y1, true, 0, none⟩)], []⟩
noncomputable def n0 (K : Res → O) := ent 0 [.l, .i] [.i, .z] [0, 1, 2, 3] (fun x2 x3 x4 x5 => ⟨mkT 73 [(4, one (.ow 3056)), (11, one (.tr 0 1 e_0 (.cells x2))), (12, oI x3), (13, oI x4)], [(3056, ⟨[.int .i64], .ints x5, true, 0, none⟩)], []⟩) fun x2 x3 k => l0 x2 x3 (fun y1 => k (o0 x2 x3 y1)) (fun r1 r2 => K (m [] r1 r2))
noncomputable def X (K : Res → O) : Ctx := { cx0 [] fi true K with own := [(1, 0, 0, [.int .i64])], cin := [(0, ⟨[4, 11, 12, 13], [(3056, 3056), (37912, 3056)], [], [], [], []⟩)], cout := [(0, ⟨[4], [(3056, 3056)], [], [], [], []⟩)], lp := lpOf [n0 K] }
noncomputable def b (a1 : List (List Cl)) (R : List Int → Bool → O) : O :=
 l0 a1 (a1.length : Int) (fun y6 =>
 R y6 true) R fuel 0 ([] : List Int)
noncomputable def g := seal_ b
theorem e : g = b := seal_eq b
noncomputable def a : Fn [.l] St := fun a1 => argSt [.v ⟨true, [.tr 0 1 e_0 (.cells a1)]⟩] [] []
noncomputable def con := conOf 29 [.l] [.z, .b] a g m
theorem hx (K : Res → O) : CtxOk Pg Γ0 byt0 eqs0 (X K) [] := ctx_of (X := X) .nil (by kernel_rfl) K
theorem w0 (K : Res → O) : LpSound Pg (X K) 0 b0 := lp_fin (L := [n0 K]) laid (hx K) .nil (.cons (ent_ok (fun x2 x3 k r => l0s x2 x3 r (fun y1 => k (o0 x2 x3 y1)) (fun r1 r2 => K (m [] r1 r2))) (by kernel_rfl) (by kernel_rfl) (by kernel_rfl) (by kernel_rfl) (by kernel_rfl)) .nil) (by kernel_rfl) (by kernel_rfl)
theorem ok : Con Pg con := con_fin (fn := Tryd.f29) (c := c) (Fi := fi) (X := X) laid hx (fun K => (.cons (w0 K) .nil)) e (by kernel_rfl) (by kernel_rfl) (by kernel_rfl) (by kernel_rfl)
end impl_owned
namespace impl_TreeOk
noncomputable def c : Code := bodyOf Tryd.f14
noncomputable def fi : Fin := ⟨Γ0, [(.tmp 2, 4)], [[1]], [], [], []⟩
noncomputable def m : Fn [.l] (Fn [.b] Res) := fun _ r1 => ⟨[⟨false, [.bool r1]⟩], [], [], [], []⟩
noncomputable def X (K : Res → O) : Ctx := cx0 [impl_within.con, slices_ContainsFunc_impl_Expr_impl_Expr.con, impl_owned.con] fi true K
noncomputable def b (a1 : List (List Cl)) (R : Bool → O) : O :=
 impl_within.g (a1.length : Int) 1 60 fun r2 =>
 bif !r2 then R false
 else (slices_ContainsFunc_impl_Expr_impl_Expr.g a1 fun r3 =>
 bif r3 then R false
 else (impl_owned.g a1 fun r4 r5 =>
 bif r5 then (bif decide (0 ≤ IntKind.i64.wrap ((a1.length : Int) - 1)) && decide (IntKind.i64.wrap ((a1.length : Int) - 1) < (r4.length : Int)) then R (r4.getD ((IntKind.i64.wrap ((a1.length : Int) - 1)).toNat) 0 == (a1.length : Int))
  else none)
 else R false))
noncomputable def g := seal_ b
theorem e : g = b := seal_eq b
noncomputable def a : Fn [.l] St := fun a1 => argSt [.v ⟨true, [.tr 0 1 e_0 (.cells a1)]⟩] [] []
noncomputable def con := conOf 14 [.l] [.b] a g m
theorem ok : Con Pg con := con_fin (fn := Tryd.f14) (c := c) (Fi := fi) (X := X) laid (ctx_of (.cons impl_within.ok (.cons slices_ContainsFunc_impl_Expr_impl_Expr.ok (.cons impl_owned.ok .nil))) (by kernel_rfl)) (fun K => .nil) e (by kernel_rfl) (by kernel_rfl) (by kernel_rfl) (by kernel_rfl)
end impl_TreeOk
namespace impl_signToken
noncomputable def c : Code := bodyOf Tryd.f56
noncomputable def fi : Fin := ⟨Γ0, [(.cell 2 55, 55)], [[1, 1]], [], [], []⟩
noncomputable def m : Fn [.i] (Fn [.i] Res) := fun a1 r1 => ⟨[⟨true, [cI r1, cI a1]⟩], [], [], [], []⟩
noncomputable def X (K : Res → O) : Ctx := cx0 [] fi true K
noncomputable def b (a1 : Int) (R : Int → O) : O :=
 R 3
noncomputable def g := seal_ b
theorem e : g = b := seal_eq b
noncomputable def a : Fn [.i] St := fun a1 => argSt [oI a1] [] []
noncomputable def con := conOf 56 [.i] [.i] a g m
theorem ok : Con Pg con := con_fin (fn := Tryd.f56) (c := c) (Fi := fi) (X := X) laid (ctx_of .nil (by kernel_rfl)) (fun K => .nil) e (by kernel_rfl) (by kernel_rfl) (by kernel_rfl) (by kernel_rfl)
end impl_signToken
namespace impl_funTokens
noncomputable def c : Code := bodyOf Tryd.f33
noncomputable def fi : Fin := ⟨Γ0, [(.tmp 2, 36)], [[1]], [], [], []⟩
noncomputable def m : Fn [.i, .i, .i] (Fn [.l] Res) := fun _ _ _ r1 => ⟨[⟨false, [.ow 1000]⟩], [], [⟨e_1, .cells r1, true, 0, none⟩], [], []⟩
noncomputable def X (K : Res → O) : Ctx := cx0 [impl_signToken.con] fi true K
noncomputable def b (a1 a2 a3 : Int) (R : List (List Cl) → O) : O :=
 bif (a2 == 0) then (impl_signToken.g a1 fun r4 =>
  R ([[.i r4, .i a1]] : List (List Cl)))
 else bif (a2 == 111) then (impl_signToken.g 111 fun r5 =>
  impl_signToken.g a1 fun r6 =>
  R ([[.i r5, .i 111], [.i r6, .i a1]] : List (List Cl)))
 else bif (a2 == 46) then (impl_signToken.g a1 fun r7 =>
  impl_signToken.g 46 fun r8 =>
  impl_signToken.g a3 fun r9 =>
  R ([[.i r7, .i a1], [.i r8, .i 46], [.i r9, .i a3]] : List (List Cl)))
 else (impl_signToken.g a1 fun r10 =>
 impl_signToken.g a2 fun r11 =>
 R ([[.i r10, .i a1], [.i r11, .i a2]] : List (List Cl)))
noncomputable def g := seal_ b
theorem e : g = b := seal_eq b
noncomputable def a : Fn [.i, .i, .i] St := fun a1 a2 a3 => argSt [.v ⟨true, [cI a1, cI a2, cI a3]⟩] [] []
noncomputable def con := conOf 33 [.i, .i, .i] [.l] a g m
theorem ok : Con Pg con := con_fin (fn := Tryd.f33) (c := c) (Fi := fi) (X := X) laid (ctx_of (.cons impl_signToken.ok .nil) (by kernel_rfl)) (fun K => .nil) e (by kernel_rfl) (by kernel_rfl) (by kernel_rfl) (by kernel_rfl)
end impl_funTokens
namespace slices_Grow_impl_Token_impl_Token
noncomputable def c : Code := bodyOf Tryd.f57
noncomputable def fi : Fin := ⟨Γ0, [(.tmp 4, 36)], [[1]], [], [], []⟩
noncomputable def m : Fn [.i] (Fn [.l] Res) := fun _ r1 => ⟨[⟨false, [.ow 1000]⟩], [], [⟨e_1, .cells r1, true, 0, none⟩], [], []⟩
noncomputable def X (K : Res → O) : Ctx := { cx0 [] fi true K with cut := [(5, 8)] }
noncomputable def b (a1 : Int) (R : List (List Cl) → O) : O :=
 bif decide (a1 < 0) then none
 else bif decide (0 < IntKind.i64.wrap (a1 - 0)) then (bif decide (0 ≤ IntKind.i64.wrap (a1 - 0)) && decide (IntKind.i64.wrap (a1 - 0) * 16 ≤ 140737488355328) then (bif decide (0 ≤ ((List.replicate ((IntKind.i64.wrap (a1 - 0)).toNat) ([.i 0, .i 0] : List Cl)).length : Int)) then R ((List.replicate ((IntKind.i64.wrap (a1 - 0)).toNat) ([.i 0, .i 0] : List Cl)).take 0)
  else none)
  else none)
 else R ([] : List (List Cl))
noncomputable def g := seal_ b
theorem e : g = b := seal_eq b
noncomputable def a : Fn [.i] St := fun a1 => argSt [one (.nil), oI a1] [] []
noncomputable def con := conOf 57 [.i] [.l] a g m
theorem ok : Con Pg con := con_fin (fn := Tryd.f57) (c := c) (Fi := fi) (X := X) laid (ctx_of .nil (by kernel_rfl)) (fun K => .nil) e (by kernel_rfl) (by kernel_rfl) (by kernel_rfl) (by kernel_rfl)
end slices_Grow_impl_Token_impl_Token
namespace slices_Concat_impl_Token_impl_Token
noncomputable def c : Code := bodyOf Tryd.f34
noncomputable def fi : Fin := ⟨Γ0, [(.tmp 2, 36)], [[1]], [], [], []⟩
noncomputable def m : Fn [.l, .l, .l] (Fn [.l] Res) := fun _ _ _ r1 => ⟨[⟨false, [.ow 1000]⟩], [], [⟨e_1, .cells r1, true, 0, none⟩], [], []⟩
noncomputable def b0 : Code := codeAt c [1, 1, 0, 1, 0, 0]
noncomputable def b2 : Code := codeAt c [1, 1, 1, 1, 0, 1, 0, 0]
noncomputable def l0s (x4 x5 x6 x8 x9 x10 : List (List Cl)) (x11 : Int) (rec : Int → Int → O) (k : Int → O) (x7 x12 : Int) : O :=
 bif decide (x12 < x11) then (bif decide (x12 = 0) then (bif decide (IntKind.i64.wrap (x7 + (x8.length : Int)) < 0) then none
  else rec (IntKind.i64.wrap (x7 + (x8.length : Int))) (IntKind.i64.wrap (x12 + 1)))
  else bif decide (x12 = 1) then (bif decide (IntKind.i64.wrap (x7 + (x9.length : Int)) < 0) then none
   else rec (IntKind.i64.wrap (x7 + (x9.length : Int))) (IntKind.i64.wrap (x12 + 1)))
  else bif decide (x12 = 2) then (bif decide (IntKind.i64.wrap (x7 + (x10.length : Int)) < 0) then none
   else rec (IntKind.i64.wrap (x7 + (x10.length : Int))) (IntKind.i64.wrap (x12 + 1)))
  else none)
 else k x7
noncomputable def l0 (x4 x5 x6 x8 x9 x10 : List (List Cl)) (x11 : Int) (k : Int → O) : Nat → Int → Int → O
 | 0, _, _ => none
 | n + 1, x7, x12 => l0s x4 x5 x6 x8 x9 x10 x11 (l0 x4 x5 x6 x8 x9 x10 x11 k n) k x7 x12
noncomputable def o0 : Fn [.l, .l, .l, .l, .l, .l, .i, .i] St := fun x4 x5 x6 _ _ _ _ y4 => ⟨mkT 36 [(0, .bn [.tr 0 1 e_1 (.cells x4), .tr 0 1 e_1 (.cells x5), .tr 0 1 e_1 (.cells x6)]), (3, oI y4)], [], []⟩
noncomputable def n0 (K : Res → O) := ent 0 [.l, .l, .l, .l, .l, .l, .i] [.i, .i] [0, 1, 2, 4, 5, 6, 7, 3, 8] (fun x4 x5 x6 x8 x9 x10 x11 x7 x12 => ⟨mkT 36 [(0, .bn [.tr 0 1 e_1 (.cells x4), .tr 0 1 e_1 (.cells x5), .tr 0 1 e_1 (.cells x6)]), (3, oI x7), (9, .bn [.tr 0 1 e_1 (.cells x8), .tr 0 1 e_1 (.cells x9), .tr 0 1 e_1 (.cells x10)]), (10, oI x11), (11, oI x12)], [], []⟩) fun x4 x5 x6 x8 x9 x10 x11 k => l0 x4 x5 x6 x8 x9 x10 x11 (fun y4 => k (o0 x4 x5 x6 x8 x9 x10 x11 y4))
noncomputable def l2s (x15 x16 x17 : List (List Cl)) (x18 : Int) (rec : Int → List (List Cl) → O) (k : List (List Cl) → O) (x19 : Int) (x20 : List (List Cl)) : O :=
 bif decide (x19 < x18) then (bif decide (x19 = 0) then (bif decide ((x20.length + x15.length) * 16 ≤ 140737488355328) then rec (IntKind.i64.wrap (x19 + 1)) (x20 ++ x15)
  else none)
  else bif decide (x19 = 1) then (bif decide ((x20.length + x16.length) * 16 ≤ 140737488355328) then rec (IntKind.i64.wrap (x19 + 1)) (x20 ++ x16)
   else none)
  else bif decide (x19 = 2) then (bif decide ((x20.length + x17.length) * 16 ≤ 140737488355328) then rec (IntKind.i64.wrap (x19 + 1)) (x20 ++ x17)
   else none)
  else none)
 else k x20
noncomputable def l2 (x15 x16 x17 : List (List Cl)) (x18 : Int) (k : List (List Cl) → O) : Nat → Int → List (List Cl) → O
 | 0, _, _ => none
 | n + 1, x19, x20 => l2s x15 x16 x17 x18 (l2 x15 x16 x17 x18 k n) k x19 x20
noncomputable def o2 : Fn [.l, .l, .l, .i, .l] St := fun _ _ _ _ y1 => ⟨mkT 36 [(6, one (.ow 19449))], [(19449, ⟨e_1, .cells y1, true, 0, none⟩)], []⟩
noncomputable def n2 (K : Res → O) := ent 2 [.l, .l, .l, .i] [.i, .l] [0, 1, 2, 3, 4, 5] (fun x15 x16 x17 x18 x19 x20 => ⟨mkT 36 [(6, one (.ow 19449)), (25, .bn [.tr 0 1 e_1 (.cells x15), .tr 0 1 e_1 (.cells x16), .tr 0 1 e_1 (.cells x17)]), (26, oI x18), (27, oI x19)], [(19449, ⟨e_1, .cells x20, true, 0, none⟩)], []⟩) fun x15 x16 x17 x18 k => l2 x15 x16 x17 x18 (fun y1 => k (o2 x15 x16 x17 x18 y1))
noncomputable def X (K : Res → O) : Ctx := { cx0 [slices_Grow_impl_Token_impl_Token.con] fi true K with bun := [(9, 1)], cin := [(0, ⟨[0, 3, 9, 10, 11], [], [], [], [], []⟩), (2, ⟨[6, 25, 26, 27], [(19449, 19449), (27656, 19449)], [], [], [], []⟩)], cout := [(0, ⟨[0, 3], [], [], [], [], []⟩), (2, ⟨[6], [(19449, 19449)], [], [], [], []⟩)], lp := lpOf [n0 K, n2 K] }
noncomputable def b (a1 a2 a3 : List (List Cl)) (R : List (List Cl) → O) : O :=
 l0 a1 a2 a3 a1 a2 a3 3 (fun y13 =>
 slices_Grow_impl_Token_impl_Token.g y13 fun r14 =>
 l2 a1 a2 a3 3 (fun y21 =>
 R y21) fuel 0 r14) fuel 0 0
noncomputable def g := seal_ b
theorem e : g = b := seal_eq b
noncomputable def a : Fn [.l, .l, .l] St := fun a1 a2 a3 => argSt [.bn [.tr 0 1 e_1 (.cells a1), .tr 0 1 e_1 (.cells a2), .tr 0 1 e_1 (.cells a3)]] [] []
noncomputable def con := conOf 34 [.l, .l, .l] [.l] a g m
theorem hx (K : Res → O) : CtxOk Pg Γ0 byt0 eqs0 (X K) [slices_Grow_impl_Token_impl_Token.con] := ctx_of (X := X) (.cons slices_Grow_impl_Token_impl_Token.ok .nil) (by kernel_rfl) K
theorem w2 (K : Res → O) : LpSound Pg (X K) 2 b2 := lp_fin (L := [n0 K, n2 K]) laid (hx K) .nil (.skip rfl (.cons (ent_ok (fun x15 x16 x17 x18 k r => l2s x15 x16 x17 x18 r (fun y1 => k (o2 x15 x16 x17 x18 y1))) (by kernel_rfl) (by kernel_rfl) (by kernel_rfl) (by kernel_rfl) (by kernel_rfl)) .nil)) (by kernel_rfl) (by kernel_rfl)
theorem w0 (K : Res → O) : LpSound Pg (X K) 0 b0 := lp_fin (L := [n0 K, n2 K]) laid (hx K) .nil (.cons (ent_ok (fun x4 x5 x6 x8 x9 x10 x11 k r => l0s x4 x5 x6 x8 x9 x10 x11 r (fun y4 => k (o0 x4 x5 x6 x8 x9 x10 x11 y4))) (by kernel_rfl) (by kernel_rfl) (by kernel_rfl) (by kernel_rfl) (by kernel_rfl)) (.skip rfl .nil)) (by kernel_rfl) (by kernel_rfl)
theorem ok : Con Pg con := con_fin (fn := Tryd.f34) (c := c) (Fi := fi) (X := X) laid hx (fun K => (.cons (w0 K) (.cons (w2 K) .nil))) e (by kernel_rfl) (by kernel_rfl) (by kernel_rfl) (by kernel_rfl)
end slices_Concat_impl_Token_impl_Token
-- GROUP impl_tokensOf
namespace impl_tokensOf
noncomputable def c : Code := bodyOf Tryd.f16
noncomputable def fi : Fin := ⟨Γ0, [(.tmp 4, 36)], [[1]], [], [], []⟩
noncomputable def m : Fn [.l, .i] (Fn [.l] Res) := fun _ _ r1 => ⟨[⟨false, [.ow 1000]⟩], [], [⟨e_1, .cells r1, true, 0, none⟩], [], []⟩
noncomputable def b1 : Code := codeAt c [1, 1, 0, 1, 0, 1, 0, 1, 0, 1, 0, 0]
noncomputable abbrev T : Type := List (List Cl) → Int → (List (List Cl) → O) → O
noncomputable def a : Fn [.l, .i] St := fun a1 a2 => argSt [.v ⟨true, [.tr 0 1 e_0 (.cells a1)]⟩, oI a2] [] []
noncomputable def conz (h : T) := conOf 16 [.l, .i] [.l] a h m
end impl_tokensOf
noncomputable abbrev Z_impl_tokensOf : Type := impl_tokensOf.T
noncomputable def Gd_impl_tokensOf (z : Z_impl_tokensOf) : Prop := Con Pg (impl_tokensOf.conz z)
namespace impl_tokensOf
noncomputable def l1s (x3 : List Int) (x4 : Int) (rec : Int → List (List Cl) → O) (k : List (List Cl) → O) (x5 : Int) (x6 : List (List Cl)) : O :=
 bif decide (x5 < x4) then (bif decide (0 ≤ x5) && decide (x5 < (x3.length : Int)) then (bif decide ((x6.length + 1) * 16 ≤ 140737488355328) then rec (IntKind.i64.wrap (x5 + 1)) (x6 ++ ([[.i 1, .i (x3.getD x5.toNat 0)]] : List (List Cl)))
  else none)
  else none)
 else k x6
noncomputable def l1 (x3 : List Int) (x4 : Int) (k : List (List Cl) → O) : Nat → Int → List (List Cl) → O
 | 0, _, _ => none
 | n + 1, x5, x6 => l1s x3 x4 (l1 x3 x4 k n) k x5 x6
noncomputable def o1 : Fn [.z, .i, .l] St := fun _ _ y1 => ⟨mkT 96 [(6, one (.ow 9200))], [(9200, ⟨e_1, .cells y1, true, 0, none⟩)], []⟩
noncomputable def n1 (K : Res → O) := ent 1 [.z, .i] [.i, .l] [0, 1, 2, 3] (fun x3 x4 x5 x6 => ⟨mkT 96 [(6, one (.ow 9200)), (21, one (.tr 1 2 [.int .i64] (.ints x3))), (22, oI x4), (23, oI x5)], [(9200, ⟨e_1, .cells x6, true, 0, none⟩)], []⟩) fun x3 x4 k => l1 x3 x4 (fun y1 => k (o1 x3 x4 y1))
noncomputable def X (z : Z_impl_tokensOf) (K : Res → O) : Ctx := { cx0 [impl_tokensOf.conz z, impl_funTokens.con, slices_Concat_impl_Token_impl_Token.con] fi true K with bun := [(20, 5), (21, 8)], own := [(4, 0, 0, e_1)], cin := [(1, ⟨[6, 21, 22, 23], [(9200, 9200), (17448, 9200)], [], [], [], []⟩)], cout := [(1, ⟨[6], [(9200, 9200)], [], [], [], []⟩)], lp := lpOf [n1 K] }
noncomputable def g (z : Z_impl_tokensOf) (a1 : List (List Cl)) (a2 : Int) (R : List (List Cl) → O) : O :=
 bif decide (0 ≤ a2) && decide (a2 < (a1.length : Int)) then (bif (((a1.getD a2.toNat []).getD 0 (.i 0)).toI == 1) then (l1 (((a1.getD a2.toNat []).getD 6 (.i 0)).toL) ((((a1.getD a2.toNat []).getD 6 (.i 0)).toL).length : Int) (fun y7 =>
  R y7) fuel 0 ([] : List (List Cl)))
  else bif (((a1.getD a2.toNat []).getD 0 (.i 0)).toI == 2) then R ([[.i 2, .i (((a1.getD a2.toNat []).getD 1 (.i 0)).toI)]] : List (List Cl))
  else bif (((a1.getD a2.toNat []).getD 0 (.i 0)).toI == 3) then (z a1 (((a1.getD a2.toNat []).getD 2 (.i 0)).toI) fun r8 =>
   bif decide ((2 + r8.length) * 16 ≤ 140737488355328) then R (([[.i 2, .i (((a1.getD a2.toNat []).getD 1 (.i 0)).toI)], [.i 6, .i 0]] : List (List Cl)) ++ r8)
   else none)
  else bif (((a1.getD a2.toNat []).getD 0 (.i 0)).toI == 4) then (impl_funTokens.g (((a1.getD a2.toNat []).getD 3 (.i 0)).toI) (((a1.getD a2.toNat []).getD 4 (.i 0)).toI) (((a1.getD a2.toNat []).getD 5 (.i 0)).toI) fun r9 =>
   z a1 (((a1.getD a2.toNat []).getD 2 (.i 0)).toI) fun r10 =>
   bif decide ((r9.length + r10.length) * 16 ≤ 140737488355328) then R (r9 ++ r10)
   else none)
  else (z a1 (((a1.getD a2.toNat []).getD 1 (.i 0)).toI) fun r11 =>
  bif decide (0 ≤ ((a1.getD a2.toNat []).getD 1 (.i 0)).toI) && decide (((a1.getD a2.toNat []).getD 1 (.i 0)).toI < (a1.length : Int)) then (bif (((a1.getD ((((a1.getD a2.toNat []).getD 1 (.i 0)).toI).toNat) []).getD 0 (.i 0)).toI != 1) then (bif (((a1.getD ((((a1.getD a2.toNat []).getD 1 (.i 0)).toI).toNat) []).getD 0 (.i 0)).toI != 2) then (slices_Concat_impl_Token_impl_Token.g ([[.i 4, .i 0]] : List (List Cl)) r11 ([[.i 5, .i 0]] : List (List Cl)) fun r12 =>
   impl_funTokens.g (((a1.getD a2.toNat []).getD 3 (.i 0)).toI) (((a1.getD a2.toNat []).getD 4 (.i 0)).toI) (((a1.getD a2.toNat []).getD 5 (.i 0)).toI) fun r13 =>
   z a1 (((a1.getD a2.toNat []).getD 2 (.i 0)).toI) fun r14 =>
   slices_Concat_impl_Token_impl_Token.g r12 r13 r14 fun r15 =>
   R r15)
   else (impl_funTokens.g (((a1.getD a2.toNat []).getD 3 (.i 0)).toI) (((a1.getD a2.toNat []).getD 4 (.i 0)).toI) (((a1.getD a2.toNat []).getD 5 (.i 0)).toI) fun r16 =>
   z a1 (((a1.getD a2.toNat []).getD 2 (.i 0)).toI) fun r17 =>
   slices_Concat_impl_Token_impl_Token.g r11 r16 r17 fun r18 =>
   R r18))
   else (impl_funTokens.g (((a1.getD a2.toNat []).getD 3 (.i 0)).toI) (((a1.getD a2.toNat []).getD 4 (.i 0)).toI) (((a1.getD a2.toNat []).getD 5 (.i 0)).toI) fun r19 =>
   z a1 (((a1.getD a2.toNat []).getD 2 (.i 0)).toI) fun r20 =>
   slices_Concat_impl_Token_impl_Token.g r11 r19 r20 fun r21 =>
   R r21))
  else none))
 else none
theorem hx (z : Z_impl_tokensOf) (hz : Gd_impl_tokensOf z) (K : Res → O) : CtxOk Pg Γ0 byt0 eqs0 ((X z) K) [impl_tokensOf.conz z, impl_funTokens.con, slices_Concat_impl_Token_impl_Token.con] := ctx_of (X := (X z)) (.cons hz (.cons impl_funTokens.ok (.cons slices_Concat_impl_Token_impl_Token.ok .nil))) (by kernel_rfl) K
theorem w1 (z : Z_impl_tokensOf) (hz : Gd_impl_tokensOf z) (K : Res → O) : LpSound Pg ((X z) K) 1 b1 := lp_fin (L := [n1 K]) laid ((hx z hz) K) .nil (.cons (ent_ok (fun x3 x4 k r => l1s x3 x4 r (fun y1 => k (o1 x3 x4 y1))) (by kernel_rfl) (by kernel_rfl) (by kernel_rfl) (by kernel_rfl) (by kernel_rfl)) .nil) (by kernel_rfl) (by kernel_rfl)
theorem ok (z : Z_impl_tokensOf) (hz : Gd_impl_tokensOf z) : Con Pg (conz (g z)) := con_fin (fn := Tryd.f16) (c := c) (Fi := fi) (X := (X z)) laid (hx z hz) (fun K => (.cons ((w1 z hz) K) .nil)) rfl (by kernel_rfl) (by kernel_rfl) (by kernel_rfl) (by kernel_rfl)
end impl_tokensOf
noncomputable def rec_impl_tokensOf : Nat → Z_impl_tokensOf
 | 0 => (fun _ _ _ => none)
 | n + 1 => impl_tokensOf.g (rec_impl_tokensOf n)
theorem good_impl_tokensOf : ∀ n, Gd_impl_tokensOf (rec_impl_tokensOf n)
 | 0 => con_cst rfl
 | n + 1 => impl_tokensOf.ok _ (good_impl_tokensOf n)
namespace impl_tokensOf
noncomputable def gn (n : Nat) (a1 : List (List Cl)) (a2 : Int) (R : List (List Cl) → O) : O := (rec_impl_tokensOf n) a1 a2 R
noncomputable def G : T := seal_ (gn fuel)
theorem Ge : G = gn fuel := seal_eq _
theorem gn_succ (n : Nat) (a1 : List (List Cl)) (a2 : Int) (R : List (List Cl) → O) : gn (n + 1) a1 a2 R = g (rec_impl_tokensOf n) a1 a2 R := rfl
noncomputable def con := conz G
theorem okG : Con Pg con := by
 unfold con; rw [Ge]; exact (good_impl_tokensOf fuel)
end impl_tokensOf
-- END GROUP
namespace impl_TokenOk
noncomputable def c : Code := bodyOf Tryd.f51
noncomputable def fi : Fin := ⟨Γ0, [(.tmp 2, 4)], [[1]], [], [], []⟩
noncomputable def m : Fn [.i, .i] (Fn [.b] Res) := fun _ _ r1 => ⟨[⟨false, [.bool r1]⟩], [], [], [], []⟩
noncomputable def X (K : Res → O) : Ctx := cx0 [impl_NumOk.con, impl_within.con, impl_hasSign.con] fi true K
noncomputable def b (a1 a2 : Int) (R : Bool → O) : O :=
 bif (a1 == 1) then (impl_NumOk.g a2 fun r3 =>
  R r3)
 else bif (a1 == 2) then (impl_within.g a2 0 25 fun r4 =>
  R r4)
 else bif (a1 == 3) then (impl_hasSign.g (⟨#[43, 45, 42, 37, 124, 38, 94, 61, 60, 62, 126, 105, 35, 44, 116, 100, 114, 122, 64, 63, 103, 36, 101, 47, 92, 46, 111]⟩ : ByteArray) a2 fun r5 =>
  R r5)
 else bif (a1 == 4) then R (a2 == 0)
 else bif (a1 == 5) then R (a2 == 0)
 else bif (a1 == 6) then R (a2 == 0)
 else R false
noncomputable def g := seal_ b
theorem e : g = b := seal_eq b
noncomputable def a : Fn [.i, .i] St := fun a1 a2 => argSt [.v ⟨true, [cI a1, cI a2]⟩] [] []
noncomputable def con := conOf 51 [.i, .i] [.b] a g m
theorem ok : Con Pg con := con_fin (fn := Tryd.f51) (c := c) (Fi := fi) (X := X) laid (ctx_of (.cons impl_NumOk.ok (.cons impl_within.ok (.cons impl_hasSign.ok .nil))) (by kernel_rfl)) (fun K => .nil) e (by kernel_rfl) (by kernel_rfl) (by kernel_rfl) (by kernel_rfl)
end impl_TokenOk
namespace impl_tokensOk_1
noncomputable def c : Code := bodyOf Tryd.f50
noncomputable def fi : Fin := ⟨Γ0, [(.tmp 2, 4)], [[1]], [], [], []⟩
noncomputable def m : Fn [.i, .i] (Fn [.b] Res) := fun _ _ r1 => ⟨[⟨false, [.bool r1]⟩], [], [], [], []⟩
noncomputable def X (K : Res → O) : Ctx := cx0 [impl_TokenOk.con] fi true K
noncomputable def b (a1 a2 : Int) (R : Bool → O) : O :=
 impl_TokenOk.g a1 a2 fun r3 =>
 R (!r3)
noncomputable def g := seal_ b
theorem e : g = b := seal_eq b
noncomputable def a : Fn [.i, .i] St := fun a1 a2 => argSt [.v ⟨true, [cI a1, cI a2]⟩] [] []
noncomputable def con := conOf 50 [.i, .i] [.b] a g m
theorem ok : Con Pg con := con_fin (fn := Tryd.f50) (c := c) (Fi := fi) (X := X) laid (ctx_of (.cons impl_TokenOk.ok .nil) (by kernel_rfl)) (fun K => .nil) e (by kernel_rfl) (by kernel_rfl) (by kernel_rfl) (by kernel_rfl)
end impl_tokensOk_1
namespace slices_IndexFunc_impl_Token_impl_Token
noncomputable def c : Code := bodyOf Tryd.f70
noncomputable def fi : Fin := ⟨Γ0, [(.tmp 4, 3)], [[1]], [], [], []⟩
noncomputable def m : Fn [.l] (Fn [.i] Res) := fun _ r1 => ⟨[⟨false, [cI r1]⟩], [], [], [], []⟩
noncomputable def b0 : Code := codeAt c [1, 0, 1, 0, 0]
noncomputable def l0s (x2 : List (List Cl)) (x3 : Int) (rec : Int → O) (k : O) (R : Int → O) (x4 : Int) : O :=
 bif decide (x4 < x3) then (bif decide (0 ≤ x4) && decide (x4 < (x2.length : Int)) then (impl_tokensOk_1.g (((x2.getD x4.toNat []).getD 0 (.i 0)).toI) (((x2.getD x4.toNat []).getD 1 (.i 0)).toI) fun r5 =>
  bif r5 then R x4
  else rec (IntKind.i64.wrap (x4 + 1)))
  else none)
 else k
noncomputable def l0 (x2 : List (List Cl)) (x3 : Int) (k : O) (R : Int → O) : Nat → Int → O
 | 0, _ => none
 | n + 1, x4 => l0s x2 x3 (l0 x2 x3 k R n) k R x4
noncomputable def o0 : Fn [.l, .i] St := fun _ _ => ⟨mkT 19 [], [], []⟩
noncomputable def n0 (K : Res → O) := ent 0 [.l, .i] [.i] [0, 1, 2] (fun x2 x3 x4 => ⟨mkT 19 [(0, one (.tr 0 1 e_1 (.cells x2))), (1, one (.fn 50 [])), (7, oI x3), (8, oI x4)], [], []⟩) fun x2 x3 k => l0 x2 x3 (k (o0 x2 x3)) (fun r1 => K (m [] r1))
noncomputable def X (K : Res → O) : Ctx := { cx0 [impl_tokensOk_1.con] fi true K with cin := [(0, ⟨[0, 1, 7, 8], [], [], [], [], []⟩)], cout := [(0, ⟨[], [], [], [], [], []⟩)], lp := lpOf [n0 K] }
noncomputable def b (a1 : List (List Cl)) (R : Int → O) : O :=
 l0 a1 (a1.length : Int) (
 R (-1)) R fuel 0
noncomputable def g := seal_ b
theorem e : g = b := seal_eq b
noncomputable def a : Fn [.l] St := fun a1 => argSt [one (.tr 0 1 e_1 (.cells a1)), one (.fn 50 [])] [] []
noncomputable def con := conOf 70 [.l] [.i] a g m
theorem hx (K : Res → O) : CtxOk Pg Γ0 byt0 eqs0 (X K) [impl_tokensOk_1.con] := ctx_of (X := X) (.cons impl_tokensOk_1.ok .nil) (by kernel_rfl) K
theorem w0 (K : Res → O) : LpSound Pg (X K) 0 b0 := lp_fin (L := [n0 K]) laid (hx K) .nil (.cons (ent_ok (fun x2 x3 k r => l0s x2 x3 r (k (o0 x2 x3)) (fun r1 => K (m [] r1))) (by kernel_rfl) (by kernel_rfl) (by kernel_rfl) (by kernel_rfl) (by kernel_rfl)) .nil) (by kernel_rfl) (by kernel_rfl)
theorem ok : Con Pg con := con_fin (fn := Tryd.f70) (c := c) (Fi := fi) (X := X) laid hx (fun K => (.cons (w0 K) .nil)) e (by kernel_rfl) (by kernel_rfl) (by kernel_rfl) (by kernel_rfl)
end slices_IndexFunc_impl_Token_impl_Token
namespace slices_ContainsFunc_impl_Token_impl_Token
noncomputable def c : Code := bodyOf Tryd.f49
noncomputable def fi : Fin := ⟨Γ0, [(.tmp 4, 4)], [[1]], [], [], []⟩
noncomputable def m : Fn [.l] (Fn [.b] Res) := fun _ r1 => ⟨[⟨false, [.bool r1]⟩], [], [], [], []⟩
noncomputable def X (K : Res → O) : Ctx := cx0 [slices_IndexFunc_impl_Token_impl_Token.con] fi true K
noncomputable def b (a1 : List (List Cl)) (R : Bool → O) : O :=
 slices_IndexFunc_impl_Token_impl_Token.g a1 fun r2 =>
 R (decide (0 ≤ r2))
noncomputable def g := seal_ b
theorem e : g = b := seal_eq b
noncomputable def a : Fn [.l] St := fun a1 => argSt [one (.tr 0 1 e_1 (.cells a1)), one (.fn 50 [])] [] []
noncomputable def con := conOf 49 [.l] [.b] a g m
theorem ok : Con Pg con := con_fin (fn := Tryd.f49) (c := c) (Fi := fi) (X := X) laid (ctx_of (.cons slices_IndexFunc_impl_Token_impl_Token.ok .nil) (by kernel_rfl)) (fun K => .nil) e (by kernel_rfl) (by kernel_rfl) (by kernel_rfl) (by kernel_rfl)
end slices_ContainsFunc_impl_Token_impl_Token
namespace impl_tokensOk
noncomputable def c : Code := bodyOf Tryd.f30
noncomputable def fi : Fin := ⟨Γ0, [(.tmp 2, 4)], [[1]], [], [], []⟩
noncomputable def m : Fn [.l] (Fn [.b] Res) := fun _ r1 => ⟨[⟨false, [.bool r1]⟩], [], [], [], []⟩
noncomputable def X (K : Res → O) : Ctx := cx0 [slices_ContainsFunc_impl_Token_impl_Token.con] fi true K
noncomputable def b (a1 : List (List Cl)) (R : Bool → O) : O :=
 bif decide ((a1.length : Int) ≤ 300) then (slices_ContainsFunc_impl_Token_impl_Token.g a1 fun r2 =>
  R (!r2))
 else R false
noncomputable def g := seal_ b
theorem e : g = b := seal_eq b
noncomputable def a : Fn [.l] St := fun a1 => argSt [one (.tr 0 1 e_1 (.cells a1))] [] []
noncomputable def con := conOf 30 [.l] [.b] a g m
theorem ok : Con Pg con := con_fin (fn := Tryd.f30) (c := c) (Fi := fi) (X := X) laid (ctx_of (.cons slices_ContainsFunc_impl_Token_impl_Token.ok .nil) (by kernel_rfl)) (fun K => .nil) e (by kernel_rfl) (by kernel_rfl) (by kernel_rfl) (by kernel_rfl)
end impl_tokensOk
namespace strconv_Itoa
theorem is : ItoaIs Go.Proofs.Tryd.prog 71 := fun n h0 h1 w ht => Go.Proofs.Tryd.strconv_Itoa n h0 h1 w ht
noncomputable def g (a1 : Int) (R : ByteArray → O) : O := itoaG a1 R
noncomputable def con : FuncId × St × (List Lf → (Res → Option Res) → Option Res) := itoaC 71
theorem ok : Con Go.Proofs.Tryd.prog con := con_itoa (fn := Go.Proofs.Tryd.f71) (by kernel_rfl) (by kernel_rfl) (by kernel_rfl) is
end strconv_Itoa
namespace impl_ShowNum
noncomputable def c : Code := bodyOf Tryd.f52
noncomputable def fi : Fin := ⟨Γ0, [(.tmp 2, 9)], [[1]], [], [], []⟩
noncomputable def m : Fn [.i] (Fn [.s] Res) := fun _ r1 => ⟨[⟨false, [.str r1]⟩], [], [], [], []⟩
noncomputable def X (K : Res → O) : Ctx := cx0 [impl_NumOk.con, strconv_Itoa.con] fi true K
noncomputable def b (a1 : Int) (R : ByteArray → O) : O :=
 impl_NumOk.g a1 fun r2 =>
 bif !r2 then R (⟨#[]⟩ : ByteArray)
 else bif decide (a1 < 0) then (strconv_Itoa.g (IntKind.i64.wrap (0 - a1)) fun r3 =>
  bif decide (1 + r3.size ≤ 9223372036854775807) then R ((⟨#[95]⟩ : ByteArray) ++ r3)
  else none)
 else (strconv_Itoa.g a1 fun r4 =>
 R r4)
noncomputable def g := seal_ b
theorem e : g = b := seal_eq b
noncomputable def a : Fn [.i] St := fun a1 => argSt [oI a1] [] []
noncomputable def con := conOf 52 [.i] [.s] a g m
theorem ok : Con Pg con := con_fin (fn := Tryd.f52) (c := c) (Fi := fi) (X := X) laid (ctx_of (.cons impl_NumOk.ok (.cons strconv_Itoa.ok .nil)) (by kernel_rfl)) (fun K => .nil) e (by kernel_rfl) (by kernel_rfl) (by kernel_rfl) (by kernel_rfl)
end impl_ShowNum
namespace impl_tokenText
noncomputable def c : Code := bodyOf Tryd.f31
noncomputable def fi : Fin := ⟨Γ0, [(.tmp 2, 9)], [[1]], [], [], []⟩
noncomputable def m : Fn [.i, .i] (Fn [.s] Res) := fun _ _ r1 => ⟨[⟨false, [.str r1]⟩], [], [], [], []⟩
noncomputable def X (K : Res → O) : Ctx := cx0 [impl_ShowNum.con] fi true K
noncomputable def b (a1 a2 : Int) (R : ByteArray → O) : O :=
 bif (a1 == 1) then (impl_ShowNum.g a2 fun r3 =>
  R r3)
 else bif (a1 == 2) then R (strOf ([IntKind.u8.wrap (IntKind.i64.wrap (65 + a2))] : List Int))
 else bif (a1 == 3) then R (strOf ([IntKind.u8.wrap a2] : List Int))
 else bif decide (0 ≤ IntKind.i64.wrap (a1 - 4)) && decide (IntKind.i64.wrap (a1 - 4) < 3) then R (([(⟨#[40]⟩ : ByteArray), (⟨#[41]⟩ : ByteArray), (⟨#[58]⟩ : ByteArray)] : List ByteArray).getD ((IntKind.i64.wrap (a1 - 4)).toNat) ByteArray.empty)
 else none
noncomputable def g := seal_ b
theorem e : g = b := seal_eq b
noncomputable def a : Fn [.i, .i] St := fun a1 a2 => argSt [.v ⟨true, [cI a1, cI a2]⟩] [] []
noncomputable def con := conOf 31 [.i, .i] [.s] a g m
theorem ok : Con Pg con := con_fin (fn := Tryd.f31) (c := c) (Fi := fi) (X := X) laid (ctx_of (.cons impl_ShowNum.ok .nil) (by kernel_rfl)) (fun K => .nil) e (by kernel_rfl) (by kernel_rfl) (by kernel_rfl) (by kernel_rfl)
end impl_tokenText
namespace strings_Join
theorem is : JoinIs Go.Proofs.Tryd.prog 32 := ⟨fun a c sep w => Go.Proofs.Tryd.strings_Join_none a c sep w, fun bk o c xs sep w h1 h2 h3 h4 h5 => Go.Proofs.Tryd.strings_Join bk o c xs sep w h1 h2 h3 h4 h5⟩
noncomputable def g (a1 : List ByteArray) (a2 : ByteArray) (R : ByteArray → O) : O := joinG a1 a2 R
noncomputable def con : FuncId × St × (List Lf → (Res → Option Res) → Option Res) := joinC 32 0 1
theorem ok : Con Go.Proofs.Tryd.prog con := con_join 0 1 (fn := Go.Proofs.Tryd.f32) (by kernel_rfl) (by kernel_rfl) (by kernel_rfl) is
end strings_Join
namespace impl_TokenText
noncomputable def c : Code := bodyOf Tryd.f15
noncomputable def fi : Fin := ⟨Γ0, [(.tmp 2, 9)], [[1]], [], [], []⟩
noncomputable def m : Fn [.l] (Fn [.s] Res) := fun _ r1 => ⟨[⟨false, [.str r1]⟩], [], [], [], []⟩
noncomputable def b0 : Code := codeAt c [1, 1, 1, 0, 1, 0, 0]
noncomputable def l0s (x3 : List (List Cl)) (x4 : Int) (rec : Int → List ByteArray → O) (k : List ByteArray → O) (x5 : Int) (x6 : List ByteArray) : O :=
 bif decide (x5 < x4) then (bif decide (0 ≤ x5) && decide (x5 < (x3.length : Int)) then (impl_tokenText.g (((x3.getD x5.toNat []).getD 0 (.i 0)).toI) (((x3.getD x5.toNat []).getD 1 (.i 0)).toI) fun r7 =>
  bif decide ((x6.length + 1) * 16 ≤ 140737488355328) then rec (IntKind.i64.wrap (x5 + 1)) (x6 ++ ([r7] : List ByteArray))
  else none)
  else none)
 else k x6
noncomputable def l0 (x3 : List (List Cl)) (x4 : Int) (k : List ByteArray → O) : Nat → Int → List ByteArray → O
 | 0, _, _ => none
 | n + 1, x5, x6 => l0s x3 x4 (l0 x3 x4 k n) k x5 x6
noncomputable def o0 : Fn [.l, .i, .t] St := fun _ _ y1 => ⟨mkT 23 [(3, one (.ow 7152))], [(7152, ⟨[.str], .strs y1, true, 0, none⟩)], []⟩
noncomputable def n0 (K : Res → O) := ent 0 [.l, .i] [.i, .t] [0, 1, 2, 3] (fun x3 x4 x5 x6 => ⟨mkT 23 [(3, one (.ow 7152)), (9, one (.tr 0 1 e_1 (.cells x3))), (10, oI x4), (11, oI x5)], [(7152, ⟨[.str], .strs x6, true, 0, none⟩)], []⟩) fun x3 x4 k => l0 x3 x4 (fun y1 => k (o0 x3 x4 y1))
noncomputable def X (K : Res → O) : Ctx := { cx0 [impl_tokensOk.con, impl_tokenText.con, strings_Join.con] fi true K with own := [(3, 0, 0, [.str])], cin := [(0, ⟨[3, 9, 10, 11], [(7152, 7152), (15400, 7152)], [], [], [], []⟩)], cout := [(0, ⟨[3], [(7152, 7152)], [], [], [], []⟩)], lp := lpOf [n0 K] }
noncomputable def b (a1 : List (List Cl)) (R : ByteArray → O) : O :=
 impl_tokensOk.g a1 fun r2 =>
 bif !r2 then R (⟨#[]⟩ : ByteArray)
 else (l0 a1 (a1.length : Int) (fun y8 =>
 strings_Join.g y8 (⟨#[32]⟩ : ByteArray) fun r9 =>
 R r9) fuel 0 ([] : List ByteArray))
noncomputable def g := seal_ b
theorem e : g = b := seal_eq b
noncomputable def a : Fn [.l] St := fun a1 => argSt [one (.tr 0 1 e_1 (.cells a1))] [] []
noncomputable def con := conOf 15 [.l] [.s] a g m
theorem hx (K : Res → O) : CtxOk Pg Γ0 byt0 eqs0 (X K) [impl_tokensOk.con, impl_tokenText.con, strings_Join.con] := ctx_of (X := X) (.cons impl_tokensOk.ok (.cons impl_tokenText.ok (.cons strings_Join.ok .nil))) (by kernel_rfl) K
theorem w0 (K : Res → O) : LpSound Pg (X K) 0 b0 := lp_fin (L := [n0 K]) laid (hx K) .nil (.cons (ent_ok (fun x3 x4 k r => l0s x3 x4 r (fun y1 => k (o0 x3 x4 y1))) (by kernel_rfl) (by kernel_rfl) (by kernel_rfl) (by kernel_rfl) (by kernel_rfl)) .nil) (by kernel_rfl) (by kernel_rfl)
theorem ok : Con Pg con := con_fin (fn := Tryd.f15) (c := c) (Fi := fi) (X := X) laid hx (fun K => (.cons (w0 K) .nil)) e (by kernel_rfl) (by kernel_rfl) (by kernel_rfl) (by kernel_rfl)
end impl_TokenText
namespace impl_TreeText
noncomputable def c : Code := bodyOf Tryd.f7
noncomputable def fi : Fin := ⟨Γ0, [(.tmp 2, 9)], [[1]], [], [], []⟩
noncomputable def m : Fn [.l] (Fn [.s] Res) := fun _ r1 => ⟨[⟨false, [.str r1]⟩], [], [], [], []⟩
noncomputable def X (K : Res → O) : Ctx := cx0 [impl_TreeOk.con, impl_tokensOf.con, impl_TokenText.con] fi true K
noncomputable def b (a1 : List (List Cl)) (R : ByteArray → O) : O :=
 impl_TreeOk.g a1 fun r2 =>
 bif !r2 then R (⟨#[]⟩ : ByteArray)
 else (impl_tokensOf.G a1 (IntKind.i64.wrap ((a1.length : Int) - 1)) fun r3 =>
 impl_TokenText.g r3 fun r4 =>
 R r4)
noncomputable def g := seal_ b
theorem e : g = b := seal_eq b
noncomputable def a : Fn [.l] St := fun a1 => argSt [.v ⟨true, [.tr 0 1 e_0 (.cells a1)]⟩] [] []
noncomputable def con := conOf 7 [.l] [.s] a g m
theorem ok : Con Pg con := con_fin (fn := Tryd.f7) (c := c) (Fi := fi) (X := X) laid (ctx_of (.cons impl_TreeOk.ok (.cons impl_tokensOf.okG (.cons impl_TokenText.ok .nil))) (by kernel_rfl)) (fun K => .nil) e (by kernel_rfl) (by kernel_rfl) (by kernel_rfl) (by kernel_rfl)
end impl_TreeText
namespace laws_eqFun
noncomputable def c : Code := bodyOf Tryd.f58
noncomputable def fi : Fin := ⟨Γ0, [(.tmp 4, 4)], [[1]], [], [], []⟩
noncomputable def m : Fn [.i, .i, .i, .i, .i, .i] (Fn [.b] Res) := fun _ _ _ _ _ _ r1 => ⟨[⟨false, [.bool r1]⟩], [], [], [], []⟩
noncomputable def X (K : Res → O) : Ctx := cx0 [] fi true K
noncomputable def b (a1 a2 a3 a4 a5 a6 : Int) (R : Bool → O) : O :=
 bif (a1 != a4) then R false
 else bif (a2 != a5) then R false
 else bif (a3 != a6) then R false
 else R true
noncomputable def g := seal_ b
theorem e : g = b := seal_eq b
noncomputable def a : Fn [.i, .i, .i, .i, .i, .i] St := fun a1 a2 a3 a4 a5 a6 => argSt [.v ⟨true, [cI a1, cI a2, cI a3]⟩, .v ⟨true, [cI a4, cI a5, cI a6]⟩] [] []
noncomputable def con := conOf 58 [.i, .i, .i, .i, .i, .i] [.b] a g m
theorem ok : Con Pg con := con_fin (fn := Tryd.f58) (c := c) (Fi := fi) (X := X) laid (ctx_of .nil (by kernel_rfl)) (fun K => .nil) e (by kernel_rfl) (by kernel_rfl) (by kernel_rfl) (by kernel_rfl)
end laws_eqFun
namespace laws_eqIntS
noncomputable def c : Code := bodyOf Tryd.f59
noncomputable def fi : Fin := ⟨Γ0, [(.tmp 4, 4)], [[1]], [], [], []⟩
noncomputable def m : Fn [.z, .z] (Fn [.b] Res) := fun _ _ r1 => ⟨[⟨false, [.bool r1]⟩], [], [], [], []⟩
noncomputable def b0 : Code := codeAt c [1, 1, 0, 1, 0, 0]
noncomputable def l0s (x3 x4 : List Int) (rec : Int → O) (k : O) (R : Bool → O) (x5 : Int) : O :=
 bif decide (x5 < (x3.length : Int)) then (bif decide (0 ≤ x5) && decide (x5 < (x3.length : Int)) then (bif decide (0 ≤ x5) && decide (x5 < (x4.length : Int)) then (bif (x3.getD x5.toNat 0 != x4.getD x5.toNat 0) then R false
  else rec (IntKind.i64.wrap (x5 + 1)))
  else none)
  else none)
 else k
noncomputable def l0 (x3 x4 : List Int) (k : O) (R : Bool → O) : Nat → Int → O
 | 0, _ => none
 | n + 1, x5 => l0s x3 x4 (l0 x3 x4 k R n) k R x5
noncomputable def o0 : Fn [.z, .z] St := fun _ _ => ⟨mkT 26 [], [], []⟩
noncomputable def n0 (K : Res → O) := ent 0 [.z, .z] [.i] [0, 1, 2] (fun x3 x4 x5 => ⟨mkT 26 [(0, one (.tr 0 1 [.int .i64] (.ints x3))), (1, one (.tr 0 1 [.int .i64] (.ints x4))), (5, oI x5)], [], []⟩) fun x3 x4 k => l0 x3 x4 (k (o0 x3 x4)) (fun r1 => K (m [] [] r1))
noncomputable def X (K : Res → O) : Ctx := { cx0 [] fi true K with cin := [(0, ⟨[0, 1, 5], [], [], [], [], []⟩)], cout := [(0, ⟨[], [], [], [], [], []⟩)], lp := lpOf [n0 K] }
noncomputable def b (a1 a2 : List Int) (R : Bool → O) : O :=
 bif ((a1.length : Int) != (a2.length : Int)) then R false
 else (l0 a1 a2 (
 R true) R fuel 0)
noncomputable def g := seal_ b
theorem e : g = b := seal_eq b
noncomputable def a : Fn [.z, .z] St := fun a1 a2 => argSt [one (.tr 0 1 [.int .i64] (.ints a1)), one (.tr 0 1 [.int .i64] (.ints a2))] [] []
noncomputable def con := conOf 59 [.z, .z] [.b] a g m
theorem hx (K : Res → O) : CtxOk Pg Γ0 byt0 eqs0 (X K) [] := ctx_of (X := X) .nil (by kernel_rfl) K
theorem w0 (K : Res → O) : LpSound Pg (X K) 0 b0 := lp_fin (L := [n0 K]) laid (hx K) .nil (.cons (ent_ok (fun x3 x4 k r => l0s x3 x4 r (k (o0 x3 x4)) (fun r1 => K (m [] [] r1))) (by kernel_rfl) (by kernel_rfl) (by kernel_rfl) (by kernel_rfl) (by kernel_rfl)) .nil) (by kernel_rfl) (by kernel_rfl)
theorem ok : Con Pg con := con_fin (fn := Tryd.f59) (c := c) (Fi := fi) (X := X) laid hx (fun K => (.cons (w0 K) .nil)) e (by kernel_rfl) (by kernel_rfl) (by kernel_rfl) (by kernel_rfl)
end laws_eqIntS
namespace laws_eqExpr
noncomputable def c : Code := bodyOf Tryd.f35
noncomputable def fi : Fin := ⟨Γ0, [(.tmp 4, 4)], [[1]], [], [], []⟩
noncomputable def m : Fn [.i, .i, .i, .i, .i, .i, .z, .i, .i, .i, .i, .i, .i, .z] (Fn [.b] Res) := fun _ _ _ _ _ _ _ _ _ _ _ _ _ _ r1 => ⟨[⟨false, [.bool r1]⟩], [], [], [], []⟩
noncomputable def X (K : Res → O) : Ctx := cx0 [laws_eqFun.con, laws_eqIntS.con] fi true K
noncomputable def b (a1 a2 a3 a4 a5 a6 : Int) (a7 : List Int) (a8 a9 a10 a11 a12 a13 : Int) (a14 : List Int) (R : Bool → O) : O :=
 bif (a1 != a8) then R false
 else bif (a2 != a9) then R false
 else bif (a3 != a10) then R false
 else (laws_eqFun.g a4 a5 a6 a11 a12 a13 fun r15 =>
 bif !r15 then R false
 else (laws_eqIntS.g a7 a14 fun r16 =>
 bif !r16 then R false
 else R true))
noncomputable def g := seal_ b
theorem e : g = b := seal_eq b
noncomputable def a : Fn [.i, .i, .i, .i, .i, .i, .z, .i, .i, .i, .i, .i, .i, .z] St := fun a1 a2 a3 a4 a5 a6 a7 a8 a9 a10 a11 a12 a13 a14 => argSt [.v ⟨true, [cI a1, cI a2, cI a3, cI a4, cI a5, cI a6, .tr 0 1 [.int .i64] (.ints a7)]⟩, .v ⟨true, [cI a8, cI a9, cI a10, cI a11, cI a12, cI a13, .tr 0 1 [.int .i64] (.ints a14)]⟩] [] []
noncomputable def con := conOf 35 [.i, .i, .i, .i, .i, .i, .z, .i, .i, .i, .i, .i, .i, .z] [.b] a g m
theorem ok : Con Pg con := con_fin (fn := Tryd.f35) (c := c) (Fi := fi) (X := X) laid (ctx_of (.cons laws_eqFun.ok (.cons laws_eqIntS.ok .nil)) (by kernel_rfl)) (fun K => .nil) e (by kernel_rfl) (by kernel_rfl) (by kernel_rfl) (by kernel_rfl)
end laws_eqExpr
namespace laws_eqExprS
noncomputable def c : Code := bodyOf Tryd.f17
noncomputable def fi : Fin := ⟨Γ0, [(.tmp 4, 4)], [[1]], [], [], []⟩
noncomputable def m : Fn [.l, .l] (Fn [.b] Res) := fun _ _ r1 => ⟨[⟨false, [.bool r1]⟩], [], [], [], []⟩
noncomputable def b0 : Code := codeAt c [1, 1, 0, 1, 0, 0]
noncomputable def l0s (x3 x4 : List (List Cl)) (rec : Int → O) (k : O) (R : Bool → O) (x5 : Int) : O :=
 bif decide (x5 < (x3.length : Int)) then (bif decide (0 ≤ x5) && decide (x5 < (x3.length : Int)) then (bif decide (0 ≤ x5) && decide (x5 < (x4.length : Int)) then (laws_eqExpr.g (((x3.getD x5.toNat []).getD 0 (.i 0)).toI) (((x3.getD x5.toNat []).getD 1 (.i 0)).toI) (((x3.getD x5.toNat []).getD 2 (.i 0)).toI) (((x3.getD x5.toNat []).getD 3 (.i 0)).toI) (((x3.getD x5.toNat []).getD 4 (.i 0)).toI) (((x3.getD x5.toNat []).getD 5 (.i 0)).toI) (((x3.getD x5.toNat []).getD 6 (.i 0)).toL) (((x4.getD x5.toNat []).getD 0 (.i 0)).toI) (((x4.getD x5.toNat []).getD 1 (.i 0)).toI) (((x4.getD x5.toNat []).getD 2 (.i 0)).toI) (((x4.getD x5.toNat []).getD 3 (.i 0)).toI) (((x4.getD x5.toNat []).getD 4 (.i 0)).toI) (((x4.getD x5.toNat []).getD 5 (.i 0)).toI) (((x4.getD x5.toNat []).getD 6 (.i 0)).toL) fun r6 =>
  bif !r6 then R false
  else rec (IntKind.i64.wrap (x5 + 1)))
  else none)
  else none)
 else k
noncomputable def l0 (x3 x4 : List (List Cl)) (k : O) (R : Bool → O) : Nat → Int → O
 | 0, _ => none
 | n + 1, x5 => l0s x3 x4 (l0 x3 x4 k R n) k R x5
noncomputable def o0 : Fn [.l, .l] St := fun _ _ => ⟨mkT 27 [], [], []⟩
noncomputable def n0 (K : Res → O) := ent 0 [.l, .l] [.i] [0, 1, 2] (fun x3 x4 x5 => ⟨mkT 27 [(0, one (.tr 0 1 e_0 (.cells x3))), (1, one (.tr 0 1 e_0 (.cells x4))), (5, oI x5)], [], []⟩) fun x3 x4 k => l0 x3 x4 (k (o0 x3 x4)) (fun r1 => K (m [] [] r1))
noncomputable def X (K : Res → O) : Ctx := { cx0 [laws_eqExpr.con] fi true K with cin := [(0, ⟨[0, 1, 5], [], [], [], [], []⟩)], cout := [(0, ⟨[], [], [], [], [], []⟩)], lp := lpOf [n0 K] }
noncomputable def b (a1 a2 : List (List Cl)) (R : Bool → O) : O :=
 bif ((a1.length : Int) != (a2.length : Int)) then R false
 else (l0 a1 a2 (
 R true) R fuel 0)
noncomputable def g := seal_ b
theorem e : g = b := seal_eq b
noncomputable def a : Fn [.l, .l] St := fun a1 a2 => argSt [one (.tr 0 1 e_0 (.cells a1)), one (.tr 0 1 e_0 (.cells a2))] [] []
noncomputable def con := conOf 17 [.l, .l] [.b] a g m
theorem hx (K : Res → O) : CtxOk Pg Γ0 byt0 eqs0 (X K) [laws_eqExpr.con] := ctx_of (X := X) (.cons laws_eqExpr.ok .nil) (by kernel_rfl) K
theorem w0 (K : Res → O) : LpSound Pg (X K) 0 b0 := lp_fin (L := [n0 K]) laid (hx K) .nil (.cons (ent_ok (fun x3 x4 k r => l0s x3 x4 r (k (o0 x3 x4)) (fun r1 => K (m [] [] r1))) (by kernel_rfl) (by kernel_rfl) (by kernel_rfl) (by kernel_rfl) (by kernel_rfl)) .nil) (by kernel_rfl) (by kernel_rfl)
theorem ok : Con Pg con := con_fin (fn := Tryd.f17) (c := c) (Fi := fi) (X := X) laid hx (fun K => (.cons (w0 K) .nil)) e (by kernel_rfl) (by kernel_rfl) (by kernel_rfl) (by kernel_rfl)
end laws_eqExprS
namespace laws_eqTree
noncomputable def c : Code := bodyOf Tryd.f8
noncomputable def fi : Fin := ⟨Γ0, [(.tmp 4, 4)], [[1]], [], [], []⟩
noncomputable def m : Fn [.l, .l] (Fn [.b] Res) := fun _ _ r1 => ⟨[⟨false, [.bool r1]⟩], [], [], [], []⟩
noncomputable def X (K : Res → O) : Ctx := cx0 [laws_eqExprS.con] fi true K
noncomputable def b (a1 a2 : List (List Cl)) (R : Bool → O) : O :=
 laws_eqExprS.g a1 a2 fun r3 =>
 bif !r3 then R false
 else R true
noncomputable def g := seal_ b
theorem e : g = b := seal_eq b
noncomputable def a : Fn [.l, .l] St := fun a1 a2 => argSt [.v ⟨true, [.tr 0 1 e_0 (.cells a1)]⟩, .v ⟨true, [.tr 0 1 e_0 (.cells a2)]⟩] [] []
noncomputable def con := conOf 8 [.l, .l] [.b] a g m
theorem ok : Con Pg con := con_fin (fn := Tryd.f8) (c := c) (Fi := fi) (X := X) laid (ctx_of (.cons laws_eqExprS.ok .nil) (by kernel_rfl)) (fun K => .nil) e (by kernel_rfl) (by kernel_rfl) (by kernel_rfl) (by kernel_rfl)
end laws_eqTree
namespace laws_FnExactTreeText
noncomputable def c : Code := bodyOf Tryd.f3
noncomputable def fi : Fin := ⟨Γ0, [(.tmp 2, 4)], [[1]], [], [], []⟩
noncomputable def m : Fn [.l] (Fn [.b] Res) := fun _ r1 => ⟨[⟨false, [.bool r1]⟩], [], [], [], []⟩
noncomputable def X (K : Res → O) : Ctx := cx0 [laws_szTree.con, laws_toTree.con, spec_TreeText.con, impl_TreeText.con, laws_eqTree.con] fi true K
noncomputable def b (a1 : List (List Cl)) (R : Bool → O) : O :=
 laws_szTree.g a1 1048576 fun r2 =>
 bif decide (r2 < 0) then R true
 else (laws_toTree.g a1 fun r3 =>
 spec_TreeText.g r3 fun r4 =>
 laws_toTree.g a1 fun r5 =>
 impl_TreeText.g r5 fun r6 =>
 bif !(r6.toList == r4.toList) then R false
 else (laws_toTree.g a1 fun r7 =>
 laws_eqTree.g r5 r7 fun r8 =>
 bif !r8 then R false
 else R true))
noncomputable def g := seal_ b
theorem e : g = b := seal_eq b
noncomputable def a : Fn [.l] St := fun a1 => argSt [.v ⟨true, [.tr 2 2 e_0 (.cells a1)]⟩] [] []
noncomputable def con := conOf 3 [.l] [.b] a g m
theorem ok : Con Pg con := con_fin (fn := Tryd.f3) (c := c) (Fi := fi) (X := X) laid (ctx_of (.cons laws_szTree.ok (.cons laws_toTree.ok (.cons spec_TreeText.ok (.cons impl_TreeText.ok (.cons laws_eqTree.ok .nil))))) (by kernel_rfl)) (fun K => .nil) e (by kernel_rfl) (by kernel_rfl) (by kernel_rfl) (by kernel_rfl)
end laws_FnExactTreeText
end Go.Tv.F
