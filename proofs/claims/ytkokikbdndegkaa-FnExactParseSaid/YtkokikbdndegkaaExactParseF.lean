/- The law's functions, printed by a program of ours, each with its contract. They hold without condition. -/
import Derived.Test.YtkokikbdndegkaaProg
import Derived.Test.YtkokikbdndegkaaTvC
set_option linter.unusedVariables false
set_option linter.unusedSectionVars false
set_option linter.unusedSimpArgs false
set_option linter.unnecessarySimpa false
set_option maxRecDepth 100000
set_option autoImplicit false
namespace Go.Tv.F
open Go Go.Tv
open Go.Proofs
noncomputable abbrev Pg := Go.Proofs.Try.prog
instance envI : Env := envT [3, 11, 20]
noncomputable abbrev e_0 : List Ct := [.int .i64, .int .i64]
noncomputable abbrev e_1 : List Ct := [.int .i64, .int .i64, .int .i64, .int .i64, .int .i64, .int .i64, .ints .i64]
noncomputable def Γ0 : List (Nat × TI) := [(2, ⟨false, [.int .i64], []⟩),
 (3, ⟨false, [.int .i64], []⟩),
 (4, ⟨false, [.bool], []⟩),
 (5, ⟨false, [.int .u8], []⟩),
 (6, ⟨false, [.int .u8], []⟩),
 (9, ⟨false, [.str], []⟩),
 (10, ⟨false, [.str], []⟩),
 (11, ⟨false, [.str], []⟩),
 (12, ⟨false, [.int .u64], []⟩),
 (21, ⟨false, [.int .i32], []⟩),
 (22, ⟨false, [.sl e_0 16], []⟩),
 (24, ⟨false, [.sl e_1 72], []⟩),
 (26, ⟨true, [.sl e_1 72], [(0, 1, false)]⟩),
 (29, ⟨false, [.sl e_0 16], []⟩),
 (37, ⟨false, [.ptr], []⟩),
 (39, ⟨true, [.sl e_0 16, .int .i64, .sl e_1 72], [(0, 1, false), (1, 1, false), (2, 1, false)]⟩),
 (42, ⟨true, [.int .i64, .int .i64], [(0, 1, false), (1, 1, false)]⟩),
 (44, ⟨true, [.int .i64, .int .i64], [(0, 1, false), (1, 1, false)]⟩),
 (45, ⟨false, [.ptr], []⟩),
 (47, ⟨true, [.sl e_0 16, .int .i64, .sl e_1 72, .bool], [(0, 1, false), (1, 1, false), (2, 1, false), (3, 1, false)]⟩),
 (52, ⟨false, [.fn], []⟩),
 (55, ⟨true, [.int .i64, .int .i64, .int .i64], [(0, 1, false), (1, 1, false), (2, 1, false)]⟩),
 (56, ⟨false, [.sl [.int .i64] 8], []⟩),
 (58, ⟨true, [.int .i64, .int .i64, .int .i64, .int .i64, .int .i64, .int .i64, .sl [.int .i64] 8], [(0, 1, false), (1, 1, false), (2, 1, false), (3, 3, true), (6, 1, false)]⟩),
 (84, ⟨false, [.int .u32], []⟩),
 (85, ⟨false, [.int .u8], []⟩),
 (86, ⟨false, [.int .u8], []⟩),
 (89, ⟨false, [.int .i32], []⟩),
 (90, ⟨false, [.int .i32], []⟩)]
noncomputable def byt0 : List TypeId := []
noncomputable def eqs0 : List TypeId := [42, 44, 55]
theorem laid : Laid Pg Γ0 byt0 eqs0 := ⟨by kernel_rfl, by kernel_rfl, by kernel_rfl, by kernel_rfl⟩
noncomputable def cx0 (os : List (FuncId × St × (List Lf → (Res → O) → O))) (fi : Fin) (nk : Bool) (K : Res → O) : Ctx := { Γ := Γ0, orc := orcOf os, lp := lpOf [], kl := Env.kl, nk := nk, eqs := eqs0, byt := byt0, fin := finK fi K }
namespace laws_szTokenS
noncomputable def c : Code := bodyOf Try.f4
noncomputable def fi : Fin := ⟨Γ0, [(.tmp 4, 3)], [[1]], [], [], []⟩
noncomputable def m : Fn [.l, .i] (Fn [.i] Res) := fun _ _ r1 => ⟨[⟨false, [cI r1]⟩], [], [], [], []⟩
noncomputable def X (K : Res → O) : Ctx := cx0 [] fi true K
noncomputable def b (a1 : List (List Cl)) (a2 : Int) (R : Int → O) : O :=
 bif decide (IntKind.i64.wrap (a2 - (a1.length : Int)) < 0) then R (-1)
 else R (IntKind.i64.wrap (a2 - (a1.length : Int)))
noncomputable def g := seal_ b
theorem e : g = b := seal_eq b
noncomputable def a : Fn [.l, .i] St := fun a1 a2 => argSt [one (.tr 0 1 e_0 (.cells a1)), oI a2] [] []
noncomputable def con := conOf 4 [.l, .i] [.i] a g m
theorem ok : Con Pg con := con_fin (fn := Try.f4) (c := c) (Fi := fi) (X := X) laid (ctx_of .nil (by kernel_rfl)) (fun K => .nil) e (by kernel_rfl) (by kernel_rfl) (by kernel_rfl) (by kernel_rfl)
end laws_szTokenS
namespace laws_toToken
noncomputable def c : Code := bodyOf Try.f15
noncomputable def fi : Fin := ⟨Γ0, [(.cell 2 42, 42)], [[1, 1]], [], [], []⟩
noncomputable def m : Fn [.i, .i] (Fn [] Res) := fun a1 a2 => ⟨[⟨true, [cI a1, cI a2]⟩], [], [], [], []⟩
noncomputable def X (K : Res → O) : Ctx := cx0 [] fi true K
noncomputable def b (a1 a2 : Int) (R : O) : O :=
 R
noncomputable def g := seal_ b
theorem e : g = b := seal_eq b
noncomputable def a : Fn [.i, .i] St := fun a1 a2 => argSt [.v ⟨true, [cI a1, cI a2]⟩] [] []
noncomputable def con := conOf 15 [.i, .i] [] a g m
theorem ok : Con Pg con := con_fin (fn := Try.f15) (c := c) (Fi := fi) (X := X) laid (ctx_of .nil (by kernel_rfl)) (fun K => .nil) e (by kernel_rfl) (by kernel_rfl) (by kernel_rfl) (by kernel_rfl)
end laws_toToken
namespace laws_toTokenS
noncomputable def c : Code := bodyOf Try.f6
noncomputable def fi : Fin := ⟨Γ0, [(.tmp 2, 29)], [[1]], [], [], []⟩
noncomputable def m : Fn [.l] (Fn [.l] Res) := fun _ r1 => ⟨[⟨false, [.ow 1000]⟩], [], [⟨e_0, .cells r1, true, 0, none⟩], [], []⟩
noncomputable def b0 : Code := codeAt c [1, 1, 0, 1, 0, 0]
noncomputable def l0s (x2 : List (List Cl)) (rec : Int → List (List Cl) → O) (k : List (List Cl) → O) (x3 : Int) (x4 : List (List Cl)) : O :=
 bif decide (x3 < (x2.length : Int)) then (bif decide (0 ≤ x3) && decide (x3 < (x2.length : Int)) then (laws_toToken.g (((x2.getD x3.toNat []).getD 0 (.i 0)).toI) (((x2.getD x3.toNat []).getD 1 (.i 0)).toI) (
  bif decide (0 ≤ x3) && decide (x3 < (x4.length : Int)) then rec (IntKind.i64.wrap (x3 + 1)) (x4.set x3.toNat [.i (((x2.getD x3.toNat []).getD 0 (.i 0)).toI), .i (((x2.getD x3.toNat []).getD 1 (.i 0)).toI)])
  else none))
  else none)
 else k x4
noncomputable def l0 (x2 : List (List Cl)) (k : List (List Cl) → O) : Nat → Int → List (List Cl) → O
 | 0, _, _ => none
 | n + 1, x3, x4 => l0s x2 (l0 x2 k n) k x3 x4
noncomputable def o0 : Fn [.l, .l] St := fun _ y1 => ⟨mkT 23 [(3, one (.ow 3080))], [(3080, ⟨e_0, .cells y1, true, 0, none⟩)], []⟩
noncomputable def n0 (K : Res → O) := ent 0 [.l] [.i, .l] [0, 1, 2] (fun x2 x3 x4 => ⟨mkT 23 [(0, one (.tr 0 1 e_0 (.cells x2))), (3, one (.ow 3080)), (4, oI x3)], [(3080, ⟨e_0, .cells x4, true, 0, none⟩)], []⟩) fun x2 k => l0 x2 (fun y1 => k (o0 x2 y1))
noncomputable def X (K : Res → O) : Ctx := { cx0 [laws_toToken.con] fi true K with cin := [(0, ⟨[0, 3, 4], [(3080, 3080)], [], [], [], []⟩)], cout := [(0, ⟨[3], [(3080, 3080)], [], [], [], []⟩)], lp := lpOf [n0 K] }
noncomputable def b (a1 : List (List Cl)) (R : List (List Cl) → O) : O :=
 bif decide ((a1.length : Int) = (a1.length : Int)) && decide (0 ≤ (a1.length : Int)) && decide ((a1.length : Int) * 16 ≤ 140737488355328) then (l0 a1 (fun y5 =>
  R y5) fuel 0 (List.replicate ((a1.length : Int).toNat) [.i 0, .i 0]))
 else none
noncomputable def g := seal_ b
theorem e : g = b := seal_eq b
noncomputable def a : Fn [.l] St := fun a1 => argSt [one (.tr 0 1 e_0 (.cells a1))] [] []
noncomputable def con := conOf 6 [.l] [.l] a g m
theorem hx (K : Res → O) : CtxOk Pg Γ0 byt0 eqs0 (X K) [laws_toToken.con] := ctx_of (X := X) (.cons laws_toToken.ok .nil) (by kernel_rfl) K
theorem w0 (K : Res → O) : LpSound Pg (X K) 0 b0 := lp_fin (L := [n0 K]) laid (hx K) .nil (.cons (ent_ok (fun x2 k r => l0s x2 r (fun y1 => k (o0 x2 y1))) (by kernel_rfl) (by kernel_rfl) (by kernel_rfl) (by kernel_rfl) (by kernel_rfl)) .nil) (by kernel_rfl) (by kernel_rfl)
theorem ok : Con Pg con := con_fin (fn := Try.f6) (c := c) (Fi := fi) (X := X) laid hx (fun K => (.cons (w0 K) .nil)) e (by kernel_rfl) (by kernel_rfl) (by kernel_rfl) (by kernel_rfl)
end laws_toTokenS
namespace spec_l1In
noncomputable def c : Code := bodyOf Try.f43
noncomputable def fi : Fin := ⟨Γ0, [(.tmp 6, 4)], [[1]], [], [], []⟩
noncomputable def m : Fn [.i, .i, .i] (Fn [.b] Res) := fun _ _ _ r1 => ⟨[⟨false, [.bool r1]⟩], [], [], [], []⟩
noncomputable def X (K : Res → O) : Ctx := cx0 [] fi true K
noncomputable def b (a1 a2 a3 : Int) (R : Bool → O) : O :=
 bif decide (a2 ≤ a1) then R (decide (a1 ≤ a3))
 else R false
noncomputable def g := seal_ b
theorem e : g = b := seal_eq b
noncomputable def a : Fn [.i, .i, .i] St := fun a1 a2 a3 => argSt [oI a1, oI a2, oI a3] [] []
noncomputable def con := conOf 43 [.i, .i, .i] [.b] a g m
theorem ok : Con Pg con := con_fin (fn := Try.f43) (c := c) (Fi := fi) (X := X) laid (ctx_of .nil (by kernel_rfl)) (fun K => .nil) e (by kernel_rfl) (by kernel_rfl) (by kernel_rfl) (by kernel_rfl)
end spec_l1In
namespace spec_NumOk
noncomputable def c : Code := bodyOf Try.f42
noncomputable def fi : Fin := ⟨Γ0, [(.tmp 2, 4)], [[1]], [], [], []⟩
noncomputable def m : Fn [.i] (Fn [.b] Res) := fun _ r1 => ⟨[⟨false, [.bool r1]⟩], [], [], [], []⟩
noncomputable def X (K : Res → O) : Ctx := cx0 [spec_l1In.con] fi true K
noncomputable def b (a1 : Int) (R : Bool → O) : O :=
 spec_l1In.g a1 (-1000000000000) 1000000000000 fun r2 =>
 R r2
noncomputable def g := seal_ b
theorem e : g = b := seal_eq b
noncomputable def a : Fn [.i] St := fun a1 => argSt [oI a1] [] []
noncomputable def con := conOf 42 [.i] [.b] a g m
theorem ok : Con Pg con := con_fin (fn := Try.f42) (c := c) (Fi := fi) (X := X) laid (ctx_of (.cons spec_l1In.ok .nil) (by kernel_rfl)) (fun K => .nil) e (by kernel_rfl) (by kernel_rfl) (by kernel_rfl) (by kernel_rfl)
end spec_NumOk
namespace spec_l8Sign
noncomputable def c : Code := bodyOf Try.f44
noncomputable def fi : Fin := ⟨Γ0, [(.tmp 2, 4)], [[1]], [], [], []⟩
noncomputable def m : Fn [.i] (Fn [.b] Res) := fun _ r1 => ⟨[⟨false, [.bool r1]⟩], [], [], [], []⟩
noncomputable def b0 : Code := codeAt c [1, 1, 0, 1, 0, 0]
noncomputable def l0s (x2 : Int) (x3 : ByteArray) (rec : Int → O) (k : O) (R : Bool → O) (x4 : Int) : O :=
 bif decide (x4 < (x3.size : Int)) then (bif decide (0 ≤ x4) && decide (x4 < (x3.size : Int)) then (bif (IntKind.i64.wrap ((bytesOf x3).getD x4.toNat 0) == x2) then R true
  else rec (IntKind.i64.wrap (x4 + 1)))
  else none)
 else k
noncomputable def l0 (x2 : Int) (x3 : ByteArray) (k : O) (R : Bool → O) : Nat → Int → O
 | 0, _ => none
 | n + 1, x4 => l0s x2 x3 (l0 x2 x3 k R n) k R x4
noncomputable def o0 : Fn [.i, .s] St := fun _ _ => ⟨mkT 17 [], [], []⟩
noncomputable def n0 (K : Res → O) := ent 0 [.i, .s] [.i] [0, 1, 2] (fun x2 x3 x4 => ⟨mkT 17 [(0, oI x2), (3, one (.str x3)), (4, oI x4)], [], []⟩) fun x2 x3 k => l0 x2 x3 (k (o0 x2 x3)) (fun r1 => K (m (0 : Int) r1))
noncomputable def X (K : Res → O) : Ctx := { cx0 [] fi true K with cin := [(0, ⟨[0, 3, 4], [], [], [], [], []⟩)], cout := [(0, ⟨[], [], [], [], [], []⟩)], lp := lpOf [n0 K] }
noncomputable def b (a1 : Int) (R : Bool → O) : O :=
 l0 a1 (⟨#[43, 45, 42, 37, 124, 38, 94, 61, 60, 62, 126, 105, 35, 44, 116, 100, 114, 122, 64, 63, 103, 36, 101, 47, 92, 46, 111]⟩ : ByteArray) (
 R false) R fuel 0
noncomputable def g := seal_ b
theorem e : g = b := seal_eq b
noncomputable def a : Fn [.i] St := fun a1 => argSt [oI a1] [] []
noncomputable def con := conOf 44 [.i] [.b] a g m
theorem hx (K : Res → O) : CtxOk Pg Γ0 byt0 eqs0 (X K) [] := ctx_of (X := X) .nil (by kernel_rfl) K
theorem w0 (K : Res → O) : LpSound Pg (X K) 0 b0 := lp_fin (L := [n0 K]) laid (hx K) .nil (.cons (ent_ok (fun x2 x3 k r => l0s x2 x3 r (k (o0 x2 x3)) (fun r1 => K (m (0 : Int) r1))) (by kernel_rfl) (by kernel_rfl) (by kernel_rfl) (by kernel_rfl) (by kernel_rfl)) .nil) (by kernel_rfl) (by kernel_rfl)
theorem ok : Con Pg con := con_fin (fn := Try.f44) (c := c) (Fi := fi) (X := X) laid hx (fun K => (.cons (w0 K) .nil)) e (by kernel_rfl) (by kernel_rfl) (by kernel_rfl) (by kernel_rfl)
end spec_l8Sign
namespace spec_TokenOk
noncomputable def c : Code := bodyOf Try.f22
noncomputable def fi : Fin := ⟨Γ0, [(.tmp 2, 4)], [[1]], [], [], []⟩
noncomputable def m : Fn [.i, .i] (Fn [.b] Res) := fun _ _ r1 => ⟨[⟨false, [.bool r1]⟩], [], [], [], []⟩
noncomputable def X (K : Res → O) : Ctx := cx0 [spec_NumOk.con, spec_l1In.con, spec_l8Sign.con] fi true K
noncomputable def b (a1 a2 : Int) (R : Bool → O) : O :=
 bif (a1 == 1) then (spec_NumOk.g a2 fun r3 =>
  R r3)
 else bif (a1 == 2) then (spec_l1In.g a2 0 25 fun r4 =>
  R r4)
 else bif (a1 == 3) then (spec_l8Sign.g a2 fun r5 =>
  R r5)
 else bif (a1 == 4) then R (a2 == 0)
 else bif (a1 == 5) then R (a2 == 0)
 else bif (a1 == 6) then R (a2 == 0)
 else R false
noncomputable def g := seal_ b
theorem e : g = b := seal_eq b
noncomputable def a : Fn [.i, .i] St := fun a1 a2 => argSt [.v ⟨true, [cI a1, cI a2]⟩] [] []
noncomputable def con := conOf 22 [.i, .i] [.b] a g m
theorem ok : Con Pg con := con_fin (fn := Try.f22) (c := c) (Fi := fi) (X := X) laid (ctx_of (.cons spec_NumOk.ok (.cons spec_l1In.ok (.cons spec_l8Sign.ok .nil))) (by kernel_rfl)) (fun K => .nil) e (by kernel_rfl) (by kernel_rfl) (by kernel_rfl) (by kernel_rfl)
end spec_TokenOk
namespace spec_l8Tokens
noncomputable def c : Code := bodyOf Try.f13
noncomputable def fi : Fin := ⟨Γ0, [(.tmp 2, 4)], [[1]], [], [], []⟩
noncomputable def m : Fn [.l] (Fn [.b] Res) := fun _ r1 => ⟨[⟨false, [.bool r1]⟩], [], [], [], []⟩
noncomputable def b0 : Code := codeAt c [1, 0, 1, 0, 0]
noncomputable def l0s (x2 : List (List Cl)) (rec : Int → O) (k : O) (R : Bool → O) (x3 : Int) : O :=
 bif decide (x3 < (x2.length : Int)) then (bif decide (0 ≤ x3) && decide (x3 < (x2.length : Int)) then (spec_TokenOk.g (((x2.getD x3.toNat []).getD 0 (.i 0)).toI) (((x2.getD x3.toNat []).getD 1 (.i 0)).toI) fun r4 =>
  bif !r4 then R false
  else rec (IntKind.i64.wrap (x3 + 1)))
  else none)
 else k
noncomputable def l0 (x2 : List (List Cl)) (k : O) (R : Bool → O) : Nat → Int → O
 | 0, _ => none
 | n + 1, x3 => l0s x2 (l0 x2 k R n) k R x3
noncomputable def o0 : Fn [.l] St := fun x2 => ⟨mkT 19 [(0, one (.tr 0 1 e_0 (.cells x2)))], [], []⟩
noncomputable def n0 (K : Res → O) := ent 0 [.l] [.i] [0, 1] (fun x2 x3 => ⟨mkT 19 [(0, one (.tr 0 1 e_0 (.cells x2))), (3, oI x3)], [], []⟩) fun x2 k => l0 x2 (k (o0 x2)) (fun r1 => K (m [] r1))
noncomputable def X (K : Res → O) : Ctx := { cx0 [spec_TokenOk.con] fi true K with cin := [(0, ⟨[0, 3], [], [], [], [], []⟩)], cout := [(0, ⟨[0], [], [], [], [], []⟩)], lp := lpOf [n0 K] }
noncomputable def b (a1 : List (List Cl)) (R : Bool → O) : O :=
 l0 a1 (
 R (decide ((a1.length : Int) ≤ 300))) R fuel 0
noncomputable def g := seal_ b
theorem e : g = b := seal_eq b
noncomputable def a : Fn [.l] St := fun a1 => argSt [one (.tr 0 1 e_0 (.cells a1))] [] []
noncomputable def con := conOf 13 [.l] [.b] a g m
theorem hx (K : Res → O) : CtxOk Pg Γ0 byt0 eqs0 (X K) [spec_TokenOk.con] := ctx_of (X := X) (.cons spec_TokenOk.ok .nil) (by kernel_rfl) K
theorem w0 (K : Res → O) : LpSound Pg (X K) 0 b0 := lp_fin (L := [n0 K]) laid (hx K) .nil (.cons (ent_ok (fun x2 k r => l0s x2 r (k (o0 x2)) (fun r1 => K (m [] r1))) (by kernel_rfl) (by kernel_rfl) (by kernel_rfl) (by kernel_rfl) (by kernel_rfl)) .nil) (by kernel_rfl) (by kernel_rfl)
theorem ok : Con Pg con := con_fin (fn := Try.f13) (c := c) (Fi := fi) (X := X) laid hx (fun K => (.cons (w0 K) .nil)) e (by kernel_rfl) (by kernel_rfl) (by kernel_rfl) (by kernel_rfl)
end spec_l8Tokens
namespace spec_l9Kind
noncomputable def c : Code := bodyOf Try.f23
noncomputable def fi : Fin := ⟨Γ0, [(.tmp 4, 3)], [[1]], [true], [([.sl e_0 16, .int .i64, .sl e_1 72], [0, 1, 2])], []⟩
noncomputable def m : Fn [.i, .l, .l, .i] (Fn [.i] Res) := fun _ a2 a3 a4 r1 => ⟨[⟨false, [cI r1]⟩], [some ⟨e_1, .cells a2, true, 0, none⟩], [], [[.tr 2 2 e_0 (.cells a3), cI a4, .ow 0]], []⟩
noncomputable def X (K : Res → O) : Ctx := cx0 [] fi true K
noncomputable def b (a1 : Int) (a2 a3 : List (List Cl)) (a4 : Int) (R : Int → O) : O :=
 bif decide ((a3.length : Int) ≤ IntKind.i64.wrap (a4 + a1)) then R 0
 else bif decide (0 ≤ IntKind.i64.wrap (a4 + a1)) && decide (IntKind.i64.wrap (a4 + a1) < (a3.length : Int)) then R (((a3.getD ((IntKind.i64.wrap (a4 + a1)).toNat) []).getD 0 (.i 0)).toI)
 else none
noncomputable def g := seal_ b
theorem e : g = b := seal_eq b
noncomputable def a : Fn [.i, .l, .l, .i] St := fun a1 a2 a3 a4 => argSt [one (.bp 0 0), oI a1] [⟨e_1, .cells a2, true, 0, none⟩] [[.tr 2 2 e_0 (.cells a3), cI a4, .ow 0]]
noncomputable def con := conOf 23 [.i, .l, .l, .i] [.i] a g m
theorem ok : Con Pg con := con_fin (fn := Try.f23) (c := c) (Fi := fi) (X := X) laid (ctx_of .nil (by kernel_rfl)) (fun K => .nil) e (by kernel_rfl) (by kernel_rfl) (by kernel_rfl) (by kernel_rfl)
end spec_l9Kind
namespace spec_l9Sign
noncomputable def c : Code := bodyOf Try.f45
noncomputable def fi : Fin := ⟨Γ0, [(.tmp 4, 3)], [[1]], [true], [([.sl e_0 16, .int .i64, .sl e_1 72], [0, 1, 2])], []⟩
noncomputable def m : Fn [.i, .l, .l, .i] (Fn [.i] Res) := fun _ a2 a3 a4 r1 => ⟨[⟨false, [cI r1]⟩], [some ⟨e_1, .cells a2, true, 0, none⟩], [], [[.tr 2 2 e_0 (.cells a3), cI a4, .ow 0]], []⟩
noncomputable def X (K : Res → O) : Ctx := cx0 [spec_l9Kind.con] fi true K
noncomputable def b (a1 : Int) (a2 a3 : List (List Cl)) (a4 : Int) (R : Int → O) : O :=
 spec_l9Kind.g a1 a2 a3 a4 fun r5 =>
 bif (r5 != 3) then R 0
 else bif decide (0 ≤ IntKind.i64.wrap (a4 + a1)) && decide (IntKind.i64.wrap (a4 + a1) < (a3.length : Int)) then R (((a3.getD ((IntKind.i64.wrap (a4 + a1)).toNat) []).getD 1 (.i 0)).toI)
 else none
noncomputable def g := seal_ b
theorem e : g = b := seal_eq b
noncomputable def a : Fn [.i, .l, .l, .i] St := fun a1 a2 a3 a4 => argSt [one (.bp 0 0), oI a1] [⟨e_1, .cells a2, true, 0, none⟩] [[.tr 2 2 e_0 (.cells a3), cI a4, .ow 0]]
noncomputable def con := conOf 45 [.i, .l, .l, .i] [.i] a g m
theorem ok : Con Pg con := con_fin (fn := Try.f45) (c := c) (Fi := fi) (X := X) laid (ctx_of (.cons spec_l9Kind.ok .nil) (by kernel_rfl)) (fun K => .nil) e (by kernel_rfl) (by kernel_rfl) (by kernel_rfl) (by kernel_rfl)
end spec_l9Sign
namespace spec_l9Fun
noncomputable def c : Code := bodyOf Try.f24
noncomputable def fi : Fin := ⟨Γ0, [(.cell 2 55, 55), (.tmp 3, 4)], [[1, 1, 1], [1]], [true], [([.sl e_0 16, .int .i64, .sl e_1 72], [0, 1, 2])], []⟩
noncomputable def m : Fn [.l, .l, .i] (Fn [.i, .i, .i, .b, .i] Res) := fun a1 a2 _ r1 r2 r3 r4 r7 => ⟨[⟨true, [cI r1, cI r2, cI r3]⟩, ⟨false, [.bool r4]⟩], [some ⟨e_1, .cells a1, true, 0, none⟩], [], [[.tr 2 2 e_0 (.cells a2), cI r7, .ow 0]], []⟩
noncomputable def X (K : Res → O) : Ctx := cx0 [spec_l9Sign.con] fi true K
noncomputable def b (a1 a2 : List (List Cl)) (a3 : Int) (R : Int → Int → Int → Bool → Int → O) : O :=
 spec_l9Sign.g 0 a1 a2 a3 fun r4 =>
 spec_l9Sign.g 1 a1 a2 a3 fun r5 =>
 spec_l9Sign.g 2 a1 a2 a3 fun r6 =>
 bif (r4 == 0) then R 0 0 0 false a3
 else bif (r4 == 111) then (bif (r5 != 0) then R r5 111 0 true (IntKind.i64.wrap (a3 + 2))
  else bif (r5 == 47) then R r4 r5 0 true (IntKind.i64.wrap (a3 + 2))
  else bif (r5 == 92) then R r4 r5 0 true (IntKind.i64.wrap (a3 + 2))
  else bif (r5 == 46) then (bif (r6 != 0) then R r4 46 r6 true (IntKind.i64.wrap (a3 + 3))
   else R r4 0 0 true (IntKind.i64.wrap (a3 + 1)))
  else R r4 0 0 true (IntKind.i64.wrap (a3 + 1)))
 else bif (r5 == 47) then R r4 r5 0 true (IntKind.i64.wrap (a3 + 2))
 else bif (r5 == 92) then R r4 r5 0 true (IntKind.i64.wrap (a3 + 2))
 else bif (r5 == 46) then (bif (r6 != 0) then R r4 46 r6 true (IntKind.i64.wrap (a3 + 3))
  else R r4 0 0 true (IntKind.i64.wrap (a3 + 1)))
 else R r4 0 0 true (IntKind.i64.wrap (a3 + 1))
noncomputable def g := seal_ b
theorem e : g = b := seal_eq b
noncomputable def a : Fn [.l, .l, .i] St := fun a1 a2 a3 => argSt [one (.bp 0 0)] [⟨e_1, .cells a1, true, 0, none⟩] [[.tr 2 2 e_0 (.cells a2), cI a3, .ow 0]]
noncomputable def con := conOf 24 [.l, .l, .i] [.i, .i, .i, .b, .i] a g m
theorem ok : Con Pg con := con_fin (fn := Try.f24) (c := c) (Fi := fi) (X := X) laid (ctx_of (.cons spec_l9Sign.ok .nil) (by kernel_rfl)) (fun K => .nil) e (by kernel_rfl) (by kernel_rfl) (by kernel_rfl) (by kernel_rfl)
end spec_l9Fun
namespace spec_l1Sign2
noncomputable def c : Code := bodyOf Try.f46
noncomputable def fi : Fin := ⟨Γ0, [(.tmp 2, 4)], [[1]], [], [], []⟩
noncomputable def m : Fn [.i] (Fn [.b] Res) := fun _ r1 => ⟨[⟨false, [.bool r1]⟩], [], [], [], []⟩
noncomputable def X (K : Res → O) : Ctx := cx0 [] fi true K
noncomputable def b (a1 : Int) (R : Bool → O) : O :=
 bif (a1 == 43) then R true
 else bif (a1 == 45) then R true
 else bif (a1 == 42) then R true
 else bif (a1 == 37) then R true
 else bif (a1 == 124) then R true
 else bif (a1 == 38) then R true
 else bif (a1 == 94) then R true
 else bif (a1 == 61) then R true
 else bif (a1 == 60) then R true
 else R (a1 == 62)
noncomputable def g := seal_ b
theorem e : g = b := seal_eq b
noncomputable def a : Fn [.i] St := fun a1 => argSt [oI a1] [] []
noncomputable def con := conOf 46 [.i] [.b] a g m
theorem ok : Con Pg con := con_fin (fn := Try.f46) (c := c) (Fi := fi) (X := X) laid (ctx_of .nil (by kernel_rfl)) (fun K => .nil) e (by kernel_rfl) (by kernel_rfl) (by kernel_rfl) (by kernel_rfl)
end spec_l1Sign2
namespace spec_l1Sign1
noncomputable def c : Code := bodyOf Try.f47
noncomputable def fi : Fin := ⟨Γ0, [(.tmp 2, 4)], [[1]], [], [], []⟩
noncomputable def m : Fn [.i] (Fn [.b] Res) := fun _ r1 => ⟨[⟨false, [.bool r1]⟩], [], [], [], []⟩
noncomputable def X (K : Res → O) : Ctx := cx0 [] fi true K
noncomputable def b (a1 : Int) (R : Bool → O) : O :=
 bif (a1 == 43) then R true
 else bif (a1 == 45) then R true
 else bif (a1 == 42) then R true
 else bif (a1 == 124) then R true
 else R (a1 == 126)
noncomputable def g := seal_ b
theorem e : g = b := seal_eq b
noncomputable def a : Fn [.i] St := fun a1 => argSt [oI a1] [] []
noncomputable def con := conOf 47 [.i] [.b] a g m
theorem ok : Con Pg con := con_fin (fn := Try.f47) (c := c) (Fi := fi) (X := X) laid (ctx_of .nil (by kernel_rfl)) (fun K => .nil) e (by kernel_rfl) (by kernel_rfl) (by kernel_rfl) (by kernel_rfl)
end spec_l1Sign1
namespace spec_FunOne
noncomputable def c : Code := bodyOf Try.f25
noncomputable def fi : Fin := ⟨Γ0, [(.tmp 2, 4)], [[1]], [], [], []⟩
noncomputable def m : Fn [.i, .i, .i] (Fn [.b] Res) := fun _ _ _ r1 => ⟨[⟨false, [.bool r1]⟩], [], [], [], []⟩
noncomputable def X (K : Res → O) : Ctx := cx0 [spec_l1Sign2.con, spec_l1Sign1.con] fi true K
noncomputable def b (a1 a2 a3 : Int) (R : Bool → O) : O :=
 bif (a3 != 0) then R false
 else bif (a2 == 47) then (spec_l1Sign2.g a1 fun r4 =>
  R r4)
 else bif (a2 == 92) then (spec_l1Sign2.g a1 fun r5 =>
  R r5)
 else bif (a2 != 0) then R false
 else (spec_l1Sign1.g a1 fun r6 =>
 bif r6 then R true
 else bif (a1 == 105) then R true
 else bif (a1 == 35) then R true
 else bif (a1 == 44) then R true
 else bif (a1 == 114) then R true
 else bif (a1 == 122) then R true
 else R (a1 == 103))
noncomputable def g := seal_ b
theorem e : g = b := seal_eq b
noncomputable def a : Fn [.i, .i, .i] St := fun a1 a2 a3 => argSt [.v ⟨true, [cI a1, cI a2, cI a3]⟩] [] []
noncomputable def con := conOf 25 [.i, .i, .i] [.b] a g m
theorem ok : Con Pg con := con_fin (fn := Try.f25) (c := c) (Fi := fi) (X := X) laid (ctx_of (.cons spec_l1Sign2.ok (.cons spec_l1Sign1.ok .nil)) (by kernel_rfl)) (fun K => .nil) e (by kernel_rfl) (by kernel_rfl) (by kernel_rfl) (by kernel_rfl)
end spec_FunOne
namespace spec_l9Behind
noncomputable def c : Code := bodyOf Try.f27
noncomputable def fi : Fin := ⟨Γ0, [], [], [false], [([.sl e_0 16, .int .i64, .sl e_1 72], [0, 1, 1])], []⟩
noncomputable def m : Fn [.l, .l, .l, .i] (Fn [.l, .i, .l] Res) := fun _ _ _ _ r1 r2 r3 => ⟨[], [none], [⟨e_1, .cells r3, false, 0, none⟩], [[.tr 2 2 e_0 (.cells r1), cI r2, .ow 1000]], []⟩
noncomputable def b0 : Code := codeAt c [1, 1, 0, 0]
noncomputable def l0s (x5 : List (List Cl)) (x6 : Int) (x9 : List (List Cl)) (x10 : Int) (rec : Int → List (List Cl) → O) (k : List (List Cl) → O) (x7 : Int) (x8 : List (List Cl)) : O :=
 bif decide (x7 < (x5.length : Int)) then (bif decide (0 ≤ x7) && decide (x7 < (x5.length : Int)) then (bif (((x5.getD x7.toNat []).getD 0 (.i 0)).toI == 5) then (bif decide ((x8.length + 1) * 72 ≤ 140737488355328) then rec (IntKind.i64.wrap (x7 + 1)) (x8 ++ ([[.i (((x5.getD x7.toNat []).getD 0 (.i 0)).toI), .i (IntKind.i64.wrap ((((x5.getD x7.toNat []).getD 1 (.i 0)).toI) + x6)), .i (IntKind.i64.wrap ((((x5.getD x7.toNat []).getD 2 (.i 0)).toI) + x6)), .i (((x5.getD x7.toNat []).getD 3 (.i 0)).toI), .i (((x5.getD x7.toNat []).getD 4 (.i 0)).toI), .i (((x5.getD x7.toNat []).getD 5 (.i 0)).toI), .l (((x5.getD x7.toNat []).getD 6 (.i 0)).toL)]] : List (List Cl)))
  else none)
  else bif (((x5.getD x7.toNat []).getD 0 (.i 0)).toI == 4) then (bif decide ((x8.length + 1) * 72 ≤ 140737488355328) then rec (IntKind.i64.wrap (x7 + 1)) (x8 ++ ([[.i (((x5.getD x7.toNat []).getD 0 (.i 0)).toI), .i (((x5.getD x7.toNat []).getD 1 (.i 0)).toI), .i (IntKind.i64.wrap ((((x5.getD x7.toNat []).getD 2 (.i 0)).toI) + x6)), .i (((x5.getD x7.toNat []).getD 3 (.i 0)).toI), .i (((x5.getD x7.toNat []).getD 4 (.i 0)).toI), .i (((x5.getD x7.toNat []).getD 5 (.i 0)).toI), .l (((x5.getD x7.toNat []).getD 6 (.i 0)).toL)]] : List (List Cl)))
   else none)
  else bif (((x5.getD x7.toNat []).getD 0 (.i 0)).toI == 3) then (bif decide ((x8.length + 1) * 72 ≤ 140737488355328) then rec (IntKind.i64.wrap (x7 + 1)) (x8 ++ ([[.i (((x5.getD x7.toNat []).getD 0 (.i 0)).toI), .i (((x5.getD x7.toNat []).getD 1 (.i 0)).toI), .i (IntKind.i64.wrap ((((x5.getD x7.toNat []).getD 2 (.i 0)).toI) + x6)), .i (((x5.getD x7.toNat []).getD 3 (.i 0)).toI), .i (((x5.getD x7.toNat []).getD 4 (.i 0)).toI), .i (((x5.getD x7.toNat []).getD 5 (.i 0)).toI), .l (((x5.getD x7.toNat []).getD 6 (.i 0)).toL)]] : List (List Cl)))
   else none)
  else bif decide ((x8.length + 1) * 72 ≤ 140737488355328) then rec (IntKind.i64.wrap (x7 + 1)) (x8 ++ ([[.i (((x5.getD x7.toNat []).getD 0 (.i 0)).toI), .i (((x5.getD x7.toNat []).getD 1 (.i 0)).toI), .i (((x5.getD x7.toNat []).getD 2 (.i 0)).toI), .i (((x5.getD x7.toNat []).getD 3 (.i 0)).toI), .i (((x5.getD x7.toNat []).getD 4 (.i 0)).toI), .i (((x5.getD x7.toNat []).getD 5 (.i 0)).toI), .l (((x5.getD x7.toNat []).getD 6 (.i 0)).toL)]] : List (List Cl)))
  else none)
  else none)
 else k x8
noncomputable def l0 (x5 : List (List Cl)) (x6 : Int) (x9 : List (List Cl)) (x10 : Int) (k : List (List Cl) → O) : Nat → Int → List (List Cl) → O
 | 0, _, _ => none
 | n + 1, x7, x8 => l0s x5 x6 x9 x10 (l0 x5 x6 x9 x10 k n) k x7 x8
noncomputable def o0 : Fn [.l, .i, .l, .i, .l] St := fun _ _ x9 x10 y1 => ⟨mkT 54 [], [(102401000, ⟨e_1, .cells y1, false, 0, none⟩)], [(0, [.tr 2 2 e_0 (.cells x9), cI x10, .ow 102401000])]⟩
noncomputable def n0 (K : Res → O) := ent 0 [.l, .i, .l, .i] [.i, .l] [0, 1, 4, 5, 2, 3] (fun x5 x6 x9 x10 x7 x8 => ⟨mkT 54 [(0, one (.bp 0 0)), (1, one (.tr 0 2 e_1 (.cells x5))), (4, oI x6), (5, oI x7)], [(102401000, ⟨e_1, .cells x8, false, 0, none⟩)], [(0, [.tr 2 2 e_0 (.cells x9), cI x10, .ow 102401000])]⟩) fun x5 x6 x9 x10 k => l0 x5 x6 x9 x10 (fun y1 => k (o0 x5 x6 x9 x10 y1))
noncomputable def X (K : Res → O) : Ctx := { cx0 [] fi true K with cin := [(0, ⟨[0, 1, 4, 5], [(0, 102401000), (25688, 102401000)], [0], [102401000], [], []⟩)], cout := [(0, ⟨[], [(102401000, 102401000)], [0], [], [], []⟩)], lp := lpOf [n0 K] }
noncomputable def b (a1 a2 a3 : List (List Cl)) (a4 : Int) (R : List (List Cl) → Int → List (List Cl) → O) : O :=
 l0 a1 (a2.length : Int) a3 a4 (fun y11 =>
 R a3 a4 y11) fuel 0 a2
noncomputable def g := seal_ b
theorem e : g = b := seal_eq b
noncomputable def a : Fn [.l, .l, .l, .i] St := fun a1 a2 a3 a4 => argSt [one (.bp 0 0), one (.tr 0 2 e_1 (.cells a1))] [⟨e_1, .cells a2, true, 0, none⟩] [[.tr 2 2 e_0 (.cells a3), cI a4, .ow 0]]
noncomputable def con := conOf 27 [.l, .l, .l, .i] [.l, .i, .l] a g m
theorem hx (K : Res → O) : CtxOk Pg Γ0 byt0 eqs0 (X K) [] := ctx_of (X := X) .nil (by kernel_rfl) K
theorem w0 (K : Res → O) : LpSound Pg (X K) 0 b0 := lp_fin (L := [n0 K]) laid (hx K) .nil (.cons (ent_ok (fun x5 x6 x9 x10 k r => l0s x5 x6 x9 x10 r (fun y1 => k (o0 x5 x6 x9 x10 y1))) (by kernel_rfl) (by kernel_rfl) (by kernel_rfl) (by kernel_rfl) (by kernel_rfl)) .nil) (by kernel_rfl) (by kernel_rfl)
theorem ok : Con Pg con := con_fin (fn := Try.f27) (c := c) (Fi := fi) (X := X) laid hx (fun K => (.cons (w0 K) .nil)) e (by kernel_rfl) (by kernel_rfl) (by kernel_rfl) (by kernel_rfl)
end spec_l9Behind
namespace spec_FunTwo
noncomputable def c : Code := bodyOf Try.f28
noncomputable def fi : Fin := ⟨Γ0, [(.tmp 2, 4)], [[1]], [], [], []⟩
noncomputable def m : Fn [.i, .i, .i] (Fn [.b] Res) := fun _ _ _ r1 => ⟨[⟨false, [.bool r1]⟩], [], [], [], []⟩
noncomputable def X (K : Res → O) : Ctx := cx0 [spec_l1Sign2.con] fi true K
noncomputable def b (a1 a2 a3 : Int) (R : Bool → O) : O :=
 bif (a2 == 46) then (spec_l1Sign2.g a1 fun r4 =>
  bif r4 then (spec_l1Sign2.g a3 fun r5 =>
   R r5)
  else R false)
 else bif (a3 != 0) then R false
 else bif (a2 == 111) then (spec_l1Sign2.g a1 fun r6 =>
  R r6)
 else bif (a2 != 0) then R false
 else (spec_l1Sign2.g a1 fun r7 =>
 bif r7 then R true
 else bif (a1 == 35) then R true
 else bif (a1 == 44) then R true
 else bif (a1 == 116) then R true
 else bif (a1 == 100) then R true
 else bif (a1 == 114) then R true
 else bif (a1 == 64) then R true
 else bif (a1 == 63) then R true
 else bif (a1 == 36) then R true
 else R (a1 == 101))
noncomputable def g := seal_ b
theorem e : g = b := seal_eq b
noncomputable def a : Fn [.i, .i, .i] St := fun a1 a2 a3 => argSt [.v ⟨true, [cI a1, cI a2, cI a3]⟩] [] []
noncomputable def con := conOf 28 [.i, .i, .i] [.b] a g m
theorem ok : Con Pg con := con_fin (fn := Try.f28) (c := c) (Fi := fi) (X := X) laid (ctx_of (.cons spec_l1Sign2.ok .nil) (by kernel_rfl)) (fun K => .nil) e (by kernel_rfl) (by kernel_rfl) (by kernel_rfl) (by kernel_rfl)
end spec_FunTwo
namespace spec_l9Kind_L2
noncomputable def c : Code := bodyOf Try.f23
noncomputable def fi : Fin := ⟨Γ0, [(.tmp 4, 3)], [[1]], [true], [([.sl e_0 16, .int .i64, .sl e_1 72], [0, 1, 2])], []⟩
noncomputable def m : Fn [.i, .l, .l, .i] (Fn [.i] Res) := fun _ a2 a3 a4 r1 => ⟨[⟨false, [cI r1]⟩], [some ⟨e_1, .cells a2, false, 0, none⟩], [], [[.tr 2 2 e_0 (.cells a3), cI a4, .ow 0]], []⟩
noncomputable def X (K : Res → O) : Ctx := cx0 [] fi true K
noncomputable def b (a1 : Int) (a2 a3 : List (List Cl)) (a4 : Int) (R : Int → O) : O :=
 bif decide ((a3.length : Int) ≤ IntKind.i64.wrap (a4 + a1)) then R 0
 else bif decide (0 ≤ IntKind.i64.wrap (a4 + a1)) && decide (IntKind.i64.wrap (a4 + a1) < (a3.length : Int)) then R (((a3.getD ((IntKind.i64.wrap (a4 + a1)).toNat) []).getD 0 (.i 0)).toI)
 else none
noncomputable def g := seal_ b
theorem e : g = b := seal_eq b
noncomputable def a : Fn [.i, .l, .l, .i] St := fun a1 a2 a3 a4 => argSt [one (.bp 0 0), oI a1] [⟨e_1, .cells a2, false, 0, none⟩] [[.tr 2 2 e_0 (.cells a3), cI a4, .ow 0]]
noncomputable def con := conOf 23 [.i, .l, .l, .i] [.i] a g m
theorem ok : Con Pg con := con_fin (fn := Try.f23) (c := c) (Fi := fi) (X := X) laid (ctx_of .nil (by kernel_rfl)) (fun K => .nil) e (by kernel_rfl) (by kernel_rfl) (by kernel_rfl) (by kernel_rfl)
end spec_l9Kind_L2
namespace spec_l9Behind_L2
noncomputable def c : Code := bodyOf Try.f27
noncomputable def fi : Fin := ⟨Γ0, [], [], [false], [([.sl e_0 16, .int .i64, .sl e_1 72], [0, 1, 1])], []⟩
noncomputable def m : Fn [.l, .l, .l, .i] (Fn [.l, .i, .l] Res) := fun _ _ _ _ r1 r2 r3 => ⟨[], [none], [⟨e_1, .cells r3, false, 0, none⟩], [[.tr 2 2 e_0 (.cells r1), cI r2, .ow 1000]], []⟩
noncomputable def b0 : Code := codeAt c [1, 1, 0, 0]
noncomputable def l0s (x5 : List (List Cl)) (x6 : Int) (x9 : List (List Cl)) (x10 : Int) (rec : Int → List (List Cl) → O) (k : List (List Cl) → O) (x7 : Int) (x8 : List (List Cl)) : O :=
 bif decide (x7 < (x5.length : Int)) then (bif decide (0 ≤ x7) && decide (x7 < (x5.length : Int)) then (bif (((x5.getD x7.toNat []).getD 0 (.i 0)).toI == 5) then (bif decide ((x8.length + 1) * 72 ≤ 140737488355328) then rec (IntKind.i64.wrap (x7 + 1)) (x8 ++ ([[.i (((x5.getD x7.toNat []).getD 0 (.i 0)).toI), .i (IntKind.i64.wrap ((((x5.getD x7.toNat []).getD 1 (.i 0)).toI) + x6)), .i (IntKind.i64.wrap ((((x5.getD x7.toNat []).getD 2 (.i 0)).toI) + x6)), .i (((x5.getD x7.toNat []).getD 3 (.i 0)).toI), .i (((x5.getD x7.toNat []).getD 4 (.i 0)).toI), .i (((x5.getD x7.toNat []).getD 5 (.i 0)).toI), .l (((x5.getD x7.toNat []).getD 6 (.i 0)).toL)]] : List (List Cl)))
  else none)
  else bif (((x5.getD x7.toNat []).getD 0 (.i 0)).toI == 4) then (bif decide ((x8.length + 1) * 72 ≤ 140737488355328) then rec (IntKind.i64.wrap (x7 + 1)) (x8 ++ ([[.i (((x5.getD x7.toNat []).getD 0 (.i 0)).toI), .i (((x5.getD x7.toNat []).getD 1 (.i 0)).toI), .i (IntKind.i64.wrap ((((x5.getD x7.toNat []).getD 2 (.i 0)).toI) + x6)), .i (((x5.getD x7.toNat []).getD 3 (.i 0)).toI), .i (((x5.getD x7.toNat []).getD 4 (.i 0)).toI), .i (((x5.getD x7.toNat []).getD 5 (.i 0)).toI), .l (((x5.getD x7.toNat []).getD 6 (.i 0)).toL)]] : List (List Cl)))
   else none)
  else bif (((x5.getD x7.toNat []).getD 0 (.i 0)).toI == 3) then (bif decide ((x8.length + 1) * 72 ≤ 140737488355328) then rec (IntKind.i64.wrap (x7 + 1)) (x8 ++ ([[.i (((x5.getD x7.toNat []).getD 0 (.i 0)).toI), .i (((x5.getD x7.toNat []).getD 1 (.i 0)).toI), .i (IntKind.i64.wrap ((((x5.getD x7.toNat []).getD 2 (.i 0)).toI) + x6)), .i (((x5.getD x7.toNat []).getD 3 (.i 0)).toI), .i (((x5.getD x7.toNat []).getD 4 (.i 0)).toI), .i (((x5.getD x7.toNat []).getD 5 (.i 0)).toI), .l (((x5.getD x7.toNat []).getD 6 (.i 0)).toL)]] : List (List Cl)))
   else none)
  else bif decide ((x8.length + 1) * 72 ≤ 140737488355328) then rec (IntKind.i64.wrap (x7 + 1)) (x8 ++ ([[.i (((x5.getD x7.toNat []).getD 0 (.i 0)).toI), .i (((x5.getD x7.toNat []).getD 1 (.i 0)).toI), .i (((x5.getD x7.toNat []).getD 2 (.i 0)).toI), .i (((x5.getD x7.toNat []).getD 3 (.i 0)).toI), .i (((x5.getD x7.toNat []).getD 4 (.i 0)).toI), .i (((x5.getD x7.toNat []).getD 5 (.i 0)).toI), .l (((x5.getD x7.toNat []).getD 6 (.i 0)).toL)]] : List (List Cl)))
  else none)
  else none)
 else k x8
noncomputable def l0 (x5 : List (List Cl)) (x6 : Int) (x9 : List (List Cl)) (x10 : Int) (k : List (List Cl) → O) : Nat → Int → List (List Cl) → O
 | 0, _, _ => none
 | n + 1, x7, x8 => l0s x5 x6 x9 x10 (l0 x5 x6 x9 x10 k n) k x7 x8
noncomputable def o0 : Fn [.l, .i, .l, .i, .l] St := fun _ _ x9 x10 y1 => ⟨mkT 54 [], [(102401000, ⟨e_1, .cells y1, false, 0, none⟩)], [(0, [.tr 2 2 e_0 (.cells x9), cI x10, .ow 102401000])]⟩
noncomputable def n0 (K : Res → O) := ent 0 [.l, .i, .l, .i] [.i, .l] [0, 1, 4, 5, 2, 3] (fun x5 x6 x9 x10 x7 x8 => ⟨mkT 54 [(0, one (.bp 0 0)), (1, one (.tr 0 2 e_1 (.cells x5))), (4, oI x6), (5, oI x7)], [(102401000, ⟨e_1, .cells x8, false, 0, none⟩)], [(0, [.tr 2 2 e_0 (.cells x9), cI x10, .ow 102401000])]⟩) fun x5 x6 x9 x10 k => l0 x5 x6 x9 x10 (fun y1 => k (o0 x5 x6 x9 x10 y1))
noncomputable def X (K : Res → O) : Ctx := { cx0 [] fi true K with cin := [(0, ⟨[0, 1, 4, 5], [(0, 102401000), (25688, 102401000)], [0], [], [], []⟩)], cout := [(0, ⟨[], [(102401000, 102401000)], [0], [], [], []⟩)], lp := lpOf [n0 K] }
noncomputable def b (a1 a2 a3 : List (List Cl)) (a4 : Int) (R : List (List Cl) → Int → List (List Cl) → O) : O :=
 l0 a1 (a2.length : Int) a3 a4 (fun y11 =>
 R a3 a4 y11) fuel 0 a2
noncomputable def g := seal_ b
theorem e : g = b := seal_eq b
noncomputable def a : Fn [.l, .l, .l, .i] St := fun a1 a2 a3 a4 => argSt [one (.bp 0 0), one (.tr 0 2 e_1 (.cells a1))] [⟨e_1, .cells a2, false, 0, none⟩] [[.tr 2 2 e_0 (.cells a3), cI a4, .ow 0]]
noncomputable def con := conOf 27 [.l, .l, .l, .i] [.l, .i, .l] a g m
theorem hx (K : Res → O) : CtxOk Pg Γ0 byt0 eqs0 (X K) [] := ctx_of (X := X) .nil (by kernel_rfl) K
theorem w0 (K : Res → O) : LpSound Pg (X K) 0 b0 := lp_fin (L := [n0 K]) laid (hx K) .nil (.cons (ent_ok (fun x5 x6 x9 x10 k r => l0s x5 x6 x9 x10 r (fun y1 => k (o0 x5 x6 x9 x10 y1))) (by kernel_rfl) (by kernel_rfl) (by kernel_rfl) (by kernel_rfl) (by kernel_rfl)) .nil) (by kernel_rfl) (by kernel_rfl)
theorem ok : Con Pg con := con_fin (fn := Try.f27) (c := c) (Fi := fi) (X := X) laid hx (fun K => (.cons (w0 K) .nil)) e (by kernel_rfl) (by kernel_rfl) (by kernel_rfl) (by kernel_rfl)
end spec_l9Behind_L2
-- GROUP spec_l9Operand spec_l9Line
namespace spec_l9Operand
noncomputable def c : Code := bodyOf Try.f26
noncomputable def fi : Fin := ⟨Γ0, [(.tmp 2, 4)], [[1]], [false], [([.sl e_0 16, .int .i64, .sl e_1 72], [0, 1, 11])], []⟩
noncomputable def m : Fn [.l, .l, .i] (Fn [.b, .l, .i, .l] Res) := fun _ _ _ r1 r2 r3 r4 => ⟨[⟨false, [.bool r1]⟩], [none], [⟨e_1, .cells r4, false, 0, none⟩], [[.tr 2 2 e_0 (.cells r2), cI r3, .ow 1000]], []⟩
noncomputable def b1 : Code := codeAt c [1, 0, 1, 0, 1, 0, 1, 0, 0, 0]
noncomputable abbrev T : Type := List (List Cl) → List (List Cl) → Int → (Bool → List (List Cl) → Int → List (List Cl) → O) → O
noncomputable def a : Fn [.l, .l, .i] St := fun a1 a2 a3 => argSt [one (.bp 0 0)] [⟨e_1, .cells a1, true, 0, none⟩] [[.tr 2 2 e_0 (.cells a2), cI a3, .ow 0]]
noncomputable def conz (h : T) := conOf 26 [.l, .l, .i] [.b, .l, .i, .l] a h m
end spec_l9Operand
namespace spec_l9Line
noncomputable def c : Code := bodyOf Try.f14
noncomputable def fi : Fin := ⟨Γ0, [(.tmp 2, 4)], [[1]], [false], [([.sl e_0 16, .int .i64, .sl e_1 72], [0, 1, 11])], []⟩
noncomputable def m : Fn [.l, .l, .i] (Fn [.b, .l, .i, .l] Res) := fun _ _ _ r1 r2 r3 r4 => ⟨[⟨false, [.bool r1]⟩], [none], [⟨e_1, .cells r4, false, 0, none⟩], [[.tr 2 2 e_0 (.cells r2), cI r3, .ow 1000]], []⟩
noncomputable abbrev T : Type := List (List Cl) → List (List Cl) → Int → (Bool → List (List Cl) → Int → List (List Cl) → O) → O
noncomputable def a : Fn [.l, .l, .i] St := fun a1 a2 a3 => argSt [one (.bp 0 0)] [⟨e_1, .cells a1, true, 0, none⟩] [[.tr 2 2 e_0 (.cells a2), cI a3, .ow 0]]
noncomputable def conz (h : T) := conOf 14 [.l, .l, .i] [.b, .l, .i, .l] a h m
end spec_l9Line
noncomputable abbrev Z_spec_l9Operand : Type := spec_l9Operand.T × spec_l9Line.T
noncomputable def Gd_spec_l9Operand (z : Z_spec_l9Operand) : Prop := Con Pg (spec_l9Operand.conz z.1) ∧ Con Pg (spec_l9Line.conz z.2)
namespace spec_l9Operand
noncomputable def l1s (x5 x7 : List (List Cl)) (x9 x10 x11 x12 x13 x14 : Int) (rec : List Int → Int → O) (k : List Int → Int → O) (x6 : List Int) (x8 : Int) : O :=
 spec_l9Kind.g 0 x5 x7 x8 fun r15 =>
 bif (r15 == 1) then (bif decide (0 ≤ x8) && decide (x8 < (x7.length : Int)) then (bif decide ((x6.length + 1) * 8 ≤ 140737488355328) then rec (x6 ++ ([((x7.getD x8.toNat []).getD 1 (.i 0)).toI] : List Int)) (IntKind.i64.wrap (x8 + 1))
  else none)
  else none)
 else k x6 x8
noncomputable def l1 (x5 x7 : List (List Cl)) (x9 x10 x11 x12 x13 x14 : Int) (k : List Int → Int → O) : Nat → List Int → Int → O
 | 0, _, _ => none
 | n + 1, x6, x8 => l1s x5 x7 x9 x10 x11 x12 x13 x14 (l1 x5 x7 x9 x10 x11 x12 x13 x14 k n) k x6 x8
noncomputable def o1 : Fn [.l, .l, .i, .i, .i, .i, .i, .i, .z, .i] St := fun x5 x7 x9 x10 x11 x12 x13 x14 y2 y4 => ⟨mkT 103 [(0, one (.bp 0 0)), (3, one (.bp 7160 0))], [(0, ⟨e_1, .cells x5, true, 0, none⟩), (7158, ⟨[.int .i64], .ints y2, true, 0, none⟩)], [(0, [.tr 2 2 e_0 (.cells x7), cI y4, .ow 0]), (7160, [cI x9, cI x10, cI x11, cI x12, cI x13, cI x14, .ow 7158])]⟩
noncomputable def n1 (K : Res → O) := ent 1 [.l, .l, .i, .i, .i, .i, .i, .i] [.z, .i] [0, 2, 4, 5, 6, 7, 8, 9, 1, 3] (fun x5 x7 x9 x10 x11 x12 x13 x14 x6 x8 => ⟨mkT 103 [(0, one (.bp 0 0)), (3, one (.bp 7160 0))], [(0, ⟨e_1, .cells x5, true, 0, none⟩), (7158, ⟨[.int .i64], .ints x6, true, 0, none⟩)], [(0, [.tr 2 2 e_0 (.cells x7), cI x8, .ow 0]), (7160, [cI x9, cI x10, cI x11, cI x12, cI x13, cI x14, .ow 7158])]⟩) fun x5 x7 x9 x10 x11 x12 x13 x14 k => l1 x5 x7 x9 x10 x11 x12 x13 x14 (fun y2 y4 => k (o1 x5 x7 x9 x10 x11 x12 x13 x14 y2 y4))
noncomputable def X (z : Z_spec_l9Operand) (K : Res → O) : Ctx := { cx0 [spec_l9Kind.con, spec_l9Line.conz z.2, spec_l9Kind_L2.con] fi true K with own := [(3, 0, 6, [.int .i64])], cin := [(1, ⟨[0, 3], [(0, 0), (7158, 7158), (11464, 7158)], [0, 7160], [], [], []⟩)], cout := [(1, ⟨[0, 3], [(0, 0), (7158, 7158)], [0, 7160], [], [], []⟩)], lp := lpOf [n1 K] }
noncomputable def g (z : Z_spec_l9Operand) (a1 a2 : List (List Cl)) (a3 : Int) (R : Bool → List (List Cl) → Int → List (List Cl) → O) : O :=
 spec_l9Kind.g 0 a1 a2 a3 fun r4 =>
 bif (r4 == 1) then (l1 a1 a2 1 0 0 0 0 0 (fun y16 y17 =>
  bif decide ((a1.length + 1) * 72 ≤ 140737488355328) then R true a2 y17 (a1 ++ ([[.i 1, .i 0, .i 0, .i 0, .i 0, .i 0, .l y16]] : List (List Cl)))
  else none) fuel ([] : List Int) a3)
 else bif (r4 == 2) then (bif decide (0 ≤ a3) && decide (a3 < (a2.length : Int)) then (bif decide ((a1.length + 1) * 72 ≤ 140737488355328) then R true a2 (IntKind.i64.wrap (a3 + 1)) (a1 ++ ([[.i 2, .i (((a2.getD a3.toNat []).getD 1 (.i 0)).toI), .i 0, .i 0, .i 0, .i 0, .l ([] : List Int)]] : List (List Cl)))
  else none)
  else none)
 else bif (r4 == 4) then (z.2 a1 a2 (IntKind.i64.wrap (a3 + 1)) fun r18 r19 r20 r21 =>
  bif !r18 then R false r19 r20 r21
  else (spec_l9Kind_L2.g 0 r21 r19 r20 fun r22 =>
  bif (r22 != 5) then R false r19 r20 r21
  else R true r19 (IntKind.i64.wrap (r20 + 1)) r21))
 else R false a2 a3 a1
theorem hx (z : Z_spec_l9Operand) (hz : Gd_spec_l9Operand z) (K : Res → O) : CtxOk Pg Γ0 byt0 eqs0 ((X z) K) [spec_l9Kind.con, spec_l9Line.conz z.2, spec_l9Kind_L2.con] := ctx_of (X := (X z)) (.cons spec_l9Kind.ok (.cons hz.2 (.cons spec_l9Kind_L2.ok .nil))) (by kernel_rfl) K
theorem w1 (z : Z_spec_l9Operand) (hz : Gd_spec_l9Operand z) (K : Res → O) : LpSound Pg ((X z) K) 1 b1 := lp_fin (L := [n1 K]) laid ((hx z hz) K) .nil (.cons (ent_ok (fun x5 x7 x9 x10 x11 x12 x13 x14 k r => l1s x5 x7 x9 x10 x11 x12 x13 x14 r (fun y2 y4 => k (o1 x5 x7 x9 x10 x11 x12 x13 x14 y2 y4))) (by kernel_rfl) (by kernel_rfl) (by kernel_rfl) (by kernel_rfl) (by kernel_rfl)) .nil) (by kernel_rfl) (by kernel_rfl)
theorem ok (z : Z_spec_l9Operand) (hz : Gd_spec_l9Operand z) : Con Pg (conz (g z)) := con_fin (fn := Try.f26) (c := c) (Fi := fi) (X := (X z)) laid (hx z hz) (fun K => (.cons ((w1 z hz) K) .nil)) rfl (by kernel_rfl) (by kernel_rfl) (by kernel_rfl) (by kernel_rfl)
end spec_l9Operand
namespace spec_l9Line
noncomputable def X (z : Z_spec_l9Operand) (K : Res → O) : Ctx := { cx0 [spec_l9Kind.con, spec_l9Line.conz z.2, spec_l9Fun.con, spec_FunOne.con, spec_l9Operand.conz z.1, spec_l9Behind.con, spec_FunTwo.con, spec_l9Behind_L2.con] fi true K with io := [(27, [⟨false, 0, 1⟩, ⟨false, 0, 2⟩])], own := [(15, 8, 2, e_1)] }
noncomputable def g (z : Z_spec_l9Operand) (a1 a2 : List (List Cl)) (a3 : Int) (R : Bool → List (List Cl) → Int → List (List Cl) → O) : O :=
 spec_l9Kind.g 0 a1 a2 a3 fun r4 =>
 bif (r4 == 2) then (spec_l9Kind.g 1 a1 a2 a3 fun r5 =>
  bif (r5 == 6) then (bif decide (0 ≤ a3) && decide (a3 < (a2.length : Int)) then (z.2 a1 a2 (IntKind.i64.wrap (a3 + 2)) fun r6 r7 r8 r9 =>
   bif !r6 then R false r7 r8 r9
   else bif decide ((r9.length + 1) * 72 ≤ 140737488355328) then R true r7 r8 (r9 ++ ([[.i 3, .i (((a2.getD a3.toNat []).getD 1 (.i 0)).toI), .i (IntKind.i64.wrap ((r9.length : Int) - 1)), .i 0, .i 0, .i 0, .l ([] : List Int)]] : List (List Cl)))
   else none)
   else none)
  else bif (r4 == 3) then (spec_l9Fun.g a1 a2 a3 fun r10 r11 r12 r13 r14 =>
   spec_FunOne.g r10 r11 r12 fun r15 =>
   bif !r15 then R false a2 r14 a1
   else (z.2 a1 a2 r14 fun r16 r17 r18 r19 =>
   bif !r16 then R false r17 r18 r19
   else bif decide ((r19.length + 1) * 72 ≤ 140737488355328) then R true r17 r18 (r19 ++ ([[.i 4, .i 0, .i (IntKind.i64.wrap ((r19.length : Int) - 1)), .i r10, .i r11, .i r12, .l ([] : List Int)]] : List (List Cl)))
   else none))
  else (z.1 ([] : List (List Cl)) a2 a3 fun r20 r21 r22 r23 =>
  bif !r20 then R false a2 a3 a1
  else (spec_l9Fun.g a1 a2 r22 fun r24 r25 r26 r27 r28 =>
  bif !r27 then (spec_l9Behind.g r23 a1 a2 r28 fun r29 r30 r31 =>
   R true r29 r30 r31)
  else (spec_FunTwo.g r24 r25 r26 fun r32 =>
  bif !r32 then R false a2 r28 a1
  else (z.2 a1 a2 r28 fun r33 r34 r35 r36 =>
  bif !r33 then R false r34 r35 r36
  else (spec_l9Behind_L2.g r23 r36 r34 r35 fun r37 r38 r39 =>
  bif decide ((r39.length + 1) * 72 ≤ 140737488355328) then R true r37 r38 (r39 ++ ([[.i 5, .i (IntKind.i64.wrap ((r39.length : Int) - 1)), .i (IntKind.i64.wrap ((r36.length : Int) - 1)), .i r24, .i r25, .i r26, .l ([] : List Int)]] : List (List Cl)))
  else none))))))
 else bif (r4 == 3) then (spec_l9Fun.g a1 a2 a3 fun r40 r41 r42 r43 r44 =>
  spec_FunOne.g r40 r41 r42 fun r45 =>
  bif !r45 then R false a2 r44 a1
  else (z.2 a1 a2 r44 fun r46 r47 r48 r49 =>
  bif !r46 then R false r47 r48 r49
  else bif decide ((r49.length + 1) * 72 ≤ 140737488355328) then R true r47 r48 (r49 ++ ([[.i 4, .i 0, .i (IntKind.i64.wrap ((r49.length : Int) - 1)), .i r40, .i r41, .i r42, .l ([] : List Int)]] : List (List Cl)))
  else none))
 else (z.1 ([] : List (List Cl)) a2 a3 fun r50 r51 r52 r53 =>
 bif !r50 then R false a2 a3 a1
 else (spec_l9Fun.g a1 a2 r52 fun r54 r55 r56 r57 r58 =>
 bif !r57 then (spec_l9Behind.g r53 a1 a2 r58 fun r59 r60 r61 =>
  R true r59 r60 r61)
 else (spec_FunTwo.g r54 r55 r56 fun r62 =>
 bif !r62 then R false a2 r58 a1
 else (z.2 a1 a2 r58 fun r63 r64 r65 r66 =>
 bif !r63 then R false r64 r65 r66
 else (spec_l9Behind_L2.g r53 r66 r64 r65 fun r67 r68 r69 =>
 bif decide ((r69.length + 1) * 72 ≤ 140737488355328) then R true r67 r68 (r69 ++ ([[.i 5, .i (IntKind.i64.wrap ((r69.length : Int) - 1)), .i (IntKind.i64.wrap ((r66.length : Int) - 1)), .i r54, .i r55, .i r56, .l ([] : List Int)]] : List (List Cl)))
 else none)))))
theorem ok (z : Z_spec_l9Operand) (hz : Gd_spec_l9Operand z) : Con Pg (conz (g z)) := con_fin (fn := Try.f14) (c := c) (Fi := fi) (X := (X z)) laid (ctx_of (.cons spec_l9Kind.ok (.cons hz.2 (.cons spec_l9Fun.ok (.cons spec_FunOne.ok (.cons hz.1 (.cons spec_l9Behind.ok (.cons spec_FunTwo.ok (.cons spec_l9Behind_L2.ok .nil)))))))) (by kernel_rfl)) (fun K => .nil) rfl (by kernel_rfl) (by kernel_rfl) (by kernel_rfl) (by kernel_rfl)
end spec_l9Line
noncomputable def rec_spec_l9Operand : Nat → Z_spec_l9Operand
 | 0 => ((fun _ _ _ _ => none), (fun _ _ _ _ => none))
 | n + 1 => (spec_l9Operand.g (rec_spec_l9Operand n), spec_l9Line.g (rec_spec_l9Operand n))
theorem good_spec_l9Operand : ∀ n, Gd_spec_l9Operand (rec_spec_l9Operand n)
 | 0 => ⟨con_cst rfl, con_cst rfl⟩
 | n + 1 => ⟨spec_l9Operand.ok _ (good_spec_l9Operand n), spec_l9Line.ok _ (good_spec_l9Operand n)⟩
namespace spec_l9Operand
noncomputable def gn (n : Nat) (a1 a2 : List (List Cl)) (a3 : Int) (R : Bool → List (List Cl) → Int → List (List Cl) → O) : O := (rec_spec_l9Operand n).1 a1 a2 a3 R
noncomputable def G : T := seal_ (gn fuel)
theorem Ge : G = gn fuel := seal_eq _
theorem gn_succ (n : Nat) (a1 a2 : List (List Cl)) (a3 : Int) (R : Bool → List (List Cl) → Int → List (List Cl) → O) : gn (n + 1) a1 a2 a3 R = g (rec_spec_l9Operand n) a1 a2 a3 R := rfl
noncomputable def con := conz G
theorem okG : Con Pg con := by
 unfold con; rw [Ge]; exact (good_spec_l9Operand fuel).1
end spec_l9Operand
namespace spec_l9Line
noncomputable def gn (n : Nat) (a1 a2 : List (List Cl)) (a3 : Int) (R : Bool → List (List Cl) → Int → List (List Cl) → O) : O := (rec_spec_l9Operand n).2 a1 a2 a3 R
noncomputable def G : T := seal_ (gn fuel)
theorem Ge : G = gn fuel := seal_eq _
theorem gn_succ (n : Nat) (a1 a2 : List (List Cl)) (a3 : Int) (R : Bool → List (List Cl) → Int → List (List Cl) → O) : gn (n + 1) a1 a2 a3 R = g (rec_spec_l9Operand n) a1 a2 a3 R := rfl
noncomputable def con := conz G
theorem okG : Con Pg con := by
 unfold con; rw [Ge]; exact (good_spec_l9Operand fuel).2
end spec_l9Line
-- END GROUP
namespace spec_Parse
noncomputable def c : Code := bodyOf Try.f5
noncomputable def fi : Fin := ⟨Γ0, [(.cell 2 26, 26), (.tmp 3, 3)], [[9], [1]], [], [], []⟩
noncomputable def m : Fn [.l] (Fn [.l, .i] Res) := fun _ r1 r2 => ⟨[⟨true, [.ow 1000]⟩, ⟨false, [cI r2]⟩], [], [⟨e_1, .cells r1, false, 0, none⟩], [], []⟩
noncomputable def X (K : Res → O) : Ctx := { cx0 [spec_l8Tokens.con, spec_l9Line.con] fi true K with own := [(4, 1, 2, e_1)] }
noncomputable def b (a1 : List (List Cl)) (R : List (List Cl) → Int → O) : O :=
 spec_l8Tokens.g a1 fun r2 =>
 bif !r2 then R ([] : List (List Cl)) 1
 else (spec_l9Line.G ([] : List (List Cl)) a1 0 fun r3 r4 r5 r6 =>
 bif !r3 then R ([] : List (List Cl)) 8
 else bif (r5 != (a1.length : Int)) then R ([] : List (List Cl)) 8
 else bif decide (60 < (r6.length : Int)) then R ([] : List (List Cl)) 6
 else R r6 0)
noncomputable def g := seal_ b
theorem e : g = b := seal_eq b
noncomputable def a : Fn [.l] St := fun a1 => argSt [one (.tr 2 2 e_0 (.cells a1))] [] []
noncomputable def con := conOf 5 [.l] [.l, .i] a g m
theorem ok : Con Pg con := con_fin (fn := Try.f5) (c := c) (Fi := fi) (X := X) laid (ctx_of (.cons spec_l8Tokens.ok (.cons spec_l9Line.okG .nil)) (by kernel_rfl)) (fun K => .nil) e (by kernel_rfl) (by kernel_rfl) (by kernel_rfl) (by kernel_rfl)
end spec_Parse
namespace impl_within
noncomputable def c : Code := bodyOf Try.f50
noncomputable def fi : Fin := ⟨Γ0, [(.tmp 6, 4)], [[1]], [], [], []⟩
noncomputable def m : Fn [.i, .i, .i] (Fn [.b] Res) := fun _ _ _ r1 => ⟨[⟨false, [.bool r1]⟩], [], [], [], []⟩
noncomputable def X (K : Res → O) : Ctx := cx0 [] fi true K
noncomputable def b (a1 a2 a3 : Int) (R : Bool → O) : O :=
 bif decide (a2 ≤ a1) then R (decide (a1 ≤ a3))
 else R false
noncomputable def g := seal_ b
theorem e : g = b := seal_eq b
noncomputable def a : Fn [.i, .i, .i] St := fun a1 a2 a3 => argSt [oI a1, oI a2, oI a3] [] []
noncomputable def con := conOf 50 [.i, .i, .i] [.b] a g m
theorem ok : Con Pg con := con_fin (fn := Try.f50) (c := c) (Fi := fi) (X := X) laid (ctx_of .nil (by kernel_rfl)) (fun K => .nil) e (by kernel_rfl) (by kernel_rfl) (by kernel_rfl) (by kernel_rfl)
end impl_within
namespace impl_NumOk
noncomputable def c : Code := bodyOf Try.f49
noncomputable def fi : Fin := ⟨Γ0, [(.tmp 2, 4)], [[1]], [], [], []⟩
noncomputable def m : Fn [.i] (Fn [.b] Res) := fun _ r1 => ⟨[⟨false, [.bool r1]⟩], [], [], [], []⟩
noncomputable def X (K : Res → O) : Ctx := cx0 [impl_within.con] fi true K
noncomputable def b (a1 : Int) (R : Bool → O) : O :=
 impl_within.g a1 (-1000000000000) 1000000000000 fun r2 =>
 R r2
noncomputable def g := seal_ b
theorem e : g = b := seal_eq b
noncomputable def a : Fn [.i] St := fun a1 => argSt [oI a1] [] []
noncomputable def con := conOf 49 [.i] [.b] a g m
theorem ok : Con Pg con := con_fin (fn := Try.f49) (c := c) (Fi := fi) (X := X) laid (ctx_of (.cons impl_within.ok .nil) (by kernel_rfl)) (fun K => .nil) e (by kernel_rfl) (by kernel_rfl) (by kernel_rfl) (by kernel_rfl)
end impl_NumOk
namespace impl_hasSign
noncomputable def c : Code := bodyOf Try.f51
noncomputable def fi : Fin := ⟨Γ0, [(.tmp 4, 4)], [[1]], [], [], []⟩
noncomputable def m : Fn [.s, .i] (Fn [.b] Res) := fun _ _ r1 => ⟨[⟨false, [.bool r1]⟩], [], [], [], []⟩
noncomputable def b0 : Code := codeAt c [1, 0, 1, 0, 0]
noncomputable def l0s (x3 : ByteArray) (x4 : Int) (rec : Int → O) (k : O) (R : Bool → O) (x5 : Int) : O :=
 bif decide (x5 < (x3.size : Int)) then (bif decide (0 ≤ x5) && decide (x5 < (x3.size : Int)) then (bif (IntKind.i64.wrap ((bytesOf x3).getD x5.toNat 0) == x4) then R true
  else rec (IntKind.i64.wrap (x5 + 1)))
  else none)
 else k
noncomputable def l0 (x3 : ByteArray) (x4 : Int) (k : O) (R : Bool → O) : Nat → Int → O
 | 0, _ => none
 | n + 1, x5 => l0s x3 x4 (l0 x3 x4 k R n) k R x5
noncomputable def o0 : Fn [.s, .i] St := fun _ _ => ⟨mkT 18 [], [], []⟩
noncomputable def n0 (K : Res → O) := ent 0 [.s, .i] [.i] [0, 1, 2] (fun x3 x4 x5 => ⟨mkT 18 [(0, one (.str x3)), (1, oI x4), (5, oI x5)], [], []⟩) fun x3 x4 k => l0 x3 x4 (k (o0 x3 x4)) (fun r1 => K (m ByteArray.empty (0 : Int) r1))
noncomputable def X (K : Res → O) : Ctx := { cx0 [] fi true K with cin := [(0, ⟨[0, 1, 5], [], [], [], [], []⟩)], cout := [(0, ⟨[], [], [], [], [], []⟩)], lp := lpOf [n0 K] }
noncomputable def b (a1 : ByteArray) (a2 : Int) (R : Bool → O) : O :=
 l0 a1 a2 (
 R false) R fuel 0
noncomputable def g := seal_ b
theorem e : g = b := seal_eq b
noncomputable def a : Fn [.s, .i] St := fun a1 a2 => argSt [one (.str a1), oI a2] [] []
noncomputable def con := conOf 51 [.s, .i] [.b] a g m
theorem hx (K : Res → O) : CtxOk Pg Γ0 byt0 eqs0 (X K) [] := ctx_of (X := X) .nil (by kernel_rfl) K
theorem w0 (K : Res → O) : LpSound Pg (X K) 0 b0 := lp_fin (L := [n0 K]) laid (hx K) .nil (.cons (ent_ok (fun x3 x4 k r => l0s x3 x4 r (k (o0 x3 x4)) (fun r1 => K (m ByteArray.empty (0 : Int) r1))) (by kernel_rfl) (by kernel_rfl) (by kernel_rfl) (by kernel_rfl) (by kernel_rfl)) .nil) (by kernel_rfl) (by kernel_rfl)
theorem ok : Con Pg con := con_fin (fn := Try.f51) (c := c) (Fi := fi) (X := X) laid hx (fun K => (.cons (w0 K) .nil)) e (by kernel_rfl) (by kernel_rfl) (by kernel_rfl) (by kernel_rfl)
end impl_hasSign
namespace impl_TokenOk
noncomputable def c : Code := bodyOf Try.f31
noncomputable def fi : Fin := ⟨Γ0, [(.tmp 2, 4)], [[1]], [], [], []⟩
noncomputable def m : Fn [.i, .i] (Fn [.b] Res) := fun _ _ r1 => ⟨[⟨false, [.bool r1]⟩], [], [], [], []⟩
noncomputable def X (K : Res → O) : Ctx := cx0 [impl_NumOk.con, impl_within.con, impl_hasSign.con] fi true K
noncomputable def b (a1 a2 : Int) (R : Bool → O) : O :=
 bif (a1 == 1) then (impl_NumOk.g a2 fun r3 =>
  R r3)
 else bif (a1 == 2) then (impl_within.g a2 0 25 fun r4 =>
  R r4)
 else bif (a1 == 3) then (impl_hasSign.g (⟨#[43, 45, 42, 37, 124, 38, 94, 61, 60, 62, 126, 105, 35, 44, 116, 100, 114, 122, 64, 63, 103, 36, 101, 47, 92, 46, 111]⟩ : ByteArray) a2 fun r5 =>
  R r5)
 else bif (a1 == 4) then R (a2 == 0)
 else bif (a1 == 5) then R (a2 == 0)
 else bif (a1 == 6) then R (a2 == 0)
 else R false
noncomputable def g := seal_ b
theorem e : g = b := seal_eq b
noncomputable def a : Fn [.i, .i] St := fun a1 a2 => argSt [.v ⟨true, [cI a1, cI a2]⟩] [] []
noncomputable def con := conOf 31 [.i, .i] [.b] a g m
theorem ok : Con Pg con := con_fin (fn := Try.f31) (c := c) (Fi := fi) (X := X) laid (ctx_of (.cons impl_NumOk.ok (.cons impl_within.ok (.cons impl_hasSign.ok .nil))) (by kernel_rfl)) (fun K => .nil) e (by kernel_rfl) (by kernel_rfl) (by kernel_rfl) (by kernel_rfl)
end impl_TokenOk
namespace impl_tokensOk_1
noncomputable def c : Code := bodyOf Try.f30
noncomputable def fi : Fin := ⟨Γ0, [(.tmp 2, 4)], [[1]], [], [], []⟩
noncomputable def m : Fn [.i, .i] (Fn [.b] Res) := fun _ _ r1 => ⟨[⟨false, [.bool r1]⟩], [], [], [], []⟩
noncomputable def X (K : Res → O) : Ctx := cx0 [impl_TokenOk.con] fi true K
noncomputable def b (a1 a2 : Int) (R : Bool → O) : O :=
 impl_TokenOk.g a1 a2 fun r3 =>
 R (!r3)
noncomputable def g := seal_ b
theorem e : g = b := seal_eq b
noncomputable def a : Fn [.i, .i] St := fun a1 a2 => argSt [.v ⟨true, [cI a1, cI a2]⟩] [] []
noncomputable def con := conOf 30 [.i, .i] [.b] a g m
theorem ok : Con Pg con := con_fin (fn := Try.f30) (c := c) (Fi := fi) (X := X) laid (ctx_of (.cons impl_TokenOk.ok .nil) (by kernel_rfl)) (fun K => .nil) e (by kernel_rfl) (by kernel_rfl) (by kernel_rfl) (by kernel_rfl)
end impl_tokensOk_1
namespace slices_IndexFunc_impl_Token_impl_Token
noncomputable def c : Code := bodyOf Try.f48
noncomputable def fi : Fin := ⟨Γ0, [(.tmp 4, 3)], [[1]], [], [], []⟩
noncomputable def m : Fn [.l] (Fn [.i] Res) := fun _ r1 => ⟨[⟨false, [cI r1]⟩], [], [], [], []⟩
noncomputable def b0 : Code := codeAt c [1, 0, 1, 0, 0]
noncomputable def l0s (x2 : List (List Cl)) (x3 : Int) (rec : Int → O) (k : O) (R : Int → O) (x4 : Int) : O :=
 bif decide (x4 < x3) then (bif decide (0 ≤ x4) && decide (x4 < (x2.length : Int)) then (impl_tokensOk_1.g (((x2.getD x4.toNat []).getD 0 (.i 0)).toI) (((x2.getD x4.toNat []).getD 1 (.i 0)).toI) fun r5 =>
  bif r5 then R x4
  else rec (IntKind.i64.wrap (x4 + 1)))
  else none)
 else k
noncomputable def l0 (x2 : List (List Cl)) (x3 : Int) (k : O) (R : Int → O) : Nat → Int → O
 | 0, _ => none
 | n + 1, x4 => l0s x2 x3 (l0 x2 x3 k R n) k R x4
noncomputable def o0 : Fn [.l, .i] St := fun _ _ => ⟨mkT 19 [], [], []⟩
noncomputable def n0 (K : Res → O) := ent 0 [.l, .i] [.i] [0, 1, 2] (fun x2 x3 x4 => ⟨mkT 19 [(0, one (.tr 0 1 e_0 (.cells x2))), (1, one (.fn 30 [])), (7, oI x3), (8, oI x4)], [], []⟩) fun x2 x3 k => l0 x2 x3 (k (o0 x2 x3)) (fun r1 => K (m [] r1))
noncomputable def X (K : Res → O) : Ctx := { cx0 [impl_tokensOk_1.con] fi true K with cin := [(0, ⟨[0, 1, 7, 8], [], [], [], [], []⟩)], cout := [(0, ⟨[], [], [], [], [], []⟩)], lp := lpOf [n0 K] }
noncomputable def b (a1 : List (List Cl)) (R : Int → O) : O :=
 l0 a1 (a1.length : Int) (
 R (-1)) R fuel 0
noncomputable def g := seal_ b
theorem e : g = b := seal_eq b
noncomputable def a : Fn [.l] St := fun a1 => argSt [one (.tr 0 1 e_0 (.cells a1)), one (.fn 30 [])] [] []
noncomputable def con := conOf 48 [.l] [.i] a g m
theorem hx (K : Res → O) : CtxOk Pg Γ0 byt0 eqs0 (X K) [impl_tokensOk_1.con] := ctx_of (X := X) (.cons impl_tokensOk_1.ok .nil) (by kernel_rfl) K
theorem w0 (K : Res → O) : LpSound Pg (X K) 0 b0 := lp_fin (L := [n0 K]) laid (hx K) .nil (.cons (ent_ok (fun x2 x3 k r => l0s x2 x3 r (k (o0 x2 x3)) (fun r1 => K (m [] r1))) (by kernel_rfl) (by kernel_rfl) (by kernel_rfl) (by kernel_rfl) (by kernel_rfl)) .nil) (by kernel_rfl) (by kernel_rfl)
theorem ok : Con Pg con := con_fin (fn := Try.f48) (c := c) (Fi := fi) (X := X) laid hx (fun K => (.cons (w0 K) .nil)) e (by kernel_rfl) (by kernel_rfl) (by kernel_rfl) (by kernel_rfl)
end slices_IndexFunc_impl_Token_impl_Token
namespace slices_ContainsFunc_impl_Token_impl_Token
noncomputable def c : Code := bodyOf Try.f29
noncomputable def fi : Fin := ⟨Γ0, [(.tmp 4, 4)], [[1]], [], [], []⟩
noncomputable def m : Fn [.l] (Fn [.b] Res) := fun _ r1 => ⟨[⟨false, [.bool r1]⟩], [], [], [], []⟩
noncomputable def X (K : Res → O) : Ctx := cx0 [slices_IndexFunc_impl_Token_impl_Token.con] fi true K
noncomputable def b (a1 : List (List Cl)) (R : Bool → O) : O :=
 slices_IndexFunc_impl_Token_impl_Token.g a1 fun r2 =>
 R (decide (0 ≤ r2))
noncomputable def g := seal_ b
theorem e : g = b := seal_eq b
noncomputable def a : Fn [.l] St := fun a1 => argSt [one (.tr 0 1 e_0 (.cells a1)), one (.fn 30 [])] [] []
noncomputable def con := conOf 29 [.l] [.b] a g m
theorem ok : Con Pg con := con_fin (fn := Try.f29) (c := c) (Fi := fi) (X := X) laid (ctx_of (.cons slices_IndexFunc_impl_Token_impl_Token.ok .nil) (by kernel_rfl)) (fun K => .nil) e (by kernel_rfl) (by kernel_rfl) (by kernel_rfl) (by kernel_rfl)
end slices_ContainsFunc_impl_Token_impl_Token
namespace impl_tokensOk
noncomputable def c : Code := bodyOf Try.f16
noncomputable def fi : Fin := ⟨Γ0, [(.tmp 2, 4)], [[1]], [], [], []⟩
noncomputable def m : Fn [.l] (Fn [.b] Res) := fun _ r1 => ⟨[⟨false, [.bool r1]⟩], [], [], [], []⟩
noncomputable def X (K : Res → O) : Ctx := cx0 [slices_ContainsFunc_impl_Token_impl_Token.con] fi true K
noncomputable def b (a1 : List (List Cl)) (R : Bool → O) : O :=
 bif decide ((a1.length : Int) ≤ 300) then (slices_ContainsFunc_impl_Token_impl_Token.g a1 fun r2 =>
  R (!r2))
 else R false
noncomputable def g := seal_ b
theorem e : g = b := seal_eq b
noncomputable def a : Fn [.l] St := fun a1 => argSt [one (.tr 0 1 e_0 (.cells a1))] [] []
noncomputable def con := conOf 16 [.l] [.b] a g m
theorem ok : Con Pg con := con_fin (fn := Try.f16) (c := c) (Fi := fi) (X := X) laid (ctx_of (.cons slices_ContainsFunc_impl_Token_impl_Token.ok .nil) (by kernel_rfl)) (fun K => .nil) e (by kernel_rfl) (by kernel_rfl) (by kernel_rfl) (by kernel_rfl)
end impl_tokensOk
namespace impl_parser_kind
noncomputable def c : Code := bodyOf Try.f32
noncomputable def fi : Fin := ⟨Γ0, [(.tmp 4, 3)], [[1]], [true], [([.sl e_0 16, .int .i64, .sl e_1 72, .bool], [0, 1, 2, 1])], []⟩
noncomputable def m : Fn [.i, .l, .l, .i, .b] (Fn [.i] Res) := fun _ a2 a3 a4 a5 r1 => ⟨[⟨false, [cI r1]⟩], [some ⟨e_1, .cells a2, true, 0, none⟩], [], [[.tr 2 2 e_0 (.cells a3), cI a4, .ow 0, .bool a5]], []⟩
noncomputable def X (K : Res → O) : Ctx := cx0 [] fi true K
noncomputable def b (a1 : Int) (a2 a3 : List (List Cl)) (a4 : Int) (a5 : Bool) (R : Int → O) : O :=
 bif decide ((a3.length : Int) ≤ IntKind.i64.wrap (a4 + a1)) then R 0
 else bif decide (0 ≤ IntKind.i64.wrap (a4 + a1)) && decide (IntKind.i64.wrap (a4 + a1) < (a3.length : Int)) then R (((a3.getD ((IntKind.i64.wrap (a4 + a1)).toNat) []).getD 0 (.i 0)).toI)
 else none
noncomputable def g := seal_ b
theorem e : g = b := seal_eq b
noncomputable def a : Fn [.i, .l, .l, .i, .b] St := fun a1 a2 a3 a4 a5 => argSt [one (.bp 0 0), oI a1] [⟨e_1, .cells a2, true, 0, none⟩] [[.tr 2 2 e_0 (.cells a3), cI a4, .ow 0, .bool a5]]
noncomputable def con := conOf 32 [.i, .l, .l, .i, .b] [.i] a g m
theorem ok : Con Pg con := con_fin (fn := Try.f32) (c := c) (Fi := fi) (X := X) laid (ctx_of .nil (by kernel_rfl)) (fun K => .nil) e (by kernel_rfl) (by kernel_rfl) (by kernel_rfl) (by kernel_rfl)
end impl_parser_kind
namespace impl_parser_put_i2
noncomputable def c : Code := bodyOf Try.f33
noncomputable def fi : Fin := ⟨Γ0, [(.tmp 4, 3)], [[1]], [false], [([.sl e_0 16, .int .i64, .sl e_1 72, .bool], [0, 1, 1, 1])], []⟩
noncomputable def m : Fn [.i, .i, .i, .i, .i, .i, .l, .l, .i, .b] (Fn [.i, .l] Res) := fun _ _ _ _ _ _ _ a8 a9 a10 r1 r4 => ⟨[⟨false, [cI r1]⟩], [none], [⟨e_1, .cells r4, true, 0, none⟩], [[.tr 2 2 e_0 (.cells a8), cI a9, .ow 1000, .bool a10]], []⟩
noncomputable def X (K : Res → O) : Ctx := cx0 [] fi true K
noncomputable def b (a1 a2 a3 a4 a5 a6 : Int) (a7 a8 : List (List Cl)) (a9 : Int) (a10 : Bool) (R : Int → List (List Cl) → O) : O :=
 bif decide ((a7.length + 1) * 72 ≤ 140737488355328) then R (IntKind.i64.wrap (((a7 ++ ([[.i a1, .i a2, .i a3, .i a4, .i a5, .i a6, .l ([] : List Int)]] : List (List Cl))).length : Int) - 1)) (a7 ++ ([[.i a1, .i a2, .i a3, .i a4, .i a5, .i a6, .l ([] : List Int)]] : List (List Cl)))
 else none
noncomputable def g := seal_ b
theorem e : g = b := seal_eq b
noncomputable def a : Fn [.i, .i, .i, .i, .i, .i, .l, .l, .i, .b] St := fun a1 a2 a3 a4 a5 a6 a7 a8 a9 a10 => argSt [one (.bp 0 0), .v ⟨true, [cI a1, cI a2, cI a3, cI a4, cI a5, cI a6, .nil]⟩] [⟨e_1, .cells a7, true, 0, none⟩] [[.tr 2 2 e_0 (.cells a8), cI a9, .ow 0, .bool a10]]
noncomputable def con := conOf 33 [.i, .i, .i, .i, .i, .i, .l, .l, .i, .b] [.i, .l] a g m
theorem ok : Con Pg con := con_fin (fn := Try.f33) (c := c) (Fi := fi) (X := X) laid (ctx_of .nil (by kernel_rfl)) (fun K => .nil) e (by kernel_rfl) (by kernel_rfl) (by kernel_rfl) (by kernel_rfl)
end impl_parser_put_i2
namespace impl_parser_sign
noncomputable def c : Code := bodyOf Try.f52
noncomputable def fi : Fin := ⟨Γ0, [(.tmp 4, 3)], [[1]], [true], [([.sl e_0 16, .int .i64, .sl e_1 72, .bool], [0, 1, 2, 1])], []⟩
noncomputable def m : Fn [.i, .l, .l, .i, .b] (Fn [.i] Res) := fun _ a2 a3 a4 a5 r1 => ⟨[⟨false, [cI r1]⟩], [some ⟨e_1, .cells a2, true, 0, none⟩], [], [[.tr 2 2 e_0 (.cells a3), cI a4, .ow 0, .bool a5]], []⟩
noncomputable def X (K : Res → O) : Ctx := cx0 [impl_parser_kind.con] fi true K
noncomputable def b (a1 : Int) (a2 a3 : List (List Cl)) (a4 : Int) (a5 : Bool) (R : Int → O) : O :=
 impl_parser_kind.g a1 a2 a3 a4 a5 fun r6 =>
 bif (r6 != 3) then R 0
 else bif decide (0 ≤ IntKind.i64.wrap (a4 + a1)) && decide (IntKind.i64.wrap (a4 + a1) < (a3.length : Int)) then R (((a3.getD ((IntKind.i64.wrap (a4 + a1)).toNat) []).getD 1 (.i 0)).toI)
 else none
noncomputable def g := seal_ b
theorem e : g = b := seal_eq b
noncomputable def a : Fn [.i, .l, .l, .i, .b] St := fun a1 a2 a3 a4 a5 => argSt [one (.bp 0 0), oI a1] [⟨e_1, .cells a2, true, 0, none⟩] [[.tr 2 2 e_0 (.cells a3), cI a4, .ow 0, .bool a5]]
noncomputable def con := conOf 52 [.i, .l, .l, .i, .b] [.i] a g m
theorem ok : Con Pg con := con_fin (fn := Try.f52) (c := c) (Fi := fi) (X := X) laid (ctx_of (.cons impl_parser_kind.ok .nil) (by kernel_rfl)) (fun K => .nil) e (by kernel_rfl) (by kernel_rfl) (by kernel_rfl) (by kernel_rfl)
end impl_parser_sign
namespace impl_parser_function
noncomputable def c : Code := bodyOf Try.f34
noncomputable def fi : Fin := ⟨Γ0, [(.cell 2 55, 55)], [[1, 1, 1]], [true], [([.sl e_0 16, .int .i64, .sl e_1 72, .bool], [0, 1, 2, 1])], []⟩
noncomputable def m : Fn [.l, .l, .i, .b] (Fn [.i, .i, .i, .i, .b] Res) := fun a1 a2 _ _ r1 r2 r3 r6 r7 => ⟨[⟨true, [cI r1, cI r2, cI r3]⟩], [some ⟨e_1, .cells a1, true, 0, none⟩], [], [[.tr 2 2 e_0 (.cells a2), cI r6, .ow 0, .bool r7]], []⟩
noncomputable def X (K : Res → O) : Ctx := cx0 [impl_parser_sign.con] fi true K
noncomputable def b (a1 a2 : List (List Cl)) (a3 : Int) (a4 : Bool) (R : Int → Int → Int → Int → Bool → O) : O :=
 impl_parser_sign.g 0 a1 a2 a3 a4 fun r5 =>
 impl_parser_sign.g 1 a1 a2 a3 a4 fun r6 =>
 impl_parser_sign.g 2 a1 a2 a3 a4 fun r7 =>
 bif (r5 == 0) then R r5 0 0 (IntKind.i64.wrap (a3 + 1)) true
 else bif (r5 == 111) then (bif (r6 != 0) then R r6 111 0 (IntKind.i64.wrap (a3 + 2)) a4
  else bif (r6 == 47) then R r5 r6 0 (IntKind.i64.wrap (a3 + 2)) a4
  else bif (r6 == 92) then R r5 r6 0 (IntKind.i64.wrap (a3 + 2)) a4
  else bif (r6 == 46) then (bif (r7 != 0) then R r5 46 r7 (IntKind.i64.wrap (a3 + 3)) a4
   else R r5 0 0 (IntKind.i64.wrap (a3 + 1)) a4)
  else R r5 0 0 (IntKind.i64.wrap (a3 + 1)) a4)
 else bif (r6 == 47) then R r5 r6 0 (IntKind.i64.wrap (a3 + 2)) a4
 else bif (r6 == 92) then R r5 r6 0 (IntKind.i64.wrap (a3 + 2)) a4
 else bif (r6 == 46) then (bif (r7 != 0) then R r5 46 r7 (IntKind.i64.wrap (a3 + 3)) a4
  else R r5 0 0 (IntKind.i64.wrap (a3 + 1)) a4)
 else R r5 0 0 (IntKind.i64.wrap (a3 + 1)) a4
noncomputable def g := seal_ b
theorem e : g = b := seal_eq b
noncomputable def a : Fn [.l, .l, .i, .b] St := fun a1 a2 a3 a4 => argSt [one (.bp 0 0)] [⟨e_1, .cells a1, true, 0, none⟩] [[.tr 2 2 e_0 (.cells a2), cI a3, .ow 0, .bool a4]]
noncomputable def con := conOf 34 [.l, .l, .i, .b] [.i, .i, .i, .i, .b] a g m
theorem ok : Con Pg con := con_fin (fn := Try.f34) (c := c) (Fi := fi) (X := X) laid (ctx_of (.cons impl_parser_sign.ok .nil) (by kernel_rfl)) (fun K => .nil) e (by kernel_rfl) (by kernel_rfl) (by kernel_rfl) (by kernel_rfl)
end impl_parser_function
namespace impl_oneSign
noncomputable def c : Code := bodyOf Try.f53
noncomputable def fi : Fin := ⟨Γ0, [(.tmp 2, 4)], [[1]], [], [], []⟩
noncomputable def m : Fn [.i] (Fn [.b] Res) := fun _ r1 => ⟨[⟨false, [.bool r1]⟩], [], [], [], []⟩
noncomputable def X (K : Res → O) : Ctx := cx0 [impl_hasSign.con] fi true K
noncomputable def b (a1 : Int) (R : Bool → O) : O :=
 impl_hasSign.g (⟨#[43, 45, 42, 124, 126]⟩ : ByteArray) a1 fun r2 =>
 R r2
noncomputable def g := seal_ b
theorem e : g = b := seal_eq b
noncomputable def a : Fn [.i] St := fun a1 => argSt [oI a1] [] []
noncomputable def con := conOf 53 [.i] [.b] a g m
theorem ok : Con Pg con := con_fin (fn := Try.f53) (c := c) (Fi := fi) (X := X) laid (ctx_of (.cons impl_hasSign.ok .nil) (by kernel_rfl)) (fun K => .nil) e (by kernel_rfl) (by kernel_rfl) (by kernel_rfl) (by kernel_rfl)
end impl_oneSign
namespace impl_twoSign
noncomputable def c : Code := bodyOf Try.f54
noncomputable def fi : Fin := ⟨Γ0, [(.tmp 2, 4)], [[1]], [], [], []⟩
noncomputable def m : Fn [.i] (Fn [.b] Res) := fun _ r1 => ⟨[⟨false, [.bool r1]⟩], [], [], [], []⟩
noncomputable def X (K : Res → O) : Ctx := cx0 [impl_hasSign.con] fi true K
noncomputable def b (a1 : Int) (R : Bool → O) : O :=
 impl_hasSign.g (⟨#[43, 45, 42, 37, 124, 38, 94, 61, 60, 62]⟩ : ByteArray) a1 fun r2 =>
 R r2
noncomputable def g := seal_ b
theorem e : g = b := seal_eq b
noncomputable def a : Fn [.i] St := fun a1 => argSt [oI a1] [] []
noncomputable def con := conOf 54 [.i] [.b] a g m
theorem ok : Con Pg con := con_fin (fn := Try.f54) (c := c) (Fi := fi) (X := X) laid (ctx_of (.cons impl_hasSign.ok .nil) (by kernel_rfl)) (fun K => .nil) e (by kernel_rfl) (by kernel_rfl) (by kernel_rfl) (by kernel_rfl)
end impl_twoSign
namespace impl_FunOne
noncomputable def c : Code := bodyOf Try.f35
noncomputable def fi : Fin := ⟨Γ0, [(.tmp 2, 4)], [[1]], [], [], []⟩
noncomputable def m : Fn [.i, .i, .i] (Fn [.b] Res) := fun _ _ _ r1 => ⟨[⟨false, [.bool r1]⟩], [], [], [], []⟩
noncomputable def X (K : Res → O) : Ctx := cx0 [impl_oneSign.con, impl_hasSign.con, impl_twoSign.con] fi true K
noncomputable def b (a1 a2 a3 : Int) (R : Bool → O) : O :=
 bif (a2 == 0) then (bif (a3 == 0) then (impl_oneSign.g a1 fun r4 =>
  bif r4 then R true
  else (impl_hasSign.g (⟨#[105, 35, 44, 114, 122, 103]⟩ : ByteArray) a1 fun r5 =>
  R r5))
  else R false)
 else bif (a2 == 47) then (bif (a3 == 0) then (impl_twoSign.g a1 fun r6 =>
  R r6)
  else R false)
 else bif (a2 == 92) then (bif (a3 == 0) then (impl_twoSign.g a1 fun r7 =>
  R r7)
  else R false)
 else R false
noncomputable def g := seal_ b
theorem e : g = b := seal_eq b
noncomputable def a : Fn [.i, .i, .i] St := fun a1 a2 a3 => argSt [.v ⟨true, [cI a1, cI a2, cI a3]⟩] [] []
noncomputable def con := conOf 35 [.i, .i, .i] [.b] a g m
theorem ok : Con Pg con := con_fin (fn := Try.f35) (c := c) (Fi := fi) (X := X) laid (ctx_of (.cons impl_oneSign.ok (.cons impl_hasSign.ok (.cons impl_twoSign.ok .nil))) (by kernel_rfl)) (fun K => .nil) e (by kernel_rfl) (by kernel_rfl) (by kernel_rfl) (by kernel_rfl)
end impl_FunOne
namespace impl_parser_operandEnd
noncomputable def c : Code := bodyOf Try.f36
noncomputable def fi : Fin := ⟨Γ0, [(.tmp 2, 3), (.tmp 3, 4)], [[1], [1]], [true], [([.sl e_0 16, .int .i64, .sl e_1 72, .bool], [0, 1, 2, 1])], []⟩
noncomputable def m : Fn [.l, .l, .i, .b] (Fn [.i, .b, .l, .l, .i, .b] Res) := fun _ _ _ _ r1 r2 r3 r4 r5 r6 => ⟨[⟨false, [cI r1]⟩, ⟨false, [.bool r2]⟩], [some ⟨e_1, .cells r3, true, 0, none⟩], [], [[.tr 2 2 e_0 (.cells r4), cI r5, .ow 0, .bool r6]], []⟩
noncomputable def b1 : Code := codeAt c [1, 0, 1, 0, 1, 0, 1, 0, 0, 0]
noncomputable def b3 : Code := codeAt c [1, 0, 1, 0, 1, 1, 1, 1, 1, 0, 1, 1, 0, 0]
noncomputable def l1s (x7 x8 : List (List Cl)) (x9 : Int) (x10 : Bool) (rec : Int → O) (k : Int → O) (x6 : Int) : O :=
 impl_parser_kind.g x6 x7 x8 x9 x10 fun r11 =>
 bif (r11 == 1) then rec (IntKind.i64.wrap (x6 + 1))
 else k x6
noncomputable def l1 (x7 x8 : List (List Cl)) (x9 : Int) (x10 : Bool) (k : Int → O) : Nat → Int → O
 | 0, _ => none
 | n + 1, x6 => l1s x7 x8 x9 x10 (l1 x7 x8 x9 x10 k n) k x6
noncomputable def o1 : Fn [.l, .l, .i, .b, .i] St := fun x7 x8 x9 x10 y1 => ⟨mkT 65 [(0, one (.bp 0 0)), (4, oI y1)], [(0, ⟨e_1, .cells x7, true, 0, none⟩)], [(0, [.tr 2 2 e_0 (.cells x8), cI x9, .ow 0, .bool x10])]⟩
noncomputable def n1 (K : Res → O) := ent 1 [.l, .l, .i, .b] [.i] [1, 2, 3, 4, 0] (fun x7 x8 x9 x10 x6 => ⟨mkT 65 [(0, one (.bp 0 0)), (4, oI x6)], [(0, ⟨e_1, .cells x7, true, 0, none⟩)], [(0, [.tr 2 2 e_0 (.cells x8), cI x9, .ow 0, .bool x10])]⟩) fun x7 x8 x9 x10 k => l1 x7 x8 x9 x10 (fun y1 => k (o1 x7 x8 x9 x10 y1))
noncomputable def l3s (x15 x16 : List (List Cl)) (x17 : Int) (x18 : Bool) (rec : Int → Int → O) (k : O) (R : Int → Bool → List (List Cl) → List (List Cl) → Int → Bool → O) (x13 x14 : Int) : O :=
 bif decide (x14 < (x16.length : Int)) then (bif decide (0 ≤ x14) && decide (x14 < (x16.length : Int)) then (bif (((x16.getD x14.toNat []).getD 0 (.i 0)).toI == 4) then (bif (IntKind.i64.wrap (x13 + 1) == 0) then R (IntKind.i64.wrap (x14 + 1)) true x15 x16 x17 x18
  else rec (IntKind.i64.wrap (x13 + 1)) (IntKind.i64.wrap (x14 + 1)))
  else bif (((x16.getD x14.toNat []).getD 0 (.i 0)).toI == 5) then (bif (IntKind.i64.wrap (x13 - 1) == 0) then R (IntKind.i64.wrap (x14 + 1)) true x15 x16 x17 x18
   else rec (IntKind.i64.wrap (x13 - 1)) (IntKind.i64.wrap (x14 + 1)))
  else bif (x13 == 0) then R (IntKind.i64.wrap (x14 + 1)) true x15 x16 x17 x18
  else rec x13 (IntKind.i64.wrap (x14 + 1)))
  else none)
 else k
noncomputable def l3 (x15 x16 : List (List Cl)) (x17 : Int) (x18 : Bool) (k : O) (R : Int → Bool → List (List Cl) → List (List Cl) → Int → Bool → O) : Nat → Int → Int → O
 | 0, _, _ => none
 | n + 1, x13, x14 => l3s x15 x16 x17 x18 (l3 x15 x16 x17 x18 k R n) k R x13 x14
noncomputable def o3 : Fn [.l, .l, .i, .b] St := fun x15 x16 x17 x18 => ⟨mkT 65 [], [(0, ⟨e_1, .cells x15, true, 0, none⟩)], [(0, [.tr 2 2 e_0 (.cells x16), cI x17, .ow 0, .bool x18])]⟩
noncomputable def n3 (K : Res → O) := ent 3 [.l, .l, .i, .b] [.i, .i] [2, 3, 4, 5, 0, 1] (fun x15 x16 x17 x18 x13 x14 => ⟨mkT 65 [(0, one (.bp 0 0)), (5, oI x13), (6, oI x14)], [(0, ⟨e_1, .cells x15, true, 0, none⟩)], [(0, [.tr 2 2 e_0 (.cells x16), cI x17, .ow 0, .bool x18])]⟩) fun x15 x16 x17 x18 k => l3 x15 x16 x17 x18 (k (o3 x15 x16 x17 x18)) (fun r1 r2 r3 r4 r5 r6 => K (m [] [] (0 : Int) false r1 r2 r3 r4 r5 r6))
noncomputable def X (K : Res → O) : Ctx := { cx0 [impl_parser_kind.con] fi true K with cin := [(1, ⟨[0, 4], [(0, 0)], [0], [], [], []⟩), (3, ⟨[0, 5, 6], [(0, 0)], [0], [], [], []⟩)], cout := [(1, ⟨[0, 4], [(0, 0)], [0], [], [], []⟩), (3, ⟨[], [(0, 0)], [0], [], [], []⟩)], lp := lpOf [n1 K, n3 K] }
noncomputable def b (a1 a2 : List (List Cl)) (a3 : Int) (a4 : Bool) (R : Int → Bool → List (List Cl) → List (List Cl) → Int → Bool → O) : O :=
 impl_parser_kind.g 0 a1 a2 a3 a4 fun r5 =>
 bif (r5 == 1) then (l1 a1 a2 a3 a4 (fun y12 =>
  R (IntKind.i64.wrap (a3 + y12)) true a1 a2 a3 a4) fuel 1)
 else bif (r5 == 2) then R (IntKind.i64.wrap (a3 + 1)) true a1 a2 a3 a4
 else bif (r5 == 4) then (l3 a1 a2 a3 a4 (
  R 0 false a1 a2 a3 a4) R fuel 0 a3)
 else R 0 false a1 a2 a3 a4
noncomputable def g := seal_ b
theorem e : g = b := seal_eq b
noncomputable def a : Fn [.l, .l, .i, .b] St := fun a1 a2 a3 a4 => argSt [one (.bp 0 0)] [⟨e_1, .cells a1, true, 0, none⟩] [[.tr 2 2 e_0 (.cells a2), cI a3, .ow 0, .bool a4]]
noncomputable def con := conOf 36 [.l, .l, .i, .b] [.i, .b, .l, .l, .i, .b] a g m
theorem hx (K : Res → O) : CtxOk Pg Γ0 byt0 eqs0 (X K) [impl_parser_kind.con] := ctx_of (X := X) (.cons impl_parser_kind.ok .nil) (by kernel_rfl) K
theorem w3 (K : Res → O) : LpSound Pg (X K) 3 b3 := lp_fin (L := [n1 K, n3 K]) laid (hx K) .nil (.skip rfl (.cons (ent_ok (fun x15 x16 x17 x18 k r => l3s x15 x16 x17 x18 r (k (o3 x15 x16 x17 x18)) (fun r1 r2 r3 r4 r5 r6 => K (m [] [] (0 : Int) false r1 r2 r3 r4 r5 r6))) (by kernel_rfl) (by kernel_rfl) (by kernel_rfl) (by kernel_rfl) (by kernel_rfl)) .nil)) (by kernel_rfl) (by kernel_rfl)
theorem w1 (K : Res → O) : LpSound Pg (X K) 1 b1 := lp_fin (L := [n1 K, n3 K]) laid (hx K) .nil (.cons (ent_ok (fun x7 x8 x9 x10 k r => l1s x7 x8 x9 x10 r (fun y1 => k (o1 x7 x8 x9 x10 y1))) (by kernel_rfl) (by kernel_rfl) (by kernel_rfl) (by kernel_rfl) (by kernel_rfl)) (.skip rfl .nil)) (by kernel_rfl) (by kernel_rfl)
theorem ok : Con Pg con := con_fin (fn := Try.f36) (c := c) (Fi := fi) (X := X) laid hx (fun K => (.cons (w1 K) (.cons (w3 K) .nil))) e (by kernel_rfl) (by kernel_rfl) (by kernel_rfl) (by kernel_rfl)
end impl_parser_operandEnd
namespace impl_parser_put_i3
noncomputable def c : Code := bodyOf Try.f33
noncomputable def fi : Fin := ⟨Γ0, [(.tmp 4, 3)], [[1]], [true, false], [([.sl e_0 16, .int .i64, .sl e_1 72, .bool], [0, 1, 1, 1])], []⟩
noncomputable def m : Fn [.i, .i, .i, .i, .i, .i, .z, .l, .l, .i, .b] (Fn [.i, .l] Res) := fun _ _ _ _ _ _ a7 _ a9 a10 a11 r1 r5 => ⟨[⟨false, [cI r1]⟩], [some ⟨[.int .i64], .ints a7, true, 2, none⟩, none], [⟨e_1, .cells r5, true, 0, none⟩], [[.tr 2 2 e_0 (.cells a9), cI a10, .ow 1000, .bool a11]], []⟩
noncomputable def X (K : Res → O) : Ctx := cx0 [] fi true K
noncomputable def b (a1 a2 a3 a4 a5 a6 : Int) (a7 : List Int) (a8 a9 : List (List Cl)) (a10 : Int) (a11 : Bool) (R : Int → List (List Cl) → O) : O :=
 bif decide ((a8.length + 1) * 72 ≤ 140737488355328) then R (IntKind.i64.wrap (((a8 ++ ([[.i a1, .i a2, .i a3, .i a4, .i a5, .i a6, .l a7]] : List (List Cl))).length : Int) - 1)) (a8 ++ ([[.i a1, .i a2, .i a3, .i a4, .i a5, .i a6, .l a7]] : List (List Cl)))
 else none
noncomputable def g := seal_ b
theorem e : g = b := seal_eq b
noncomputable def a : Fn [.i, .i, .i, .i, .i, .i, .z, .l, .l, .i, .b] St := fun a1 a2 a3 a4 a5 a6 a7 a8 a9 a10 a11 => argSt [one (.bp 0 0), .v ⟨true, [cI a1, cI a2, cI a3, cI a4, cI a5, cI a6, .ow 0]⟩] [⟨[.int .i64], .ints a7, true, 0, none⟩, ⟨e_1, .cells a8, true, 0, none⟩] [[.tr 2 2 e_0 (.cells a9), cI a10, .ow 1, .bool a11]]
noncomputable def con := conOf 33 [.i, .i, .i, .i, .i, .i, .z, .l, .l, .i, .b] [.i, .l] a g m
theorem ok : Con Pg con := con_fin (fn := Try.f33) (c := c) (Fi := fi) (X := X) laid (ctx_of .nil (by kernel_rfl)) (fun K => .nil) e (by kernel_rfl) (by kernel_rfl) (by kernel_rfl) (by kernel_rfl)
end impl_parser_put_i3
namespace impl_FunTwo
noncomputable def c : Code := bodyOf Try.f38
noncomputable def fi : Fin := ⟨Γ0, [(.tmp 2, 4)], [[1]], [], [], []⟩
noncomputable def m : Fn [.i, .i, .i] (Fn [.b] Res) := fun _ _ _ r1 => ⟨[⟨false, [.bool r1]⟩], [], [], [], []⟩
noncomputable def X (K : Res → O) : Ctx := cx0 [impl_twoSign.con, impl_hasSign.con] fi true K
noncomputable def b (a1 a2 a3 : Int) (R : Bool → O) : O :=
 bif (a2 == 0) then (bif (a3 == 0) then (impl_twoSign.g a1 fun r4 =>
  bif r4 then R true
  else (impl_hasSign.g (⟨#[35, 44, 116, 100, 114, 64, 63, 36, 101]⟩ : ByteArray) a1 fun r5 =>
  R r5))
  else R false)
 else bif (a2 == 111) then (bif (a3 == 0) then (impl_twoSign.g a1 fun r6 =>
  R r6)
  else R false)
 else bif (a2 == 46) then (impl_twoSign.g a1 fun r7 =>
  bif r7 then (impl_twoSign.g a3 fun r8 =>
   R r8)
  else R false)
 else R false
noncomputable def g := seal_ b
theorem e : g = b := seal_eq b
noncomputable def a : Fn [.i, .i, .i] St := fun a1 a2 a3 => argSt [.v ⟨true, [cI a1, cI a2, cI a3]⟩] [] []
noncomputable def con := conOf 38 [.i, .i, .i] [.b] a g m
theorem ok : Con Pg con := con_fin (fn := Try.f38) (c := c) (Fi := fi) (X := X) laid (ctx_of (.cons impl_twoSign.ok (.cons impl_hasSign.ok .nil)) (by kernel_rfl)) (fun K => .nil) e (by kernel_rfl) (by kernel_rfl) (by kernel_rfl) (by kernel_rfl)
end impl_FunTwo
-- GROUP impl_parser_operand impl_parser_line
namespace impl_parser_operand
noncomputable def c : Code := bodyOf Try.f37
noncomputable def fi : Fin := ⟨Γ0, [(.tmp 6, 3)], [[1]], [false], [([.sl e_0 16, .int .i64, .sl e_1 72, .bool], [0, 1, 1, 1])], []⟩
noncomputable def m : Fn [.i, .i, .l, .l, .i, .b] (Fn [.i, .l, .i, .l, .b] Res) := fun _ _ _ _ _ _ r1 r2 r3 r4 r5 => ⟨[⟨false, [cI r1]⟩], [none], [⟨e_1, .cells r4, true, 0, none⟩], [[.tr 2 2 e_0 (.cells r2), cI r3, .ow 1000, .bool r5]], []⟩
noncomputable def b1 : Code := codeAt c [1, 1, 0, 1, 0, 1, 1, 1, 0, 1, 0, 1, 0, 0]
noncomputable abbrev T : Type := Int → Int → List (List Cl) → List (List Cl) → Int → Bool → (Int → List (List Cl) → Int → List (List Cl) → Bool → O) → O
noncomputable def a : Fn [.i, .i, .l, .l, .i, .b] St := fun a1 a2 a3 a4 a5 a6 => argSt [one (.bp 0 0), oI a1, oI a2] [⟨e_1, .cells a3, true, 0, none⟩] [[.tr 2 2 e_0 (.cells a4), cI a5, .ow 0, .bool a6]]
noncomputable def conz (h : T) := conOf 37 [.i, .i, .l, .l, .i, .b] [.i, .l, .i, .l, .b] a h m
end impl_parser_operand
namespace impl_parser_line
noncomputable def c : Code := bodyOf Try.f17
noncomputable def fi : Fin := ⟨Γ0, [(.tmp 2, 3)], [[1]], [false], [([.sl e_0 16, .int .i64, .sl e_1 72, .bool], [0, 1, 3, 1])], []⟩
noncomputable def m : Fn [.l, .l, .i, .b] (Fn [.i, .l, .i, .l, .b] Res) := fun _ _ _ _ r1 r2 r3 r4 r5 => ⟨[⟨false, [cI r1]⟩], [none], [⟨e_1, .cells r4, true, 0, none⟩], [[.tr 2 2 e_0 (.cells r2), cI r3, .ow 1000, .bool r5]], []⟩
noncomputable abbrev T : Type := List (List Cl) → List (List Cl) → Int → Bool → (Int → List (List Cl) → Int → List (List Cl) → Bool → O) → O
noncomputable def a : Fn [.l, .l, .i, .b] St := fun a1 a2 a3 a4 => argSt [one (.bp 0 0)] [⟨e_1, .cells a1, true, 0, none⟩] [[.tr 2 2 e_0 (.cells a2), cI a3, .ow 0, .bool a4]]
noncomputable def conz (h : T) := conOf 17 [.l, .l, .i, .b] [.i, .l, .i, .l, .b] a h m
end impl_parser_line
noncomputable abbrev Z_impl_parser_operand : Type := impl_parser_operand.T × impl_parser_line.T
noncomputable def Gd_impl_parser_operand (z : Z_impl_parser_operand) : Prop := Con Pg (impl_parser_operand.conz z.1) ∧ Con Pg (impl_parser_line.conz z.2)
namespace impl_parser_operand
noncomputable def l1s (x9 : List (List Cl)) (x10 : Int) (x12 x14 : List (List Cl)) (x15 : Int) (x16 : Bool) (x17 x18 x19 x20 x21 x22 : Int) (rec : Int → List Int → O) (k : List Int → O) (x11 : Int) (x13 : List Int) : O :=
 bif decide (x11 < x10) then (bif decide (0 ≤ x11) && decide (x11 < (x9.length : Int)) then (bif decide ((x13.length + 1) * 8 ≤ 140737488355328) then rec (IntKind.i64.wrap (x11 + 1)) (x13 ++ ([((x9.getD x11.toNat []).getD 1 (.i 0)).toI] : List Int))
  else none)
  else none)
 else k x13
noncomputable def l1 (x9 : List (List Cl)) (x10 : Int) (x12 x14 : List (List Cl)) (x15 : Int) (x16 : Bool) (x17 x18 x19 x20 x21 x22 : Int) (k : List Int → O) : Nat → Int → List Int → O
 | 0, _, _ => none
 | n + 1, x11, x13 => l1s x9 x10 x12 x14 x15 x16 x17 x18 x19 x20 x21 x22 (l1 x9 x10 x12 x14 x15 x16 x17 x18 x19 x20 x21 x22 k n) k x11 x13
noncomputable def o1 : Fn [.l, .i, .l, .l, .i, .b, .i, .i, .i, .i, .i, .i, .z] St := fun _ _ x12 x14 x15 x16 x17 x18 x19 x20 x21 x22 y2 => ⟨mkT 93 [(0, one (.bp 0 0)), (8, one (.bp 13304 0))], [(0, ⟨e_1, .cells x12, true, 0, none⟩), (13302, ⟨[.int .i64], .ints y2, true, 0, none⟩)], [(0, [.tr 2 2 e_0 (.cells x14), cI x15, .ow 0, .bool x16]), (13304, [cI x17, cI x18, cI x19, cI x20, cI x21, cI x22, .ow 13302])]⟩
noncomputable def n1 (K : Res → O) := ent 1 [.l, .i, .l, .l, .i, .b, .i, .i, .i, .i, .i, .i] [.i, .z] [0, 1, 3, 5, 6, 7, 8, 9, 10, 11, 12, 13, 2, 4] (fun x9 x10 x12 x14 x15 x16 x17 x18 x19 x20 x21 x22 x11 x13 => ⟨mkT 93 [(0, one (.bp 0 0)), (8, one (.bp 13304 0)), (38, one (.tr 2 2 e_0 (.cells x9))), (39, oI x10), (40, oI x11)], [(0, ⟨e_1, .cells x12, true, 0, none⟩), (13302, ⟨[.int .i64], .ints x13, true, 0, none⟩)], [(0, [.tr 2 2 e_0 (.cells x14), cI x15, .ow 0, .bool x16]), (13304, [cI x17, cI x18, cI x19, cI x20, cI x21, cI x22, .ow 13302])]⟩) fun x9 x10 x12 x14 x15 x16 x17 x18 x19 x20 x21 x22 k => l1 x9 x10 x12 x14 x15 x16 x17 x18 x19 x20 x21 x22 (fun y2 => k (o1 x9 x10 x12 x14 x15 x16 x17 x18 x19 x20 x21 x22 y2))
noncomputable def X (z : Z_impl_parser_operand) (K : Res → O) : Ctx := { cx0 [impl_parser_put_i2.con, impl_parser_put_i3.con, impl_parser_line.conz z.2] fi true K with io := [(33, [⟨false, 0, 1⟩, ⟨true, 0, 1⟩])], bun := [(4, 4)], own := [(6, 0, 6, [.int .i64])], cin := [(1, ⟨[0, 8, 38, 39, 40], [(0, 0), (13302, 13302), (21560, 13302)], [0, 13304], [], [], []⟩)], cout := [(1, ⟨[0, 8], [(0, 0), (13302, 13302)], [0, 13304], [], [], []⟩)], lp := lpOf [n1 K] }
noncomputable def g (z : Z_impl_parser_operand) (a1 a2 : Int) (a3 a4 : List (List Cl)) (a5 : Int) (a6 : Bool) (R : Int → List (List Cl) → Int → List (List Cl) → Bool → O) : O :=
 bif decide (0 ≤ a1) && decide (a1 < (a4.length : Int)) then (bif (((a4.getD a1.toNat []).getD 0 (.i 0)).toI == 2) then (impl_parser_put_i2.g 2 (((a4.getD a1.toNat []).getD 1 (.i 0)).toI) 0 0 0 0 a3 a4 a5 a6 fun r7 r8 =>
  R r7 a4 a5 r8 a6)
  else bif (((a4.getD a1.toNat []).getD 0 (.i 0)).toI == 1) then (bif decide (0 ≤ a1) && decide (a1 ≤ a2) && decide (a2 ≤ (a4.length : Int)) then (l1 ((a4.drop a1.toNat).take (a2.toNat - a1.toNat)) (((a4.drop a1.toNat).take (a2.toNat - a1.toNat)).length : Int) a3 a4 a5 a6 1 0 0 0 0 0 (fun y23 =>
   impl_parser_put_i3.g 1 0 0 0 0 0 y23 a3 a4 a5 a6 fun r24 r25 =>
   R r24 a4 a5 r25 a6) fuel 0 ([] : List Int))
   else none)
  else bif decide (0 ≤ IntKind.i64.wrap (a2 - 1)) && decide (IntKind.i64.wrap (a2 - 1) ≤ (a4.length : Int)) then (z.2 a3 (a4.take ((IntKind.i64.wrap (a2 - 1)).toNat)) (IntKind.i64.wrap (a1 + 1)) false fun r26 r27 r28 r29 r30 =>
   bif a6 then R r26 a4 a5 r29 true
   else R r26 a4 a5 r29 r30)
  else none)
 else none
theorem hx (z : Z_impl_parser_operand) (hz : Gd_impl_parser_operand z) (K : Res → O) : CtxOk Pg Γ0 byt0 eqs0 ((X z) K) [impl_parser_put_i2.con, impl_parser_put_i3.con, impl_parser_line.conz z.2] := ctx_of (X := (X z)) (.cons impl_parser_put_i2.ok (.cons impl_parser_put_i3.ok (.cons hz.2 .nil))) (by kernel_rfl) K
theorem w1 (z : Z_impl_parser_operand) (hz : Gd_impl_parser_operand z) (K : Res → O) : LpSound Pg ((X z) K) 1 b1 := lp_fin (L := [n1 K]) laid ((hx z hz) K) .nil (.cons (ent_ok (fun x9 x10 x12 x14 x15 x16 x17 x18 x19 x20 x21 x22 k r => l1s x9 x10 x12 x14 x15 x16 x17 x18 x19 x20 x21 x22 r (fun y2 => k (o1 x9 x10 x12 x14 x15 x16 x17 x18 x19 x20 x21 x22 y2))) (by kernel_rfl) (by kernel_rfl) (by kernel_rfl) (by kernel_rfl) (by kernel_rfl)) .nil) (by kernel_rfl) (by kernel_rfl)
theorem ok (z : Z_impl_parser_operand) (hz : Gd_impl_parser_operand z) : Con Pg (conz (g z)) := con_fin (fn := Try.f37) (c := c) (Fi := fi) (X := (X z)) laid (hx z hz) (fun K => (.cons ((w1 z hz) K) .nil)) rfl (by kernel_rfl) (by kernel_rfl) (by kernel_rfl) (by kernel_rfl)
end impl_parser_operand
namespace impl_parser_line
noncomputable def X (z : Z_impl_parser_operand) (K : Res → O) : Ctx := { cx0 [impl_parser_kind.con, impl_parser_line.conz z.2, impl_parser_put_i2.con, impl_parser_function.con, impl_FunOne.con, impl_parser_operandEnd.con, impl_parser_operand.conz z.1, impl_FunTwo.con] fi true K with io := [(33, [⟨false, 0, 1⟩, ⟨true, 0, 1⟩])], bun := [(8, 4), (13, 4), (28, 5)] }
noncomputable def g (z : Z_impl_parser_operand) (a1 a2 : List (List Cl)) (a3 : Int) (a4 : Bool) (R : Int → List (List Cl) → Int → List (List Cl) → Bool → O) : O :=
 bif a4 then R 0 a2 a3 a1 true
 else bif decide ((a2.length : Int) ≤ a3) then R 0 a2 a3 a1 true
 else (impl_parser_kind.g 0 a1 a2 a3 a4 fun r5 =>
 bif (r5 == 2) then (impl_parser_kind.g 1 a1 a2 a3 a4 fun r6 =>
  bif (r6 == 6) then (bif decide (0 ≤ a3) && decide (a3 < (a2.length : Int)) then (z.2 a1 a2 (IntKind.i64.wrap (a3 + 2)) a4 fun r7 r8 r9 r10 r11 =>
   impl_parser_put_i2.g 3 (((a2.getD a3.toNat []).getD 1 (.i 0)).toI) r7 0 0 0 r10 r8 r9 r11 fun r12 r13 =>
   R r12 r8 r9 r13 r11)
   else none)
  else (impl_parser_kind.g 0 a1 a2 a3 a4 fun r14 =>
  bif (r14 == 3) then (impl_parser_function.g a1 a2 a3 a4 fun r15 r16 r17 r18 r19 =>
   z.2 a1 a2 r18 r19 fun r20 r21 r22 r23 r24 =>
   bif r24 then (impl_parser_put_i2.g 4 0 r20 r15 r16 r17 r23 r21 r22 true fun r25 r26 =>
    R r25 r21 r22 r26 true)
   else (impl_FunOne.g r15 r16 r17 fun r27 =>
   impl_parser_put_i2.g 4 0 r20 r15 r16 r17 r23 r21 r22 (!r27) fun r28 r29 =>
   R r28 r21 r22 r29 (!r27)))
  else (impl_parser_operandEnd.g a1 a2 a3 a4 fun r30 r31 r32 r33 r34 r35 =>
  bif !r31 then R 0 r33 r34 r32 true
  else bif (r30 == (r33.length : Int)) then (z.1 a3 r30 r32 r33 r34 r35 fun r36 r37 r38 r39 r40 =>
   R r36 r37 r38 r39 r40)
  else (impl_parser_function.g r32 r33 r30 r35 fun r41 r42 r43 r44 r45 =>
  z.2 r32 r33 r44 r45 fun r46 r47 r48 r49 r50 =>
  bif r50 then R 0 r47 r48 r49 true
  else (impl_FunTwo.g r41 r42 r43 fun r51 =>
  bif !r51 then R 0 r47 r48 r49 (!r51)
  else (z.1 a3 r30 r49 r47 r48 (!r51) fun r52 r53 r54 r55 r56 =>
  impl_parser_put_i2.g 5 r52 r46 r41 r42 r43 r55 r53 r54 r56 fun r57 r58 =>
  R r57 r53 r54 r58 r56))))))
 else (impl_parser_kind.g 0 a1 a2 a3 a4 fun r59 =>
 bif (r59 == 3) then (impl_parser_function.g a1 a2 a3 a4 fun r60 r61 r62 r63 r64 =>
  z.2 a1 a2 r63 r64 fun r65 r66 r67 r68 r69 =>
  bif r69 then (impl_parser_put_i2.g 4 0 r65 r60 r61 r62 r68 r66 r67 true fun r70 r71 =>
   R r70 r66 r67 r71 true)
  else (impl_FunOne.g r60 r61 r62 fun r72 =>
  impl_parser_put_i2.g 4 0 r65 r60 r61 r62 r68 r66 r67 (!r72) fun r73 r74 =>
  R r73 r66 r67 r74 (!r72)))
 else (impl_parser_operandEnd.g a1 a2 a3 a4 fun r75 r76 r77 r78 r79 r80 =>
 bif !r76 then R 0 r78 r79 r77 true
 else bif (r75 == (r78.length : Int)) then (z.1 a3 r75 r77 r78 r79 r80 fun r81 r82 r83 r84 r85 =>
  R r81 r82 r83 r84 r85)
 else (impl_parser_function.g r77 r78 r75 r80 fun r86 r87 r88 r89 r90 =>
 z.2 r77 r78 r89 r90 fun r91 r92 r93 r94 r95 =>
 bif r95 then R 0 r92 r93 r94 true
 else (impl_FunTwo.g r86 r87 r88 fun r96 =>
 bif !r96 then R 0 r92 r93 r94 (!r96)
 else (z.1 a3 r75 r94 r92 r93 (!r96) fun r97 r98 r99 r100 r101 =>
 impl_parser_put_i2.g 5 r97 r91 r86 r87 r88 r100 r98 r99 r101 fun r102 r103 =>
 R r102 r98 r99 r103 r101))))))
theorem ok (z : Z_impl_parser_operand) (hz : Gd_impl_parser_operand z) : Con Pg (conz (g z)) := con_fin (fn := Try.f17) (c := c) (Fi := fi) (X := (X z)) laid (ctx_of (.cons impl_parser_kind.ok (.cons hz.2 (.cons impl_parser_put_i2.ok (.cons impl_parser_function.ok (.cons impl_FunOne.ok (.cons impl_parser_operandEnd.ok (.cons hz.1 (.cons impl_FunTwo.ok .nil)))))))) (by kernel_rfl)) (fun K => .nil) rfl (by kernel_rfl) (by kernel_rfl) (by kernel_rfl) (by kernel_rfl)
end impl_parser_line
noncomputable def rec_impl_parser_operand : Nat → Z_impl_parser_operand
 | 0 => ((fun _ _ _ _ _ _ _ => none), (fun _ _ _ _ _ => none))
 | n + 1 => (impl_parser_operand.g (rec_impl_parser_operand n), impl_parser_line.g (rec_impl_parser_operand n))
theorem good_impl_parser_operand : ∀ n, Gd_impl_parser_operand (rec_impl_parser_operand n)
 | 0 => ⟨con_cst rfl, con_cst rfl⟩
 | n + 1 => ⟨impl_parser_operand.ok _ (good_impl_parser_operand n), impl_parser_line.ok _ (good_impl_parser_operand n)⟩
namespace impl_parser_operand
noncomputable def gn (n : Nat) (a1 a2 : Int) (a3 a4 : List (List Cl)) (a5 : Int) (a6 : Bool) (R : Int → List (List Cl) → Int → List (List Cl) → Bool → O) : O := (rec_impl_parser_operand n).1 a1 a2 a3 a4 a5 a6 R
noncomputable def G : T := seal_ (gn fuel)
theorem Ge : G = gn fuel := seal_eq _
theorem gn_succ (n : Nat) (a1 a2 : Int) (a3 a4 : List (List Cl)) (a5 : Int) (a6 : Bool) (R : Int → List (List Cl) → Int → List (List Cl) → Bool → O) : gn (n + 1) a1 a2 a3 a4 a5 a6 R = g (rec_impl_parser_operand n) a1 a2 a3 a4 a5 a6 R := rfl
noncomputable def con := conz G
theorem okG : Con Pg con := by
 unfold con; rw [Ge]; exact (good_impl_parser_operand fuel).1
end impl_parser_operand
namespace impl_parser_line
noncomputable def gn (n : Nat) (a1 a2 : List (List Cl)) (a3 : Int) (a4 : Bool) (R : Int → List (List Cl) → Int → List (List Cl) → Bool → O) : O := (rec_impl_parser_operand n).2 a1 a2 a3 a4 R
noncomputable def G : T := seal_ (gn fuel)
theorem Ge : G = gn fuel := seal_eq _
theorem gn_succ (n : Nat) (a1 a2 : List (List Cl)) (a3 : Int) (a4 : Bool) (R : Int → List (List Cl) → Int → List (List Cl) → Bool → O) : gn (n + 1) a1 a2 a3 a4 R = g (rec_impl_parser_operand n) a1 a2 a3 a4 R := rfl
noncomputable def con := conz G
theorem okG : Con Pg con := by
 unfold con; rw [Ge]; exact (good_impl_parser_operand fuel).2
end impl_parser_line
-- END GROUP
namespace impl_Parse
noncomputable def c : Code := bodyOf Try.f7
noncomputable def fi : Fin := ⟨Γ0, [(.cell 2 26, 26), (.tmp 3, 3)], [[1], [1]], [], [], []⟩
noncomputable def m : Fn [.l] (Fn [.l, .i] Res) := fun _ r1 r2 => ⟨[⟨true, [.ow 1000]⟩, ⟨false, [cI r2]⟩], [], [⟨e_1, .cells r1, true, 0, none⟩], [], []⟩
noncomputable def X (K : Res → O) : Ctx := { cx0 [impl_tokensOk.con, impl_parser_line.con] fi true K with own := [(3, 1, 2, e_1)] }
noncomputable def b (a1 : List (List Cl)) (R : List (List Cl) → Int → O) : O :=
 impl_tokensOk.g a1 fun r2 =>
 bif !r2 then R ([] : List (List Cl)) 1
 else (impl_parser_line.G ([] : List (List Cl)) a1 0 false fun r3 r4 r5 r6 r7 =>
 bif r7 then R ([] : List (List Cl)) 8
 else bif decide (60 < (r6.length : Int)) then R ([] : List (List Cl)) 6
 else R r6 0)
noncomputable def g := seal_ b
theorem e : g = b := seal_eq b
noncomputable def a : Fn [.l] St := fun a1 => argSt [one (.tr 2 2 e_0 (.cells a1))] [] []
noncomputable def con := conOf 7 [.l] [.l, .i] a g m
theorem ok : Con Pg con := con_fin (fn := Try.f7) (c := c) (Fi := fi) (X := X) laid (ctx_of (.cons impl_tokensOk.ok (.cons impl_parser_line.okG .nil)) (by kernel_rfl)) (fun K => .nil) e (by kernel_rfl) (by kernel_rfl) (by kernel_rfl) (by kernel_rfl)
end impl_Parse
namespace laws_eqFun
noncomputable def c : Code := bodyOf Try.f55
noncomputable def fi : Fin := ⟨Γ0, [(.tmp 4, 4)], [[1]], [], [], []⟩
noncomputable def m : Fn [.i, .i, .i, .i, .i, .i] (Fn [.b] Res) := fun _ _ _ _ _ _ r1 => ⟨[⟨false, [.bool r1]⟩], [], [], [], []⟩
noncomputable def X (K : Res → O) : Ctx := cx0 [] fi true K
noncomputable def b (a1 a2 a3 a4 a5 a6 : Int) (R : Bool → O) : O :=
 bif (a1 != a4) then R false
 else bif (a2 != a5) then R false
 else bif (a3 != a6) then R false
 else R true
noncomputable def g := seal_ b
theorem e : g = b := seal_eq b
noncomputable def a : Fn [.i, .i, .i, .i, .i, .i] St := fun a1 a2 a3 a4 a5 a6 => argSt [.v ⟨true, [cI a1, cI a2, cI a3]⟩, .v ⟨true, [cI a4, cI a5, cI a6]⟩] [] []
noncomputable def con := conOf 55 [.i, .i, .i, .i, .i, .i] [.b] a g m
theorem ok : Con Pg con := con_fin (fn := Try.f55) (c := c) (Fi := fi) (X := X) laid (ctx_of .nil (by kernel_rfl)) (fun K => .nil) e (by kernel_rfl) (by kernel_rfl) (by kernel_rfl) (by kernel_rfl)
end laws_eqFun
namespace laws_eqIntS
noncomputable def c : Code := bodyOf Try.f56
noncomputable def fi : Fin := ⟨Γ0, [(.tmp 4, 4)], [[1]], [], [], []⟩
noncomputable def m : Fn [.z, .z] (Fn [.b] Res) := fun _ _ r1 => ⟨[⟨false, [.bool r1]⟩], [], [], [], []⟩
noncomputable def b0 : Code := codeAt c [1, 1, 0, 1, 0, 0]
noncomputable def l0s (x3 x4 : List Int) (rec : Int → O) (k : O) (R : Bool → O) (x5 : Int) : O :=
 bif decide (x5 < (x3.length : Int)) then (bif decide (0 ≤ x5) && decide (x5 < (x3.length : Int)) then (bif decide (0 ≤ x5) && decide (x5 < (x4.length : Int)) then (bif (x3.getD x5.toNat 0 != x4.getD x5.toNat 0) then R false
  else rec (IntKind.i64.wrap (x5 + 1)))
  else none)
  else none)
 else k
noncomputable def l0 (x3 x4 : List Int) (k : O) (R : Bool → O) : Nat → Int → O
 | 0, _ => none
 | n + 1, x5 => l0s x3 x4 (l0 x3 x4 k R n) k R x5
noncomputable def o0 : Fn [.z, .z] St := fun _ _ => ⟨mkT 26 [], [], []⟩
noncomputable def n0 (K : Res → O) := ent 0 [.z, .z] [.i] [0, 1, 2] (fun x3 x4 x5 => ⟨mkT 26 [(0, one (.tr 0 1 [.int .i64] (.ints x3))), (1, one (.tr 0 1 [.int .i64] (.ints x4))), (5, oI x5)], [], []⟩) fun x3 x4 k => l0 x3 x4 (k (o0 x3 x4)) (fun r1 => K (m [] [] r1))
noncomputable def X (K : Res → O) : Ctx := { cx0 [] fi true K with cin := [(0, ⟨[0, 1, 5], [], [], [], [], []⟩)], cout := [(0, ⟨[], [], [], [], [], []⟩)], lp := lpOf [n0 K] }
noncomputable def b (a1 a2 : List Int) (R : Bool → O) : O :=
 bif ((a1.length : Int) != (a2.length : Int)) then R false
 else (l0 a1 a2 (
 R true) R fuel 0)
noncomputable def g := seal_ b
theorem e : g = b := seal_eq b
noncomputable def a : Fn [.z, .z] St := fun a1 a2 => argSt [one (.tr 0 1 [.int .i64] (.ints a1)), one (.tr 0 1 [.int .i64] (.ints a2))] [] []
noncomputable def con := conOf 56 [.z, .z] [.b] a g m
theorem hx (K : Res → O) : CtxOk Pg Γ0 byt0 eqs0 (X K) [] := ctx_of (X := X) .nil (by kernel_rfl) K
theorem w0 (K : Res → O) : LpSound Pg (X K) 0 b0 := lp_fin (L := [n0 K]) laid (hx K) .nil (.cons (ent_ok (fun x3 x4 k r => l0s x3 x4 r (k (o0 x3 x4)) (fun r1 => K (m [] [] r1))) (by kernel_rfl) (by kernel_rfl) (by kernel_rfl) (by kernel_rfl) (by kernel_rfl)) .nil) (by kernel_rfl) (by kernel_rfl)
theorem ok : Con Pg con := con_fin (fn := Try.f56) (c := c) (Fi := fi) (X := X) laid hx (fun K => (.cons (w0 K) .nil)) e (by kernel_rfl) (by kernel_rfl) (by kernel_rfl) (by kernel_rfl)
end laws_eqIntS
namespace laws_eqExpr
noncomputable def c : Code := bodyOf Try.f39
noncomputable def fi : Fin := ⟨Γ0, [(.tmp 4, 4)], [[1]], [], [], []⟩
noncomputable def m : Fn [.i, .i, .i, .i, .i, .i, .z, .i, .i, .i, .i, .i, .i, .z] (Fn [.b] Res) := fun _ _ _ _ _ _ _ _ _ _ _ _ _ _ r1 => ⟨[⟨false, [.bool r1]⟩], [], [], [], []⟩
noncomputable def X (K : Res → O) : Ctx := cx0 [laws_eqFun.con, laws_eqIntS.con] fi true K
noncomputable def b (a1 a2 a3 a4 a5 a6 : Int) (a7 : List Int) (a8 a9 a10 a11 a12 a13 : Int) (a14 : List Int) (R : Bool → O) : O :=
 bif (a1 != a8) then R false
 else bif (a2 != a9) then R false
 else bif (a3 != a10) then R false
 else (laws_eqFun.g a4 a5 a6 a11 a12 a13 fun r15 =>
 bif !r15 then R false
 else (laws_eqIntS.g a7 a14 fun r16 =>
 bif !r16 then R false
 else R true))
noncomputable def g := seal_ b
theorem e : g = b := seal_eq b
noncomputable def a : Fn [.i, .i, .i, .i, .i, .i, .z, .i, .i, .i, .i, .i, .i, .z] St := fun a1 a2 a3 a4 a5 a6 a7 a8 a9 a10 a11 a12 a13 a14 => argSt [.v ⟨true, [cI a1, cI a2, cI a3, cI a4, cI a5, cI a6, .tr 0 1 [.int .i64] (.ints a7)]⟩, .v ⟨true, [cI a8, cI a9, cI a10, cI a11, cI a12, cI a13, .tr 0 1 [.int .i64] (.ints a14)]⟩] [] []
noncomputable def con := conOf 39 [.i, .i, .i, .i, .i, .i, .z, .i, .i, .i, .i, .i, .i, .z] [.b] a g m
theorem ok : Con Pg con := con_fin (fn := Try.f39) (c := c) (Fi := fi) (X := X) laid (ctx_of (.cons laws_eqFun.ok (.cons laws_eqIntS.ok .nil)) (by kernel_rfl)) (fun K => .nil) e (by kernel_rfl) (by kernel_rfl) (by kernel_rfl) (by kernel_rfl)
end laws_eqExpr
namespace laws_eqExprS
noncomputable def c : Code := bodyOf Try.f18
noncomputable def fi : Fin := ⟨Γ0, [(.tmp 4, 4)], [[1]], [], [], []⟩
noncomputable def m : Fn [.l, .l] (Fn [.b] Res) := fun _ _ r1 => ⟨[⟨false, [.bool r1]⟩], [], [], [], []⟩
noncomputable def b0 : Code := codeAt c [1, 1, 0, 1, 0, 0]
noncomputable def l0s (x3 x4 : List (List Cl)) (rec : Int → O) (k : O) (R : Bool → O) (x5 : Int) : O :=
 bif decide (x5 < (x3.length : Int)) then (bif decide (0 ≤ x5) && decide (x5 < (x3.length : Int)) then (bif decide (0 ≤ x5) && decide (x5 < (x4.length : Int)) then (laws_eqExpr.g (((x3.getD x5.toNat []).getD 0 (.i 0)).toI) (((x3.getD x5.toNat []).getD 1 (.i 0)).toI) (((x3.getD x5.toNat []).getD 2 (.i 0)).toI) (((x3.getD x5.toNat []).getD 3 (.i 0)).toI) (((x3.getD x5.toNat []).getD 4 (.i 0)).toI) (((x3.getD x5.toNat []).getD 5 (.i 0)).toI) (((x3.getD x5.toNat []).getD 6 (.i 0)).toL) (((x4.getD x5.toNat []).getD 0 (.i 0)).toI) (((x4.getD x5.toNat []).getD 1 (.i 0)).toI) (((x4.getD x5.toNat []).getD 2 (.i 0)).toI) (((x4.getD x5.toNat []).getD 3 (.i 0)).toI) (((x4.getD x5.toNat []).getD 4 (.i 0)).toI) (((x4.getD x5.toNat []).getD 5 (.i 0)).toI) (((x4.getD x5.toNat []).getD 6 (.i 0)).toL) fun r6 =>
  bif !r6 then R false
  else rec (IntKind.i64.wrap (x5 + 1)))
  else none)
  else none)
 else k
noncomputable def l0 (x3 x4 : List (List Cl)) (k : O) (R : Bool → O) : Nat → Int → O
 | 0, _ => none
 | n + 1, x5 => l0s x3 x4 (l0 x3 x4 k R n) k R x5
noncomputable def o0 : Fn [.l, .l] St := fun _ _ => ⟨mkT 27 [], [], []⟩
noncomputable def n0 (K : Res → O) := ent 0 [.l, .l] [.i] [0, 1, 2] (fun x3 x4 x5 => ⟨mkT 27 [(0, one (.tr 0 1 e_1 (.cells x3))), (1, one (.tr 0 1 e_1 (.cells x4))), (5, oI x5)], [], []⟩) fun x3 x4 k => l0 x3 x4 (k (o0 x3 x4)) (fun r1 => K (m [] [] r1))
noncomputable def X (K : Res → O) : Ctx := { cx0 [laws_eqExpr.con] fi true K with cin := [(0, ⟨[0, 1, 5], [], [], [], [], []⟩)], cout := [(0, ⟨[], [], [], [], [], []⟩)], lp := lpOf [n0 K] }
noncomputable def b (a1 a2 : List (List Cl)) (R : Bool → O) : O :=
 bif ((a1.length : Int) != (a2.length : Int)) then R false
 else (l0 a1 a2 (
 R true) R fuel 0)
noncomputable def g := seal_ b
theorem e : g = b := seal_eq b
noncomputable def a : Fn [.l, .l] St := fun a1 a2 => argSt [one (.tr 0 1 e_1 (.cells a1)), one (.tr 0 1 e_1 (.cells a2))] [] []
noncomputable def con := conOf 18 [.l, .l] [.b] a g m
theorem hx (K : Res → O) : CtxOk Pg Γ0 byt0 eqs0 (X K) [laws_eqExpr.con] := ctx_of (X := X) (.cons laws_eqExpr.ok .nil) (by kernel_rfl) K
theorem w0 (K : Res → O) : LpSound Pg (X K) 0 b0 := lp_fin (L := [n0 K]) laid (hx K) .nil (.cons (ent_ok (fun x3 x4 k r => l0s x3 x4 r (k (o0 x3 x4)) (fun r1 => K (m [] [] r1))) (by kernel_rfl) (by kernel_rfl) (by kernel_rfl) (by kernel_rfl) (by kernel_rfl)) .nil) (by kernel_rfl) (by kernel_rfl)
theorem ok : Con Pg con := con_fin (fn := Try.f18) (c := c) (Fi := fi) (X := X) laid hx (fun K => (.cons (w0 K) .nil)) e (by kernel_rfl) (by kernel_rfl) (by kernel_rfl) (by kernel_rfl)
end laws_eqExprS
namespace laws_eqTree
noncomputable def c : Code := bodyOf Try.f8
noncomputable def fi : Fin := ⟨Γ0, [(.tmp 4, 4)], [[1]], [], [], []⟩
noncomputable def m : Fn [.l, .l] (Fn [.b] Res) := fun _ _ r1 => ⟨[⟨false, [.bool r1]⟩], [], [], [], []⟩
noncomputable def X (K : Res → O) : Ctx := cx0 [laws_eqExprS.con] fi true K
noncomputable def b (a1 a2 : List (List Cl)) (R : Bool → O) : O :=
 laws_eqExprS.g a1 a2 fun r3 =>
 bif !r3 then R false
 else R true
noncomputable def g := seal_ b
theorem e : g = b := seal_eq b
noncomputable def a : Fn [.l, .l] St := fun a1 a2 => argSt [.v ⟨true, [.tr 0 1 e_1 (.cells a1)]⟩, .v ⟨true, [.tr 0 1 e_1 (.cells a2)]⟩] [] []
noncomputable def con := conOf 8 [.l, .l] [.b] a g m
theorem ok : Con Pg con := con_fin (fn := Try.f8) (c := c) (Fi := fi) (X := X) laid (ctx_of (.cons laws_eqExprS.ok .nil) (by kernel_rfl)) (fun K => .nil) e (by kernel_rfl) (by kernel_rfl) (by kernel_rfl) (by kernel_rfl)
end laws_eqTree
namespace laws_eqToken
noncomputable def c : Code := bodyOf Try.f19
noncomputable def fi : Fin := ⟨Γ0, [(.tmp 4, 4)], [[1]], [], [], []⟩
noncomputable def m : Fn [.i, .i, .i, .i] (Fn [.b] Res) := fun _ _ _ _ r1 => ⟨[⟨false, [.bool r1]⟩], [], [], [], []⟩
noncomputable def X (K : Res → O) : Ctx := cx0 [] fi true K
noncomputable def b (a1 a2 a3 a4 : Int) (R : Bool → O) : O :=
 bif (a1 != a3) then R false
 else bif (a2 != a4) then R false
 else R true
noncomputable def g := seal_ b
theorem e : g = b := seal_eq b
noncomputable def a : Fn [.i, .i, .i, .i] St := fun a1 a2 a3 a4 => argSt [.v ⟨true, [cI a1, cI a2]⟩, .v ⟨true, [cI a3, cI a4]⟩] [] []
noncomputable def con := conOf 19 [.i, .i, .i, .i] [.b] a g m
theorem ok : Con Pg con := con_fin (fn := Try.f19) (c := c) (Fi := fi) (X := X) laid (ctx_of .nil (by kernel_rfl)) (fun K => .nil) e (by kernel_rfl) (by kernel_rfl) (by kernel_rfl) (by kernel_rfl)
end laws_eqToken
namespace laws_eqTokenS
noncomputable def c : Code := bodyOf Try.f9
noncomputable def fi : Fin := ⟨Γ0, [(.tmp 4, 4)], [[1]], [], [], []⟩
noncomputable def m : Fn [.l, .l] (Fn [.b] Res) := fun _ _ r1 => ⟨[⟨false, [.bool r1]⟩], [], [], [], []⟩
noncomputable def b0 : Code := codeAt c [1, 1, 0, 1, 0, 0]
noncomputable def l0s (x3 x4 : List (List Cl)) (rec : Int → O) (k : O) (R : Bool → O) (x5 : Int) : O :=
 bif decide (x5 < (x3.length : Int)) then (bif decide (0 ≤ x5) && decide (x5 < (x3.length : Int)) then (bif decide (0 ≤ x5) && decide (x5 < (x4.length : Int)) then (laws_eqToken.g (((x3.getD x5.toNat []).getD 0 (.i 0)).toI) (((x3.getD x5.toNat []).getD 1 (.i 0)).toI) (((x4.getD x5.toNat []).getD 0 (.i 0)).toI) (((x4.getD x5.toNat []).getD 1 (.i 0)).toI) fun r6 =>
  bif !r6 then R false
  else rec (IntKind.i64.wrap (x5 + 1)))
  else none)
  else none)
 else k
noncomputable def l0 (x3 x4 : List (List Cl)) (k : O) (R : Bool → O) : Nat → Int → O
 | 0, _ => none
 | n + 1, x5 => l0s x3 x4 (l0 x3 x4 k R n) k R x5
noncomputable def o0 : Fn [.l, .l] St := fun _ _ => ⟨mkT 27 [], [], []⟩
noncomputable def n0 (K : Res → O) := ent 0 [.l, .l] [.i] [0, 1, 2] (fun x3 x4 x5 => ⟨mkT 27 [(0, one (.tr 0 1 e_0 (.cells x3))), (1, one (.tr 0 1 e_0 (.cells x4))), (5, oI x5)], [], []⟩) fun x3 x4 k => l0 x3 x4 (k (o0 x3 x4)) (fun r1 => K (m [] [] r1))
noncomputable def X (K : Res → O) : Ctx := { cx0 [laws_eqToken.con] fi true K with cin := [(0, ⟨[0, 1, 5], [], [], [], [], []⟩)], cout := [(0, ⟨[], [], [], [], [], []⟩)], lp := lpOf [n0 K] }
noncomputable def b (a1 a2 : List (List Cl)) (R : Bool → O) : O :=
 bif ((a1.length : Int) != (a2.length : Int)) then R false
 else (l0 a1 a2 (
 R true) R fuel 0)
noncomputable def g := seal_ b
theorem e : g = b := seal_eq b
noncomputable def a : Fn [.l, .l] St := fun a1 a2 => argSt [one (.tr 0 1 e_0 (.cells a1)), one (.tr 0 1 e_0 (.cells a2))] [] []
noncomputable def con := conOf 9 [.l, .l] [.b] a g m
theorem hx (K : Res → O) : CtxOk Pg Γ0 byt0 eqs0 (X K) [laws_eqToken.con] := ctx_of (X := X) (.cons laws_eqToken.ok .nil) (by kernel_rfl) K
theorem w0 (K : Res → O) : LpSound Pg (X K) 0 b0 := lp_fin (L := [n0 K]) laid (hx K) .nil (.cons (ent_ok (fun x3 x4 k r => l0s x3 x4 r (k (o0 x3 x4)) (fun r1 => K (m [] [] r1))) (by kernel_rfl) (by kernel_rfl) (by kernel_rfl) (by kernel_rfl) (by kernel_rfl)) .nil) (by kernel_rfl) (by kernel_rfl)
theorem ok : Con Pg con := con_fin (fn := Try.f9) (c := c) (Fi := fi) (X := X) laid hx (fun K => (.cons (w0 K) .nil)) e (by kernel_rfl) (by kernel_rfl) (by kernel_rfl) (by kernel_rfl)
end laws_eqTokenS
namespace laws_markTokenS
noncomputable def c : Code := bodyOf Try.f10
noncomputable def fi : Fin := ⟨Γ0, [(.tmp 4, 3)], [[1]], [true], [], []⟩
noncomputable def m : Fn [.i, .l] (Fn [.i, .l] Res) := fun _ _ r1 r2 => ⟨[⟨false, [cI r1]⟩], [some ⟨e_0, .cells r2, true, 0, none⟩], [], [], []⟩
noncomputable def b0 : Code := codeAt c [1, 0, 1, 0, 0]
noncomputable def l0s  (rec : Int → Int → List (List Cl) → O) (k : Int → List (List Cl) → O) (x3 x4 : Int) (x5 : List (List Cl)) : O :=
 bif decide (x4 < (x5.length : Int)) then (bif decide (0 ≤ x4) && decide (x4 < (x5.length : Int)) then (bif decide (0 ≤ x4) && decide (x4 < ((x5.set x4.toNat (splice (x5.getD x4.toNat []) 0 [.i x3])).length : Int)) then rec (IntKind.i64.wrap ((IntKind.i64.wrap (x3 + 1)) + 1)) (IntKind.i64.wrap (x4 + 1)) ((x5.set x4.toNat (splice (x5.getD x4.toNat []) 0 [.i x3])).set x4.toNat (splice ((x5.set x4.toNat (splice (x5.getD x4.toNat []) 0 [.i x3])).getD x4.toNat []) 1 [.i (IntKind.i64.wrap (x3 + 1))]))
  else none)
  else none)
 else k x3 x5
noncomputable def l0  (k : Int → List (List Cl) → O) : Nat → Int → Int → List (List Cl) → O
 | 0, _, _, _ => none
 | n + 1, x3, x4, x5 => l0s (l0 k n) k x3 x4 x5
noncomputable def o0 : Fn [.i, .l] St := fun y1 y2 => ⟨mkT 27 [(1, oI y1)], [(0, ⟨e_0, .cells y2, true, 0, none⟩)], []⟩
noncomputable def n0 (K : Res → O) := ent 0 [] [.i, .i, .l] [0, 1, 2] (fun x3 x4 x5 => ⟨mkT 27 [(0, one (.ow 0)), (1, oI x3), (5, oI x4)], [(0, ⟨e_0, .cells x5, true, 0, none⟩)], []⟩) fun k => l0 (fun y1 y2 => k (o0 y1 y2))
noncomputable def X (K : Res → O) : Ctx := { cx0 [] fi true K with cin := [(0, ⟨[0, 1, 5], [(0, 0)], [], [], [], []⟩)], cout := [(0, ⟨[1], [(0, 0)], [], [], [], []⟩)], lp := lpOf [n0 K] }
noncomputable def b (a1 : Int) (a2 : List (List Cl)) (R : Int → List (List Cl) → O) : O :=
 l0 (fun y6 y7 =>
 R y6 y7) fuel a1 0 a2
noncomputable def g := seal_ b
theorem e : g = b := seal_eq b
noncomputable def a : Fn [.i, .l] St := fun a1 a2 => argSt [one (.ow 0), oI a1] [⟨e_0, .cells a2, true, 0, none⟩] []
noncomputable def con := conOf 10 [.i, .l] [.i, .l] a g m
theorem hx (K : Res → O) : CtxOk Pg Γ0 byt0 eqs0 (X K) [] := ctx_of (X := X) .nil (by kernel_rfl) K
theorem w0 (K : Res → O) : LpSound Pg (X K) 0 b0 := lp_fin (L := [n0 K]) laid (hx K) .nil (.cons (ent_ok (fun k r => l0s r (fun y1 y2 => k (o0 y1 y2))) (by kernel_rfl) (by kernel_rfl) (by kernel_rfl) (by kernel_rfl) (by kernel_rfl)) .nil) (by kernel_rfl) (by kernel_rfl)
theorem ok : Con Pg con := con_fin (fn := Try.f10) (c := c) (Fi := fi) (X := X) laid hx (fun K => (.cons (w0 K) .nil)) e (by kernel_rfl) (by kernel_rfl) (by kernel_rfl) (by kernel_rfl)
end laws_markTokenS
namespace laws_markIntS
noncomputable def c : Code := bodyOf Try.f40
noncomputable def fi : Fin := ⟨Γ0, [(.tmp 4, 3)], [[1]], [true], [], []⟩
noncomputable def m : Fn [.i, .z] (Fn [.i, .z] Res) := fun _ _ r1 r2 => ⟨[⟨false, [cI r1]⟩], [some ⟨[.int .i64], .ints r2, true, 0, none⟩], [], [], []⟩
noncomputable def b0 : Code := codeAt c [1, 0, 1, 0, 0]
noncomputable def l0s  (rec : Int → Int → List Int → O) (k : Int → List Int → O) (x3 x4 : Int) (x5 : List Int) : O :=
 bif decide (x4 < (x5.length : Int)) then (bif decide (0 ≤ x4) && decide (x4 < (x5.length : Int)) then rec (IntKind.i64.wrap (x3 + 1)) (IntKind.i64.wrap (x4 + 1)) (x5.set x4.toNat x3)
  else none)
 else k x3 x5
noncomputable def l0  (k : Int → List Int → O) : Nat → Int → Int → List Int → O
 | 0, _, _, _ => none
 | n + 1, x3, x4, x5 => l0s (l0 k n) k x3 x4 x5
noncomputable def o0 : Fn [.i, .z] St := fun y1 y2 => ⟨mkT 19 [(1, oI y1)], [(0, ⟨[.int .i64], .ints y2, true, 0, none⟩)], []⟩
noncomputable def n0 (K : Res → O) := ent 0 [] [.i, .i, .z] [0, 1, 2] (fun x3 x4 x5 => ⟨mkT 19 [(0, one (.ow 0)), (1, oI x3), (5, oI x4)], [(0, ⟨[.int .i64], .ints x5, true, 0, none⟩)], []⟩) fun k => l0 (fun y1 y2 => k (o0 y1 y2))
noncomputable def X (K : Res → O) : Ctx := { cx0 [] fi true K with cin := [(0, ⟨[0, 1, 5], [(0, 0)], [], [], [], []⟩)], cout := [(0, ⟨[1], [(0, 0)], [], [], [], []⟩)], lp := lpOf [n0 K] }
noncomputable def b (a1 : Int) (a2 : List Int) (R : Int → List Int → O) : O :=
 l0 (fun y6 y7 =>
 R y6 y7) fuel a1 0 a2
noncomputable def g := seal_ b
theorem e : g = b := seal_eq b
noncomputable def a : Fn [.i, .z] St := fun a1 a2 => argSt [one (.ow 0), oI a1] [⟨[.int .i64], .ints a2, true, 0, none⟩] []
noncomputable def con := conOf 40 [.i, .z] [.i, .z] a g m
theorem hx (K : Res → O) : CtxOk Pg Γ0 byt0 eqs0 (X K) [] := ctx_of (X := X) .nil (by kernel_rfl) K
theorem w0 (K : Res → O) : LpSound Pg (X K) 0 b0 := lp_fin (L := [n0 K]) laid (hx K) .nil (.cons (ent_ok (fun k r => l0s r (fun y1 y2 => k (o0 y1 y2))) (by kernel_rfl) (by kernel_rfl) (by kernel_rfl) (by kernel_rfl) (by kernel_rfl)) .nil) (by kernel_rfl) (by kernel_rfl)
theorem ok : Con Pg con := con_fin (fn := Try.f40) (c := c) (Fi := fi) (X := X) laid hx (fun K => (.cons (w0 K) .nil)) e (by kernel_rfl) (by kernel_rfl) (by kernel_rfl) (by kernel_rfl)
end laws_markIntS
namespace laws_markExprS
noncomputable def c : Code := bodyOf Try.f20
noncomputable def fi : Fin := ⟨Γ0, [(.tmp 4, 3)], [[1]], [true], [], []⟩
noncomputable def m : Fn [.i, .l] (Fn [.i, .l] Res) := fun _ _ r1 r2 => ⟨[⟨false, [cI r1]⟩], [some ⟨e_1, .cells r2, true, 0, none⟩], [], [], []⟩
noncomputable def b0 : Code := codeAt c [1, 0, 1, 0, 0]
noncomputable def l0s  (rec : Int → Int → List (List Cl) → O) (k : Int → List (List Cl) → O) (x3 x4 : Int) (x5 : List (List Cl)) : O :=
 bif decide (x4 < (x5.length : Int)) then (bif decide (0 ≤ x4) && decide (x4 < (x5.length : Int)) then (bif decide (0 ≤ x4) && decide (x4 < ((x5.set x4.toNat (splice (x5.getD x4.toNat []) 0 [.i x3])).length : Int)) then (bif decide (0 ≤ x4) && decide (x4 < (((x5.set x4.toNat (splice (x5.getD x4.toNat []) 0 [.i x3])).set x4.toNat (splice ((x5.set x4.toNat (splice (x5.getD x4.toNat []) 0 [.i x3])).getD x4.toNat []) 1 [.i (IntKind.i64.wrap (x3 + 1))])).length : Int)) then (bif decide (0 ≤ x4) && decide (x4 < ((((x5.set x4.toNat (splice (x5.getD x4.toNat []) 0 [.i x3])).set x4.toNat (splice ((x5.set x4.toNat (splice (x5.getD x4.toNat []) 0 [.i x3])).getD x4.toNat []) 1 [.i (IntKind.i64.wrap (x3 + 1))])).set x4.toNat (splice (((x5.set x4.toNat (splice (x5.getD x4.toNat []) 0 [.i x3])).set x4.toNat (splice ((x5.set x4.toNat (splice (x5.getD x4.toNat []) 0 [.i x3])).getD x4.toNat []) 1 [.i (IntKind.i64.wrap (x3 + 1))])).getD x4.toNat []) 2 [.i (IntKind.i64.wrap ((IntKind.i64.wrap (x3 + 1)) + 1))])).length : Int)) then (bif decide (0 ≤ x4) && decide (x4 < (((((x5.set x4.toNat (splice (x5.getD x4.toNat []) 0 [.i x3])).set x4.toNat (splice ((x5.set x4.toNat (splice (x5.getD x4.toNat []) 0 [.i x3])).getD x4.toNat []) 1 [.i (IntKind.i64.wrap (x3 + 1))])).set x4.toNat (splice (((x5.set x4.toNat (splice (x5.getD x4.toNat []) 0 [.i x3])).set x4.toNat (splice ((x5.set x4.toNat (splice (x5.getD x4.toNat []) 0 [.i x3])).getD x4.toNat []) 1 [.i (IntKind.i64.wrap (x3 + 1))])).getD x4.toNat []) 2 [.i (IntKind.i64.wrap ((IntKind.i64.wrap (x3 + 1)) + 1))])).set x4.toNat (splice ((((x5.set x4.toNat (splice (x5.getD x4.toNat []) 0 [.i x3])).set x4.toNat (splice ((x5.set x4.toNat (splice (x5.getD x4.toNat []) 0 [.i x3])).getD x4.toNat []) 1 [.i (IntKind.i64.wrap (x3 + 1))])).set x4.toNat (splice (((x5.set x4.toNat (splice (x5.getD x4.toNat []) 0 [.i x3])).set x4.toNat (splice ((x5.set x4.toNat (splice (x5.getD x4.toNat []) 0 [.i x3])).getD x4.toNat []) 1 [.i (IntKind.i64.wrap (x3 + 1))])).getD x4.toNat []) 2 [.i (IntKind.i64.wrap ((IntKind.i64.wrap (x3 + 1)) + 1))])).getD x4.toNat []) 3 [.i (IntKind.i64.wrap ((IntKind.i64.wrap ((IntKind.i64.wrap (x3 + 1)) + 1)) + 1))])).length : Int)) then (bif decide (0 ≤ x4) && decide (x4 < ((((((x5.set x4.toNat (splice (x5.getD x4.toNat []) 0 [.i x3])).set x4.toNat (splice ((x5.set x4.toNat (splice (x5.getD x4.toNat []) 0 [.i x3])).getD x4.toNat []) 1 [.i (IntKind.i64.wrap (x3 + 1))])).set x4.toNat (splice (((x5.set x4.toNat (splice (x5.getD x4.toNat []) 0 [.i x3])).set x4.toNat (splice ((x5.set x4.toNat (splice (x5.getD x4.toNat []) 0 [.i x3])).getD x4.toNat []) 1 [.i (IntKind.i64.wrap (x3 + 1))])).getD x4.toNat []) 2 [.i (IntKind.i64.wrap ((IntKind.i64.wrap (x3 + 1)) + 1))])).set x4.toNat (splice ((((x5.set x4.toNat (splice (x5.getD x4.toNat []) 0 [.i x3])).set x4.toNat (splice ((x5.set x4.toNat (splice (x5.getD x4.toNat []) 0 [.i x3])).getD x4.toNat []) 1 [.i (IntKind.i64.wrap (x3 + 1))])).set x4.toNat (splice (((x5.set x4.toNat (splice (x5.getD x4.toNat []) 0 [.i x3])).set x4.toNat (splice ((x5.set x4.toNat (splice (x5.getD x4.toNat []) 0 [.i x3])).getD x4.toNat []) 1 [.i (IntKind.i64.wrap (x3 + 1))])).getD x4.toNat []) 2 [.i (IntKind.i64.wrap ((IntKind.i64.wrap (x3 + 1)) + 1))])).getD x4.toNat []) 3 [.i (IntKind.i64.wrap ((IntKind.i64.wrap ((IntKind.i64.wrap (x3 + 1)) + 1)) + 1))])).set x4.toNat (splice (((((x5.set x4.toNat (splice (x5.getD x4.toNat []) 0 [.i x3])).set x4.toNat (splice ((x5.set x4.toNat (splice (x5.getD x4.toNat []) 0 [.i x3])).getD x4.toNat []) 1 [.i (IntKind.i64.wrap (x3 + 1))])).set x4.toNat (splice (((x5.set x4.toNat (splice (x5.getD x4.toNat []) 0 [.i x3])).set x4.toNat (splice ((x5.set x4.toNat (splice (x5.getD x4.toNat []) 0 [.i x3])).getD x4.toNat []) 1 [.i (IntKind.i64.wrap (x3 + 1))])).getD x4.toNat []) 2 [.i (IntKind.i64.wrap ((IntKind.i64.wrap (x3 + 1)) + 1))])).set x4.toNat (splice ((((x5.set x4.toNat (splice (x5.getD x4.toNat []) 0 [.i x3])).set x4.toNat (splice ((x5.set x4.toNat (splice (x5.getD x4.toNat []) 0 [.i x3])).getD x4.toNat []) 1 [.i (IntKind.i64.wrap (x3 + 1))])).set x4.toNat (splice (((x5.set x4.toNat (splice (x5.getD x4.toNat []) 0 [.i x3])).set x4.toNat (splice ((x5.set x4.toNat (splice (x5.getD x4.toNat []) 0 [.i x3])).getD x4.toNat []) 1 [.i (IntKind.i64.wrap (x3 + 1))])).getD x4.toNat []) 2 [.i (IntKind.i64.wrap ((IntKind.i64.wrap (x3 + 1)) + 1))])).getD x4.toNat []) 3 [.i (IntKind.i64.wrap ((IntKind.i64.wrap ((IntKind.i64.wrap (x3 + 1)) + 1)) + 1))])).getD x4.toNat []) 4 [.i (IntKind.i64.wrap ((IntKind.i64.wrap ((IntKind.i64.wrap ((IntKind.i64.wrap (x3 + 1)) + 1)) + 1)) + 1))])).length : Int)) then (bif decide (0 ≤ x4) && decide (x4 < (((((((x5.set x4.toNat (splice (x5.getD x4.toNat []) 0 [.i x3])).set x4.toNat (splice ((x5.set x4.toNat (splice (x5.getD x4.toNat []) 0 [.i x3])).getD x4.toNat []) 1 [.i (IntKind.i64.wrap (x3 + 1))])).set x4.toNat (splice (((x5.set x4.toNat (splice (x5.getD x4.toNat []) 0 [.i x3])).set x4.toNat (splice ((x5.set x4.toNat (splice (x5.getD x4.toNat []) 0 [.i x3])).getD x4.toNat []) 1 [.i (IntKind.i64.wrap (x3 + 1))])).getD x4.toNat []) 2 [.i (IntKind.i64.wrap ((IntKind.i64.wrap (x3 + 1)) + 1))])).set x4.toNat (splice ((((x5.set x4.toNat (splice (x5.getD x4.toNat []) 0 [.i x3])).set x4.toNat (splice ((x5.set x4.toNat (splice (x5.getD x4.toNat []) 0 [.i x3])).getD x4.toNat []) 1 [.i (IntKind.i64.wrap (x3 + 1))])).set x4.toNat (splice (((x5.set x4.toNat (splice (x5.getD x4.toNat []) 0 [.i x3])).set x4.toNat (splice ((x5.set x4.toNat (splice (x5.getD x4.toNat []) 0 [.i x3])).getD x4.toNat []) 1 [.i (IntKind.i64.wrap (x3 + 1))])).getD x4.toNat []) 2 [.i (IntKind.i64.wrap ((IntKind.i64.wrap (x3 + 1)) + 1))])).getD x4.toNat []) 3 [.i (IntKind.i64.wrap ((IntKind.i64.wrap ((IntKind.i64.wrap (x3 + 1)) + 1)) + 1))])).set x4.toNat (splice (((((x5.set x4.toNat (splice (x5.getD x4.toNat []) 0 [.i x3])).set x4.toNat (splice ((x5.set x4.toNat (splice (x5.getD x4.toNat []) 0 [.i x3])).getD x4.toNat []) 1 [.i (IntKind.i64.wrap (x3 + 1))])).set x4.toNat (splice (((x5.set x4.toNat (splice (x5.getD x4.toNat []) 0 [.i x3])).set x4.toNat (splice ((x5.set x4.toNat (splice (x5.getD x4.toNat []) 0 [.i x3])).getD x4.toNat []) 1 [.i (IntKind.i64.wrap (x3 + 1))])).getD x4.toNat []) 2 [.i (IntKind.i64.wrap ((IntKind.i64.wrap (x3 + 1)) + 1))])).set x4.toNat (splice ((((x5.set x4.toNat (splice (x5.getD x4.toNat []) 0 [.i x3])).set x4.toNat (splice ((x5.set x4.toNat (splice (x5.getD x4.toNat []) 0 [.i x3])).getD x4.toNat []) 1 [.i (IntKind.i64.wrap (x3 + 1))])).set x4.toNat (splice (((x5.set x4.toNat (splice (x5.getD x4.toNat []) 0 [.i x3])).set x4.toNat (splice ((x5.set x4.toNat (splice (x5.getD x4.toNat []) 0 [.i x3])).getD x4.toNat []) 1 [.i (IntKind.i64.wrap (x3 + 1))])).getD x4.toNat []) 2 [.i (IntKind.i64.wrap ((IntKind.i64.wrap (x3 + 1)) + 1))])).getD x4.toNat []) 3 [.i (IntKind.i64.wrap ((IntKind.i64.wrap ((IntKind.i64.wrap (x3 + 1)) + 1)) + 1))])).getD x4.toNat []) 4 [.i (IntKind.i64.wrap ((IntKind.i64.wrap ((IntKind.i64.wrap ((IntKind.i64.wrap (x3 + 1)) + 1)) + 1)) + 1))])).set x4.toNat (splice ((((((x5.set x4.toNat (splice (x5.getD x4.toNat []) 0 [.i x3])).set x4.toNat (splice ((x5.set x4.toNat (splice (x5.getD x4.toNat []) 0 [.i x3])).getD x4.toNat []) 1 [.i (IntKind.i64.wrap (x3 + 1))])).set x4.toNat (splice (((x5.set x4.toNat (splice (x5.getD x4.toNat []) 0 [.i x3])).set x4.toNat (splice ((x5.set x4.toNat (splice (x5.getD x4.toNat []) 0 [.i x3])).getD x4.toNat []) 1 [.i (IntKind.i64.wrap (x3 + 1))])).getD x4.toNat []) 2 [.i (IntKind.i64.wrap ((IntKind.i64.wrap (x3 + 1)) + 1))])).set x4.toNat (splice ((((x5.set x4.toNat (splice (x5.getD x4.toNat []) 0 [.i x3])).set x4.toNat (splice ((x5.set x4.toNat (splice (x5.getD x4.toNat []) 0 [.i x3])).getD x4.toNat []) 1 [.i (IntKind.i64.wrap (x3 + 1))])).set x4.toNat (splice (((x5.set x4.toNat (splice (x5.getD x4.toNat []) 0 [.i x3])).set x4.toNat (splice ((x5.set x4.toNat (splice (x5.getD x4.toNat []) 0 [.i x3])).getD x4.toNat []) 1 [.i (IntKind.i64.wrap (x3 + 1))])).getD x4.toNat []) 2 [.i (IntKind.i64.wrap ((IntKind.i64.wrap (x3 + 1)) + 1))])).getD x4.toNat []) 3 [.i (IntKind.i64.wrap ((IntKind.i64.wrap ((IntKind.i64.wrap (x3 + 1)) + 1)) + 1))])).set x4.toNat (splice (((((x5.set x4.toNat (splice (x5.getD x4.toNat []) 0 [.i x3])).set x4.toNat (splice ((x5.set x4.toNat (splice (x5.getD x4.toNat []) 0 [.i x3])).getD x4.toNat []) 1 [.i (IntKind.i64.wrap (x3 + 1))])).set x4.toNat (splice (((x5.set x4.toNat (splice (x5.getD x4.toNat []) 0 [.i x3])).set x4.toNat (splice ((x5.set x4.toNat (splice (x5.getD x4.toNat []) 0 [.i x3])).getD x4.toNat []) 1 [.i (IntKind.i64.wrap (x3 + 1))])).getD x4.toNat []) 2 [.i (IntKind.i64.wrap ((IntKind.i64.wrap (x3 + 1)) + 1))])).set x4.toNat (splice ((((x5.set x4.toNat (splice (x5.getD x4.toNat []) 0 [.i x3])).set x4.toNat (splice ((x5.set x4.toNat (splice (x5.getD x4.toNat []) 0 [.i x3])).getD x4.toNat []) 1 [.i (IntKind.i64.wrap (x3 + 1))])).set x4.toNat (splice (((x5.set x4.toNat (splice (x5.getD x4.toNat []) 0 [.i x3])).set x4.toNat (splice ((x5.set x4.toNat (splice (x5.getD x4.toNat []) 0 [.i x3])).getD x4.toNat []) 1 [.i (IntKind.i64.wrap (x3 + 1))])).getD x4.toNat []) 2 [.i (IntKind.i64.wrap ((IntKind.i64.wrap (x3 + 1)) + 1))])).getD x4.toNat []) 3 [.i (IntKind.i64.wrap ((IntKind.i64.wrap ((IntKind.i64.wrap (x3 + 1)) + 1)) + 1))])).getD x4.toNat []) 4 [.i (IntKind.i64.wrap ((IntKind.i64.wrap ((IntKind.i64.wrap ((IntKind.i64.wrap (x3 + 1)) + 1)) + 1)) + 1))])).getD x4.toNat []) 5 [.i (IntKind.i64.wrap ((IntKind.i64.wrap ((IntKind.i64.wrap ((IntKind.i64.wrap ((IntKind.i64.wrap (x3 + 1)) + 1)) + 1)) + 1)) + 1))])).length : Int)) then (bif decide (0 ≤ x4) && decide (x4 < (((((((x5.set x4.toNat (splice (x5.getD x4.toNat []) 0 [.i x3])).set x4.toNat (splice ((x5.set x4.toNat (splice (x5.getD x4.toNat []) 0 [.i x3])).getD x4.toNat []) 1 [.i (IntKind.i64.wrap (x3 + 1))])).set x4.toNat (splice (((x5.set x4.toNat (splice (x5.getD x4.toNat []) 0 [.i x3])).set x4.toNat (splice ((x5.set x4.toNat (splice (x5.getD x4.toNat []) 0 [.i x3])).getD x4.toNat []) 1 [.i (IntKind.i64.wrap (x3 + 1))])).getD x4.toNat []) 2 [.i (IntKind.i64.wrap ((IntKind.i64.wrap (x3 + 1)) + 1))])).set x4.toNat (splice ((((x5.set x4.toNat (splice (x5.getD x4.toNat []) 0 [.i x3])).set x4.toNat (splice ((x5.set x4.toNat (splice (x5.getD x4.toNat []) 0 [.i x3])).getD x4.toNat []) 1 [.i (IntKind.i64.wrap (x3 + 1))])).set x4.toNat (splice (((x5.set x4.toNat (splice (x5.getD x4.toNat []) 0 [.i x3])).set x4.toNat (splice ((x5.set x4.toNat (splice (x5.getD x4.toNat []) 0 [.i x3])).getD x4.toNat []) 1 [.i (IntKind.i64.wrap (x3 + 1))])).getD x4.toNat []) 2 [.i (IntKind.i64.wrap ((IntKind.i64.wrap (x3 + 1)) + 1))])).getD x4.toNat []) 3 [.i (IntKind.i64.wrap ((IntKind.i64.wrap ((IntKind.i64.wrap (x3 + 1)) + 1)) + 1))])).set x4.toNat (splice (((((x5.set x4.toNat (splice (x5.getD x4.toNat []) 0 [.i x3])).set x4.toNat (splice ((x5.set x4.toNat (splice (x5.getD x4.toNat []) 0 [.i x3])).getD x4.toNat []) 1 [.i (IntKind.i64.wrap (x3 + 1))])).set x4.toNat (splice (((x5.set x4.toNat (splice (x5.getD x4.toNat []) 0 [.i x3])).set x4.toNat (splice ((x5.set x4.toNat (splice (x5.getD x4.toNat []) 0 [.i x3])).getD x4.toNat []) 1 [.i (IntKind.i64.wrap (x3 + 1))])).getD x4.toNat []) 2 [.i (IntKind.i64.wrap ((IntKind.i64.wrap (x3 + 1)) + 1))])).set x4.toNat (splice ((((x5.set x4.toNat (splice (x5.getD x4.toNat []) 0 [.i x3])).set x4.toNat (splice ((x5.set x4.toNat (splice (x5.getD x4.toNat []) 0 [.i x3])).getD x4.toNat []) 1 [.i (IntKind.i64.wrap (x3 + 1))])).set x4.toNat (splice (((x5.set x4.toNat (splice (x5.getD x4.toNat []) 0 [.i x3])).set x4.toNat (splice ((x5.set x4.toNat (splice (x5.getD x4.toNat []) 0 [.i x3])).getD x4.toNat []) 1 [.i (IntKind.i64.wrap (x3 + 1))])).getD x4.toNat []) 2 [.i (IntKind.i64.wrap ((IntKind.i64.wrap (x3 + 1)) + 1))])).getD x4.toNat []) 3 [.i (IntKind.i64.wrap ((IntKind.i64.wrap ((IntKind.i64.wrap (x3 + 1)) + 1)) + 1))])).getD x4.toNat []) 4 [.i (IntKind.i64.wrap ((IntKind.i64.wrap ((IntKind.i64.wrap ((IntKind.i64.wrap (x3 + 1)) + 1)) + 1)) + 1))])).set x4.toNat (splice ((((((x5.set x4.toNat (splice (x5.getD x4.toNat []) 0 [.i x3])).set x4.toNat (splice ((x5.set x4.toNat (splice (x5.getD x4.toNat []) 0 [.i x3])).getD x4.toNat []) 1 [.i (IntKind.i64.wrap (x3 + 1))])).set x4.toNat (splice (((x5.set x4.toNat (splice (x5.getD x4.toNat []) 0 [.i x3])).set x4.toNat (splice ((x5.set x4.toNat (splice (x5.getD x4.toNat []) 0 [.i x3])).getD x4.toNat []) 1 [.i (IntKind.i64.wrap (x3 + 1))])).getD x4.toNat []) 2 [.i (IntKind.i64.wrap ((IntKind.i64.wrap (x3 + 1)) + 1))])).set x4.toNat (splice ((((x5.set x4.toNat (splice (x5.getD x4.toNat []) 0 [.i x3])).set x4.toNat (splice ((x5.set x4.toNat (splice (x5.getD x4.toNat []) 0 [.i x3])).getD x4.toNat []) 1 [.i (IntKind.i64.wrap (x3 + 1))])).set x4.toNat (splice (((x5.set x4.toNat (splice (x5.getD x4.toNat []) 0 [.i x3])).set x4.toNat (splice ((x5.set x4.toNat (splice (x5.getD x4.toNat []) 0 [.i x3])).getD x4.toNat []) 1 [.i (IntKind.i64.wrap (x3 + 1))])).getD x4.toNat []) 2 [.i (IntKind.i64.wrap ((IntKind.i64.wrap (x3 + 1)) + 1))])).getD x4.toNat []) 3 [.i (IntKind.i64.wrap ((IntKind.i64.wrap ((IntKind.i64.wrap (x3 + 1)) + 1)) + 1))])).set x4.toNat (splice (((((x5.set x4.toNat (splice (x5.getD x4.toNat []) 0 [.i x3])).set x4.toNat (splice ((x5.set x4.toNat (splice (x5.getD x4.toNat []) 0 [.i x3])).getD x4.toNat []) 1 [.i (IntKind.i64.wrap (x3 + 1))])).set x4.toNat (splice (((x5.set x4.toNat (splice (x5.getD x4.toNat []) 0 [.i x3])).set x4.toNat (splice ((x5.set x4.toNat (splice (x5.getD x4.toNat []) 0 [.i x3])).getD x4.toNat []) 1 [.i (IntKind.i64.wrap (x3 + 1))])).getD x4.toNat []) 2 [.i (IntKind.i64.wrap ((IntKind.i64.wrap (x3 + 1)) + 1))])).set x4.toNat (splice ((((x5.set x4.toNat (splice (x5.getD x4.toNat []) 0 [.i x3])).set x4.toNat (splice ((x5.set x4.toNat (splice (x5.getD x4.toNat []) 0 [.i x3])).getD x4.toNat []) 1 [.i (IntKind.i64.wrap (x3 + 1))])).set x4.toNat (splice (((x5.set x4.toNat (splice (x5.getD x4.toNat []) 0 [.i x3])).set x4.toNat (splice ((x5.set x4.toNat (splice (x5.getD x4.toNat []) 0 [.i x3])).getD x4.toNat []) 1 [.i (IntKind.i64.wrap (x3 + 1))])).getD x4.toNat []) 2 [.i (IntKind.i64.wrap ((IntKind.i64.wrap (x3 + 1)) + 1))])).getD x4.toNat []) 3 [.i (IntKind.i64.wrap ((IntKind.i64.wrap ((IntKind.i64.wrap (x3 + 1)) + 1)) + 1))])).getD x4.toNat []) 4 [.i (IntKind.i64.wrap ((IntKind.i64.wrap ((IntKind.i64.wrap ((IntKind.i64.wrap (x3 + 1)) + 1)) + 1)) + 1))])).getD x4.toNat []) 5 [.i (IntKind.i64.wrap ((IntKind.i64.wrap ((IntKind.i64.wrap ((IntKind.i64.wrap ((IntKind.i64.wrap (x3 + 1)) + 1)) + 1)) + 1)) + 1))])).length : Int)) then (bif decide (x4.toNat = x4.toNat) then (laws_markIntS.g (IntKind.i64.wrap ((IntKind.i64.wrap ((IntKind.i64.wrap ((IntKind.i64.wrap ((IntKind.i64.wrap ((IntKind.i64.wrap (x3 + 1)) + 1)) + 1)) + 1)) + 1)) + 1)) (((((((((x5.set x4.toNat (splice (x5.getD x4.toNat []) 0 [.i x3])).set x4.toNat (splice ((x5.set x4.toNat (splice (x5.getD x4.toNat []) 0 [.i x3])).getD x4.toNat []) 1 [.i (IntKind.i64.wrap (x3 + 1))])).set x4.toNat (splice (((x5.set x4.toNat (splice (x5.getD x4.toNat []) 0 [.i x3])).set x4.toNat (splice ((x5.set x4.toNat (splice (x5.getD x4.toNat []) 0 [.i x3])).getD x4.toNat []) 1 [.i (IntKind.i64.wrap (x3 + 1))])).getD x4.toNat []) 2 [.i (IntKind.i64.wrap ((IntKind.i64.wrap (x3 + 1)) + 1))])).set x4.toNat (splice ((((x5.set x4.toNat (splice (x5.getD x4.toNat []) 0 [.i x3])).set x4.toNat (splice ((x5.set x4.toNat (splice (x5.getD x4.toNat []) 0 [.i x3])).getD x4.toNat []) 1 [.i (IntKind.i64.wrap (x3 + 1))])).set x4.toNat (splice (((x5.set x4.toNat (splice (x5.getD x4.toNat []) 0 [.i x3])).set x4.toNat (splice ((x5.set x4.toNat (splice (x5.getD x4.toNat []) 0 [.i x3])).getD x4.toNat []) 1 [.i (IntKind.i64.wrap (x3 + 1))])).getD x4.toNat []) 2 [.i (IntKind.i64.wrap ((IntKind.i64.wrap (x3 + 1)) + 1))])).getD x4.toNat []) 3 [.i (IntKind.i64.wrap ((IntKind.i64.wrap ((IntKind.i64.wrap (x3 + 1)) + 1)) + 1))])).set x4.toNat (splice (((((x5.set x4.toNat (splice (x5.getD x4.toNat []) 0 [.i x3])).set x4.toNat (splice ((x5.set x4.toNat (splice (x5.getD x4.toNat []) 0 [.i x3])).getD x4.toNat []) 1 [.i (IntKind.i64.wrap (x3 + 1))])).set x4.toNat (splice (((x5.set x4.toNat (splice (x5.getD x4.toNat []) 0 [.i x3])).set x4.toNat (splice ((x5.set x4.toNat (splice (x5.getD x4.toNat []) 0 [.i x3])).getD x4.toNat []) 1 [.i (IntKind.i64.wrap (x3 + 1))])).getD x4.toNat []) 2 [.i (IntKind.i64.wrap ((IntKind.i64.wrap (x3 + 1)) + 1))])).set x4.toNat (splice ((((x5.set x4.toNat (splice (x5.getD x4.toNat []) 0 [.i x3])).set x4.toNat (splice ((x5.set x4.toNat (splice (x5.getD x4.toNat []) 0 [.i x3])).getD x4.toNat []) 1 [.i (IntKind.i64.wrap (x3 + 1))])).set x4.toNat (splice (((x5.set x4.toNat (splice (x5.getD x4.toNat []) 0 [.i x3])).set x4.toNat (splice ((x5.set x4.toNat (splice (x5.getD x4.toNat []) 0 [.i x3])).getD x4.toNat []) 1 [.i (IntKind.i64.wrap (x3 + 1))])).getD x4.toNat []) 2 [.i (IntKind.i64.wrap ((IntKind.i64.wrap (x3 + 1)) + 1))])).getD x4.toNat []) 3 [.i (IntKind.i64.wrap ((IntKind.i64.wrap ((IntKind.i64.wrap (x3 + 1)) + 1)) + 1))])).getD x4.toNat []) 4 [.i (IntKind.i64.wrap ((IntKind.i64.wrap ((IntKind.i64.wrap ((IntKind.i64.wrap (x3 + 1)) + 1)) + 1)) + 1))])).set x4.toNat (splice ((((((x5.set x4.toNat (splice (x5.getD x4.toNat []) 0 [.i x3])).set x4.toNat (splice ((x5.set x4.toNat (splice (x5.getD x4.toNat []) 0 [.i x3])).getD x4.toNat []) 1 [.i (IntKind.i64.wrap (x3 + 1))])).set x4.toNat (splice (((x5.set x4.toNat (splice (x5.getD x4.toNat []) 0 [.i x3])).set x4.toNat (splice ((x5.set x4.toNat (splice (x5.getD x4.toNat []) 0 [.i x3])).getD x4.toNat []) 1 [.i (IntKind.i64.wrap (x3 + 1))])).getD x4.toNat []) 2 [.i (IntKind.i64.wrap ((IntKind.i64.wrap (x3 + 1)) + 1))])).set x4.toNat (splice ((((x5.set x4.toNat (splice (x5.getD x4.toNat []) 0 [.i x3])).set x4.toNat (splice ((x5.set x4.toNat (splice (x5.getD x4.toNat []) 0 [.i x3])).getD x4.toNat []) 1 [.i (IntKind.i64.wrap (x3 + 1))])).set x4.toNat (splice (((x5.set x4.toNat (splice (x5.getD x4.toNat []) 0 [.i x3])).set x4.toNat (splice ((x5.set x4.toNat (splice (x5.getD x4.toNat []) 0 [.i x3])).getD x4.toNat []) 1 [.i (IntKind.i64.wrap (x3 + 1))])).getD x4.toNat []) 2 [.i (IntKind.i64.wrap ((IntKind.i64.wrap (x3 + 1)) + 1))])).getD x4.toNat []) 3 [.i (IntKind.i64.wrap ((IntKind.i64.wrap ((IntKind.i64.wrap (x3 + 1)) + 1)) + 1))])).set x4.toNat (splice (((((x5.set x4.toNat (splice (x5.getD x4.toNat []) 0 [.i x3])).set x4.toNat (splice ((x5.set x4.toNat (splice (x5.getD x4.toNat []) 0 [.i x3])).getD x4.toNat []) 1 [.i (IntKind.i64.wrap (x3 + 1))])).set x4.toNat (splice (((x5.set x4.toNat (splice (x5.getD x4.toNat []) 0 [.i x3])).set x4.toNat (splice ((x5.set x4.toNat (splice (x5.getD x4.toNat []) 0 [.i x3])).getD x4.toNat []) 1 [.i (IntKind.i64.wrap (x3 + 1))])).getD x4.toNat []) 2 [.i (IntKind.i64.wrap ((IntKind.i64.wrap (x3 + 1)) + 1))])).set x4.toNat (splice ((((x5.set x4.toNat (splice (x5.getD x4.toNat []) 0 [.i x3])).set x4.toNat (splice ((x5.set x4.toNat (splice (x5.getD x4.toNat []) 0 [.i x3])).getD x4.toNat []) 1 [.i (IntKind.i64.wrap (x3 + 1))])).set x4.toNat (splice (((x5.set x4.toNat (splice (x5.getD x4.toNat []) 0 [.i x3])).set x4.toNat (splice ((x5.set x4.toNat (splice (x5.getD x4.toNat []) 0 [.i x3])).getD x4.toNat []) 1 [.i (IntKind.i64.wrap (x3 + 1))])).getD x4.toNat []) 2 [.i (IntKind.i64.wrap ((IntKind.i64.wrap (x3 + 1)) + 1))])).getD x4.toNat []) 3 [.i (IntKind.i64.wrap ((IntKind.i64.wrap ((IntKind.i64.wrap (x3 + 1)) + 1)) + 1))])).getD x4.toNat []) 4 [.i (IntKind.i64.wrap ((IntKind.i64.wrap ((IntKind.i64.wrap ((IntKind.i64.wrap (x3 + 1)) + 1)) + 1)) + 1))])).getD x4.toNat []) 5 [.i (IntKind.i64.wrap ((IntKind.i64.wrap ((IntKind.i64.wrap ((IntKind.i64.wrap ((IntKind.i64.wrap (x3 + 1)) + 1)) + 1)) + 1)) + 1))])).getD x4.toNat []).getD 6 (.i 0)).toL) fun r6 r7 =>
  rec r6 (IntKind.i64.wrap (x4 + 1)) (((((((x5.set x4.toNat (splice (x5.getD x4.toNat []) 0 [.i x3])).set x4.toNat (splice ((x5.set x4.toNat (splice (x5.getD x4.toNat []) 0 [.i x3])).getD x4.toNat []) 1 [.i (IntKind.i64.wrap (x3 + 1))])).set x4.toNat (splice (((x5.set x4.toNat (splice (x5.getD x4.toNat []) 0 [.i x3])).set x4.toNat (splice ((x5.set x4.toNat (splice (x5.getD x4.toNat []) 0 [.i x3])).getD x4.toNat []) 1 [.i (IntKind.i64.wrap (x3 + 1))])).getD x4.toNat []) 2 [.i (IntKind.i64.wrap ((IntKind.i64.wrap (x3 + 1)) + 1))])).set x4.toNat (splice ((((x5.set x4.toNat (splice (x5.getD x4.toNat []) 0 [.i x3])).set x4.toNat (splice ((x5.set x4.toNat (splice (x5.getD x4.toNat []) 0 [.i x3])).getD x4.toNat []) 1 [.i (IntKind.i64.wrap (x3 + 1))])).set x4.toNat (splice (((x5.set x4.toNat (splice (x5.getD x4.toNat []) 0 [.i x3])).set x4.toNat (splice ((x5.set x4.toNat (splice (x5.getD x4.toNat []) 0 [.i x3])).getD x4.toNat []) 1 [.i (IntKind.i64.wrap (x3 + 1))])).getD x4.toNat []) 2 [.i (IntKind.i64.wrap ((IntKind.i64.wrap (x3 + 1)) + 1))])).getD x4.toNat []) 3 [.i (IntKind.i64.wrap ((IntKind.i64.wrap ((IntKind.i64.wrap (x3 + 1)) + 1)) + 1))])).set x4.toNat (splice (((((x5.set x4.toNat (splice (x5.getD x4.toNat []) 0 [.i x3])).set x4.toNat (splice ((x5.set x4.toNat (splice (x5.getD x4.toNat []) 0 [.i x3])).getD x4.toNat []) 1 [.i (IntKind.i64.wrap (x3 + 1))])).set x4.toNat (splice (((x5.set x4.toNat (splice (x5.getD x4.toNat []) 0 [.i x3])).set x4.toNat (splice ((x5.set x4.toNat (splice (x5.getD x4.toNat []) 0 [.i x3])).getD x4.toNat []) 1 [.i (IntKind.i64.wrap (x3 + 1))])).getD x4.toNat []) 2 [.i (IntKind.i64.wrap ((IntKind.i64.wrap (x3 + 1)) + 1))])).set x4.toNat (splice ((((x5.set x4.toNat (splice (x5.getD x4.toNat []) 0 [.i x3])).set x4.toNat (splice ((x5.set x4.toNat (splice (x5.getD x4.toNat []) 0 [.i x3])).getD x4.toNat []) 1 [.i (IntKind.i64.wrap (x3 + 1))])).set x4.toNat (splice (((x5.set x4.toNat (splice (x5.getD x4.toNat []) 0 [.i x3])).set x4.toNat (splice ((x5.set x4.toNat (splice (x5.getD x4.toNat []) 0 [.i x3])).getD x4.toNat []) 1 [.i (IntKind.i64.wrap (x3 + 1))])).getD x4.toNat []) 2 [.i (IntKind.i64.wrap ((IntKind.i64.wrap (x3 + 1)) + 1))])).getD x4.toNat []) 3 [.i (IntKind.i64.wrap ((IntKind.i64.wrap ((IntKind.i64.wrap (x3 + 1)) + 1)) + 1))])).getD x4.toNat []) 4 [.i (IntKind.i64.wrap ((IntKind.i64.wrap ((IntKind.i64.wrap ((IntKind.i64.wrap (x3 + 1)) + 1)) + 1)) + 1))])).set x4.toNat (splice ((((((x5.set x4.toNat (splice (x5.getD x4.toNat []) 0 [.i x3])).set x4.toNat (splice ((x5.set x4.toNat (splice (x5.getD x4.toNat []) 0 [.i x3])).getD x4.toNat []) 1 [.i (IntKind.i64.wrap (x3 + 1))])).set x4.toNat (splice (((x5.set x4.toNat (splice (x5.getD x4.toNat []) 0 [.i x3])).set x4.toNat (splice ((x5.set x4.toNat (splice (x5.getD x4.toNat []) 0 [.i x3])).getD x4.toNat []) 1 [.i (IntKind.i64.wrap (x3 + 1))])).getD x4.toNat []) 2 [.i (IntKind.i64.wrap ((IntKind.i64.wrap (x3 + 1)) + 1))])).set x4.toNat (splice ((((x5.set x4.toNat (splice (x5.getD x4.toNat []) 0 [.i x3])).set x4.toNat (splice ((x5.set x4.toNat (splice (x5.getD x4.toNat []) 0 [.i x3])).getD x4.toNat []) 1 [.i (IntKind.i64.wrap (x3 + 1))])).set x4.toNat (splice (((x5.set x4.toNat (splice (x5.getD x4.toNat []) 0 [.i x3])).set x4.toNat (splice ((x5.set x4.toNat (splice (x5.getD x4.toNat []) 0 [.i x3])).getD x4.toNat []) 1 [.i (IntKind.i64.wrap (x3 + 1))])).getD x4.toNat []) 2 [.i (IntKind.i64.wrap ((IntKind.i64.wrap (x3 + 1)) + 1))])).getD x4.toNat []) 3 [.i (IntKind.i64.wrap ((IntKind.i64.wrap ((IntKind.i64.wrap (x3 + 1)) + 1)) + 1))])).set x4.toNat (splice (((((x5.set x4.toNat (splice (x5.getD x4.toNat []) 0 [.i x3])).set x4.toNat (splice ((x5.set x4.toNat (splice (x5.getD x4.toNat []) 0 [.i x3])).getD x4.toNat []) 1 [.i (IntKind.i64.wrap (x3 + 1))])).set x4.toNat (splice (((x5.set x4.toNat (splice (x5.getD x4.toNat []) 0 [.i x3])).set x4.toNat (splice ((x5.set x4.toNat (splice (x5.getD x4.toNat []) 0 [.i x3])).getD x4.toNat []) 1 [.i (IntKind.i64.wrap (x3 + 1))])).getD x4.toNat []) 2 [.i (IntKind.i64.wrap ((IntKind.i64.wrap (x3 + 1)) + 1))])).set x4.toNat (splice ((((x5.set x4.toNat (splice (x5.getD x4.toNat []) 0 [.i x3])).set x4.toNat (splice ((x5.set x4.toNat (splice (x5.getD x4.toNat []) 0 [.i x3])).getD x4.toNat []) 1 [.i (IntKind.i64.wrap (x3 + 1))])).set x4.toNat (splice (((x5.set x4.toNat (splice (x5.getD x4.toNat []) 0 [.i x3])).set x4.toNat (splice ((x5.set x4.toNat (splice (x5.getD x4.toNat []) 0 [.i x3])).getD x4.toNat []) 1 [.i (IntKind.i64.wrap (x3 + 1))])).getD x4.toNat []) 2 [.i (IntKind.i64.wrap ((IntKind.i64.wrap (x3 + 1)) + 1))])).getD x4.toNat []) 3 [.i (IntKind.i64.wrap ((IntKind.i64.wrap ((IntKind.i64.wrap (x3 + 1)) + 1)) + 1))])).getD x4.toNat []) 4 [.i (IntKind.i64.wrap ((IntKind.i64.wrap ((IntKind.i64.wrap ((IntKind.i64.wrap (x3 + 1)) + 1)) + 1)) + 1))])).getD x4.toNat []) 5 [.i (IntKind.i64.wrap ((IntKind.i64.wrap ((IntKind.i64.wrap ((IntKind.i64.wrap ((IntKind.i64.wrap (x3 + 1)) + 1)) + 1)) + 1)) + 1))])).set x4.toNat (splice (((((((x5.set x4.toNat (splice (x5.getD x4.toNat []) 0 [.i x3])).set x4.toNat (splice ((x5.set x4.toNat (splice (x5.getD x4.toNat []) 0 [.i x3])).getD x4.toNat []) 1 [.i (IntKind.i64.wrap (x3 + 1))])).set x4.toNat (splice (((x5.set x4.toNat (splice (x5.getD x4.toNat []) 0 [.i x3])).set x4.toNat (splice ((x5.set x4.toNat (splice (x5.getD x4.toNat []) 0 [.i x3])).getD x4.toNat []) 1 [.i (IntKind.i64.wrap (x3 + 1))])).getD x4.toNat []) 2 [.i (IntKind.i64.wrap ((IntKind.i64.wrap (x3 + 1)) + 1))])).set x4.toNat (splice ((((x5.set x4.toNat (splice (x5.getD x4.toNat []) 0 [.i x3])).set x4.toNat (splice ((x5.set x4.toNat (splice (x5.getD x4.toNat []) 0 [.i x3])).getD x4.toNat []) 1 [.i (IntKind.i64.wrap (x3 + 1))])).set x4.toNat (splice (((x5.set x4.toNat (splice (x5.getD x4.toNat []) 0 [.i x3])).set x4.toNat (splice ((x5.set x4.toNat (splice (x5.getD x4.toNat []) 0 [.i x3])).getD x4.toNat []) 1 [.i (IntKind.i64.wrap (x3 + 1))])).getD x4.toNat []) 2 [.i (IntKind.i64.wrap ((IntKind.i64.wrap (x3 + 1)) + 1))])).getD x4.toNat []) 3 [.i (IntKind.i64.wrap ((IntKind.i64.wrap ((IntKind.i64.wrap (x3 + 1)) + 1)) + 1))])).set x4.toNat (splice (((((x5.set x4.toNat (splice (x5.getD x4.toNat []) 0 [.i x3])).set x4.toNat (splice ((x5.set x4.toNat (splice (x5.getD x4.toNat []) 0 [.i x3])).getD x4.toNat []) 1 [.i (IntKind.i64.wrap (x3 + 1))])).set x4.toNat (splice (((x5.set x4.toNat (splice (x5.getD x4.toNat []) 0 [.i x3])).set x4.toNat (splice ((x5.set x4.toNat (splice (x5.getD x4.toNat []) 0 [.i x3])).getD x4.toNat []) 1 [.i (IntKind.i64.wrap (x3 + 1))])).getD x4.toNat []) 2 [.i (IntKind.i64.wrap ((IntKind.i64.wrap (x3 + 1)) + 1))])).set x4.toNat (splice ((((x5.set x4.toNat (splice (x5.getD x4.toNat []) 0 [.i x3])).set x4.toNat (splice ((x5.set x4.toNat (splice (x5.getD x4.toNat []) 0 [.i x3])).getD x4.toNat []) 1 [.i (IntKind.i64.wrap (x3 + 1))])).set x4.toNat (splice (((x5.set x4.toNat (splice (x5.getD x4.toNat []) 0 [.i x3])).set x4.toNat (splice ((x5.set x4.toNat (splice (x5.getD x4.toNat []) 0 [.i x3])).getD x4.toNat []) 1 [.i (IntKind.i64.wrap (x3 + 1))])).getD x4.toNat []) 2 [.i (IntKind.i64.wrap ((IntKind.i64.wrap (x3 + 1)) + 1))])).getD x4.toNat []) 3 [.i (IntKind.i64.wrap ((IntKind.i64.wrap ((IntKind.i64.wrap (x3 + 1)) + 1)) + 1))])).getD x4.toNat []) 4 [.i (IntKind.i64.wrap ((IntKind.i64.wrap ((IntKind.i64.wrap ((IntKind.i64.wrap (x3 + 1)) + 1)) + 1)) + 1))])).set x4.toNat (splice ((((((x5.set x4.toNat (splice (x5.getD x4.toNat []) 0 [.i x3])).set x4.toNat (splice ((x5.set x4.toNat (splice (x5.getD x4.toNat []) 0 [.i x3])).getD x4.toNat []) 1 [.i (IntKind.i64.wrap (x3 + 1))])).set x4.toNat (splice (((x5.set x4.toNat (splice (x5.getD x4.toNat []) 0 [.i x3])).set x4.toNat (splice ((x5.set x4.toNat (splice (x5.getD x4.toNat []) 0 [.i x3])).getD x4.toNat []) 1 [.i (IntKind.i64.wrap (x3 + 1))])).getD x4.toNat []) 2 [.i (IntKind.i64.wrap ((IntKind.i64.wrap (x3 + 1)) + 1))])).set x4.toNat (splice ((((x5.set x4.toNat (splice (x5.getD x4.toNat []) 0 [.i x3])).set x4.toNat (splice ((x5.set x4.toNat (splice (x5.getD x4.toNat []) 0 [.i x3])).getD x4.toNat []) 1 [.i (IntKind.i64.wrap (x3 + 1))])).set x4.toNat (splice (((x5.set x4.toNat (splice (x5.getD x4.toNat []) 0 [.i x3])).set x4.toNat (splice ((x5.set x4.toNat (splice (x5.getD x4.toNat []) 0 [.i x3])).getD x4.toNat []) 1 [.i (IntKind.i64.wrap (x3 + 1))])).getD x4.toNat []) 2 [.i (IntKind.i64.wrap ((IntKind.i64.wrap (x3 + 1)) + 1))])).getD x4.toNat []) 3 [.i (IntKind.i64.wrap ((IntKind.i64.wrap ((IntKind.i64.wrap (x3 + 1)) + 1)) + 1))])).set x4.toNat (splice (((((x5.set x4.toNat (splice (x5.getD x4.toNat []) 0 [.i x3])).set x4.toNat (splice ((x5.set x4.toNat (splice (x5.getD x4.toNat []) 0 [.i x3])).getD x4.toNat []) 1 [.i (IntKind.i64.wrap (x3 + 1))])).set x4.toNat (splice (((x5.set x4.toNat (splice (x5.getD x4.toNat []) 0 [.i x3])).set x4.toNat (splice ((x5.set x4.toNat (splice (x5.getD x4.toNat []) 0 [.i x3])).getD x4.toNat []) 1 [.i (IntKind.i64.wrap (x3 + 1))])).getD x4.toNat []) 2 [.i (IntKind.i64.wrap ((IntKind.i64.wrap (x3 + 1)) + 1))])).set x4.toNat (splice ((((x5.set x4.toNat (splice (x5.getD x4.toNat []) 0 [.i x3])).set x4.toNat (splice ((x5.set x4.toNat (splice (x5.getD x4.toNat []) 0 [.i x3])).getD x4.toNat []) 1 [.i (IntKind.i64.wrap (x3 + 1))])).set x4.toNat (splice (((x5.set x4.toNat (splice (x5.getD x4.toNat []) 0 [.i x3])).set x4.toNat (splice ((x5.set x4.toNat (splice (x5.getD x4.toNat []) 0 [.i x3])).getD x4.toNat []) 1 [.i (IntKind.i64.wrap (x3 + 1))])).getD x4.toNat []) 2 [.i (IntKind.i64.wrap ((IntKind.i64.wrap (x3 + 1)) + 1))])).getD x4.toNat []) 3 [.i (IntKind.i64.wrap ((IntKind.i64.wrap ((IntKind.i64.wrap (x3 + 1)) + 1)) + 1))])).getD x4.toNat []) 4 [.i (IntKind.i64.wrap ((IntKind.i64.wrap ((IntKind.i64.wrap ((IntKind.i64.wrap (x3 + 1)) + 1)) + 1)) + 1))])).getD x4.toNat []) 5 [.i (IntKind.i64.wrap ((IntKind.i64.wrap ((IntKind.i64.wrap ((IntKind.i64.wrap ((IntKind.i64.wrap (x3 + 1)) + 1)) + 1)) + 1)) + 1))])).getD x4.toNat []) 6 [.l r7])))
  else none)
  else none)
  else none)
  else none)
  else none)
  else none)
  else none)
  else none)
  else none)
 else k x3 x5
noncomputable def l0  (k : Int → List (List Cl) → O) : Nat → Int → Int → List (List Cl) → O
 | 0, _, _, _ => none
 | n + 1, x3, x4, x5 => l0s (l0 k n) k x3 x4 x5
noncomputable def o0 : Fn [.i, .l] St := fun y1 y2 => ⟨mkT 65 [(1, oI y1)], [(0, ⟨e_1, .cells y2, true, 0, none⟩)], []⟩
noncomputable def n0 (K : Res → O) := ent 0 [] [.i, .i, .l] [0, 1, 2] (fun x3 x4 x5 => ⟨mkT 65 [(0, one (.ow 0)), (1, oI x3), (5, oI x4)], [(0, ⟨e_1, .cells x5, true, 0, none⟩)], []⟩) fun k => l0 (fun y1 y2 => k (o0 y1 y2))
noncomputable def X (K : Res → O) : Ctx := { cx0 [laws_markIntS.con] fi false K with io := [(40, [⟨true, 0, 1⟩, ⟨false, 0, 1⟩])], opn := [(16, 0, 5, 6)], cin := [(0, ⟨[0, 1, 5], [(0, 0)], [], [], [], []⟩)], cout := [(0, ⟨[1], [(0, 0)], [], [], [], []⟩)], lp := lpOf [n0 K] }
noncomputable def b (a1 : Int) (a2 : List (List Cl)) (R : Int → List (List Cl) → O) : O :=
 l0 (fun y8 y9 =>
 R y8 y9) fuel a1 0 a2
noncomputable def g := seal_ b
theorem e : g = b := seal_eq b
noncomputable def a : Fn [.i, .l] St := fun a1 a2 => argSt [one (.ow 0), oI a1] [⟨e_1, .cells a2, true, 0, none⟩] []
noncomputable def con := conOf 20 [.i, .l] [.i, .l] a g m
theorem hx (K : Res → O) : CtxOk Pg Γ0 byt0 eqs0 (X K) [laws_markIntS.con] := ctx_of (X := X) (.cons laws_markIntS.ok .nil) (by kernel_rfl) K
theorem w0 (K : Res → O) : LpSound Pg (X K) 0 b0 := lp_fin (L := [n0 K]) laid (hx K) .nil (.cons (ent_ok (fun k r => l0s r (fun y1 y2 => k (o0 y1 y2))) (by kernel_rfl) (by kernel_rfl) (by kernel_rfl) (by kernel_rfl) (by kernel_rfl)) .nil) (by kernel_rfl) (by kernel_rfl)
theorem ok : Con Pg con := con_fin (fn := Try.f20) (c := c) (Fi := fi) (X := X) laid hx (fun K => (.cons (w0 K) .nil)) e (by kernel_rfl) (by kernel_rfl) (by kernel_rfl) (by kernel_rfl)
end laws_markExprS
namespace laws_markTree
noncomputable def c : Code := bodyOf Try.f11
noncomputable def fi : Fin := ⟨Γ0, [(.tmp 4, 3)], [[1]], [true], [], []⟩
noncomputable def m : Fn [.i, .l] (Fn [.i, .l] Res) := fun _ _ r1 r2 => ⟨[⟨false, [cI r1]⟩], [some ⟨e_1, .cells r2, true, 0, none⟩], [], [], []⟩
noncomputable def X (K : Res → O) : Ctx := { cx0 [laws_markExprS.con] fi false K with io := [(20, [⟨true, 0, 1⟩, ⟨false, 0, 1⟩])] }
noncomputable def b (a1 : Int) (a2 : List (List Cl)) (R : Int → List (List Cl) → O) : O :=
 laws_markExprS.g a1 a2 fun r3 r4 =>
 R r3 r4
noncomputable def g := seal_ b
theorem e : g = b := seal_eq b
noncomputable def a : Fn [.i, .l] St := fun a1 a2 => argSt [.v ⟨true, [.ow 0]⟩, oI a1] [⟨e_1, .cells a2, true, 0, none⟩] []
noncomputable def con := conOf 11 [.i, .l] [.i, .l] a g m
theorem ok : Con Pg con := con_fin (fn := Try.f11) (c := c) (Fi := fi) (X := X) laid (ctx_of (.cons laws_markExprS.ok .nil) (by kernel_rfl)) (fun K => .nil) e (by kernel_rfl) (by kernel_rfl) (by kernel_rfl) (by kernel_rfl)
end laws_markTree
namespace laws_heldIntS
noncomputable def c : Code := bodyOf Try.f41
noncomputable def fi : Fin := ⟨Γ0, [(.tmp 4, 3)], [[1]], [], [], []⟩
noncomputable def m : Fn [.z, .i] (Fn [.i] Res) := fun _ _ r1 => ⟨[⟨false, [cI r1]⟩], [], [], [], []⟩
noncomputable def b0 : Code := codeAt c [1, 0, 1, 0, 0]
noncomputable def l0s (x3 : List Int) (rec : Int → Int → O) (k : Int → O) (R : Int → O) (x4 x5 : Int) : O :=
 bif decide (x5 < (x3.length : Int)) then (bif decide (0 ≤ x5) && decide (x5 < (x3.length : Int)) then (bif (x3.getD x5.toNat 0 != x4) then R (-1)
  else rec (IntKind.i64.wrap (x4 + 1)) (IntKind.i64.wrap (x5 + 1)))
  else none)
 else k x4
noncomputable def l0 (x3 : List Int) (k : Int → O) (R : Int → O) : Nat → Int → Int → O
 | 0, _, _ => none
 | n + 1, x4, x5 => l0s x3 (l0 x3 k R n) k R x4 x5
noncomputable def o0 : Fn [.z, .i] St := fun _ y1 => ⟨mkT 21 [(1, oI y1)], [], []⟩
noncomputable def n0 (K : Res → O) := ent 0 [.z] [.i, .i] [0, 1, 2] (fun x3 x4 x5 => ⟨mkT 21 [(0, one (.tr 0 1 [.int .i64] (.ints x3))), (1, oI x4), (5, oI x5)], [], []⟩) fun x3 k => l0 x3 (fun y1 => k (o0 x3 y1)) (fun r1 => K (m [] (0 : Int) r1))
noncomputable def X (K : Res → O) : Ctx := { cx0 [] fi true K with cin := [(0, ⟨[0, 1, 5], [], [], [], [], []⟩)], cout := [(0, ⟨[1], [], [], [], [], []⟩)], lp := lpOf [n0 K] }
noncomputable def b (a1 : List Int) (a2 : Int) (R : Int → O) : O :=
 l0 a1 (fun y6 =>
 R y6) R fuel a2 0
noncomputable def g := seal_ b
theorem e : g = b := seal_eq b
noncomputable def a : Fn [.z, .i] St := fun a1 a2 => argSt [one (.tr 0 1 [.int .i64] (.ints a1)), oI a2] [] []
noncomputable def con := conOf 41 [.z, .i] [.i] a g m
theorem hx (K : Res → O) : CtxOk Pg Γ0 byt0 eqs0 (X K) [] := ctx_of (X := X) .nil (by kernel_rfl) K
theorem w0 (K : Res → O) : LpSound Pg (X K) 0 b0 := lp_fin (L := [n0 K]) laid (hx K) .nil (.cons (ent_ok (fun x3 k r => l0s x3 r (fun y1 => k (o0 x3 y1)) (fun r1 => K (m [] (0 : Int) r1))) (by kernel_rfl) (by kernel_rfl) (by kernel_rfl) (by kernel_rfl) (by kernel_rfl)) .nil) (by kernel_rfl) (by kernel_rfl)
theorem ok : Con Pg con := con_fin (fn := Try.f41) (c := c) (Fi := fi) (X := X) laid hx (fun K => (.cons (w0 K) .nil)) e (by kernel_rfl) (by kernel_rfl) (by kernel_rfl) (by kernel_rfl)
end laws_heldIntS
namespace laws_heldExprS
noncomputable def c : Code := bodyOf Try.f21
noncomputable def fi : Fin := ⟨Γ0, [(.tmp 4, 3)], [[1]], [], [], []⟩
noncomputable def m : Fn [.l, .i] (Fn [.i] Res) := fun _ _ r1 => ⟨[⟨false, [cI r1]⟩], [], [], [], []⟩
noncomputable def b0 : Code := codeAt c [1, 0, 1, 0, 0]
noncomputable def l0s (x3 : List (List Cl)) (rec : Int → Int → O) (k : Int → O) (R : Int → O) (x4 x5 : Int) : O :=
 bif decide (x5 < (x3.length : Int)) then (bif decide (0 ≤ x5) && decide (x5 < (x3.length : Int)) then (bif (((x3.getD x5.toNat []).getD 0 (.i 0)).toI != x4) then R (-1)
  else bif decide (0 ≤ x5) && decide (x5 < (x3.length : Int)) then (bif (((x3.getD x5.toNat []).getD 1 (.i 0)).toI != IntKind.i64.wrap (x4 + 1)) then R (-1)
   else bif decide (0 ≤ x5) && decide (x5 < (x3.length : Int)) then (bif (((x3.getD x5.toNat []).getD 2 (.i 0)).toI != IntKind.i64.wrap ((IntKind.i64.wrap (x4 + 1)) + 1)) then R (-1)
    else bif decide (0 ≤ x5) && decide (x5 < (x3.length : Int)) then (bif (((x3.getD x5.toNat []).getD 3 (.i 0)).toI != IntKind.i64.wrap ((IntKind.i64.wrap ((IntKind.i64.wrap (x4 + 1)) + 1)) + 1)) then R (-1)
     else bif decide (0 ≤ x5) && decide (x5 < (x3.length : Int)) then (bif (((x3.getD x5.toNat []).getD 4 (.i 0)).toI != IntKind.i64.wrap ((IntKind.i64.wrap ((IntKind.i64.wrap ((IntKind.i64.wrap (x4 + 1)) + 1)) + 1)) + 1)) then R (-1)
      else bif decide (0 ≤ x5) && decide (x5 < (x3.length : Int)) then (bif (((x3.getD x5.toNat []).getD 5 (.i 0)).toI != IntKind.i64.wrap ((IntKind.i64.wrap ((IntKind.i64.wrap ((IntKind.i64.wrap ((IntKind.i64.wrap (x4 + 1)) + 1)) + 1)) + 1)) + 1)) then R (-1)
       else bif decide (0 ≤ x5) && decide (x5 < (x3.length : Int)) then (laws_heldIntS.g (((x3.getD x5.toNat []).getD 6 (.i 0)).toL) (IntKind.i64.wrap ((IntKind.i64.wrap ((IntKind.i64.wrap ((IntKind.i64.wrap ((IntKind.i64.wrap ((IntKind.i64.wrap (x4 + 1)) + 1)) + 1)) + 1)) + 1)) + 1)) fun r6 =>
        bif decide (r6 < 0) then R (-1)
        else rec r6 (IntKind.i64.wrap (x5 + 1)))
       else none)
      else none)
     else none)
    else none)
   else none)
  else none)
  else none)
 else k x4
noncomputable def l0 (x3 : List (List Cl)) (k : Int → O) (R : Int → O) : Nat → Int → Int → O
 | 0, _, _ => none
 | n + 1, x4, x5 => l0s x3 (l0 x3 k R n) k R x4 x5
noncomputable def o0 : Fn [.l, .i] St := fun _ y1 => ⟨mkT 79 [(1, oI y1)], [], []⟩
noncomputable def n0 (K : Res → O) := ent 0 [.l] [.i, .i] [0, 1, 2] (fun x3 x4 x5 => ⟨mkT 79 [(0, one (.tr 0 1 e_1 (.cells x3))), (1, oI x4), (5, oI x5)], [], []⟩) fun x3 k => l0 x3 (fun y1 => k (o0 x3 y1)) (fun r1 => K (m [] (0 : Int) r1))
noncomputable def X (K : Res → O) : Ctx := { cx0 [laws_heldIntS.con] fi true K with cin := [(0, ⟨[0, 1, 5], [], [], [], [], []⟩)], cout := [(0, ⟨[1], [], [], [], [], []⟩)], lp := lpOf [n0 K] }
noncomputable def b (a1 : List (List Cl)) (a2 : Int) (R : Int → O) : O :=
 l0 a1 (fun y7 =>
 R y7) R fuel a2 0
noncomputable def g := seal_ b
theorem e : g = b := seal_eq b
noncomputable def a : Fn [.l, .i] St := fun a1 a2 => argSt [one (.tr 0 1 e_1 (.cells a1)), oI a2] [] []
noncomputable def con := conOf 21 [.l, .i] [.i] a g m
theorem hx (K : Res → O) : CtxOk Pg Γ0 byt0 eqs0 (X K) [laws_heldIntS.con] := ctx_of (X := X) (.cons laws_heldIntS.ok .nil) (by kernel_rfl) K
theorem w0 (K : Res → O) : LpSound Pg (X K) 0 b0 := lp_fin (L := [n0 K]) laid (hx K) .nil (.cons (ent_ok (fun x3 k r => l0s x3 r (fun y1 => k (o0 x3 y1)) (fun r1 => K (m [] (0 : Int) r1))) (by kernel_rfl) (by kernel_rfl) (by kernel_rfl) (by kernel_rfl) (by kernel_rfl)) .nil) (by kernel_rfl) (by kernel_rfl)
theorem ok : Con Pg con := con_fin (fn := Try.f21) (c := c) (Fi := fi) (X := X) laid hx (fun K => (.cons (w0 K) .nil)) e (by kernel_rfl) (by kernel_rfl) (by kernel_rfl) (by kernel_rfl)
end laws_heldExprS
namespace laws_heldTree
noncomputable def c : Code := bodyOf Try.f12
noncomputable def fi : Fin := ⟨Γ0, [(.tmp 4, 3)], [[1]], [], [], []⟩
noncomputable def m : Fn [.l, .i] (Fn [.i] Res) := fun _ _ r1 => ⟨[⟨false, [cI r1]⟩], [], [], [], []⟩
noncomputable def X (K : Res → O) : Ctx := cx0 [laws_heldExprS.con] fi true K
noncomputable def b (a1 : List (List Cl)) (a2 : Int) (R : Int → O) : O :=
 laws_heldExprS.g a1 a2 fun r3 =>
 bif decide (r3 < 0) then R (-1)
 else R r3
noncomputable def g := seal_ b
theorem e : g = b := seal_eq b
noncomputable def a : Fn [.l, .i] St := fun a1 a2 => argSt [.v ⟨true, [.tr 0 1 e_1 (.cells a1)]⟩, oI a2] [] []
noncomputable def con := conOf 12 [.l, .i] [.i] a g m
theorem ok : Con Pg con := con_fin (fn := Try.f12) (c := c) (Fi := fi) (X := X) laid (ctx_of (.cons laws_heldExprS.ok .nil) (by kernel_rfl)) (fun K => .nil) e (by kernel_rfl) (by kernel_rfl) (by kernel_rfl) (by kernel_rfl)
end laws_heldTree
namespace laws_FnExactParse
noncomputable def c : Code := bodyOf Try.f3
noncomputable def fi : Fin := ⟨Γ0, [(.tmp 2, 4)], [[1]], [], [], []⟩
noncomputable def m : Fn [.l] (Fn [.b] Res) := fun _ r1 => ⟨[⟨false, [.bool r1]⟩], [], [], [], []⟩
noncomputable def X (K : Res → O) : Ctx := { cx0 [laws_szTokenS.con, laws_toTokenS.con, spec_Parse.con, impl_Parse.con, laws_eqTree.con, laws_eqTokenS.con, laws_markTokenS.con, laws_markTree.con, laws_heldTree.con] fi false K with io := [(5, [⟨false, 2, 2⟩]), (7, [⟨false, 2, 2⟩]), (10, [⟨true, 0, 1⟩, ⟨false, 0, 1⟩]), (11, [⟨true, 0, 1⟩, ⟨false, 0, 1⟩])] }
noncomputable def b (a1 : List (List Cl)) (R : Bool → O) : O :=
 laws_szTokenS.g a1 1048576 fun r2 =>
 bif decide (r2 < 0) then R true
 else (laws_toTokenS.g a1 fun r3 =>
 spec_Parse.g r3 fun r4 r5 =>
 laws_toTokenS.g a1 fun r6 =>
 impl_Parse.g r6 fun r7 r8 =>
 laws_eqTree.g r7 r4 fun r9 =>
 bif !r9 then R false
 else bif (r8 != r5) then R false
 else (laws_toTokenS.g a1 fun r10 =>
 laws_eqTokenS.g r6 r10 fun r11 =>
 bif !r11 then R false
 else (laws_markTokenS.g 1 r6 fun r12 r13 =>
 bif decide (r12 < 0) then R false
 else (laws_eqTree.g r7 r4 fun r14 =>
 bif !r14 then R false
 else bif (r8 != r5) then R false
 else (laws_markTree.g 1 r7 fun r15 r16 =>
 laws_heldTree.g r16 1 fun r17 =>
 bif decide (r17 < 0) then R false
 else bif (r17 != r15) then R false
 else (laws_toTokenS.g a1 fun r18 =>
 impl_Parse.g r18 fun r19 r20 =>
 laws_eqTree.g r19 r4 fun r21 =>
 bif !r21 then R false
 else bif (r20 != r5) then R false
 else (laws_heldTree.g r16 1 fun r22 =>
 bif decide (r22 < 0) then R false
 else bif (r22 != r15) then R false
 else R true)))))))
noncomputable def g := seal_ b
theorem e : g = b := seal_eq b
noncomputable def a : Fn [.l] St := fun a1 => argSt [one (.tr 2 2 e_0 (.cells a1))] [] []
noncomputable def con := conOf 3 [.l] [.b] a g m
theorem ok : Con Pg con := con_fin (fn := Try.f3) (c := c) (Fi := fi) (X := X) laid (ctx_of (.cons laws_szTokenS.ok (.cons laws_toTokenS.ok (.cons spec_Parse.ok (.cons impl_Parse.ok (.cons laws_eqTree.ok (.cons laws_eqTokenS.ok (.cons laws_markTokenS.ok (.cons laws_markTree.ok (.cons laws_heldTree.ok .nil))))))))) (by kernel_rfl)) (fun K => .nil) e (by kernel_rfl) (by kernel_rfl) (by kernel_rfl) (by kernel_rfl)
end laws_FnExactParse
end Go.Tv.F
