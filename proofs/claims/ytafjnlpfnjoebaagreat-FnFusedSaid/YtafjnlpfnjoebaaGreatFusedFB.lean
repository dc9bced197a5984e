/- The law's functions, printed by a program of ours, each with its contract. They hold without condition. -/
import Derived.Test.YtafjnlpfnjoebaaGreatFusedFA
set_option linter.unusedVariables false
set_option linter.unusedSectionVars false
set_option linter.unusedSimpArgs false
set_option linter.unnecessarySimpa false
set_option maxRecDepth 100000
set_option autoImplicit false
namespace Go.Tv.F
open Go Go.Tv
open Go.Proofs
namespace spec_l15Cell
noncomputable def c : Code := bodyOf Tryz.f57
noncomputable def fi : Fin := ⟨Γ0, [(.tmp 8, 3), (.tmp 9, 4)], [[1], [1]], [], [], []⟩
noncomputable def m : Fn [.l, .i, .i, .l, .i] (Fn [.i, .b] Res) := fun _ _ _ _ _ r1 r2 => ⟨[⟨false, [cI r1]⟩, ⟨false, [.bool r2]⟩], [], [], [], []⟩
noncomputable def b0 : Code := codeAt c [1, 1, 0, 1, 0, 0]
noncomputable def l0s (x6 x7 : List (List Cl)) (x8 x11 x12 : Int) (rec : Int → List Int → O) (k : List Int → O) (R : Int → Bool → O) (x9 : Int) (x10 : List Int) : O :=
 bif decide (x9 < x12) then (bif decide (0 ≤ x9) && decide (x9 < (x6.length : Int)) then (bif (((x6.getD x9.toNat []).getD 0 (.i 0)).toI == 4) then (bif decide (0 ≤ IntKind.i64.wrap ((x10.length : Int) - 1)) && decide (IntKind.i64.wrap ((x10.length : Int) - 1) < (x10.length : Int)) then (spec_One.g (((x6.getD x9.toNat []).getD 2 (.i 0)).toI) (x10.getD ((IntKind.i64.wrap ((x10.length : Int) - 1)).toNat) 0) fun r13 r14 =>
  bif (r14 != 0) then R 0 false
  else bif decide (0 ≤ IntKind.i64.wrap ((x10.length : Int) - 1)) && decide (IntKind.i64.wrap ((x10.length : Int) - 1) < (x10.length : Int)) then rec (IntKind.i64.wrap (x9 + 1)) (x10.set ((IntKind.i64.wrap ((x10.length : Int) - 1)).toNat) r13)
  else none)
  else none)
  else bif (((x6.getD x9.toNat []).getD 0 (.i 0)).toI == 5) then (bif decide (0 ≤ IntKind.i64.wrap ((x10.length : Int) - 1)) && decide (IntKind.i64.wrap ((x10.length : Int) - 1) < (x10.length : Int)) then (bif decide (0 ≤ IntKind.i64.wrap ((x10.length : Int) - 2)) && decide (IntKind.i64.wrap ((x10.length : Int) - 2) < (x10.length : Int)) then (spec_Two.g (((x6.getD x9.toNat []).getD 2 (.i 0)).toI) (x10.getD ((IntKind.i64.wrap ((x10.length : Int) - 1)).toNat) 0) (x10.getD ((IntKind.i64.wrap ((x10.length : Int) - 2)).toNat) 0) fun r15 r16 =>
   bif (r16 != 0) then R 0 false
   else bif decide (0 ≤ IntKind.i64.wrap ((x10.length : Int) - 2)) && decide (IntKind.i64.wrap ((x10.length : Int) - 2) ≤ (x10.length : Int)) then (bif decide (((IntKind.i64.wrap ((x10.length : Int) - 2)).toNat + 1) * 8 ≤ 140737488355328) then rec (IntKind.i64.wrap (x9 + 1)) ((x10.take ((IntKind.i64.wrap ((x10.length : Int) - 2)).toNat)) ++ ([r15] : List Int))
    else none)
   else none)
   else none)
   else none)
  else (spec_l15Array.g (((x6.getD x9.toNat []).getD 0 (.i 0)).toI) (((x6.getD x9.toNat []).getD 1 (.i 0)).toI) (((x6.getD x9.toNat []).getD 2 (.i 0)).toI) (((x6.getD x9.toNat []).getD 3 (.i 0)).toI) (((x6.getD x9.toNat []).getD 4 (.i 0)).toI) (((x6.getD x9.toNat []).getD 5 (.i 0)).toL) x7 fun r17 r18 r19 =>
  spec_l4Of.g r17 r18 x8 fun r20 =>
  bif decide ((x10.length + 1) * 8 ≤ 140737488355328) then rec (IntKind.i64.wrap (x9 + 1)) (x10 ++ ([r20] : List Int))
  else none))
  else none)
 else k x10
noncomputable def l0 (x6 x7 : List (List Cl)) (x8 x11 x12 : Int) (k : List Int → O) (R : Int → Bool → O) : Nat → Int → List Int → O
 | 0, _, _ => none
 | n + 1, x9, x10 => l0s x6 x7 x8 x11 x12 (l0 x6 x7 x8 x11 x12 k R n) k R x9 x10
noncomputable def o0 : Fn [.l, .l, .i, .i, .i, .z] St := fun _ _ _ _ _ y1 => ⟨mkT 101 [(10, one (.ow 3048))], [(3048, ⟨[.int .i64], .ints y1, true, 0, none⟩)], []⟩
noncomputable def n0 (K : Res → O) := ent 0 [.l, .l, .i, .i, .i] [.i, .z] [0, 1, 2, 5, 6, 3, 4] (fun x6 x7 x8 x11 x12 x9 x10 => ⟨mkT 101 [(0, one (.tr 0 1 e_2 (.cells x6))), (2, one (.tr 0 1 e_3 (.cells x7))), (3, oI x8), (5, one (.bp 1000 0)), (10, one (.ow 3048)), (11, oI x9)], [(3048, ⟨[.int .i64], .ints x10, true, 0, none⟩)], [(1000, [cI x11, cI x12])]⟩) fun x6 x7 x8 x11 x12 k => l0 x6 x7 x8 x11 x12 (fun y1 => k (o0 x6 x7 x8 x11 x12 y1)) (fun r1 r2 => K (m [] (0 : Int) (0 : Int) [] (0 : Int) r1 r2))
noncomputable def X (K : Res → O) : Ctx := { cx0 [spec_One.con, spec_Two.con, spec_l15Array.con, spec_l4Of.con] fi true K with cin := [(0, ⟨[0, 2, 3, 5, 10, 11], [(3048, 3048), (40008, 3048), (19512, 3048)], [1000], [], [], []⟩)], cout := [(0, ⟨[10], [(3048, 3048)], [], [], [], []⟩)], lp := lpOf [n0 K] }
noncomputable def b (a1 : List (List Cl)) (a2 a3 : Int) (a4 : List (List Cl)) (a5 : Int) (R : Int → Bool → O) : O :=
 l0 a1 a4 a5 a2 a3 (fun y21 =>
 bif decide (0 < (y21.length : Int)) then R (y21.getD 0 0) true
 else none) R fuel a2 ([] : List Int)
noncomputable def g := seal_ b
theorem e : g = b := seal_eq b
noncomputable def a : Fn [.l, .i, .i, .l, .i] St := fun a1 a2 a3 a4 a5 => argSt [one (.tr 0 1 e_2 (.cells a1)), .v ⟨true, [cI a2, cI a3]⟩, one (.tr 0 1 e_3 (.cells a4)), oI a5] [] []
noncomputable def con := conOf 57 [.l, .i, .i, .l, .i] [.i, .b] a g m
theorem hx (K : Res → O) : CtxOk Pg Γ0 byt0 eqs0 (X K) [spec_One.con, spec_Two.con, spec_l15Array.con, spec_l4Of.con] := ctx_of (X := X) (.cons spec_One.ok (.cons spec_Two.ok (.cons spec_l15Array.ok (.cons spec_l4Of.ok .nil)))) (by kernel_rfl) K
theorem w0 (K : Res → O) : LpSound Pg (X K) 0 b0 := lp_fin (L := [n0 K]) laid (hx K) .nil (.cons (ent_ok (fun x6 x7 x8 x11 x12 k r => l0s x6 x7 x8 x11 x12 r (fun y1 => k (o0 x6 x7 x8 x11 x12 y1)) (fun r1 r2 => K (m [] (0 : Int) (0 : Int) [] (0 : Int) r1 r2))) (by kernel_rfl) (by kernel_rfl) (by kernel_rfl) (by kernel_rfl) (by kernel_rfl)) .nil) (by kernel_rfl) (by kernel_rfl)
theorem ok : Con Pg con := con_fin (fn := Tryz.f57) (c := c) (Fi := fi) (X := X) laid hx (fun K => (.cons (w0 K) .nil)) e (by kernel_rfl) (by kernel_rfl) (by kernel_rfl) (by kernel_rfl)
end spec_l15Cell
namespace spec_l15Try
noncomputable def c : Code := bodyOf Tryz.f25
noncomputable def fi : Fin := ⟨Γ0, [(.cell 6 32, 32), (.tmp 7, 4)], [[4, 1], [1]], [], [], []⟩
noncomputable def m : Fn [.l, .i, .i, .l] (Fn [.z, .z, .b] Res) := fun _ _ _ _ r1 r2 r3 => ⟨[⟨true, [.tr 1 1 [.int .i64] (.ints r1), .ow 1000]⟩, ⟨false, [.bool r3]⟩], [], [⟨[.int .i64], .ints r2, true, 0, none⟩], [], []⟩
noncomputable def b0 : Code := codeAt c [1, 1, 1, 1, 0, 1, 0, 0]
noncomputable def l0s (x7 x8 : List (List Cl)) (x9 : List Int) (x12 x13 : Int) (x14 : List Int) (rec : Int → List Int → O) (k : List Int → O) (R : List Int → List Int → Bool → O) (x10 : Int) (x11 : List Int) : O :=
 spec_SizeOf.g x9 fun r15 =>
 bif decide (x10 < r15) then (spec_l15Cell.g x7 x12 x13 x8 x10 fun r16 r17 =>
  bif !r17 then R ([] : List Int) ([] : List Int) false
  else bif decide ((x11.length + 1) * 8 ≤ 140737488355328) then rec (IntKind.i64.wrap (x10 + 1)) (x11 ++ ([r16] : List Int))
  else none)
 else k x11
noncomputable def l0 (x7 x8 : List (List Cl)) (x9 : List Int) (x12 x13 : Int) (x14 : List Int) (k : List Int → O) (R : List Int → List Int → Bool → O) : Nat → Int → List Int → O
 | 0, _, _ => none
 | n + 1, x10, x11 => l0s x7 x8 x9 x12 x13 x14 (l0 x7 x8 x9 x12 x13 x14 k R n) k R x10 x11
noncomputable def o0 : Fn [.l, .l, .z, .i, .i, .z, .z] St := fun _ _ _ _ _ x14 y1 => ⟨mkT 50 [(6, one (.bp 1016 0)), (10, one (.bp 9224 0))], [(9217, ⟨[.int .i64], .ints y1, true, 0, none⟩)], [(1016, [.nil, .nil]), (9224, [.tr 1 1 [.int .i64] (.ints x14), .ow 9217])]⟩
noncomputable def n0 (K : Res → O) := ent 0 [.l, .l, .z, .i, .i, .z] [.i, .z] [0, 1, 2, 5, 6, 7, 3, 4] (fun x7 x8 x9 x12 x13 x14 x10 x11 => ⟨mkT 50 [(0, one (.tr 0 1 e_2 (.cells x7))), (2, one (.tr 0 1 e_3 (.cells x8))), (4, one (.bp 1000 0)), (6, one (.bp 1016 0)), (8, one (.tr 1 1 [.int .i64] (.ints x9))), (10, one (.bp 9224 0)), (11, oI x10)], [(9217, ⟨[.int .i64], .ints x11, true, 0, none⟩)], [(1000, [cI x12, cI x13]), (1016, [.nil, .nil]), (9224, [.tr 1 1 [.int .i64] (.ints x14), .ow 9217])]⟩) fun x7 x8 x9 x12 x13 x14 k => l0 x7 x8 x9 x12 x13 x14 (fun y1 => k (o0 x7 x8 x9 x12 x13 x14 y1)) (fun r1 r2 r3 => K (m [] (0 : Int) (0 : Int) [] r1 r2 r3))
noncomputable def X (K : Res → O) : Ctx := { cx0 [spec_l15Shape.con, spec_SizeOf.con, spec_l15Cell.con] fi true K with own := [(4, 1, 1, [.int .i64])], cin := [(0, ⟨[0, 2, 4, 6, 8, 10, 11], [(9217, 9217), (23592, 9217)], [1000, 1016, 9224], [], [], []⟩)], cout := [(0, ⟨[6, 10], [(9217, 9217)], [1016, 9224], [], [], []⟩)], lp := lpOf [n0 K] }
noncomputable def b (a1 : List (List Cl)) (a2 a3 : Int) (a4 : List (List Cl)) (R : List Int → List Int → Bool → O) : O :=
 spec_l15Shape.g a1 a2 a3 a4 fun r5 r6 =>
 bif !r6 then R ([] : List Int) ([] : List Int) false
 else (l0 a1 a4 r5 a2 a3 r5 (fun y18 =>
 R r5 y18 true) R fuel 0 ([] : List Int))
noncomputable def g := seal_ b
theorem e : g = b := seal_eq b
noncomputable def a : Fn [.l, .i, .i, .l] St := fun a1 a2 a3 a4 => argSt [one (.tr 0 1 e_2 (.cells a1)), .v ⟨true, [cI a2, cI a3]⟩, one (.tr 0 1 e_3 (.cells a4))] [] []
noncomputable def con := conOf 25 [.l, .i, .i, .l] [.z, .z, .b] a g m
theorem hx (K : Res → O) : CtxOk Pg Γ0 byt0 eqs0 (X K) [spec_l15Shape.con, spec_SizeOf.con, spec_l15Cell.con] := ctx_of (X := X) (.cons spec_l15Shape.ok (.cons spec_SizeOf.ok (.cons spec_l15Cell.ok .nil))) (by kernel_rfl) K
theorem w0 (K : Res → O) : LpSound Pg (X K) 0 b0 := lp_fin (L := [n0 K]) laid (hx K) .nil (.cons (ent_ok (fun x7 x8 x9 x12 x13 x14 k r => l0s x7 x8 x9 x12 x13 x14 r (fun y1 => k (o0 x7 x8 x9 x12 x13 x14 y1)) (fun r1 r2 r3 => K (m [] (0 : Int) (0 : Int) [] r1 r2 r3))) (by kernel_rfl) (by kernel_rfl) (by kernel_rfl) (by kernel_rfl) (by kernel_rfl)) .nil) (by kernel_rfl) (by kernel_rfl)
theorem ok : Con Pg con := con_fin (fn := Tryz.f25) (c := c) (Fi := fi) (X := X) laid hx (fun K => (.cons (w0 K) .nil)) e (by kernel_rfl) (by kernel_rfl) (by kernel_rfl) (by kernel_rfl)
end spec_l15Try
namespace spec_FuseTry
noncomputable def c : Code := bodyOf Tryz.f7
noncomputable def fi : Fin := ⟨Γ0, [(.cell 6 32, 32), (.tmp 7, 4)], [[4, 1], [1]], [], [], []⟩
noncomputable def m : Fn [.l, .i, .i, .l] (Fn [.z, .z, .b] Res) := fun _ _ _ _ r1 r2 r3 => ⟨[⟨true, [.tr 1 1 [.int .i64] (.ints r1), .ow 1000]⟩, ⟨false, [.bool r3]⟩], [], [⟨[.int .i64], .ints r2, true, 0, none⟩], [], []⟩
noncomputable def b0 : Code := codeAt c [1, 1, 1, 0, 1, 0, 0]
noncomputable def l0s (x8 x9 x11 : List (List Cl)) (x12 x13 : Int) (rec : Int → O) (k : O) (R : List Int → List Int → Bool → O) (x10 : Int) : O :=
 bif decide (x10 < (x11.length : Int)) then (bif decide (0 ≤ x10) && decide (x10 < (x11.length : Int)) then (bif ((((x11.getD x10.toNat []).getD 0 (.i 0)).toI == x12) && ((((x11.getD x10.toNat []).getD 1 (.i 0)).toI == x13) && true)) then (spec_l15Try.g x8 x12 x13 x9 fun r14 r15 r16 =>
  R r14 r15 r16)
  else rec (IntKind.i64.wrap (x10 + 1)))
  else none)
 else k
noncomputable def l0 (x8 x9 x11 : List (List Cl)) (x12 x13 : Int) (k : O) (R : List Int → List Int → Bool → O) : Nat → Int → O
 | 0, _ => none
 | n + 1, x10 => l0s x8 x9 x11 x12 x13 (l0 x8 x9 x11 x12 x13 k R n) k R x10
noncomputable def o0 : Fn [.l, .l, .l, .i, .i] St := fun _ _ _ _ _ => ⟨mkT 40 [(6, one (.bp 1016 0))], [], [(1016, [.nil, .nil])]⟩
noncomputable def n0 (K : Res → O) := ent 0 [.l, .l, .l, .i, .i] [.i] [0, 1, 3, 4, 5, 2] (fun x8 x9 x11 x12 x13 x10 => ⟨mkT 40 [(0, one (.tr 0 1 e_2 (.cells x8))), (2, one (.tr 0 1 e_3 (.cells x9))), (4, one (.bp 1000 0)), (6, one (.bp 1016 0)), (8, one (.ow 7161)), (9, oI x10)], [(7161, ⟨e_0, .cells x11, true, 0, none⟩)], [(1000, [cI x12, cI x13]), (1016, [.nil, .nil])]⟩) fun x8 x9 x11 x12 x13 k => l0 x8 x9 x11 x12 x13 (k (o0 x8 x9 x11 x12 x13)) (fun r1 r2 r3 => K (m [] (0 : Int) (0 : Int) [] r1 r2 r3))
noncomputable def X (K : Res → O) : Ctx := { cx0 [spec_CodeOk.con, spec_VarsOk.con, spec_Spans.con, spec_l15Try.con] fi true K with cin := [(0, ⟨[0, 2, 4, 6, 8, 9], [(7161, 7161)], [1000, 1016], [], [], []⟩)], cout := [(0, ⟨[6], [], [1016], [], [], []⟩)], lp := lpOf [n0 K] }
noncomputable def b (a1 : List (List Cl)) (a2 a3 : Int) (a4 : List (List Cl)) (R : List Int → List Int → Bool → O) : O :=
 spec_CodeOk.g a1 fun r5 =>
 bif !r5 then R ([] : List Int) ([] : List Int) false
 else (spec_VarsOk.g a4 fun r6 =>
 bif !r6 then R ([] : List Int) ([] : List Int) false
 else (spec_Spans.g a1 fun r7 =>
 l0 a1 a4 r7 a2 a3 (
 R ([] : List Int) ([] : List Int) false) R fuel 0))
noncomputable def g := seal_ b
theorem e : g = b := seal_eq b
noncomputable def a : Fn [.l, .i, .i, .l] St := fun a1 a2 a3 a4 => argSt [one (.tr 0 1 e_2 (.cells a1)), .v ⟨true, [cI a2, cI a3]⟩, one (.tr 0 1 e_3 (.cells a4))] [] []
noncomputable def con := conOf 7 [.l, .i, .i, .l] [.z, .z, .b] a g m
theorem hx (K : Res → O) : CtxOk Pg Γ0 byt0 eqs0 (X K) [spec_CodeOk.con, spec_VarsOk.con, spec_Spans.con, spec_l15Try.con] := ctx_of (X := X) (.cons spec_CodeOk.ok (.cons spec_VarsOk.ok (.cons spec_Spans.ok (.cons spec_l15Try.ok .nil)))) (by kernel_rfl) K
theorem w0 (K : Res → O) : LpSound Pg (X K) 0 b0 := lp_fin (L := [n0 K]) laid (hx K) .nil (.cons (ent_ok (fun x8 x9 x11 x12 x13 k r => l0s x8 x9 x11 x12 x13 r (k (o0 x8 x9 x11 x12 x13)) (fun r1 r2 r3 => K (m [] (0 : Int) (0 : Int) [] r1 r2 r3))) (by kernel_rfl) (by kernel_rfl) (by kernel_rfl) (by kernel_rfl) (by kernel_rfl)) .nil) (by kernel_rfl) (by kernel_rfl)
theorem ok : Con Pg con := con_fin (fn := Tryz.f7) (c := c) (Fi := fi) (X := X) laid hx (fun K => (.cons (w0 K) .nil)) e (by kernel_rfl) (by kernel_rfl) (by kernel_rfl) (by kernel_rfl)
end spec_FuseTry
namespace impl_copyArray
noncomputable def c : Code := bodyOf Tryz.f65
noncomputable def fi : Fin := ⟨Γ0, [(.cell 2 32, 32)], [[1, 1]], [], [], []⟩
noncomputable def m : Fn [.z, .z] (Fn [] Res) := fun a1 a2 => ⟨[⟨true, [.ow 1000, .ow 1001]⟩], [], [⟨[.int .i64], .ints a1, true, 0, none⟩, ⟨[.int .i64], .ints a2, true, 0, none⟩], [], []⟩
noncomputable def X (K : Res → O) : Ctx := cx0 [] fi true K
noncomputable def b (a1 a2 : List Int) (R : O) : O :=
 bif decide (a1.length * 8 ≤ 140737488355328) then (bif decide (a2.length * 8 ≤ 140737488355328) then R
  else none)
 else none
noncomputable def g := seal_ b
theorem e : g = b := seal_eq b
noncomputable def a : Fn [.z, .z] St := fun a1 a2 => argSt [.v ⟨true, [.tr 0 1 [.int .i64] (.ints a1), .tr 0 1 [.int .i64] (.ints a2)]⟩] [] []
noncomputable def con := conOf 65 [.z, .z] [] a g m
theorem ok : Con Pg con := con_fin (fn := Tryz.f65) (c := c) (Fi := fi) (X := X) laid (ctx_of .nil (by kernel_rfl)) (fun K => .nil) e (by kernel_rfl) (by kernel_rfl) (by kernel_rfl) (by kernel_rfl)
end impl_copyArray
namespace impl_copyVars
noncomputable def c : Code := bodyOf Tryz.f29
noncomputable def fi : Fin := ⟨Γ0, [(.tmp 2, 27)], [[1]], [], [], []⟩
noncomputable def m : Fn [.l] (Fn [.l] Res) := fun _ r1 => ⟨[⟨false, [.ow 1000]⟩], [], [⟨e_3, .cells r1, true, 0, none⟩], [], []⟩
noncomputable def b0 : Code := codeAt c [1, 1, 0, 1, 0, 0]
noncomputable def l0s (x2 : List (List Cl)) (x3 : Int) (rec : Int → List (List Cl) → O) (k : List (List Cl) → O) (x4 : Int) (x5 : List (List Cl)) : O :=
 bif decide (x4 < x3) then (bif decide (0 ≤ x4) && decide (x4 < (x2.length : Int)) then (impl_copyArray.g (((x2.getD x4.toNat []).getD 1 (.i 0)).toL) (((x2.getD x4.toNat []).getD 2 (.i 0)).toL) (
  bif decide ((x5.length + 1) * 56 ≤ 140737488355328) then rec (IntKind.i64.wrap (x4 + 1)) (x5 ++ ([[.b (((x2.getD x4.toNat []).getD 0 (.i 0)).toB), .l (((x2.getD x4.toNat []).getD 1 (.i 0)).toL), .l (((x2.getD x4.toNat []).getD 2 (.i 0)).toL)]] : List (List Cl)))
  else none))
  else none)
 else k x5
noncomputable def l0 (x2 : List (List Cl)) (x3 : Int) (k : List (List Cl) → O) : Nat → Int → List (List Cl) → O
 | 0, _, _ => none
 | n + 1, x4, x5 => l0s x2 x3 (l0 x2 x3 k n) k x4 x5
noncomputable def o0 : Fn [.l, .i, .l] St := fun _ _ y1 => ⟨mkT 23 [(3, one (.ow 3056))], [(3056, ⟨e_3, .cells y1, true, 0, none⟩)], []⟩
noncomputable def n0 (K : Res → O) := ent 0 [.l, .i] [.i, .l] [0, 1, 2, 3] (fun x2 x3 x4 x5 => ⟨mkT 23 [(3, one (.ow 3056)), (6, one (.tr 0 1 e_3 (.cells x2))), (7, oI x3), (8, oI x4)], [(3056, ⟨e_3, .cells x5, true, 0, none⟩)], []⟩) fun x2 x3 k => l0 x2 x3 (fun y1 => k (o0 x2 x3 y1))
noncomputable def X (K : Res → O) : Ctx := { cx0 [impl_copyArray.con] fi true K with own := [(1, 0, 0, e_3)], cin := [(0, ⟨[3, 6, 7, 8], [(3056, 3056), (11368, 3056)], [], [], [], []⟩)], cout := [(0, ⟨[3], [(3056, 3056)], [], [], [], []⟩)], lp := lpOf [n0 K] }
noncomputable def b (a1 : List (List Cl)) (R : List (List Cl) → O) : O :=
 l0 a1 (a1.length : Int) (fun y6 =>
 R y6) fuel 0 ([] : List (List Cl))
noncomputable def g := seal_ b
theorem e : g = b := seal_eq b
noncomputable def a : Fn [.l] St := fun a1 => argSt [one (.tr 0 1 e_3 (.cells a1))] [] []
noncomputable def con := conOf 29 [.l] [.l] a g m
theorem hx (K : Res → O) : CtxOk Pg Γ0 byt0 eqs0 (X K) [impl_copyArray.con] := ctx_of (X := X) (.cons impl_copyArray.ok .nil) (by kernel_rfl) K
theorem w0 (K : Res → O) : LpSound Pg (X K) 0 b0 := lp_fin (L := [n0 K]) laid (hx K) .nil (.cons (ent_ok (fun x2 x3 k r => l0s x2 x3 r (fun y1 => k (o0 x2 x3 y1))) (by kernel_rfl) (by kernel_rfl) (by kernel_rfl) (by kernel_rfl) (by kernel_rfl)) .nil) (by kernel_rfl) (by kernel_rfl)
theorem ok : Con Pg con := con_fin (fn := Tryz.f29) (c := c) (Fi := fi) (X := X) laid hx (fun K => (.cons (w0 K) .nil)) e (by kernel_rfl) (by kernel_rfl) (by kernel_rfl) (by kernel_rfl)
end impl_copyVars
namespace impl_MachineNew
noncomputable def c : Code := bodyOf Tryz.f27
noncomputable def fi : Fin := ⟨Γ0, [(.cell 4 56, 56)], [[1, 1, 1, 1, 1]], [], [], []⟩
noncomputable def m : Fn [.l, .i] (Fn [.i, .l, .l, .i] Res) := fun _ a2 r1 r2 r3 r5 => ⟨[⟨true, [cI r1, .ow 1000, .ow 1001, cI a2, cI r5]⟩], [], [⟨e_4, .cells r2, true, 0, none⟩, ⟨e_3, .cells r3, true, 0, none⟩], [], []⟩
noncomputable def X (K : Res → O) : Ctx := cx0 [impl_copyVars.con] fi true K
noncomputable def b (a1 : List (List Cl)) (a2 : Int) (R : Int → List (List Cl) → List (List Cl) → Int → O) : O :=
 impl_copyVars.g a1 fun r3 =>
 R 0 ([] : List (List Cl)) r3 0
noncomputable def g := seal_ b
theorem e : g = b := seal_eq b
noncomputable def a : Fn [.l, .i] St := fun a1 a2 => argSt [one (.tr 0 1 e_3 (.cells a1)), oI a2] [] []
noncomputable def con := conOf 27 [.l, .i] [.i, .l, .l, .i] a g m
theorem ok : Con Pg con := con_fin (fn := Tryz.f27) (c := c) (Fi := fi) (X := X) laid (ctx_of (.cons impl_copyVars.ok .nil) (by kernel_rfl)) (fun K => .nil) e (by kernel_rfl) (by kernel_rfl) (by kernel_rfl) (by kernel_rfl)
end impl_MachineNew
namespace impl_machineOk_1
noncomputable def c : Code := bodyOf Tryz.f103
noncomputable def fi : Fin := ⟨Γ0, [(.tmp 2, 4)], [[1]], [], [], []⟩
noncomputable def m : Fn [.z, .z] (Fn [.b] Res) := fun _ _ r1 => ⟨[⟨false, [.bool r1]⟩], [], [], [], []⟩
noncomputable def X (K : Res → O) : Ctx := cx0 [impl_ArrayOk.con] fi true K
noncomputable def b (a1 a2 : List Int) (R : Bool → O) : O :=
 impl_ArrayOk.g a1 a2 fun r3 =>
 R (!r3)
noncomputable def g := seal_ b
theorem e : g = b := seal_eq b
noncomputable def a : Fn [.z, .z] St := fun a1 a2 => argSt [.v ⟨true, [.tr 0 1 [.int .i64] (.ints a1), .tr 0 1 [.int .i64] (.ints a2)]⟩] [] []
noncomputable def con := conOf 103 [.z, .z] [.b] a g m
theorem ok : Con Pg con := con_fin (fn := Tryz.f103) (c := c) (Fi := fi) (X := X) laid (ctx_of (.cons impl_ArrayOk.ok .nil) (by kernel_rfl)) (fun K => .nil) e (by kernel_rfl) (by kernel_rfl) (by kernel_rfl) (by kernel_rfl)
end impl_machineOk_1
namespace slices_IndexFunc_impl_Array_impl_Array
noncomputable def c : Code := bodyOf Tryz.f127
noncomputable def fi : Fin := ⟨Γ0, [(.tmp 4, 3)], [[1]], [], [], []⟩
noncomputable def m : Fn [.l] (Fn [.i] Res) := fun _ r1 => ⟨[⟨false, [cI r1]⟩], [], [], [], []⟩
noncomputable def b0 : Code := codeAt c [1, 0, 1, 0, 0]
noncomputable def l0s (x2 : List (List Cl)) (x3 : Int) (rec : Int → O) (k : O) (R : Int → O) (x4 : Int) : O :=
 bif decide (x4 < x3) then (bif decide (0 ≤ x4) && decide (x4 < (x2.length : Int)) then (impl_machineOk_1.g (((x2.getD x4.toNat []).getD 0 (.i 0)).toL) (((x2.getD x4.toNat []).getD 1 (.i 0)).toL) fun r5 =>
  bif r5 then R x4
  else rec (IntKind.i64.wrap (x4 + 1)))
  else none)
 else k
noncomputable def l0 (x2 : List (List Cl)) (x3 : Int) (k : O) (R : Int → O) : Nat → Int → O
 | 0, _ => none
 | n + 1, x4 => l0s x2 x3 (l0 x2 x3 k R n) k R x4
noncomputable def o0 : Fn [.l, .i] St := fun _ _ => ⟨mkT 19 [], [], []⟩
noncomputable def n0 (K : Res → O) := ent 0 [.l, .i] [.i] [0, 1, 2] (fun x2 x3 x4 => ⟨mkT 19 [(0, one (.tr 0 1 e_4 (.cells x2))), (1, one (.fn 103 [])), (7, oI x3), (8, oI x4)], [], []⟩) fun x2 x3 k => l0 x2 x3 (k (o0 x2 x3)) (fun r1 => K (m [] r1))
noncomputable def X (K : Res → O) : Ctx := { cx0 [impl_machineOk_1.con] fi true K with cin := [(0, ⟨[0, 1, 7, 8], [], [], [], [], []⟩)], cout := [(0, ⟨[], [], [], [], [], []⟩)], lp := lpOf [n0 K] }
noncomputable def b (a1 : List (List Cl)) (R : Int → O) : O :=
 l0 a1 (a1.length : Int) (
 R (-1)) R fuel 0
noncomputable def g := seal_ b
theorem e : g = b := seal_eq b
noncomputable def a : Fn [.l] St := fun a1 => argSt [one (.tr 0 1 e_4 (.cells a1)), one (.fn 103 [])] [] []
noncomputable def con := conOf 127 [.l] [.i] a g m
theorem hx (K : Res → O) : CtxOk Pg Γ0 byt0 eqs0 (X K) [impl_machineOk_1.con] := ctx_of (X := X) (.cons impl_machineOk_1.ok .nil) (by kernel_rfl) K
theorem w0 (K : Res → O) : LpSound Pg (X K) 0 b0 := lp_fin (L := [n0 K]) laid (hx K) .nil (.cons (ent_ok (fun x2 x3 k r => l0s x2 x3 r (k (o0 x2 x3)) (fun r1 => K (m [] r1))) (by kernel_rfl) (by kernel_rfl) (by kernel_rfl) (by kernel_rfl) (by kernel_rfl)) .nil) (by kernel_rfl) (by kernel_rfl)
theorem ok : Con Pg con := con_fin (fn := Tryz.f127) (c := c) (Fi := fi) (X := X) laid hx (fun K => (.cons (w0 K) .nil)) e (by kernel_rfl) (by kernel_rfl) (by kernel_rfl) (by kernel_rfl)
end slices_IndexFunc_impl_Array_impl_Array
namespace slices_ContainsFunc_impl_Array_impl_Array
noncomputable def c : Code := bodyOf Tryz.f102
noncomputable def fi : Fin := ⟨Γ0, [(.tmp 4, 4)], [[1]], [], [], []⟩
noncomputable def m : Fn [.l] (Fn [.b] Res) := fun _ r1 => ⟨[⟨false, [.bool r1]⟩], [], [], [], []⟩
noncomputable def X (K : Res → O) : Ctx := cx0 [slices_IndexFunc_impl_Array_impl_Array.con] fi true K
noncomputable def b (a1 : List (List Cl)) (R : Bool → O) : O :=
 slices_IndexFunc_impl_Array_impl_Array.g a1 fun r2 =>
 R (decide (0 ≤ r2))
noncomputable def g := seal_ b
theorem e : g = b := seal_eq b
noncomputable def a : Fn [.l] St := fun a1 => argSt [one (.tr 0 1 e_4 (.cells a1)), one (.fn 103 [])] [] []
noncomputable def con := conOf 102 [.l] [.b] a g m
theorem ok : Con Pg con := con_fin (fn := Tryz.f102) (c := c) (Fi := fi) (X := X) laid (ctx_of (.cons slices_IndexFunc_impl_Array_impl_Array.ok .nil) (by kernel_rfl)) (fun K => .nil) e (by kernel_rfl) (by kernel_rfl) (by kernel_rfl) (by kernel_rfl)
end slices_ContainsFunc_impl_Array_impl_Array
namespace impl_machineOk
noncomputable def c : Code := bodyOf Tryz.f62
noncomputable def fi : Fin := ⟨Γ0, [(.tmp 4, 4)], [[1]], [], [], []⟩
noncomputable def m : Fn [.l, .i, .l, .l, .i, .i] (Fn [.b] Res) := fun _ _ _ _ _ _ r1 => ⟨[⟨false, [.bool r1]⟩], [], [], [], []⟩
noncomputable def X (K : Res → O) : Ctx := cx0 [impl_CodeOk.con, impl_within.con, impl_VarsOk.con, impl_deep.con, slices_ContainsFunc_impl_Array_impl_Array.con] fi true K
noncomputable def b (a1 : List (List Cl)) (a2 : Int) (a3 a4 : List (List Cl)) (a5 a6 : Int) (R : Bool → O) : O :=
 impl_CodeOk.g a1 fun r7 =>
 bif !r7 then R false
 else (impl_within.g a2 0 (a1.length : Int) fun r8 =>
 bif !r8 then R false
 else (impl_VarsOk.g a4 fun r9 =>
 bif !r9 then R false
 else bif decide (a5 < 0) then R false
 else (impl_deep.g a1 fun r10 r11 =>
 bif decide (0 ≤ a2) && decide (a2 < (r10.length : Int)) then (bif ((a3.length : Int) == r10.getD a2.toNat 0) then (slices_ContainsFunc_impl_Array_impl_Array.g a3 fun r12 =>
  R (!r12))
  else R false)
 else none)))
noncomputable def g := seal_ b
theorem e : g = b := seal_eq b
noncomputable def a : Fn [.l, .i, .l, .l, .i, .i] St := fun a1 a2 a3 a4 a5 a6 => argSt [one (.tr 0 1 e_2 (.cells a1)), .v ⟨true, [cI a2, .tr 0 1 e_4 (.cells a3), .tr 0 1 e_3 (.cells a4), cI a5, cI a6]⟩] [] []
noncomputable def con := conOf 62 [.l, .i, .l, .l, .i, .i] [.b] a g m
theorem ok : Con Pg con := con_fin (fn := Tryz.f62) (c := c) (Fi := fi) (X := X) laid (ctx_of (.cons impl_CodeOk.ok (.cons impl_within.ok (.cons impl_VarsOk.ok (.cons impl_deep.ok (.cons slices_ContainsFunc_impl_Array_impl_Array.ok .nil))))) (by kernel_rfl)) (fun K => .nil) e (by kernel_rfl) (by kernel_rfl) (by kernel_rfl) (by kernel_rfl)
end impl_machineOk
namespace impl_copyMachine
noncomputable def c : Code := bodyOf Tryz.f63
noncomputable def fi : Fin := ⟨Γ0, [(.cell 2 56, 56)], [[1, 1, 1, 1, 1]], [], [], []⟩
noncomputable def m : Fn [.i, .l, .l, .i, .i] (Fn [.i, .l, .l, .i, .i] Res) := fun _ _ _ _ _ r1 r2 r3 r4 r5 => ⟨[⟨true, [cI r1, .ow 1000, .ow 1001, cI r4, cI r5]⟩], [], [⟨e_4, .cells r2, true, 0, none⟩, ⟨e_3, .cells r3, true, 0, none⟩], [], []⟩
noncomputable def b0 : Code := codeAt c [1, 1, 1, 0, 1, 0, 0]
noncomputable def l0s (x7 : List (List Cl)) (x8 : Int) (x10 : List (List Cl)) (x12 x13 x14 x15 x16 x17 : Int) (rec : Int → List (List Cl) → O) (k : List (List Cl) → O) (x9 : Int) (x11 : List (List Cl)) : O :=
 bif decide (x9 < x8) then (bif decide (0 ≤ x9) && decide (x9 < (x7.length : Int)) then (impl_copyArray.g (((x7.getD x9.toNat []).getD 0 (.i 0)).toL) (((x7.getD x9.toNat []).getD 1 (.i 0)).toL) (
  bif decide ((x11.length + 1) * 48 ≤ 140737488355328) then rec (IntKind.i64.wrap (x9 + 1)) (x11 ++ ([[.l (((x7.getD x9.toNat []).getD 0 (.i 0)).toL), .l (((x7.getD x9.toNat []).getD 1 (.i 0)).toL)]] : List (List Cl)))
  else none))
  else none)
 else k x11
noncomputable def l0 (x7 : List (List Cl)) (x8 : Int) (x10 : List (List Cl)) (x12 x13 x14 x15 x16 x17 : Int) (k : List (List Cl) → O) : Nat → Int → List (List Cl) → O
 | 0, _, _ => none
 | n + 1, x9, x11 => l0s x7 x8 x10 x12 x13 x14 x15 x16 x17 (l0 x7 x8 x10 x12 x13 x14 x15 x16 x17 k n) k x9 x11
noncomputable def o0 : Fn [.l, .i, .l, .i, .i, .i, .i, .i, .i, .l] St := fun _ _ x10 x12 x13 x14 x15 x16 x17 y1 => ⟨mkT 28 [(1, one (.bp 1000 0)), (2, one (.bp 1016 0))], [(5168, ⟨e_4, .cells y1, true, 0, none⟩), (5129, ⟨e_3, .cells x10, true, 0, none⟩)], [(1000, [cI x12, .ow 5168, .ow 5129, cI x13, cI x14]), (1016, [cI x15, .nil, .nil, cI x16, cI x17])]⟩
noncomputable def n0 (K : Res → O) := ent 0 [.l, .i, .l, .i, .i, .i, .i, .i, .i] [.i, .l] [0, 1, 3, 5, 6, 7, 8, 9, 10, 2, 4] (fun x7 x8 x10 x12 x13 x14 x15 x16 x17 x9 x11 => ⟨mkT 28 [(1, one (.bp 1000 0)), (2, one (.bp 1016 0)), (13, one (.tr 0 1 e_4 (.cells x7))), (14, oI x8), (15, oI x9)], [(5129, ⟨e_3, .cells x10, true, 0, none⟩), (5168, ⟨e_4, .cells x11, true, 0, none⟩)], [(1000, [cI x12, .ow 5168, .ow 5129, cI x13, cI x14]), (1016, [cI x15, .nil, .nil, cI x16, cI x17])]⟩) fun x7 x8 x10 x12 x13 x14 x15 x16 x17 k => l0 x7 x8 x10 x12 x13 x14 x15 x16 x17 (fun y1 => k (o0 x7 x8 x10 x12 x13 x14 x15 x16 x17 y1))
noncomputable def X (K : Res → O) : Ctx := { cx0 [impl_copyVars.con, impl_copyArray.con] fi true K with own := [(2, 4, 0, e_4)], cin := [(0, ⟨[1, 2, 13, 14, 15], [(5129, 5129), (5168, 5168), (13368, 5168)], [1000, 1016], [], [], []⟩)], cout := [(0, ⟨[1, 2], [(5168, 5168), (5129, 5129)], [1000, 1016], [], [], []⟩)], lp := lpOf [n0 K] }
noncomputable def b (a1 : Int) (a2 a3 : List (List Cl)) (a4 a5 : Int) (R : Int → List (List Cl) → List (List Cl) → Int → Int → O) : O :=
 impl_copyVars.g a3 fun r6 =>
 l0 a2 (a2.length : Int) r6 a1 a4 a5 0 0 0 (fun y18 =>
 R a1 y18 r6 a4 a5) fuel 0 ([] : List (List Cl))
noncomputable def g := seal_ b
theorem e : g = b := seal_eq b
noncomputable def a : Fn [.i, .l, .l, .i, .i] St := fun a1 a2 a3 a4 a5 => argSt [.v ⟨true, [cI a1, .tr 0 1 e_4 (.cells a2), .tr 0 1 e_3 (.cells a3), cI a4, cI a5]⟩] [] []
noncomputable def con := conOf 63 [.i, .l, .l, .i, .i] [.i, .l, .l, .i, .i] a g m
theorem hx (K : Res → O) : CtxOk Pg Γ0 byt0 eqs0 (X K) [impl_copyVars.con, impl_copyArray.con] := ctx_of (X := X) (.cons impl_copyVars.ok (.cons impl_copyArray.ok .nil)) (by kernel_rfl) K
theorem w0 (K : Res → O) : LpSound Pg (X K) 0 b0 := lp_fin (L := [n0 K]) laid (hx K) .nil (.cons (ent_ok (fun x7 x8 x10 x12 x13 x14 x15 x16 x17 k r => l0s x7 x8 x10 x12 x13 x14 x15 x16 x17 r (fun y1 => k (o0 x7 x8 x10 x12 x13 x14 x15 x16 x17 y1))) (by kernel_rfl) (by kernel_rfl) (by kernel_rfl) (by kernel_rfl) (by kernel_rfl)) .nil) (by kernel_rfl) (by kernel_rfl)
theorem ok : Con Pg con := con_fin (fn := Tryz.f63) (c := c) (Fi := fi) (X := X) laid hx (fun K => (.cons (w0 K) .nil)) e (by kernel_rfl) (by kernel_rfl) (by kernel_rfl) (by kernel_rfl)
end impl_copyMachine
namespace impl_EachOne
noncomputable def c : Code := bodyOf Tryz.f136
noncomputable def fi : Fin := ⟨Γ0, [(.cell 4 32, 32), (.tmp 5, 3)], [[1, 1], [1]], [], [], []⟩
noncomputable def m : Fn [.i, .z, .z] (Fn [.z, .z, .i] Res) := fun _ _ _ r1 r2 r3 => ⟨[⟨true, [.ow 1000, .ow 1001]⟩, ⟨false, [cI r3]⟩], [], [⟨[.int .i64], .ints r1, true, 0, none⟩, ⟨[.int .i64], .ints r2, true, 0, none⟩], [], []⟩
noncomputable def b0 : Code := codeAt c [1, 1, 1, 0, 1, 0, 0]
noncomputable def l0s (x6 : Int) (x7 : List Int) (x8 : Int) (x10 : List Int) (rec : Int → List Int → O) (k : List Int → O) (R : List Int → List Int → Int → O) (x9 : Int) (x11 : List Int) : O :=
 bif decide (x9 < x8) then (bif decide (0 ≤ x9) && decide (x9 < (x7.length : Int)) then (impl_One.g x6 (x7.getD x9.toNat 0) fun r12 r13 =>
  bif (r13 != 0) then R ([] : List Int) ([] : List Int) r13
  else bif decide (0 ≤ x9) && decide (x9 < (x11.length : Int)) then rec (IntKind.i64.wrap (x9 + 1)) (x11.set x9.toNat r12)
  else none)
  else none)
 else k x11
noncomputable def l0 (x6 : Int) (x7 : List Int) (x8 : Int) (x10 : List Int) (k : List Int → O) (R : List Int → List Int → Int → O) : Nat → Int → List Int → O
 | 0, _, _ => none
 | n + 1, x9, x11 => l0s x6 x7 x8 x10 (l0 x6 x7 x8 x10 k R n) k R x9 x11
noncomputable def o0 : Fn [.i, .z, .i, .z, .z] St := fun _ _ _ x10 y2 => ⟨mkT 47 [(4, one (.bp 1016 0)), (6, one (.bp 7176 0))], [(7161, ⟨[.int .i64], .ints x10, true, 0, none⟩), (7162, ⟨[.int .i64], .ints y2, true, 0, none⟩)], [(1016, [.nil, .nil]), (7176, [.ow 7161, .ow 7162])]⟩
noncomputable def n0 (K : Res → O) := ent 0 [.i, .z, .i, .z] [.i, .z] [0, 1, 2, 4, 3, 5] (fun x6 x7 x8 x10 x9 x11 => ⟨mkT 47 [(0, oI x6), (4, one (.bp 1016 0)), (6, one (.bp 7176 0)), (23, one (.tr 0 1 [.int .i64] (.ints x7))), (24, oI x8), (25, oI x9)], [(7161, ⟨[.int .i64], .ints x10, true, 0, none⟩), (7162, ⟨[.int .i64], .ints x11, true, 0, none⟩)], [(1016, [.nil, .nil]), (7176, [.ow 7161, .ow 7162])]⟩) fun x6 x7 x8 x10 k => l0 x6 x7 x8 x10 (fun y2 => k (o0 x6 x7 x8 x10 y2)) (fun r1 r2 r3 => K (m (0 : Int) [] [] r1 r2 r3))
noncomputable def X (K : Res → O) : Ctx := { cx0 [impl_ArrayOk.con, impl_oneSign.con, impl_copyArray.con, impl_One.con] fi true K with cin := [(0, ⟨[0, 4, 6, 23, 24, 25], [(7161, 7161), (7162, 7162)], [1016, 7176], [], [], []⟩)], cout := [(0, ⟨[4, 6], [(7161, 7161), (7162, 7162)], [1016, 7176], [], [], []⟩)], lp := lpOf [n0 K] }
noncomputable def b (a1 : Int) (a2 a3 : List Int) (R : List Int → List Int → Int → O) : O :=
 impl_ArrayOk.g a2 a3 fun r4 =>
 bif !r4 then R ([] : List Int) ([] : List Int) 1
 else (impl_oneSign.g a1 fun r5 =>
 bif !r5 then R ([] : List Int) ([] : List Int) 1
 else (impl_copyArray.g a2 a3 (
 l0 a1 a3 (a3.length : Int) a2 (fun y14 =>
 R a2 y14 0) R fuel 0 a3)))
noncomputable def g := seal_ b
theorem e : g = b := seal_eq b
noncomputable def a : Fn [.i, .z, .z] St := fun a1 a2 a3 => argSt [oI a1, .v ⟨true, [.tr 0 1 [.int .i64] (.ints a2), .tr 0 1 [.int .i64] (.ints a3)]⟩] [] []
noncomputable def con := conOf 136 [.i, .z, .z] [.z, .z, .i] a g m
theorem hx (K : Res → O) : CtxOk Pg Γ0 byt0 eqs0 (X K) [impl_ArrayOk.con, impl_oneSign.con, impl_copyArray.con, impl_One.con] := ctx_of (X := X) (.cons impl_ArrayOk.ok (.cons impl_oneSign.ok (.cons impl_copyArray.ok (.cons impl_One.ok .nil)))) (by kernel_rfl) K
theorem w0 (K : Res → O) : LpSound Pg (X K) 0 b0 := lp_fin (L := [n0 K]) laid (hx K) .nil (.cons (ent_ok (fun x6 x7 x8 x10 k r => l0s x6 x7 x8 x10 r (fun y2 => k (o0 x6 x7 x8 x10 y2)) (fun r1 r2 r3 => K (m (0 : Int) [] [] r1 r2 r3))) (by kernel_rfl) (by kernel_rfl) (by kernel_rfl) (by kernel_rfl) (by kernel_rfl)) .nil) (by kernel_rfl) (by kernel_rfl)
theorem ok : Con Pg con := con_fin (fn := Tryz.f136) (c := c) (Fi := fi) (X := X) laid hx (fun K => (.cons (w0 K) .nil)) e (by kernel_rfl) (by kernel_rfl) (by kernel_rfl) (by kernel_rfl)
end impl_EachOne
namespace impl_DoOne
noncomputable def c : Code := bodyOf Tryz.f104
noncomputable def fi : Fin := ⟨Γ0, [(.cell 4 32, 32), (.tmp 5, 3)], [[1, 1], [1]], [], [], []⟩
noncomputable def m : Fn [.i, .i, .i, .z, .z] (Fn [.z, .z, .i] Res) := fun _ _ _ _ _ r1 r2 r3 => ⟨[⟨true, [.ow 1000, .ow 1001]⟩, ⟨false, [cI r3]⟩], [], [⟨[.int .i64], .ints r1, true, 0, none⟩, ⟨[.int .i64], .ints r2, true, 0, none⟩], [], []⟩
noncomputable def X (K : Res → O) : Ctx := cx0 [impl_FunOne.con, impl_EachOne.con] fi true K
noncomputable def b (a1 a2 a3 : Int) (a4 a5 : List Int) (R : List Int → List Int → Int → O) : O :=
 impl_FunOne.g a1 a2 a3 fun r6 =>
 bif !r6 then R ([] : List Int) ([] : List Int) 1
 else bif (a2 == 47) then none
 else bif (a2 == 92) then none
 else bif (a1 == 105) then none
 else bif (a1 == 35) then none
 else bif (a1 == 44) then none
 else bif (a1 == 114) then none
 else bif (a1 == 122) then none
 else bif (a1 == 103) then none
 else (impl_EachOne.g a1 a4 a5 fun r7 r8 r9 =>
 R r7 r8 r9)
noncomputable def g := seal_ b
theorem e : g = b := seal_eq b
noncomputable def a : Fn [.i, .i, .i, .z, .z] St := fun a1 a2 a3 a4 a5 => argSt [.v ⟨true, [cI a1, cI a2, cI a3]⟩, .v ⟨true, [.tr 0 1 [.int .i64] (.ints a4), .tr 0 1 [.int .i64] (.ints a5)]⟩] [] []
noncomputable def con := conOf 104 [.i, .i, .i, .z, .z] [.z, .z, .i] a g m
theorem ok : Con Pg con := con_fin (fn := Tryz.f104) (c := c) (Fi := fi) (X := X) laid (ctx_of (.cons impl_FunOne.ok (.cons impl_EachOne.ok .nil)) (by kernel_rfl)) (fun K => .nil) e (by kernel_rfl) (by kernel_rfl) (by kernel_rfl) (by kernel_rfl)
end impl_DoOne
namespace impl_Fit
noncomputable def c : Code := bodyOf Tryz.f176
noncomputable def fi : Fin := ⟨Γ0, [(.tmp 4, 30), (.tmp 5, 3)], [[1], [1]], [], [], []⟩
noncomputable def m : Fn [.z, .z, .z, .z] (Fn [.z, .i] Res) := fun _ _ _ _ r1 r2 => ⟨[⟨false, [.ow 1000]⟩, ⟨false, [cI r2]⟩], [], [⟨[.int .i64], .ints r1, true, 0, none⟩], [], []⟩
noncomputable def X (K : Res → O) : Ctx := cx0 [impl_ArrayOk.con, slices_Equal_int_int.con] fi true K
noncomputable def b (a1 a2 a3 a4 : List Int) (R : List Int → Int → O) : O :=
 bif decide (a1.length * 8 ≤ 140737488355328) then (impl_ArrayOk.g a1 a2 fun r5 =>
  bif !r5 then R ([] : List Int) 1
  else (impl_ArrayOk.g a3 a4 fun r6 =>
  bif !r6 then R ([] : List Int) 1
  else bif ((a1.length : Int) == 0) then (bif decide (a3.length * 8 ≤ 140737488355328) then R a3 0
   else none)
  else bif ((a3.length : Int) == 0) then R a1 0
  else bif ((a1.length : Int) != (a3.length : Int)) then R ([] : List Int) 4
  else (slices_Equal_int_int.g a1 a3 fun r7 =>
  bif !r7 then R ([] : List Int) 3
  else R a1 0)))
 else none
noncomputable def g := seal_ b
theorem e : g = b := seal_eq b
noncomputable def a : Fn [.z, .z, .z, .z] St := fun a1 a2 a3 a4 => argSt [.v ⟨true, [.tr 0 1 [.int .i64] (.ints a1), .tr 0 1 [.int .i64] (.ints a2)]⟩, .v ⟨true, [.tr 0 1 [.int .i64] (.ints a3), .tr 0 1 [.int .i64] (.ints a4)]⟩] [] []
noncomputable def con := conOf 176 [.z, .z, .z, .z] [.z, .i] a g m
theorem ok : Con Pg con := con_fin (fn := Tryz.f176) (c := c) (Fi := fi) (X := X) laid (ctx_of (.cons impl_ArrayOk.ok (.cons slices_Equal_int_int.ok .nil)) (by kernel_rfl)) (fun K => .nil) e (by kernel_rfl) (by kernel_rfl) (by kernel_rfl) (by kernel_rfl)
end impl_Fit
namespace impl_EachTwo
noncomputable def c : Code := bodyOf Tryz.f148
noncomputable def fi : Fin := ⟨Γ0, [(.cell 6 32, 32), (.tmp 7, 3)], [[1, 1], [1]], [], [], []⟩
noncomputable def m : Fn [.i, .z, .z, .z, .z] (Fn [.z, .z, .i] Res) := fun _ _ _ _ _ r1 r2 r3 => ⟨[⟨true, [.ow 1000, .ow 1001]⟩, ⟨false, [cI r3]⟩], [], [⟨[.int .i64], .ints r1, true, 0, none⟩, ⟨[.int .i64], .ints r2, true, 0, none⟩], [], []⟩
noncomputable def b0 : Code := codeAt c [1, 1, 1, 1, 1, 0, 1, 0, 0]
noncomputable def l0s (x9 : Int) (x11 x13 x14 x15 x16 : List Int) (rec : Int → List Int → O) (k : List Int → O) (R : List Int → List Int → Int → O) (x10 : Int) (x12 : List Int) : O :=
 impl_SizeOf.g x11 fun r17 =>
 bif decide (x10 < r17) then (impl_at.g x13 x14 x10 fun r18 =>
  impl_at.g x15 x16 x10 fun r19 =>
  impl_Two.g x9 r18 r19 fun r20 r21 =>
  bif (r21 != 0) then R ([] : List Int) ([] : List Int) r21
  else bif decide ((x12.length + 1) * 8 ≤ 140737488355328) then rec (IntKind.i64.wrap (x10 + 1)) (x12 ++ ([r20] : List Int))
  else none)
 else k x12
noncomputable def l0 (x9 : Int) (x11 x13 x14 x15 x16 : List Int) (k : List Int → O) (R : List Int → List Int → Int → O) : Nat → Int → List Int → O
 | 0, _, _ => none
 | n + 1, x10, x12 => l0s x9 x11 x13 x14 x15 x16 (l0 x9 x11 x13 x14 x15 x16 k R n) k R x10 x12
noncomputable def o0 : Fn [.i, .z, .z, .z, .z, .z, .z] St := fun _ x11 _ _ _ _ y2 => ⟨mkT 62 [(6, one (.bp 1032 0)), (10, one (.bp 13320 0))], [(3081, ⟨[.int .i64], .ints x11, true, 0, none⟩), (13313, ⟨[.int .i64], .ints y2, true, 0, none⟩)], [(1032, [.nil, .nil]), (13320, [.ow 3081, .ow 13313])]⟩
noncomputable def n0 (K : Res → O) := ent 0 [.i, .z, .z, .z, .z, .z] [.i, .z] [0, 2, 4, 5, 6, 7, 1, 3] (fun x9 x11 x13 x14 x15 x16 x10 x12 => ⟨mkT 62 [(0, oI x9), (4, one (.bp 1000 0)), (5, one (.bp 1016 0)), (6, one (.bp 1032 0)), (8, one (.ow 3081)), (10, one (.bp 13320 0)), (11, oI x10)], [(3081, ⟨[.int .i64], .ints x11, true, 0, none⟩), (13313, ⟨[.int .i64], .ints x12, true, 0, none⟩)], [(1000, [.tr 0 1 [.int .i64] (.ints x13), .tr 0 1 [.int .i64] (.ints x14)]), (1016, [.tr 0 1 [.int .i64] (.ints x15), .tr 0 1 [.int .i64] (.ints x16)]), (1032, [.nil, .nil]), (13320, [.ow 3081, .ow 13313])]⟩) fun x9 x11 x13 x14 x15 x16 k => l0 x9 x11 x13 x14 x15 x16 (fun y2 => k (o0 x9 x11 x13 x14 x15 x16 y2)) (fun r1 r2 r3 => K (m (0 : Int) [] [] [] [] r1 r2 r3))
noncomputable def X (K : Res → O) : Ctx := { cx0 [impl_Fit.con, impl_twoSign.con, impl_SizeOf.con, impl_at.con, impl_Two.con] fi true K with own := [(6, 1, 1, [.int .i64])], cin := [(0, ⟨[0, 4, 5, 6, 8, 10, 11], [(3081, 3081), (13313, 13313), (27688, 13313)], [1000, 1016, 1032, 13320], [], [], []⟩)], cout := [(0, ⟨[6, 10], [(3081, 3081), (13313, 13313)], [1032, 13320], [], [], []⟩)], lp := lpOf [n0 K] }
noncomputable def b (a1 : Int) (a2 a3 a4 a5 : List Int) (R : List Int → List Int → Int → O) : O :=
 impl_Fit.g a2 a3 a4 a5 fun r6 r7 =>
 bif (r7 == 1) then R ([] : List Int) ([] : List Int) 1
 else (impl_twoSign.g a1 fun r8 =>
 bif !r8 then R ([] : List Int) ([] : List Int) 1
 else bif (r7 != 0) then R ([] : List Int) ([] : List Int) r7
 else (l0 a1 r6 a2 a3 a4 a5 (fun y22 =>
 R r6 y22 0) R fuel 0 ([] : List Int)))
noncomputable def g := seal_ b
theorem e : g = b := seal_eq b
noncomputable def a : Fn [.i, .z, .z, .z, .z] St := fun a1 a2 a3 a4 a5 => argSt [oI a1, .v ⟨true, [.tr 0 1 [.int .i64] (.ints a2), .tr 0 1 [.int .i64] (.ints a3)]⟩, .v ⟨true, [.tr 0 1 [.int .i64] (.ints a4), .tr 0 1 [.int .i64] (.ints a5)]⟩] [] []
noncomputable def con := conOf 148 [.i, .z, .z, .z, .z] [.z, .z, .i] a g m
theorem hx (K : Res → O) : CtxOk Pg Γ0 byt0 eqs0 (X K) [impl_Fit.con, impl_twoSign.con, impl_SizeOf.con, impl_at.con, impl_Two.con] := ctx_of (X := X) (.cons impl_Fit.ok (.cons impl_twoSign.ok (.cons impl_SizeOf.ok (.cons impl_at.ok (.cons impl_Two.ok .nil))))) (by kernel_rfl) K
theorem w0 (K : Res → O) : LpSound Pg (X K) 0 b0 := lp_fin (L := [n0 K]) laid (hx K) .nil (.cons (ent_ok (fun x9 x11 x13 x14 x15 x16 k r => l0s x9 x11 x13 x14 x15 x16 r (fun y2 => k (o0 x9 x11 x13 x14 x15 x16 y2)) (fun r1 r2 r3 => K (m (0 : Int) [] [] [] [] r1 r2 r3))) (by kernel_rfl) (by kernel_rfl) (by kernel_rfl) (by kernel_rfl) (by kernel_rfl)) .nil) (by kernel_rfl) (by kernel_rfl)
theorem ok : Con Pg con := con_fin (fn := Tryz.f148) (c := c) (Fi := fi) (X := X) laid hx (fun K => (.cons (w0 K) .nil)) e (by kernel_rfl) (by kernel_rfl) (by kernel_rfl) (by kernel_rfl)
end impl_EachTwo
namespace impl_DoTwo
noncomputable def c : Code := bodyOf Tryz.f105
noncomputable def fi : Fin := ⟨Γ0, [(.cell 6 32, 32), (.tmp 7, 3)], [[1, 1], [1]], [], [], []⟩
noncomputable def m : Fn [.i, .i, .i, .z, .z, .z, .z] (Fn [.z, .z, .i] Res) := fun _ _ _ _ _ _ _ r1 r2 r3 => ⟨[⟨true, [.ow 1000, .ow 1001]⟩, ⟨false, [cI r3]⟩], [], [⟨[.int .i64], .ints r1, true, 0, none⟩, ⟨[.int .i64], .ints r2, true, 0, none⟩], [], []⟩
noncomputable def X (K : Res → O) : Ctx := cx0 [impl_FunTwo.con, impl_EachTwo.con] fi true K
noncomputable def b (a1 a2 a3 : Int) (a4 a5 a6 a7 : List Int) (R : List Int → List Int → Int → O) : O :=
 impl_FunTwo.g a1 a2 a3 fun r8 =>
 bif !r8 then R ([] : List Int) ([] : List Int) 1
 else bif (a2 == 111) then none
 else bif (a2 == 46) then none
 else bif (a1 == 35) then none
 else bif (a1 == 44) then none
 else bif (a1 == 116) then none
 else bif (a1 == 100) then none
 else bif (a1 == 114) then none
 else bif (a1 == 64) then none
 else bif (a1 == 63) then none
 else bif (a1 == 36) then none
 else bif (a1 == 101) then none
 else (impl_EachTwo.g a1 a4 a5 a6 a7 fun r9 r10 r11 =>
 R r9 r10 r11)
noncomputable def g := seal_ b
theorem e : g = b := seal_eq b
noncomputable def a : Fn [.i, .i, .i, .z, .z, .z, .z] St := fun a1 a2 a3 a4 a5 a6 a7 => argSt [.v ⟨true, [cI a1, cI a2, cI a3]⟩, .v ⟨true, [.tr 0 1 [.int .i64] (.ints a4), .tr 0 1 [.int .i64] (.ints a5)]⟩, .v ⟨true, [.tr 0 1 [.int .i64] (.ints a6), .tr 0 1 [.int .i64] (.ints a7)]⟩] [] []
noncomputable def con := conOf 105 [.i, .i, .i, .z, .z, .z, .z] [.z, .z, .i] a g m
theorem ok : Con Pg con := con_fin (fn := Tryz.f105) (c := c) (Fi := fi) (X := X) laid (ctx_of (.cons impl_FunTwo.ok (.cons impl_EachTwo.ok .nil)) (by kernel_rfl)) (fun K => .nil) e (by kernel_rfl) (by kernel_rfl) (by kernel_rfl) (by kernel_rfl)
end impl_DoTwo
namespace impl_done
noncomputable def c : Code := bodyOf Tryz.f64
noncomputable def fi : Fin := ⟨Γ0, [(.cell 6 32, 32), (.tmp 7, 3)], [[4, 4], [1]], [], [], []⟩
noncomputable def m : Fn [.i, .i, .i, .i, .i, .z, .l, .l] (Fn [.z, .z, .i] Res) := fun _ _ _ _ _ _ _ _ r1 r2 r3 => ⟨[⟨true, [.tr 1 1 [.int .i64] (.ints r1), .tr 1 1 [.int .i64] (.ints r2)]⟩, ⟨false, [cI r3]⟩], [], [], [], []⟩
noncomputable def X (K : Res → O) : Ctx := cx0 [impl_numsArray.con, impl_DoOne.con, impl_DoTwo.con] fi true K
noncomputable def b (a1 a2 a3 a4 a5 : Int) (a6 : List Int) (a7 a8 : List (List Cl)) (R : List Int → List Int → Int → O) : O :=
 bif (a1 == 1) then (impl_numsArray.g a6 fun r9 r10 =>
  R r9 r10 0)
 else bif (a1 == 2) then (bif decide (0 ≤ a2) && decide (a2 < (a8.length : Int)) then (bif !(((a8.getD a2.toNat []).getD 0 (.i 0)).toB) then R ([] : List Int) ([] : List Int) 7
  else bif decide (0 ≤ a2) && decide (a2 < (a8.length : Int)) then R (((a8.getD a2.toNat []).getD 1 (.i 0)).toL) (((a8.getD a2.toNat []).getD 2 (.i 0)).toL) 0
  else none)
  else none)
 else bif (a1 == 3) then (bif decide (0 ≤ IntKind.i64.wrap ((a7.length : Int) - 1)) && decide (IntKind.i64.wrap ((a7.length : Int) - 1) < (a7.length : Int)) then R (((a7.getD ((IntKind.i64.wrap ((a7.length : Int) - 1)).toNat) []).getD 0 (.i 0)).toL) (((a7.getD ((IntKind.i64.wrap ((a7.length : Int) - 1)).toNat) []).getD 1 (.i 0)).toL) 0
  else none)
 else bif (a1 == 4) then (bif decide (0 ≤ IntKind.i64.wrap ((a7.length : Int) - 1)) && decide (IntKind.i64.wrap ((a7.length : Int) - 1) < (a7.length : Int)) then (impl_DoOne.g a3 a4 a5 (((a7.getD ((IntKind.i64.wrap ((a7.length : Int) - 1)).toNat) []).getD 0 (.i 0)).toL) (((a7.getD ((IntKind.i64.wrap ((a7.length : Int) - 1)).toNat) []).getD 1 (.i 0)).toL) fun r11 r12 r13 =>
  R r11 r12 r13)
  else none)
 else bif decide (0 ≤ IntKind.i64.wrap ((a7.length : Int) - 1)) && decide (IntKind.i64.wrap ((a7.length : Int) - 1) < (a7.length : Int)) then (bif decide (0 ≤ IntKind.i64.wrap ((a7.length : Int) - 2)) && decide (IntKind.i64.wrap ((a7.length : Int) - 2) < (a7.length : Int)) then (impl_DoTwo.g a3 a4 a5 (((a7.getD ((IntKind.i64.wrap ((a7.length : Int) - 1)).toNat) []).getD 0 (.i 0)).toL) (((a7.getD ((IntKind.i64.wrap ((a7.length : Int) - 1)).toNat) []).getD 1 (.i 0)).toL) (((a7.getD ((IntKind.i64.wrap ((a7.length : Int) - 2)).toNat) []).getD 0 (.i 0)).toL) (((a7.getD ((IntKind.i64.wrap ((a7.length : Int) - 2)).toNat) []).getD 1 (.i 0)).toL) fun r14 r15 r16 =>
  R r14 r15 r16)
  else none)
 else none
noncomputable def g := seal_ b
theorem e : g = b := seal_eq b
noncomputable def a : Fn [.i, .i, .i, .i, .i, .z, .l, .l] St := fun a1 a2 a3 a4 a5 a6 a7 a8 => argSt [.v ⟨true, [cI a1, cI a2, cI a3, cI a4, cI a5, .tr 0 1 [.int .i64] (.ints a6)]⟩, one (.tr 0 1 e_4 (.cells a7)), one (.tr 0 1 e_3 (.cells a8))] [] []
noncomputable def con := conOf 64 [.i, .i, .i, .i, .i, .z, .l, .l] [.z, .z, .i] a g m
theorem ok : Con Pg con := con_fin (fn := Tryz.f64) (c := c) (Fi := fi) (X := X) laid (ctx_of (.cons impl_numsArray.ok (.cons impl_DoOne.ok (.cons impl_DoTwo.ok .nil))) (by kernel_rfl)) (fun K => .nil) e (by kernel_rfl) (by kernel_rfl) (by kernel_rfl) (by kernel_rfl)
end impl_done
namespace impl_MachineStep
noncomputable def c : Code := bodyOf Tryz.f28
noncomputable def fi : Fin := ⟨Γ0, [(.cell 4 56, 56)], [[1, 1, 1, 1, 1]], [], [], []⟩
noncomputable def m : Fn [.l, .i, .l, .l, .i, .i] (Fn [.i, .l, .l, .i, .i] Res) := fun _ _ _ _ _ _ r1 r2 r3 r4 r5 => ⟨[⟨true, [cI r1, .ow 1000, .ow 1001, cI r4, cI r5]⟩], [], [⟨e_4, .cells r2, true, 0, none⟩, ⟨e_3, .cells r3, true, 0, none⟩], [], []⟩
noncomputable def X (K : Res → O) : Ctx := cx0 [impl_machineOk.con, impl_copyMachine.con, impl_done.con, impl_takes.con, impl_copyArray.con] fi true K
noncomputable def b (a1 : List (List Cl)) (a2 : Int) (a3 a4 : List (List Cl)) (a5 a6 : Int) (R : Int → List (List Cl) → List (List Cl) → Int → Int → O) : O :=
 impl_machineOk.g a1 a2 a3 a4 a5 a6 fun r7 =>
 bif !r7 then R 0 ([] : List (List Cl)) ([] : List (List Cl)) 0 1
 else (impl_copyMachine.g a2 a3 a4 a5 a6 fun r8 r9 r10 r11 r12 =>
 bif (a6 != 0) then R r8 r9 r10 r11 r12
 else bif (a2 == (a1.length : Int)) then R r8 r9 r10 r11 r12
 else bif (a5 == 0) then R r8 r9 r10 r11 10
 else bif decide (0 ≤ a2) && decide (a2 < (a1.length : Int)) then (impl_done.g (((a1.getD a2.toNat []).getD 0 (.i 0)).toI) (((a1.getD a2.toNat []).getD 1 (.i 0)).toI) (((a1.getD a2.toNat []).getD 2 (.i 0)).toI) (((a1.getD a2.toNat []).getD 3 (.i 0)).toI) (((a1.getD a2.toNat []).getD 4 (.i 0)).toI) (((a1.getD a2.toNat []).getD 5 (.i 0)).toL) r9 r10 fun r13 r14 r15 =>
  bif (r15 != 0) then R r8 r9 r10 (IntKind.i64.wrap (r11 - 1)) r15
  else (impl_takes.g (((a1.getD a2.toNat []).getD 0 (.i 0)).toI) (((a1.getD a2.toNat []).getD 1 (.i 0)).toI) (((a1.getD a2.toNat []).getD 2 (.i 0)).toI) (((a1.getD a2.toNat []).getD 3 (.i 0)).toI) (((a1.getD a2.toNat []).getD 4 (.i 0)).toI) (((a1.getD a2.toNat []).getD 5 (.i 0)).toL) fun r16 =>
  bif decide (0 ≤ IntKind.i64.wrap ((r9.length : Int) - r16)) && decide (IntKind.i64.wrap ((r9.length : Int) - r16) ≤ (r9.length : Int)) then (impl_copyArray.g r13 r14 (
   bif decide (((IntKind.i64.wrap ((r9.length : Int) - r16)).toNat + 1) * 48 ≤ 140737488355328) then (bif (((a1.getD a2.toNat []).getD 0 (.i 0)).toI == 3) then (impl_copyArray.g r13 r14 (
    bif decide (0 ≤ ((a1.getD a2.toNat []).getD 1 (.i 0)).toI) && decide (((a1.getD a2.toNat []).getD 1 (.i 0)).toI < (r10.length : Int)) then R (IntKind.i64.wrap (r8 + 1)) ((r9.take ((IntKind.i64.wrap ((r9.length : Int) - r16)).toNat)) ++ ([[.l r13, .l r14]] : List (List Cl))) (r10.set ((((a1.getD a2.toNat []).getD 1 (.i 0)).toI).toNat) [.b true, .l r13, .l r14]) (IntKind.i64.wrap (r11 - 1)) r12
    else none))
    else R (IntKind.i64.wrap (r8 + 1)) ((r9.take ((IntKind.i64.wrap ((r9.length : Int) - r16)).toNat)) ++ ([[.l r13, .l r14]] : List (List Cl))) r10 (IntKind.i64.wrap (r11 - 1)) r12)
   else none))
  else none))
 else none)
noncomputable def g := seal_ b
theorem e : g = b := seal_eq b
noncomputable def a : Fn [.l, .i, .l, .l, .i, .i] St := fun a1 a2 a3 a4 a5 a6 => argSt [one (.tr 0 1 e_2 (.cells a1)), .v ⟨true, [cI a2, .tr 0 1 e_4 (.cells a3), .tr 0 1 e_3 (.cells a4), cI a5, cI a6]⟩] [] []
noncomputable def con := conOf 28 [.l, .i, .l, .l, .i, .i] [.i, .l, .l, .i, .i] a g m
theorem ok : Con Pg con := con_fin (fn := Tryz.f28) (c := c) (Fi := fi) (X := X) laid (ctx_of (.cons impl_machineOk.ok (.cons impl_copyMachine.ok (.cons impl_done.ok (.cons impl_takes.ok (.cons impl_copyArray.ok .nil))))) (by kernel_rfl)) (fun K => .nil) e (by kernel_rfl) (by kernel_rfl) (by kernel_rfl) (by kernel_rfl)
end impl_MachineStep
namespace impl_Run
noncomputable def c : Code := bodyOf Tryz.f8
noncomputable def fi : Fin := ⟨Γ0, [(.cell 6 32, 32), (.tmp 7, 27), (.tmp 8, 3), (.tmp 9, 3)], [[4, 4], [1], [1], [1]], [], [], []⟩
noncomputable def m : Fn [.l, .l, .i] (Fn [.z, .z, .l, .i, .i] Res) := fun _ _ _ r1 r2 r3 r4 r5 => ⟨[⟨true, [.tr 1 1 [.int .i64] (.ints r1), .tr 1 1 [.int .i64] (.ints r2)]⟩, ⟨false, [.ow 1000]⟩, ⟨false, [cI r4]⟩, ⟨false, [cI r5]⟩], [], [⟨e_3, .cells r3, true, 0, none⟩], [], []⟩
noncomputable def b0 : Code := codeAt c [1, 1, 1, 0, 0, 0]
noncomputable def l0s (x10 x11 : List (List Cl)) (rec : List (List Cl) → List (List Cl) → Int → Int → Int → O) (k : List (List Cl) → List (List Cl) → Int → Int → Int → O) (x12 x13 : List (List Cl)) (x14 x15 x16 : Int) : O :=
 bif (x16 == 0) then (bif decide (x14 < (x10.length : Int)) then (impl_MachineStep.g x10 x14 x12 x13 x15 x16 fun r17 r18 r19 r20 r21 =>
  rec r18 r19 r17 r20 r21)
  else k x12 x13 x14 x15 x16)
 else k x12 x13 x14 x15 x16
noncomputable def l0 (x10 x11 : List (List Cl)) (k : List (List Cl) → List (List Cl) → Int → Int → Int → O) : Nat → List (List Cl) → List (List Cl) → Int → Int → Int → O
 | 0, _, _, _, _, _ => none
 | n + 1, x12, x13, x14, x15, x16 => l0s x10 x11 (l0 x10 x11 k n) k x12 x13 x14 x15 x16
noncomputable def o0 : Fn [.l, .l, .l, .l, .i, .i, .i] St := fun _ x11 y2 y3 y4 y5 y6 => ⟨mkT 58 [(1, one (.tr 0 1 e_3 (.cells x11))), (6, one (.bp 1000 0)), (10, one (.bp 7192 0))], [(7177, ⟨e_4, .cells y2, true, 0, none⟩), (7178, ⟨e_3, .cells y3, true, 0, none⟩)], [(1000, [.nil, .nil]), (7192, [cI y4, .ow 7177, .ow 7178, cI y5, cI y6])]⟩
noncomputable def n0 (K : Res → O) := ent 0 [.l, .l] [.l, .l, .i, .i, .i] [0, 1, 2, 3, 4, 5, 6] (fun x10 x11 x12 x13 x14 x15 x16 => ⟨mkT 58 [(0, one (.tr 0 1 e_2 (.cells x10))), (1, one (.tr 0 1 e_3 (.cells x11))), (6, one (.bp 1000 0)), (10, one (.bp 7192 0))], [(7177, ⟨e_4, .cells x12, true, 0, none⟩), (7178, ⟨e_3, .cells x13, true, 0, none⟩)], [(1000, [.nil, .nil]), (7192, [cI x14, .ow 7177, .ow 7178, cI x15, cI x16])]⟩) fun x10 x11 k => l0 x10 x11 (fun y2 y3 y4 y5 y6 => k (o0 x10 x11 y2 y3 y4 y5 y6))
noncomputable def X (K : Res → O) : Ctx := { cx0 [impl_CodeOk.con, impl_VarsOk.con, impl_MachineNew.con, impl_MachineStep.con, impl_copyVars.con] fi true K with cin := [(0, ⟨[0, 1, 6, 10], [(7177, 7177), (11273, 7177), (7178, 7178), (11274, 7178)], [1000, 7192], [], [], []⟩)], cout := [(0, ⟨[1, 6, 10], [(7177, 7177), (7178, 7178)], [1000, 7192], [], [], []⟩)], lp := lpOf [n0 K] }
noncomputable def b (a1 a2 : List (List Cl)) (a3 : Int) (R : List Int → List Int → List (List Cl) → Int → Int → O) : O :=
 impl_CodeOk.g a1 fun r4 =>
 bif !r4 then R ([] : List Int) ([] : List Int) ([] : List (List Cl)) 1 0
 else (impl_VarsOk.g a2 fun r5 =>
 bif !r5 then R ([] : List Int) ([] : List Int) ([] : List (List Cl)) 1 0
 else bif decide (a3 < 0) then R ([] : List Int) ([] : List Int) ([] : List (List Cl)) 1 0
 else (impl_MachineNew.g a2 a3 fun r6 r7 r8 r9 =>
 l0 a1 a2 (fun y22 y23 y24 y25 y26 =>
 bif (y26 != 0) then (impl_copyVars.g a2 fun r27 =>
  R ([] : List Int) ([] : List Int) r27 y26 y25)
 else bif decide (0 < (y22.length : Int)) then R (((y22.getD 0 []).getD 0 (.i 0)).toL) (((y22.getD 0 []).getD 1 (.i 0)).toL) y23 0 y25
 else none) fuel r7 r8 r6 a3 r9))
noncomputable def g := seal_ b
theorem e : g = b := seal_eq b
noncomputable def a : Fn [.l, .l, .i] St := fun a1 a2 a3 => argSt [one (.tr 0 1 e_2 (.cells a1)), one (.tr 0 1 e_3 (.cells a2)), oI a3] [] []
noncomputable def con := conOf 8 [.l, .l, .i] [.z, .z, .l, .i, .i] a g m
theorem hx (K : Res → O) : CtxOk Pg Γ0 byt0 eqs0 (X K) [impl_CodeOk.con, impl_VarsOk.con, impl_MachineNew.con, impl_MachineStep.con, impl_copyVars.con] := ctx_of (X := X) (.cons impl_CodeOk.ok (.cons impl_VarsOk.ok (.cons impl_MachineNew.ok (.cons impl_MachineStep.ok (.cons impl_copyVars.ok .nil))))) (by kernel_rfl) K
theorem w0 (K : Res → O) : LpSound Pg (X K) 0 b0 := lp_fin (L := [n0 K]) laid (hx K) .nil (.cons (ent_ok (fun x10 x11 k r => l0s x10 x11 r (fun y2 y3 y4 y5 y6 => k (o0 x10 x11 y2 y3 y4 y5 y6))) (by kernel_rfl) (by kernel_rfl) (by kernel_rfl) (by kernel_rfl) (by kernel_rfl)) .nil) (by kernel_rfl) (by kernel_rfl)
theorem ok : Con Pg con := con_fin (fn := Tryz.f8) (c := c) (Fi := fi) (X := X) laid hx (fun K => (.cons (w0 K) .nil)) e (by kernel_rfl) (by kernel_rfl) (by kernel_rfl) (by kernel_rfl)
end impl_Run
namespace laws_sameInts
noncomputable def c : Code := bodyOf Tryz.f30
noncomputable def fi : Fin := ⟨Γ0, [(.tmp 4, 4)], [[1]], [], [], []⟩
noncomputable def m : Fn [.z, .z] (Fn [.b] Res) := fun _ _ r1 => ⟨[⟨false, [.bool r1]⟩], [], [], [], []⟩
noncomputable def b0 : Code := codeAt c [1, 1, 0, 1, 0, 0]
noncomputable def l0s (x3 x4 : List Int) (rec : Int → O) (k : O) (R : Bool → O) (x5 : Int) : O :=
 bif decide (x5 < (x3.length : Int)) then (bif decide (0 ≤ x5) && decide (x5 < (x3.length : Int)) then (bif decide (0 ≤ x5) && decide (x5 < (x4.length : Int)) then (bif (x3.getD x5.toNat 0 != x4.getD x5.toNat 0) then R false
  else rec (IntKind.i64.wrap (x5 + 1)))
  else none)
  else none)
 else k
noncomputable def l0 (x3 x4 : List Int) (k : O) (R : Bool → O) : Nat → Int → O
 | 0, _ => none
 | n + 1, x5 => l0s x3 x4 (l0 x3 x4 k R n) k R x5
noncomputable def o0 : Fn [.z, .z] St := fun _ _ => ⟨mkT 26 [], [], []⟩
noncomputable def n0 (K : Res → O) := ent 0 [.z, .z] [.i] [0, 1, 2] (fun x3 x4 x5 => ⟨mkT 26 [(0, one (.tr 0 1 [.int .i64] (.ints x3))), (1, one (.tr 0 1 [.int .i64] (.ints x4))), (5, oI x5)], [], []⟩) fun x3 x4 k => l0 x3 x4 (k (o0 x3 x4)) (fun r1 => K (m [] [] r1))
noncomputable def X (K : Res → O) : Ctx := { cx0 [] fi true K with cin := [(0, ⟨[0, 1, 5], [], [], [], [], []⟩)], cout := [(0, ⟨[], [], [], [], [], []⟩)], lp := lpOf [n0 K] }
noncomputable def b (a1 a2 : List Int) (R : Bool → O) : O :=
 bif ((a1.length : Int) != (a2.length : Int)) then R false
 else (l0 a1 a2 (
 R true) R fuel 0)
noncomputable def g := seal_ b
theorem e : g = b := seal_eq b
noncomputable def a : Fn [.z, .z] St := fun a1 a2 => argSt [one (.tr 0 1 [.int .i64] (.ints a1)), one (.tr 0 1 [.int .i64] (.ints a2))] [] []
noncomputable def con := conOf 30 [.z, .z] [.b] a g m
theorem hx (K : Res → O) : CtxOk Pg Γ0 byt0 eqs0 (X K) [] := ctx_of (X := X) .nil (by kernel_rfl) K
theorem w0 (K : Res → O) : LpSound Pg (X K) 0 b0 := lp_fin (L := [n0 K]) laid (hx K) .nil (.cons (ent_ok (fun x3 x4 k r => l0s x3 x4 r (k (o0 x3 x4)) (fun r1 => K (m [] [] r1))) (by kernel_rfl) (by kernel_rfl) (by kernel_rfl) (by kernel_rfl) (by kernel_rfl)) .nil) (by kernel_rfl) (by kernel_rfl)
theorem ok : Con Pg con := con_fin (fn := Tryz.f30) (c := c) (Fi := fi) (X := X) laid hx (fun K => (.cons (w0 K) .nil)) e (by kernel_rfl) (by kernel_rfl) (by kernel_rfl) (by kernel_rfl)
end laws_sameInts
namespace laws_sameArray
noncomputable def c : Code := bodyOf Tryz.f9
noncomputable def fi : Fin := ⟨Γ0, [(.tmp 4, 4)], [[1]], [], [], []⟩
noncomputable def m : Fn [.z, .z, .z, .z] (Fn [.b] Res) := fun _ _ _ _ r1 => ⟨[⟨false, [.bool r1]⟩], [], [], [], []⟩
noncomputable def X (K : Res → O) : Ctx := cx0 [laws_sameInts.con] fi true K
noncomputable def b (a1 a2 a3 a4 : List Int) (R : Bool → O) : O :=
 laws_sameInts.g a1 a3 fun r5 =>
 bif r5 then (laws_sameInts.g a2 a4 fun r6 =>
  R r6)
 else R false
noncomputable def g := seal_ b
theorem e : g = b := seal_eq b
noncomputable def a : Fn [.z, .z, .z, .z] St := fun a1 a2 a3 a4 => argSt [.v ⟨true, [.tr 0 1 [.int .i64] (.ints a1), .tr 0 1 [.int .i64] (.ints a2)]⟩, .v ⟨true, [.tr 0 1 [.int .i64] (.ints a3), .tr 0 1 [.int .i64] (.ints a4)]⟩] [] []
noncomputable def con := conOf 9 [.z, .z, .z, .z] [.b] a g m
theorem ok : Con Pg con := con_fin (fn := Tryz.f9) (c := c) (Fi := fi) (X := X) laid (ctx_of (.cons laws_sameInts.ok .nil) (by kernel_rfl)) (fun K => .nil) e (by kernel_rfl) (by kernel_rfl) (by kernel_rfl) (by kernel_rfl)
end laws_sameArray
namespace laws_FnFused
noncomputable def c : Code := bodyOf Tryz.f3
noncomputable def fi : Fin := ⟨Γ0, [(.tmp 2, 4)], [[1]], [], [], []⟩
noncomputable def m : Fn [.z] (Fn [.b] Res) := fun _ r1 => ⟨[⟨false, [.bool r1]⟩], [], [], [], []⟩
noncomputable def X (K : Res → O) : Ctx := { cx0 [laws_big.con, spec_DrawFuseTry.con, impl_FuseTry.con, spec_FuseTry.con, impl_Run.con, laws_sameArray.con] fi false K with io := [(5, [⟨false, 2, 1⟩])] }
noncomputable def b (a1 : List Int) (R : Bool → O) : O :=
 laws_big.g a1 fun r2 =>
 bif r2 then R true
 else (spec_DrawFuseTry.g a1 fun r3 r4 r5 r6 =>
 impl_FuseTry.g r3 r4 r5 r6 fun r7 r8 r9 =>
 spec_FuseTry.g r3 r4 r5 r6 fun r10 r11 r12 =>
 bif (r9 != r12) then R false
 else bif !r9 then R ((r8.length : Int) == 0)
 else bif decide (0 ≤ r4) && decide (r4 ≤ r5) && decide (r5 ≤ (r3.length : Int)) then (impl_Run.g ((r3.drop r4.toNat).take (r5.toNat - r4.toNat)) r6 100 fun r13 r14 r15 r16 r17 =>
  bif (r16 == 0) then (laws_sameArray.g r7 r8 r13 r14 fun r18 =>
   bif r18 then R (r17 == IntKind.i64.wrap (100 - (IntKind.i64.wrap (r5 - r4))))
   else R false)
  else R false)
 else none)
noncomputable def g := seal_ b
theorem e : g = b := seal_eq b
noncomputable def a : Fn [.z] St := fun a1 => argSt [one (.tr 2 2 [.int .u8] (.ints a1))] [] []
noncomputable def con := conOf 3 [.z] [.b] a g m
theorem ok : Con Pg con := con_fin (fn := Tryz.f3) (c := c) (Fi := fi) (X := X) laid (ctx_of (.cons laws_big.ok (.cons spec_DrawFuseTry.ok (.cons impl_FuseTry.ok (.cons spec_FuseTry.ok (.cons impl_Run.ok (.cons laws_sameArray.ok .nil)))))) (by kernel_rfl)) (fun K => .nil) e (by kernel_rfl) (by kernel_rfl) (by kernel_rfl) (by kernel_rfl)
end laws_FnFused
end Go.Tv.F
