/- The law's functions, printed by a program of ours, each with its contract. They hold without condition. -/
import Derived.Test.YtkokikbdndegkaaGreatGuardsFA
set_option linter.unusedVariables false
set_option linter.unusedSectionVars false
set_option linter.unusedSimpArgs false
set_option linter.unnecessarySimpa false
set_option maxRecDepth 100000
set_option autoImplicit false
namespace Go.Tv.F
open Go Go.Tv
open Go.Proofs
namespace spec_l10DrawVars
noncomputable def c : Code := bodyOf Tryz.f79
noncomputable def fi : Fin := ⟨Γ0, [(.tmp 2, 37)], [[1]], [], [([.sl [.int .u8] 1, .int .i64, .int .i64], [0, 1, 1])], []⟩
noncomputable def m : Fn [.z, .i, .i] (Fn [.l, .z, .i, .i] Res) := fun _ _ _ r1 r2 r3 r4 => ⟨[⟨false, [.ow 1000]⟩], [], [⟨e_1, .cells r1, true, 0, none⟩], [[.tr 2 2 [.int .u8] (.ints r2), cI r3, cI r4]], []⟩
noncomputable def b0 : Code := codeAt c [1, 1, 0, 1, 0, 0]
noncomputable def l0s  (rec : Int → List (List Cl) → List Int → Int → Int → O) (k : List (List Cl) → List Int → Int → Int → O) (x5 : Int) (x6 : List (List Cl)) (x7 : List Int) (x8 x9 : Int) : O :=
 bif decide (x5 < 3) then (spec_l1Once.g 5 x7 x8 x9 fun r10 r11 r12 =>
  bif !r10 then (spec_l3DrawRight.g x7 r11 r12 fun r13 r14 r15 r16 r17 =>
   bif decide (0 ≤ x5) && decide (x5 < (x6.length : Int)) then rec (IntKind.i64.wrap (x5 + 1)) (x6.set x5.toNat [.b true, .l r13, .l r14]) r15 r16 r17
   else none)
  else rec (IntKind.i64.wrap (x5 + 1)) x6 x7 r11 r12)
 else k x6 x7 x8 x9
noncomputable def l0  (k : List (List Cl) → List Int → Int → Int → O) : Nat → Int → List (List Cl) → List Int → Int → Int → O
 | 0, _, _, _, _, _ => none
 | n + 1, x5, x6, x7, x8, x9 => l0s (l0 k n) k x5 x6 x7 x8 x9
noncomputable def o0 : Fn [.l, .z, .i, .i] St := fun y1 y2 y3 y4 => ⟨mkT 34 [(0, one (.bp 0 0)), (3, one (.ow 3049))], [(3049, ⟨e_1, .cells y1, true, 0, none⟩)], [(0, [.tr 2 2 [.int .u8] (.ints y2), cI y3, cI y4])]⟩
noncomputable def n0 (K : Res → O) := ent 0 [] [.i, .l, .z, .i, .i] [0, 1, 2, 3, 4] (fun x5 x6 x7 x8 x9 => ⟨mkT 34 [(0, one (.bp 0 0)), (3, one (.ow 3049)), (4, oI x5)], [(3049, ⟨e_1, .cells x6, true, 0, none⟩)], [(0, [.tr 2 2 [.int .u8] (.ints x7), cI x8, cI x9])]⟩) fun k => l0 (fun y1 y2 y3 y4 => k (o0 y1 y2 y3 y4))
noncomputable def X (K : Res → O) : Ctx := { cx0 [spec_VarsNew.con, spec_l1Once.con, spec_l3DrawRight.con, spec_l3Fill.con] fi true K with cin := [(0, ⟨[0, 3, 4], [(3049, 3049)], [0], [], [], []⟩)], cout := [(0, ⟨[0, 3], [(3049, 3049)], [0], [], [], []⟩)], lp := lpOf [n0 K] }
noncomputable def b (a1 : List Int) (a2 a3 : Int) (R : List (List Cl) → List Int → Int → Int → O) : O :=
 spec_VarsNew.g fun r4 =>
 l0 (fun y18 y19 y20 y21 =>
 spec_l1Once.g 2 y19 y20 y21 fun r22 r23 r24 =>
 bif r22 then (spec_l3Fill.g ([3] : List Int) y19 r23 r24 fun r25 r26 r27 r28 r29 =>
  bif decide (1 < (y18.length : Int)) then (spec_l3Fill.g ([3] : List Int) r27 r28 r29 fun r30 r31 r32 r33 r34 =>
   bif decide (0 < ((y18.set 1 [.b true, .l r25, .l r26]).length : Int)) then R ((y18.set 1 [.b true, .l r25, .l r26]).set 0 [.b true, .l r30, .l r31]) r32 r33 r34
   else none)
  else none)
 else R y18 y19 r23 r24) fuel 0 r4 a1 a2 a3
noncomputable def g := seal_ b
theorem e : g = b := seal_eq b
noncomputable def a : Fn [.z, .i, .i] St := fun a1 a2 a3 => argSt [one (.bp 0 0)] [] [[.tr 2 2 [.int .u8] (.ints a1), cI a2, cI a3]]
noncomputable def con := conOf 79 [.z, .i, .i] [.l, .z, .i, .i] a g m
theorem hx (K : Res → O) : CtxOk Pg Γ0 byt0 eqs0 (X K) [spec_VarsNew.con, spec_l1Once.con, spec_l3DrawRight.con, spec_l3Fill.con] := ctx_of (X := X) (.cons spec_VarsNew.ok (.cons spec_l1Once.ok (.cons spec_l3DrawRight.ok (.cons spec_l3Fill.ok .nil)))) (by kernel_rfl) K
theorem w0 (K : Res → O) : LpSound Pg (X K) 0 b0 := lp_fin (L := [n0 K]) laid (hx K) .nil (.cons (ent_ok (fun k r => l0s r (fun y1 y2 y3 y4 => k (o0 y1 y2 y3 y4))) (by kernel_rfl) (by kernel_rfl) (by kernel_rfl) (by kernel_rfl) (by kernel_rfl)) .nil) (by kernel_rfl) (by kernel_rfl)
theorem ok : Con Pg con := con_fin (fn := Tryz.f79) (c := c) (Fi := fi) (X := X) laid hx (fun K => (.cons (w0 K) .nil)) e (by kernel_rfl) (by kernel_rfl) (by kernel_rfl) (by kernel_rfl)
end spec_l10DrawVars
namespace spec_l2Draw
noncomputable def c : Code := bodyOf Tryz.f116
noncomputable def fi : Fin := ⟨Γ0, [(.tmp 2, 28)], [[1]], [], [([.sl [.int .u8] 1, .int .i64, .int .i64], [0, 1, 1])], []⟩
noncomputable def m : Fn [.z, .i, .i] (Fn [.z, .i, .i] Res) := fun a1 _ _ r1 r3 r4 => ⟨[⟨false, [.ow 1000]⟩], [], [⟨[.int .i64], .ints r1, true, 0, none⟩], [[.tr 2 2 [.int .u8] (.ints a1), cI r3, cI r4]], []⟩
noncomputable def X (K : Res → O) : Ctx := cx0 [spec_l2DrawRight.con, spec_l1Below.con, spec_l1PickInt.con] fi true K
noncomputable def b (a1 : List Int) (a2 a3 : Int) (R : List Int → Int → Int → O) : O :=
 spec_l2DrawRight.g a1 a2 a3 fun r4 r5 r6 =>
 spec_l1Below.g 20 a1 r5 r6 fun r7 r8 r9 =>
 bif (r7 == 0) then (spec_l1PickInt.g ([(-1), 0, 300, 301] : List Int) a1 r8 r9 fun r10 r11 r12 =>
  bif decide ((r4.length + 1) * 8 ≤ 140737488355328) then R (r4 ++ ([r10] : List Int)) r11 r12
  else none)
 else bif (r7 == 1) then R ([1, 1, 1, 1] : List Int) r8 r9
 else bif (r7 == 2) then (spec_l1PickInt.g ([17, 20, 15, 300] : List Int) a1 r8 r9 fun r13 r14 r15 =>
  spec_l1PickInt.g ([15, 20, 16, 0] : List Int) a1 r14 r15 fun r16 r17 r18 =>
  R ([r13, r16] : List Int) r17 r18)
 else R r4 r8 r9
noncomputable def g := seal_ b
theorem e : g = b := seal_eq b
noncomputable def a : Fn [.z, .i, .i] St := fun a1 a2 a3 => argSt [one (.bp 0 0)] [] [[.tr 2 2 [.int .u8] (.ints a1), cI a2, cI a3]]
noncomputable def con := conOf 116 [.z, .i, .i] [.z, .i, .i] a g m
theorem ok : Con Pg con := con_fin (fn := Tryz.f116) (c := c) (Fi := fi) (X := X) laid (ctx_of (.cons spec_l2DrawRight.ok (.cons spec_l1Below.ok (.cons spec_l1PickInt.ok .nil))) (by kernel_rfl)) (fun K => .nil) e (by kernel_rfl) (by kernel_rfl) (by kernel_rfl) (by kernel_rfl)
end spec_l2Draw
namespace spec_l3Draw
noncomputable def c : Code := bodyOf Tryz.f80
noncomputable def fi : Fin := ⟨Γ0, [(.cell 2 30, 30)], [[1, 1]], [], [([.sl [.int .u8] 1, .int .i64, .int .i64], [0, 1, 1])], []⟩
noncomputable def m : Fn [.z, .i, .i] (Fn [.z, .z, .z, .i, .i] Res) := fun _ _ _ r1 r2 r3 r4 r5 => ⟨[⟨true, [.ow 1000, .ow 1001]⟩], [], [⟨[.int .i64], .ints r1, true, 0, none⟩, ⟨[.int .i64], .ints r2, true, 0, none⟩], [[.tr 2 2 [.int .u8] (.ints r3), cI r4, cI r5]], []⟩
noncomputable def X (K : Res → O) : Ctx := cx0 [spec_l3DrawRight.con, spec_l1Below.con, spec_l2Draw.con, spec_l1DrawRaw.con] fi true K
noncomputable def b (a1 : List Int) (a2 a3 : Int) (R : List Int → List Int → List Int → Int → Int → O) : O :=
 spec_l3DrawRight.g a1 a2 a3 fun r4 r5 r6 r7 r8 =>
 spec_l1Below.g 20 r6 r7 r8 fun r9 r10 r11 =>
 bif (r9 == 0) then (bif decide ((r5.length + 1) * 8 ≤ 140737488355328) then R r4 (r5 ++ ([1] : List Int)) r6 r10 r11
  else none)
 else bif (r9 == 1) then (spec_l2Draw.g r6 r10 r11 fun r12 r13 r14 =>
  R r12 r5 r6 r13 r14)
 else bif (r9 == 2) then (bif decide (0 < (r5.length : Int)) then (spec_l1Below.g (r5.length : Int) r6 r10 r11 fun r15 r16 r17 =>
  spec_l1DrawRaw.g r6 r16 r17 fun r18 r19 r20 =>
  bif decide (0 ≤ r15) && decide (r15 < (r5.length : Int)) then R r4 (r5.set r15.toNat r18) r6 r19 r20
  else none)
  else R r4 r5 r6 r10 r11)
 else bif (r9 == 3) then (spec_l1Below.g 2 r6 r10 r11 fun r21 r22 r23 =>
  bif decide (IntKind.i64.wrap (300 + r21) = IntKind.i64.wrap (300 + r21)) && decide (0 ≤ IntKind.i64.wrap (300 + r21)) && decide (IntKind.i64.wrap (300 + r21) * 8 ≤ 140737488355328) then R ([300] : List Int) (List.replicate ((IntKind.i64.wrap (300 + r21)).toNat) 0) r6 r22 r23
  else none)
 else R r4 r5 r6 r10 r11
noncomputable def g := seal_ b
theorem e : g = b := seal_eq b
noncomputable def a : Fn [.z, .i, .i] St := fun a1 a2 a3 => argSt [one (.bp 0 0)] [] [[.tr 2 2 [.int .u8] (.ints a1), cI a2, cI a3]]
noncomputable def con := conOf 80 [.z, .i, .i] [.z, .z, .z, .i, .i] a g m
theorem ok : Con Pg con := con_fin (fn := Tryz.f80) (c := c) (Fi := fi) (X := X) laid (ctx_of (.cons spec_l3DrawRight.ok (.cons spec_l1Below.ok (.cons spec_l2Draw.ok (.cons spec_l1DrawRaw.ok .nil)))) (by kernel_rfl)) (fun K => .nil) e (by kernel_rfl) (by kernel_rfl) (by kernel_rfl) (by kernel_rfl)
end spec_l3Draw
namespace spec_l10DrawAny
noncomputable def c : Code := bodyOf Tryz.f46
noncomputable def fi : Fin := ⟨Γ0, [(.tmp 2, 37)], [[0]], [], [([.sl [.int .u8] 1, .int .i64, .int .i64], [0, 1, 1])], []⟩
noncomputable def m : Fn [.z, .i, .i] (Fn [.l, .z, .i, .i] Res) := fun _ _ _ r1 r2 r3 r4 => ⟨[⟨false, [.tr 2 2 e_1 (.cells r1)]⟩], [], [], [[.tr 2 2 [.int .u8] (.ints r2), cI r3, cI r4]], []⟩
noncomputable def X (K : Res → O) : Ctx := cx0 [spec_l10DrawVars.con, spec_l1Below.con, spec_l3Draw.con] fi true K
noncomputable def b (a1 : List Int) (a2 a3 : Int) (R : List (List Cl) → List Int → Int → Int → O) : O :=
 spec_l10DrawVars.g a1 a2 a3 fun r4 r5 r6 r7 =>
 spec_l1Below.g 30 r5 r6 r7 fun r8 r9 r10 =>
 bif (r8 == 0) then (bif decide (1 ≤ (r4.length : Int)) then R ((r4.drop 1).take (r4.length - 1)) r5 r9 r10
  else none)
 else bif (r8 == 1) then (bif decide (0 < (r4.length : Int)) then (bif decide (0 < (r4.length : Int)) then R (r4.set 0 (splice (r4.getD 0 []) 0 [.b (!(((r4.getD 0 []).getD 0 (.i 0)).toB))])) r5 r9 r10
  else none)
  else none)
 else bif (r8 == 2) then (spec_l3Draw.g r5 r9 r10 fun r11 r12 r13 r14 r15 =>
  bif decide (1 < (r4.length : Int)) then R (r4.set 1 [.b true, .l r11, .l r12]) r13 r14 r15
  else none)
 else R r4 r5 r9 r10
noncomputable def g := seal_ b
theorem e : g = b := seal_eq b
noncomputable def a : Fn [.z, .i, .i] St := fun a1 a2 a3 => argSt [one (.bp 0 0)] [] [[.tr 2 2 [.int .u8] (.ints a1), cI a2, cI a3]]
noncomputable def con := conOf 46 [.z, .i, .i] [.l, .z, .i, .i] a g m
theorem ok : Con Pg con := con_fin (fn := Tryz.f46) (c := c) (Fi := fi) (X := X) laid (ctx_of (.cons spec_l10DrawVars.ok (.cons spec_l1Below.ok (.cons spec_l3Draw.ok .nil))) (by kernel_rfl)) (fun K => .nil) e (by kernel_rfl) (by kernel_rfl) (by kernel_rfl) (by kernel_rfl)
end spec_l10DrawAny
namespace spec_DrawFuseTry
noncomputable def c : Code := bodyOf Tryz.f20
noncomputable def fi : Fin := ⟨Γ0, [(.tmp 2, 33), (.cell 3 35, 35), (.tmp 4, 37)], [[4], [1, 1], [0]], [], [], []⟩
noncomputable def m : Fn [.z] (Fn [.l, .i, .i, .l] Res) := fun _ r1 r2 r3 r4 => ⟨[⟨false, [.tr 1 1 e_0 (.cells r1)]⟩, ⟨true, [cI r2, cI r3]⟩, ⟨false, [.tr 2 2 e_1 (.cells r4)]⟩], [], [], [], []⟩
noncomputable def b0 : Code := codeAt c [1, 1, 1, 0, 1, 0, 0]
noncomputable def l0s (x11 x12 : Int) (rec : List (List Cl) → Int → List Int → Int → Int → O) (k : List (List Cl) → List Int → Int → Int → O) (x9 : List (List Cl)) (x10 : Int) (x13 : List Int) (x14 x15 : Int) : O :=
 bif decide (x10 < 6) then (spec_Spans.g x9 fun r16 =>
  bif ((r16.length : Int) == 0) then (spec_l11DrawRight.g x13 x14 x15 fun r17 r18 r19 r20 =>
   rec r17 (IntKind.i64.wrap (x10 + 1)) r18 r19 r20)
  else k x9 x13 x14 x15)
 else k x9 x13 x14 x15
noncomputable def l0 (x11 x12 : Int) (k : List (List Cl) → List Int → Int → Int → O) : Nat → List (List Cl) → Int → List Int → Int → Int → O
 | 0, _, _, _, _, _ => none
 | n + 1, x9, x10, x13, x14, x15 => l0s x11 x12 (l0 x11 x12 k n) k x9 x10 x13 x14 x15
noncomputable def o0 : Fn [.i, .i, .l, .z, .i, .i] St := fun x11 x12 y1 y4 y5 y6 => ⟨mkT 52 [(3, one (.bp 1016 0)), (5, one (.bp 3065 0)), (6, one (.tr 1 1 e_0 (.cells y1)))], [], [(1016, [cI x11, cI x12]), (3065, [.tr 2 2 [.int .u8] (.ints y4), cI y5, cI y6])]⟩
noncomputable def n0 (K : Res → O) := ent 0 [.i, .i] [.l, .i, .z, .i, .i] [2, 3, 0, 1, 4, 5, 6] (fun x11 x12 x9 x10 x13 x14 x15 => ⟨mkT 52 [(3, one (.bp 1016 0)), (5, one (.bp 3065 0)), (6, one (.tr 1 1 e_0 (.cells x9))), (7, oI x10)], [], [(1016, [cI x11, cI x12]), (3065, [.tr 2 2 [.int .u8] (.ints x13), cI x14, cI x15])]⟩) fun x11 x12 k => l0 x11 x12 (fun y1 y4 y5 y6 => k (o0 x11 x12 y1 y4 y5 y6))
noncomputable def X (K : Res → O) : Ctx := { cx0 [spec_l1New.con, spec_l11Draw.con, spec_Spans.con, spec_l11DrawRight.con, spec_l1Below.con, spec_l1Once.con, spec_l10DrawAny.con] fi false K with io := [(41, [⟨false, 2, 1⟩])], cin := [(0, ⟨[3, 5, 6, 7], [], [1016, 3065], [], [], [(12, 0, 1, 1, e_0)]⟩)], cout := [(0, ⟨[3, 5, 6], [], [1016, 3065], [], [], []⟩)], lp := lpOf [n0 K] }
noncomputable def b (a1 : List Int) (R : List (List Cl) → Int → Int → List (List Cl) → O) : O :=
 spec_l1New.g a1 fun r2 r3 r4 =>
 spec_l11Draw.g r2 r3 r4 fun r5 r6 r7 r8 =>
 l0 0 0 (fun y21 y22 y23 y24 =>
 spec_Spans.g y21 fun r25 =>
 spec_l1Below.g 4 y22 y23 y24 fun r26 r27 r28 =>
 spec_l1Below.g 6 y22 r27 r28 fun r29 r30 r31 =>
 bif decide (0 < (r25.length : Int)) then (spec_l1Once.g 6 y22 r30 r31 fun r32 r33 r34 =>
  bif !r32 then (spec_l1Below.g (r25.length : Int) y22 r33 r34 fun r35 r36 r37 =>
   bif decide (0 ≤ r35) && decide (r35 < (r25.length : Int)) then (spec_l10DrawAny.g y22 r36 r37 fun r38 r39 r40 r41 =>
    R y21 (((r25.getD r35.toNat []).getD 0 (.i 0)).toI) (((r25.getD r35.toNat []).getD 1 (.i 0)).toI) r38)
   else none)
  else (spec_l10DrawAny.g y22 r33 r34 fun r42 r43 r44 r45 =>
  R y21 r26 r29 r42))
 else (spec_l10DrawAny.g y22 r30 r31 fun r46 r47 r48 r49 =>
 R y21 r26 r29 r46)) fuel r5 0 r6 r7 r8
noncomputable def g := seal_ b
theorem e : g = b := seal_eq b
noncomputable def a : Fn [.z] St := fun a1 => argSt [one (.tr 2 1 [.int .u8] (.ints a1))] [] []
noncomputable def con := conOf 20 [.z] [.l, .i, .i, .l] a g m
theorem hx (K : Res → O) : CtxOk Pg Γ0 byt0 eqs0 (X K) [spec_l1New.con, spec_l11Draw.con, spec_Spans.con, spec_l11DrawRight.con, spec_l1Below.con, spec_l1Once.con, spec_l10DrawAny.con] := ctx_of (X := X) (.cons spec_l1New.ok (.cons spec_l11Draw.ok (.cons spec_Spans.ok (.cons spec_l11DrawRight.ok (.cons spec_l1Below.ok (.cons spec_l1Once.ok (.cons spec_l10DrawAny.ok .nil))))))) (by kernel_rfl) K
theorem w0 (K : Res → O) : LpSound Pg (X K) 0 b0 := lp_fin (L := [n0 K]) laid (hx K) .nil (.cons (ent_ok (fun x11 x12 k r => l0s x11 x12 r (fun y1 y4 y5 y6 => k (o0 x11 x12 y1 y4 y5 y6))) (by kernel_rfl) (by kernel_rfl) (by kernel_rfl) (by kernel_rfl) (by kernel_rfl)) .nil) (by kernel_rfl) (by kernel_rfl)
theorem ok : Con Pg con := con_fin (fn := Tryz.f20) (c := c) (Fi := fi) (X := X) laid hx (fun K => (.cons (w0 K) .nil)) e (by kernel_rfl) (by kernel_rfl) (by kernel_rfl) (by kernel_rfl)
end spec_DrawFuseTry
namespace impl_VarsNew
noncomputable def c : Code := bodyOf Tryz.f23
noncomputable def fi : Fin := ⟨Γ0, [(.tmp 0, 37)], [[1]], [], [], []⟩
noncomputable def m : Fn [] (Fn [.l] Res) := fun r1 => ⟨[⟨false, [.ow 1000]⟩], [], [⟨e_1, .cells r1, true, 0, none⟩], [], []⟩
noncomputable def X (K : Res → O) : Ctx := cx0 [] fi true K
noncomputable def b  (R : List (List Cl) → O) : O :=
 R (List.replicate 26 [.b false, .l [], .l []])
noncomputable def g := seal_ b
theorem e : g = b := seal_eq b
noncomputable def a : Fn [] St := argSt [] [] []
noncomputable def con := conOf 23 [] [.l] a g m
theorem ok : Con Pg con := con_fin (fn := Tryz.f23) (c := c) (Fi := fi) (X := X) laid (ctx_of .nil (by kernel_rfl)) (fun K => .nil) e (by kernel_rfl) (by kernel_rfl) (by kernel_rfl) (by kernel_rfl)
end impl_VarsNew
namespace laws_FnGuards
noncomputable def c : Code := bodyOf Tryz.f4
noncomputable def fi : Fin := ⟨Γ0, [(.tmp 2, 4)], [[1]], [], [], []⟩
noncomputable def m : Fn [.z] (Fn [.b] Res) := fun _ r1 => ⟨[⟨false, [.bool r1]⟩], [], [], [], []⟩
noncomputable def b0 : Code := codeAt c [1, 1, 1, 1, 1, 0, 1, 0, 0]
noncomputable def l0s (x9 x10 : List (List Cl)) (x13 x14 : Int) (rec : Bool → Int → O) (k : Bool → O) (x11 : Bool) (x12 : Int) : O :=
 bif decide (x12 < x14) then (bif decide (x12 < (x9.length : Int)) then (bif decide (0 ≤ x12) then (bif x11 then rec true (IntKind.i64.wrap (x12 + 1))
  else bif decide (0 ≤ x12) && decide (x12 < (x9.length : Int)) then rec (((x9.getD x12.toNat []).getD 0 (.i 0)).toI == 2) (IntKind.i64.wrap (x12 + 1))
  else none)
  else k x11)
  else k x11)
 else k x11
noncomputable def l0 (x9 x10 : List (List Cl)) (x13 x14 : Int) (k : Bool → O) : Nat → Bool → Int → O
 | 0, _, _ => none
 | n + 1, x11, x12 => l0s x9 x10 x13 x14 (l0 x9 x10 x13 x14 k n) k x11 x12
noncomputable def o0 : Fn [.l, .l, .i, .i, .b] St := fun x9 x10 x13 x14 y3 => ⟨mkT 88 [(3, one (.tr 1 1 e_0 (.cells x9))), (4, one (.bp 7240 0)), (5, one (.tr 2 2 e_1 (.cells x10))), (6, one (.bool y3))], [], [(7240, [cI x13, cI x14])]⟩
noncomputable def n0 (K : Res → O) := ent 0 [.l, .l, .i, .i] [.b, .i] [0, 1, 4, 5, 2, 3] (fun x9 x10 x13 x14 x11 x12 => ⟨mkT 88 [(3, one (.tr 1 1 e_0 (.cells x9))), (4, one (.bp 7240 0)), (5, one (.tr 2 2 e_1 (.cells x10))), (6, one (.bool x11)), (7, oI x12)], [], [(7240, [cI x13, cI x14])]⟩) fun x9 x10 x13 x14 k => l0 x9 x10 x13 x14 (fun y3 => k (o0 x9 x10 x13 x14 y3))
noncomputable def X (K : Res → O) : Ctx := { cx0 [laws_big.con, spec_DrawFuseTry.con, impl_Spans.con, spec_Spans.con, impl_VarsNew.con, impl_FuseTry.con, spec_FuseTry.con] fi false K with io := [(20, [⟨false, 2, 1⟩]), (7, [⟨false, 0, 1⟩, ⟨false, 0, 1⟩, ⟨false, 0, 2⟩])], cin := [(0, ⟨[3, 4, 5, 6, 7], [], [7240], [], [], []⟩)], cout := [(0, ⟨[3, 4, 5, 6], [], [7240], [], [], []⟩)], lp := lpOf [n0 K] }
noncomputable def b (a1 : List Int) (R : Bool → O) : O :=
 laws_big.g a1 fun r2 =>
 bif r2 then R true
 else (spec_DrawFuseTry.g a1 fun r3 r4 r5 r6 =>
 impl_Spans.g r3 fun r7 =>
 spec_Spans.g r3 fun r8 =>
 bif ((r7.length : Int) != (r8.length : Int)) then R false
 else (l0 r3 r6 r4 r5 (fun y15 =>
 impl_VarsNew.g fun r16 =>
 impl_FuseTry.g r3 r4 r5 r16 fun r17 r18 r19 =>
 spec_FuseTry.g r3 r4 r5 r6 fun r20 r21 r22 =>
 impl_FuseTry.g r3 r4 r5 r6 fun r23 r24 r25 =>
 bif !y15 then R (r22 == r25)
 else bif !r19 then R (r22 == r25)
 else R false) fuel false r4))
noncomputable def g := seal_ b
theorem e : g = b := seal_eq b
noncomputable def a : Fn [.z] St := fun a1 => argSt [one (.tr 2 2 [.int .u8] (.ints a1))] [] []
noncomputable def con := conOf 4 [.z] [.b] a g m
theorem hx (K : Res → O) : CtxOk Pg Γ0 byt0 eqs0 (X K) [laws_big.con, spec_DrawFuseTry.con, impl_Spans.con, spec_Spans.con, impl_VarsNew.con, impl_FuseTry.con, spec_FuseTry.con] := ctx_of (X := X) (.cons laws_big.ok (.cons spec_DrawFuseTry.ok (.cons impl_Spans.ok (.cons spec_Spans.ok (.cons impl_VarsNew.ok (.cons impl_FuseTry.ok (.cons spec_FuseTry.ok .nil))))))) (by kernel_rfl) K
theorem w0 (K : Res → O) : LpSound Pg (X K) 0 b0 := lp_fin (L := [n0 K]) laid (hx K) .nil (.cons (ent_ok (fun x9 x10 x13 x14 k r => l0s x9 x10 x13 x14 r (fun y3 => k (o0 x9 x10 x13 x14 y3))) (by kernel_rfl) (by kernel_rfl) (by kernel_rfl) (by kernel_rfl) (by kernel_rfl)) .nil) (by kernel_rfl) (by kernel_rfl)
theorem ok : Con Pg con := con_fin (fn := Tryz.f4) (c := c) (Fi := fi) (X := X) laid hx (fun K => (.cons (w0 K) .nil)) e (by kernel_rfl) (by kernel_rfl) (by kernel_rfl) (by kernel_rfl)
end laws_FnGuards
end Go.Tv.F
