/- The law's functions, printed by a program of ours, each with its contract. They hold without condition. -/
import Derived.Test.YtbocgpagaacpoabExactHeapPutFA
set_option linter.unusedVariables false
set_option linter.unusedSimpArgs false
set_option linter.unnecessarySimpa false
set_option maxRecDepth 100000
set_option autoImplicit false
namespace Go.Tv.F
open Go Go.Tv
namespace slices_partitionCmpFunc_int
noncomputable def c : Code := bodyOf Go.Proofs.Try.f194
noncomputable def fi : Fin := ⟨Γ0, [(.tmp 10, 3), (.tmp 11, 4)], [[1], [1]], [true], [([.sl [.int .i64] 8, .int .i64, .sl [.int .i64, .int .i64, .bool] 24], [0, 1, 0])], []⟩
noncomputable def m (r1 : Int) (r2 : Bool) (r3 r4 : List Int) (r5 : Int) (r6 : List (List Cl)) : Res := ⟨[⟨false, [.int .i64 r1]⟩, ⟨false, [.bool r2]⟩], [some ⟨[.int .i64], .ints r3, true, 0⟩], [], [[.tr 2 2 [.int .i64] (.ints r4), .int .i64 r5, .tr 2 2 [.int .i64, .int .i64, .bool] (.cells r6)]], []⟩
noncomputable def b0 : Code := codeAt c [1, 1, 1, 0, 0, 0]
noncomputable def b2 : Code := codeAt c [1, 1, 1, 1, 0, 0, 0]
noncomputable def b4 : Code := codeAt c [1, 1, 1, 1, 1, 1, 1, 1, 1, 0, 0, 0]
noncomputable def b6 : Code := codeAt c [1, 1, 1, 1, 1, 1, 1, 1, 1, 0, 0, 0, 0, 0, 0, 0]
noncomputable def b8 : Code := codeAt c [1, 1, 1, 1, 1, 1, 1, 1, 1, 0, 0, 0, 0, 1, 0, 0, 0]
noncomputable def s0 (x8 x9 x10 : Int) (x11 x12 : List Int) (x13 : Int) (x14 : List (List Cl)) : St := ⟨mkT 178 [(0, one (.ow 0)), (1, one (.int .i64 x8)), (4, one (.fn 115 [0])), (12, one (.int .i64 x9)), (13, one (.int .i64 x10))], [(0, ⟨[.int .i64], .ints x11, true, 0⟩)], [(0, [.tr 2 2 [.int .i64] (.ints x12), .int .i64 x13, .tr 2 2 [.int .i64, .int .i64, .bool] (.cells x14)])]⟩
noncomputable def l0s (x8 x10 : Int) (x11 x12 : List Int) (x13 : Int) (x14 : List (List Cl)) (rec : Int → Option Res) (k : Int → Option Res) (x9 : Int) : Option Res :=
  bif decide (x9 ≤ x10) then (bif decide (0 ≤ x9) && decide (x9 < (x11.length : Int)) then (bif decide (0 ≤ x8) && decide (x8 < (x11.length : Int)) then (impl_packed_1.g (x11.getD x9.toNat 0) (x11.getD x8.toNat 0) x12 x13 x14 fun r15 =>
        bif decide (r15 < 0) then rec (IntKind.i64.wrap (x9 + 1))
        else k x9)
      else none)
    else none)
  else k x9
noncomputable def l0 (x8 x10 : Int) (x11 x12 : List Int) (x13 : Int) (x14 : List (List Cl)) (k : Int → Option Res) : Nat → Int → Option Res
  | 0, _ => none
  | n + 1, x9 => l0s x8 x10 x11 x12 x13 x14 (fun x9 => l0 x8 x10 x11 x12 x13 x14 k n x9) k x9
noncomputable def o0 (x8 x10 : Int) (x11 x12 : List Int) (x13 : Int) (x14 : List (List Cl)) (y2 : Int) : St := ⟨mkT 178 [(0, one (.ow 0)), (1, one (.int .i64 x8)), (4, one (.fn 115 [0])), (12, one (.int .i64 y2)), (13, one (.int .i64 x10))], [(0, ⟨[.int .i64], .ints x11, true, 0⟩)], [(0, [.tr 2 2 [.int .i64] (.ints x12), .int .i64 x13, .tr 2 2 [.int .i64, .int .i64, .bool] (.cells x14)])]⟩
noncomputable def p0 (K : Res → Option Res) : List Lf → (St → Option Res) → Option Res
  | [.i x8, .i x9, .i x10, .q (.ints x11), .q (.ints x12), .i x13, .q (.cells x14)], k => l0 x8 x10 x11 x12 x13 x14 (fun y2 => k (o0 x8 x10 x11 x12 x13 x14 y2)) fuel x9
  | _, _ => none
noncomputable def s2 (x17 x18 x19 : Int) (x20 x21 : List Int) (x22 : Int) (x23 : List (List Cl)) : St := ⟨mkT 178 [(0, one (.ow 0)), (1, one (.int .i64 x17)), (4, one (.fn 115 [0])), (12, one (.int .i64 x18)), (13, one (.int .i64 x19))], [(0, ⟨[.int .i64], .ints x20, true, 0⟩)], [(0, [.tr 2 2 [.int .i64] (.ints x21), .int .i64 x22, .tr 2 2 [.int .i64, .int .i64, .bool] (.cells x23)])]⟩
noncomputable def l2s (x17 x18 : Int) (x20 x21 : List Int) (x22 : Int) (x23 : List (List Cl)) (rec : Int → Option Res) (k : Int → Option Res) (x19 : Int) : Option Res :=
  bif decide (x18 ≤ x19) then (bif decide (0 ≤ x19) && decide (x19 < (x20.length : Int)) then (bif decide (0 ≤ x17) && decide (x17 < (x20.length : Int)) then (impl_packed_1.g (x20.getD x19.toNat 0) (x20.getD x17.toNat 0) x21 x22 x23 fun r24 =>
        bif !(decide (r24 < 0)) then rec (IntKind.i64.wrap (x19 - 1))
        else k x19)
      else none)
    else none)
  else k x19
noncomputable def l2 (x17 x18 : Int) (x20 x21 : List Int) (x22 : Int) (x23 : List (List Cl)) (k : Int → Option Res) : Nat → Int → Option Res
  | 0, _ => none
  | n + 1, x19 => l2s x17 x18 x20 x21 x22 x23 (fun x19 => l2 x17 x18 x20 x21 x22 x23 k n x19) k x19
noncomputable def o2 (x17 x18 : Int) (x20 x21 : List Int) (x22 : Int) (x23 : List (List Cl)) (y3 : Int) : St := ⟨mkT 178 [(0, one (.ow 0)), (1, one (.int .i64 x17)), (4, one (.fn 115 [0])), (12, one (.int .i64 x18)), (13, one (.int .i64 y3))], [(0, ⟨[.int .i64], .ints x20, true, 0⟩)], [(0, [.tr 2 2 [.int .i64] (.ints x21), .int .i64 x22, .tr 2 2 [.int .i64, .int .i64, .bool] (.cells x23)])]⟩
noncomputable def p2 (K : Res → Option Res) : List Lf → (St → Option Res) → Option Res
  | [.i x17, .i x18, .i x19, .q (.ints x20), .q (.ints x21), .i x22, .q (.cells x23)], k => l2 x17 x18 x20 x21 x22 x23 (fun y3 => k (o2 x17 x18 x20 x21 x22 x23 y3)) fuel x19
  | _, _ => none
noncomputable def s6 (x33 x34 x35 : Int) (x36 x37 : List Int) (x38 : Int) (x39 : List (List Cl)) : St := ⟨mkT 178 [(0, one (.ow 0)), (1, one (.int .i64 x33)), (4, one (.fn 115 [0])), (12, one (.int .i64 x34)), (13, one (.int .i64 x35))], [(0, ⟨[.int .i64], .ints x36, true, 0⟩)], [(0, [.tr 2 2 [.int .i64] (.ints x37), .int .i64 x38, .tr 2 2 [.int .i64, .int .i64, .bool] (.cells x39)])]⟩
noncomputable def l6s (x33 x35 : Int) (x36 x37 : List Int) (x38 : Int) (x39 : List (List Cl)) (rec : Int → Option Res) (k : Int → Option Res) (x34 : Int) : Option Res :=
  bif decide (x34 ≤ x35) then (bif decide (0 ≤ x34) && decide (x34 < (x36.length : Int)) then (bif decide (0 ≤ x33) && decide (x33 < (x36.length : Int)) then (impl_packed_1.g (x36.getD x34.toNat 0) (x36.getD x33.toNat 0) x37 x38 x39 fun r40 =>
        bif decide (r40 < 0) then rec (IntKind.i64.wrap (x34 + 1))
        else k x34)
      else none)
    else none)
  else k x34
noncomputable def l6 (x33 x35 : Int) (x36 x37 : List Int) (x38 : Int) (x39 : List (List Cl)) (k : Int → Option Res) : Nat → Int → Option Res
  | 0, _ => none
  | n + 1, x34 => l6s x33 x35 x36 x37 x38 x39 (fun x34 => l6 x33 x35 x36 x37 x38 x39 k n x34) k x34
noncomputable def o6 (x33 x35 : Int) (x36 x37 : List Int) (x38 : Int) (x39 : List (List Cl)) (y2 : Int) : St := ⟨mkT 178 [(0, one (.ow 0)), (1, one (.int .i64 x33)), (4, one (.fn 115 [0])), (12, one (.int .i64 y2)), (13, one (.int .i64 x35))], [(0, ⟨[.int .i64], .ints x36, true, 0⟩)], [(0, [.tr 2 2 [.int .i64] (.ints x37), .int .i64 x38, .tr 2 2 [.int .i64, .int .i64, .bool] (.cells x39)])]⟩
noncomputable def p6 (K : Res → Option Res) : List Lf → (St → Option Res) → Option Res
  | [.i x33, .i x34, .i x35, .q (.ints x36), .q (.ints x37), .i x38, .q (.cells x39)], k => l6 x33 x35 x36 x37 x38 x39 (fun y2 => k (o6 x33 x35 x36 x37 x38 x39 y2)) fuel x34
  | _, _ => none
noncomputable def s8 (x42 x43 x44 : Int) (x45 x46 : List Int) (x47 : Int) (x48 : List (List Cl)) : St := ⟨mkT 178 [(0, one (.ow 0)), (1, one (.int .i64 x42)), (4, one (.fn 115 [0])), (12, one (.int .i64 x43)), (13, one (.int .i64 x44))], [(0, ⟨[.int .i64], .ints x45, true, 0⟩)], [(0, [.tr 2 2 [.int .i64] (.ints x46), .int .i64 x47, .tr 2 2 [.int .i64, .int .i64, .bool] (.cells x48)])]⟩
noncomputable def l8s (x42 x43 : Int) (x45 x46 : List Int) (x47 : Int) (x48 : List (List Cl)) (rec : Int → Option Res) (k : Int → Option Res) (x44 : Int) : Option Res :=
  bif decide (x43 ≤ x44) then (bif decide (0 ≤ x44) && decide (x44 < (x45.length : Int)) then (bif decide (0 ≤ x42) && decide (x42 < (x45.length : Int)) then (impl_packed_1.g (x45.getD x44.toNat 0) (x45.getD x42.toNat 0) x46 x47 x48 fun r49 =>
        bif !(decide (r49 < 0)) then rec (IntKind.i64.wrap (x44 - 1))
        else k x44)
      else none)
    else none)
  else k x44
noncomputable def l8 (x42 x43 : Int) (x45 x46 : List Int) (x47 : Int) (x48 : List (List Cl)) (k : Int → Option Res) : Nat → Int → Option Res
  | 0, _ => none
  | n + 1, x44 => l8s x42 x43 x45 x46 x47 x48 (fun x44 => l8 x42 x43 x45 x46 x47 x48 k n x44) k x44
noncomputable def o8 (x42 x43 : Int) (x45 x46 : List Int) (x47 : Int) (x48 : List (List Cl)) (y3 : Int) : St := ⟨mkT 178 [(0, one (.ow 0)), (1, one (.int .i64 x42)), (4, one (.fn 115 [0])), (12, one (.int .i64 x43)), (13, one (.int .i64 y3))], [(0, ⟨[.int .i64], .ints x45, true, 0⟩)], [(0, [.tr 2 2 [.int .i64] (.ints x46), .int .i64 x47, .tr 2 2 [.int .i64, .int .i64, .bool] (.cells x48)])]⟩
noncomputable def p8 (K : Res → Option Res) : List Lf → (St → Option Res) → Option Res
  | [.i x42, .i x43, .i x44, .q (.ints x45), .q (.ints x46), .i x47, .q (.cells x48)], k => l8 x42 x43 x45 x46 x47 x48 (fun y3 => k (o8 x42 x43 x45 x46 x47 x48 y3)) fuel x44
  | _, _ => none
noncomputable def s4 (x26 x27 x28 : Int) (x29 x30 : List Int) (x31 : Int) (x32 : List (List Cl)) : St := ⟨mkT 178 [(0, one (.ow 0)), (1, one (.int .i64 x26)), (4, one (.fn 115 [0])), (12, one (.int .i64 x27)), (13, one (.int .i64 x28))], [(0, ⟨[.int .i64], .ints x29, true, 0⟩)], [(0, [.tr 2 2 [.int .i64] (.ints x30), .int .i64 x31, .tr 2 2 [.int .i64, .int .i64, .bool] (.cells x32)])]⟩
noncomputable def l4s (x26 : Int) (x30 : List Int) (x31 : Int) (x32 : List (List Cl)) (rec : Int → Int → List Int → Option Res) (k : Int → List Int → Option Res) (x27 x28 : Int) (x29 : List Int) : Option Res :=
  l6 x26 x28 x29 x30 x31 x32 (fun y41 => 
  l8 x26 y41 x29 x30 x31 x32 (fun y50 => 
  bif decide (y50 < y41) then k y50 x29
  else bif decide (0 ≤ y50) && decide (y50 < (x29.length : Int)) then (bif decide (0 ≤ y41) && decide (y41 < (x29.length : Int)) then (bif decide (0 ≤ y41) && decide (y41 < (x29.length : Int)) then (bif decide (0 ≤ y50) && decide (y50 < ((x29.set y41.toNat (x29.getD y50.toNat 0)).length : Int)) then rec (IntKind.i64.wrap (y41 + 1)) (IntKind.i64.wrap (y50 - 1)) ((x29.set y41.toNat (x29.getD y50.toNat 0)).set y50.toNat (x29.getD y41.toNat 0))
        else none)
      else none)
    else none)
  else none) fuel x28) fuel x27
noncomputable def l4 (x26 : Int) (x30 : List Int) (x31 : Int) (x32 : List (List Cl)) (k : Int → List Int → Option Res) : Nat → Int → Int → List Int → Option Res
  | 0, _, _, _ => none
  | n + 1, x27, x28, x29 => l4s x26 x30 x31 x32 (fun x27 x28 x29 => l4 x26 x30 x31 x32 k n x27 x28 x29) k x27 x28 x29
noncomputable def o4 (x26 : Int) (x30 : List Int) (x31 : Int) (x32 : List (List Cl)) (y2 : Int) (y3 : List Int) : St := ⟨mkT 178 [(0, one (.ow 0)), (1, one (.int .i64 x26)), (13, one (.int .i64 y2))], [(0, ⟨[.int .i64], .ints y3, true, 0⟩)], [(0, [.tr 2 2 [.int .i64] (.ints x30), .int .i64 x31, .tr 2 2 [.int .i64, .int .i64, .bool] (.cells x32)])]⟩
noncomputable def p4 (K : Res → Option Res) : List Lf → (St → Option Res) → Option Res
  | [.i x26, .i x27, .i x28, .q (.ints x29), .q (.ints x30), .i x31, .q (.cells x32)], k => l4 x26 x30 x31 x32 (fun y2 y3 => k (o4 x26 x30 x31 x32 y2 y3)) fuel x27 x28 x29
  | _, _ => none
noncomputable def os : List (FuncId × St × (List Lf → (Res → Option Res) → Option Res)) := [impl_packed_1.con]
noncomputable def X (K : Res → Option Res) : Ctx := { Γ := Γ0, orc := orcOf os, io := [], share := [], mvl := [], bun := [], cut := [], own := [], cin := [(0, ⟨[0, 1, 4, 12, 13], [(0, 0)], [0], [], [], []⟩), (2, ⟨[0, 1, 4, 12, 13], [(0, 0)], [0], [], [], []⟩), (6, ⟨[0, 1, 4, 12, 13], [(0, 0)], [0], [], [], []⟩), (8, ⟨[0, 1, 4, 12, 13], [(0, 0)], [0], [], [], []⟩), (4, ⟨[0, 1, 4, 12, 13], [(0, 0)], [0], [], [], []⟩)], cout := [(0, ⟨[0, 1, 4, 12, 13], [(0, 0)], [0], [], [], []⟩), (2, ⟨[0, 1, 4, 12, 13], [(0, 0)], [0], [], [], []⟩), (6, ⟨[0, 1, 4, 12, 13], [(0, 0)], [0], [], [], []⟩), (8, ⟨[0, 1, 4, 12, 13], [(0, 0)], [0], [], [], []⟩), (4, ⟨[0, 1, 13], [(0, 0)], [0], [], [], []⟩)], lp := lpOf [(0, s0 0 0 0 [] [] 0 [], p0 K), (2, s2 0 0 0 [] [] 0 [], p2 K), (6, s6 0 0 0 [] [] 0 [], p6 K), (8, s8 0 0 0 [] [] 0 [], p8 K), (4, s4 0 0 0 [] [] 0 [], p4 K)], kl := [], nk := true, eqs := eqs0, byt := byt0, fin := finK fi K }
noncomputable def b (a1 a2 a3 : Int) (a4 a5 : List Int) (a6 : Int) (a7 : List (List Cl)) (R : Int → Bool → List Int → List Int → Int → List (List Cl) → Option Res) : Option Res :=
  bif decide (0 ≤ a3) && decide (a3 < (a4.length : Int)) then (bif decide (0 ≤ a1) && decide (a1 < (a4.length : Int)) then (bif decide (0 ≤ a1) && decide (a1 < (a4.length : Int)) then (bif decide (0 ≤ a3) && decide (a3 < ((a4.set a1.toNat (a4.getD a3.toNat 0)).length : Int)) then (l0 a1 (IntKind.i64.wrap (a2 - 1)) ((a4.set a1.toNat (a4.getD a3.toNat 0)).set a3.toNat (a4.getD a1.toNat 0)) a5 a6 a7 (fun y16 => 
          l2 a1 y16 ((a4.set a1.toNat (a4.getD a3.toNat 0)).set a3.toNat (a4.getD a1.toNat 0)) a5 a6 a7 (fun y25 => 
          bif decide (y25 < y16) then (bif decide (0 ≤ a1) && decide (a1 < (((a4.set a1.toNat (a4.getD a3.toNat 0)).set a3.toNat (a4.getD a1.toNat 0)).length : Int)) then (bif decide (0 ≤ y25) && decide (y25 < (((a4.set a1.toNat (a4.getD a3.toNat 0)).set a3.toNat (a4.getD a1.toNat 0)).length : Int)) then (bif decide (0 ≤ y25) && decide (y25 < (((a4.set a1.toNat (a4.getD a3.toNat 0)).set a3.toNat (a4.getD a1.toNat 0)).length : Int)) then (bif decide (0 ≤ a1) && decide (a1 < ((((a4.set a1.toNat (a4.getD a3.toNat 0)).set a3.toNat (a4.getD a1.toNat 0)).set y25.toNat (((a4.set a1.toNat (a4.getD a3.toNat 0)).set a3.toNat (a4.getD a1.toNat 0)).getD a1.toNat 0)).length : Int)) then R y25 true ((((a4.set a1.toNat (a4.getD a3.toNat 0)).set a3.toNat (a4.getD a1.toNat 0)).set y25.toNat (((a4.set a1.toNat (a4.getD a3.toNat 0)).set a3.toNat (a4.getD a1.toNat 0)).getD a1.toNat 0)).set a1.toNat (((a4.set a1.toNat (a4.getD a3.toNat 0)).set a3.toNat (a4.getD a1.toNat 0)).getD y25.toNat 0)) a5 a6 a7
                  else none)
                else none)
              else none)
            else none)
          else bif decide (0 ≤ y25) && decide (y25 < (((a4.set a1.toNat (a4.getD a3.toNat 0)).set a3.toNat (a4.getD a1.toNat 0)).length : Int)) then (bif decide (0 ≤ y16) && decide (y16 < (((a4.set a1.toNat (a4.getD a3.toNat 0)).set a3.toNat (a4.getD a1.toNat 0)).length : Int)) then (bif decide (0 ≤ y16) && decide (y16 < (((a4.set a1.toNat (a4.getD a3.toNat 0)).set a3.toNat (a4.getD a1.toNat 0)).length : Int)) then (bif decide (0 ≤ y25) && decide (y25 < ((((a4.set a1.toNat (a4.getD a3.toNat 0)).set a3.toNat (a4.getD a1.toNat 0)).set y16.toNat (((a4.set a1.toNat (a4.getD a3.toNat 0)).set a3.toNat (a4.getD a1.toNat 0)).getD y25.toNat 0)).length : Int)) then (l4 a1 a5 a6 a7 (fun y51 y52 => 
                  bif decide (0 ≤ a1) && decide (a1 < (y52.length : Int)) then (bif decide (0 ≤ y51) && decide (y51 < (y52.length : Int)) then (bif decide (0 ≤ y51) && decide (y51 < (y52.length : Int)) then (bif decide (0 ≤ a1) && decide (a1 < ((y52.set y51.toNat (y52.getD a1.toNat 0)).length : Int)) then R y51 false ((y52.set y51.toNat (y52.getD a1.toNat 0)).set a1.toNat (y52.getD y51.toNat 0)) a5 a6 a7
                        else none)
                      else none)
                    else none)
                  else none) fuel (IntKind.i64.wrap (y16 + 1)) (IntKind.i64.wrap (y25 - 1)) ((((a4.set a1.toNat (a4.getD a3.toNat 0)).set a3.toNat (a4.getD a1.toNat 0)).set y16.toNat (((a4.set a1.toNat (a4.getD a3.toNat 0)).set a3.toNat (a4.getD a1.toNat 0)).getD y25.toNat 0)).set y25.toNat (((a4.set a1.toNat (a4.getD a3.toNat 0)).set a3.toNat (a4.getD a1.toNat 0)).getD y16.toNat 0)))
                else none)
              else none)
            else none)
          else none) fuel (IntKind.i64.wrap (a2 - 1))) fuel (IntKind.i64.wrap (a1 + 1)))
        else none)
      else none)
    else none)
  else none
theorem gx : ∃ x : Int → Int → Int → List Int → List Int → Int → List (List Cl) → (Int → Bool → List Int → List Int → Int → List (List Cl) → Option Res) → Option Res, x = b := ⟨_, rfl⟩
noncomputable def g : Int → Int → Int → List Int → List Int → Int → List (List Cl) → (Int → Bool → List Int → List Int → Int → List (List Cl) → Option Res) → Option Res := Classical.choose gx
theorem e : g = b := Classical.choose_spec gx
noncomputable def run : List Lf → (Res → Option Res) → Option Res
  | [.i a1, .i a2, .i a3, .q (.ints a4), .q (.ints a5), .i a6, .q (.cells a7)], K => g a1 a2 a3 a4 a5 a6 a7 (fun r1 r2 r3 r4 r5 r6 => K (m r1 r2 r3 r4 r5 r6))
  | _, _ => none
noncomputable def a (a1 a2 a3 : Int) (a4 a5 : List Int) (a6 : Int) (a7 : List (List Cl)) : St := argSt [one (.ow 0), one (.int .i64 a1), one (.int .i64 a2), one (.int .i64 a3), one (.fn 115 [0])] [⟨[.int .i64], .ints a4, true, 0⟩] [[.tr 2 2 [.int .i64] (.ints a5), .int .i64 a6, .tr 2 2 [.int .i64, .int .i64, .bool] (.cells a7)]]
noncomputable def con : FuncId × St × (List Lf → (Res → Option Res) → Option Res) := (194, a 0 0 0 [] [] 0 [], run)
theorem cx (K : Res → Option Res) : CtxOk Go.Proofs.Try.prog Γ0 byt0 eqs0 (X K) os := ⟨rfl, rfl, rfl, (fun p hp => by
  rcases List.mem_cons.1 hp with rfl | hp
  · exact impl_packed_1.ok
  cases hp), rfl, rfl, rfl, rfl⟩
theorem t0 (K : Res → Option Res) (k : St → Option Res) (it : St → (St → Option Res) → Option Res) (x8 x9 x10 : Int) (x11 x12 : List Int) (x13 : Int) (x14 : List (List Cl)) : iterS (X K) 0 b0 it (s0 x8 x9 x10 x11 x12 x13 x14) k = l0s x8 x10 x11 x12 x13 x14 (fun x9 => it (s0 x8 x9 x10 x11 x12 x13 x14) k) (fun y2 => k (o0 x8 x10 x11 x12 x13 x14 y2)) x9 := by kernel_rfl
theorem i0 (K : Res → Option Res) (k : St → Option Res) (x8 x10 : Int) (x11 x12 : List Int) (x13 : Int) (x14 : List (List Cl)) : ∀ (n : Nat) (x9 : Int), iter (X K) 0 b0 n (s0 x8 x9 x10 x11 x12 x13 x14) k = l0 x8 x10 x11 x12 x13 x14 (fun y2 => k (o0 x8 x10 x11 x12 x13 x14 y2)) n x9
  | 0, _ => rfl
  | n + 1, x9 => by
    rw [iter_succ, t0, show (fun x9 => iter (X K) 0 b0 n (s0 x8 x9 x10 x11 x12 x13 x14) k) = (fun x9 => l0 x8 x10 x11 x12 x13 x14 (fun y2 => k (o0 x8 x10 x11 x12 x13 x14 y2)) n x9) from funext fun x9 => i0 K k x8 x10 x11 x12 x13 x14 n x9]; rfl
theorem v0 {K : Res → Option Res} {l : List Lf} {k : St → Option Res} {r : Res} (h : p0 K l k = some r) : ∃ x8 x9 x10 x11 x12 x13 x14, l = [.i x8, .i x9, .i x10, .q (.ints x11), .q (.ints x12), .i x13, .q (.cells x14)] ∧ l0 x8 x10 x11 x12 x13 x14 (fun y2 => k (o0 x8 x10 x11 x12 x13 x14 y2)) fuel x9 = some r := by
  unfold p0 at h; split at h
  · exact ⟨_, _, _, _, _, _, _, rfl, h⟩
  · cases h
theorem t2 (K : Res → Option Res) (k : St → Option Res) (it : St → (St → Option Res) → Option Res) (x17 x18 x19 : Int) (x20 x21 : List Int) (x22 : Int) (x23 : List (List Cl)) : iterS (X K) 2 b2 it (s2 x17 x18 x19 x20 x21 x22 x23) k = l2s x17 x18 x20 x21 x22 x23 (fun x19 => it (s2 x17 x18 x19 x20 x21 x22 x23) k) (fun y3 => k (o2 x17 x18 x20 x21 x22 x23 y3)) x19 := by kernel_rfl
theorem i2 (K : Res → Option Res) (k : St → Option Res) (x17 x18 : Int) (x20 x21 : List Int) (x22 : Int) (x23 : List (List Cl)) : ∀ (n : Nat) (x19 : Int), iter (X K) 2 b2 n (s2 x17 x18 x19 x20 x21 x22 x23) k = l2 x17 x18 x20 x21 x22 x23 (fun y3 => k (o2 x17 x18 x20 x21 x22 x23 y3)) n x19
  | 0, _ => rfl
  | n + 1, x19 => by
    rw [iter_succ, t2, show (fun x19 => iter (X K) 2 b2 n (s2 x17 x18 x19 x20 x21 x22 x23) k) = (fun x19 => l2 x17 x18 x20 x21 x22 x23 (fun y3 => k (o2 x17 x18 x20 x21 x22 x23 y3)) n x19) from funext fun x19 => i2 K k x17 x18 x20 x21 x22 x23 n x19]; rfl
theorem v2 {K : Res → Option Res} {l : List Lf} {k : St → Option Res} {r : Res} (h : p2 K l k = some r) : ∃ x17 x18 x19 x20 x21 x22 x23, l = [.i x17, .i x18, .i x19, .q (.ints x20), .q (.ints x21), .i x22, .q (.cells x23)] ∧ l2 x17 x18 x20 x21 x22 x23 (fun y3 => k (o2 x17 x18 x20 x21 x22 x23 y3)) fuel x19 = some r := by
  unfold p2 at h; split at h
  · exact ⟨_, _, _, _, _, _, _, rfl, h⟩
  · cases h
theorem t6 (K : Res → Option Res) (k : St → Option Res) (it : St → (St → Option Res) → Option Res) (x33 x34 x35 : Int) (x36 x37 : List Int) (x38 : Int) (x39 : List (List Cl)) : iterS (X K) 6 b6 it (s6 x33 x34 x35 x36 x37 x38 x39) k = l6s x33 x35 x36 x37 x38 x39 (fun x34 => it (s6 x33 x34 x35 x36 x37 x38 x39) k) (fun y2 => k (o6 x33 x35 x36 x37 x38 x39 y2)) x34 := by kernel_rfl
theorem i6 (K : Res → Option Res) (k : St → Option Res) (x33 x35 : Int) (x36 x37 : List Int) (x38 : Int) (x39 : List (List Cl)) : ∀ (n : Nat) (x34 : Int), iter (X K) 6 b6 n (s6 x33 x34 x35 x36 x37 x38 x39) k = l6 x33 x35 x36 x37 x38 x39 (fun y2 => k (o6 x33 x35 x36 x37 x38 x39 y2)) n x34
  | 0, _ => rfl
  | n + 1, x34 => by
    rw [iter_succ, t6, show (fun x34 => iter (X K) 6 b6 n (s6 x33 x34 x35 x36 x37 x38 x39) k) = (fun x34 => l6 x33 x35 x36 x37 x38 x39 (fun y2 => k (o6 x33 x35 x36 x37 x38 x39 y2)) n x34) from funext fun x34 => i6 K k x33 x35 x36 x37 x38 x39 n x34]; rfl
theorem v6 {K : Res → Option Res} {l : List Lf} {k : St → Option Res} {r : Res} (h : p6 K l k = some r) : ∃ x33 x34 x35 x36 x37 x38 x39, l = [.i x33, .i x34, .i x35, .q (.ints x36), .q (.ints x37), .i x38, .q (.cells x39)] ∧ l6 x33 x35 x36 x37 x38 x39 (fun y2 => k (o6 x33 x35 x36 x37 x38 x39 y2)) fuel x34 = some r := by
  unfold p6 at h; split at h
  · exact ⟨_, _, _, _, _, _, _, rfl, h⟩
  · cases h
theorem t8 (K : Res → Option Res) (k : St → Option Res) (it : St → (St → Option Res) → Option Res) (x42 x43 x44 : Int) (x45 x46 : List Int) (x47 : Int) (x48 : List (List Cl)) : iterS (X K) 8 b8 it (s8 x42 x43 x44 x45 x46 x47 x48) k = l8s x42 x43 x45 x46 x47 x48 (fun x44 => it (s8 x42 x43 x44 x45 x46 x47 x48) k) (fun y3 => k (o8 x42 x43 x45 x46 x47 x48 y3)) x44 := by kernel_rfl
theorem i8 (K : Res → Option Res) (k : St → Option Res) (x42 x43 : Int) (x45 x46 : List Int) (x47 : Int) (x48 : List (List Cl)) : ∀ (n : Nat) (x44 : Int), iter (X K) 8 b8 n (s8 x42 x43 x44 x45 x46 x47 x48) k = l8 x42 x43 x45 x46 x47 x48 (fun y3 => k (o8 x42 x43 x45 x46 x47 x48 y3)) n x44
  | 0, _ => rfl
  | n + 1, x44 => by
    rw [iter_succ, t8, show (fun x44 => iter (X K) 8 b8 n (s8 x42 x43 x44 x45 x46 x47 x48) k) = (fun x44 => l8 x42 x43 x45 x46 x47 x48 (fun y3 => k (o8 x42 x43 x45 x46 x47 x48 y3)) n x44) from funext fun x44 => i8 K k x42 x43 x45 x46 x47 x48 n x44]; rfl
theorem v8 {K : Res → Option Res} {l : List Lf} {k : St → Option Res} {r : Res} (h : p8 K l k = some r) : ∃ x42 x43 x44 x45 x46 x47 x48, l = [.i x42, .i x43, .i x44, .q (.ints x45), .q (.ints x46), .i x47, .q (.cells x48)] ∧ l8 x42 x43 x45 x46 x47 x48 (fun y3 => k (o8 x42 x43 x45 x46 x47 x48 y3)) fuel x44 = some r := by
  unfold p8 at h; split at h
  · exact ⟨_, _, _, _, _, _, _, rfl, h⟩
  · cases h
theorem t4 (K : Res → Option Res) (k : St → Option Res) (it : St → (St → Option Res) → Option Res) (x26 x27 x28 : Int) (x29 x30 : List Int) (x31 : Int) (x32 : List (List Cl)) : iterS (X K) 4 b4 it (s4 x26 x27 x28 x29 x30 x31 x32) k = l4s x26 x30 x31 x32 (fun x27 x28 x29 => it (s4 x26 x27 x28 x29 x30 x31 x32) k) (fun y2 y3 => k (o4 x26 x30 x31 x32 y2 y3)) x27 x28 x29 := by kernel_rfl
theorem i4 (K : Res → Option Res) (k : St → Option Res) (x26 : Int) (x30 : List Int) (x31 : Int) (x32 : List (List Cl)) : ∀ (n : Nat) (x27 x28 : Int) (x29 : List Int), iter (X K) 4 b4 n (s4 x26 x27 x28 x29 x30 x31 x32) k = l4 x26 x30 x31 x32 (fun y2 y3 => k (o4 x26 x30 x31 x32 y2 y3)) n x27 x28 x29
  | 0, _, _, _ => rfl
  | n + 1, x27, x28, x29 => by
    rw [iter_succ, t4, show (fun x27 x28 x29 => iter (X K) 4 b4 n (s4 x26 x27 x28 x29 x30 x31 x32) k) = (fun x27 x28 x29 => l4 x26 x30 x31 x32 (fun y2 y3 => k (o4 x26 x30 x31 x32 y2 y3)) n x27 x28 x29) from funext fun x27 => funext fun x28 => funext fun x29 => i4 K k x26 x30 x31 x32 n x27 x28 x29]; rfl
theorem v4 {K : Res → Option Res} {l : List Lf} {k : St → Option Res} {r : Res} (h : p4 K l k = some r) : ∃ x26 x27 x28 x29 x30 x31 x32, l = [.i x26, .i x27, .i x28, .q (.ints x29), .q (.ints x30), .i x31, .q (.cells x32)] ∧ l4 x26 x30 x31 x32 (fun y2 y3 => k (o4 x26 x30 x31 x32 y2 y3)) fuel x27 x28 x29 = some r := by
  unfold p4 at h; split at h
  · exact ⟨_, _, _, _, _, _, _, rfl, h⟩
  · cases h
theorem w8 (K : Res → Option Res) : LpSound Go.Proofs.Try.prog (X K) 8 b8 := lp_ok ((cx K).ok laid) (by rw [show loopsOf b8 = [] from by kernel_rfl]; intro p hp; cases hp) rfl fun p hp hid => by
  rcases List.mem_cons.1 hp with rfl | hp
  · exact absurd hid (by simp)
  rcases List.mem_cons.1 hp with rfl | hp
  · exact absurd hid (by simp)
  rcases List.mem_cons.1 hp with rfl | hp
  · exact absurd hid (by simp)
  rcases List.mem_cons.1 hp with rfl | hp
  · intro st k r h1 h2; obtain ⟨x42, x43, x44, x45, x46, x47, x48, e, h⟩ := v8 (K := K) h2; have := St.like_eq (y := s8 x42 x43 x44 x45 x46 x47 x48) h1 (by kernel_rfl) e; subst this; exact ⟨fuel, (i8 K k x42 x43 x45 x46 x47 x48 fuel x44).trans h⟩
  rcases List.mem_cons.1 hp with rfl | hp
  · exact absurd hid (by simp)
  cases hp
theorem w6 (K : Res → Option Res) : LpSound Go.Proofs.Try.prog (X K) 6 b6 := lp_ok ((cx K).ok laid) (by rw [show loopsOf b6 = [] from by kernel_rfl]; intro p hp; cases hp) rfl fun p hp hid => by
  rcases List.mem_cons.1 hp with rfl | hp
  · exact absurd hid (by simp)
  rcases List.mem_cons.1 hp with rfl | hp
  · exact absurd hid (by simp)
  rcases List.mem_cons.1 hp with rfl | hp
  · intro st k r h1 h2; obtain ⟨x33, x34, x35, x36, x37, x38, x39, e, h⟩ := v6 (K := K) h2; have := St.like_eq (y := s6 x33 x34 x35 x36 x37 x38 x39) h1 (by kernel_rfl) e; subst this; exact ⟨fuel, (i6 K k x33 x35 x36 x37 x38 x39 fuel x34).trans h⟩
  rcases List.mem_cons.1 hp with rfl | hp
  · exact absurd hid (by simp)
  rcases List.mem_cons.1 hp with rfl | hp
  · exact absurd hid (by simp)
  cases hp
theorem w4 (K : Res → Option Res) : LpSound Go.Proofs.Try.prog (X K) 4 b4 := lp_ok ((cx K).ok laid) (by
    rw [show loopsOf b4 = [(6, b6), (8, b8)] from by kernel_rfl]; intro p hp
    rcases List.mem_cons.1 hp with rfl | hp
    · exact w6 K
    rcases List.mem_cons.1 hp with rfl | hp
    · exact w8 K
    cases hp) rfl fun p hp hid => by
  rcases List.mem_cons.1 hp with rfl | hp
  · exact absurd hid (by simp)
  rcases List.mem_cons.1 hp with rfl | hp
  · exact absurd hid (by simp)
  rcases List.mem_cons.1 hp with rfl | hp
  · exact absurd hid (by simp)
  rcases List.mem_cons.1 hp with rfl | hp
  · exact absurd hid (by simp)
  rcases List.mem_cons.1 hp with rfl | hp
  · intro st k r h1 h2; obtain ⟨x26, x27, x28, x29, x30, x31, x32, e, h⟩ := v4 (K := K) h2; have := St.like_eq (y := s4 x26 x27 x28 x29 x30 x31 x32) h1 (by kernel_rfl) e; subst this; exact ⟨fuel, (i4 K k x26 x30 x31 x32 fuel x27 x28 x29).trans h⟩
  cases hp
theorem w2 (K : Res → Option Res) : LpSound Go.Proofs.Try.prog (X K) 2 b2 := lp_ok ((cx K).ok laid) (by rw [show loopsOf b2 = [] from by kernel_rfl]; intro p hp; cases hp) rfl fun p hp hid => by
  rcases List.mem_cons.1 hp with rfl | hp
  · exact absurd hid (by simp)
  rcases List.mem_cons.1 hp with rfl | hp
  · intro st k r h1 h2; obtain ⟨x17, x18, x19, x20, x21, x22, x23, e, h⟩ := v2 (K := K) h2; have := St.like_eq (y := s2 x17 x18 x19 x20 x21 x22 x23) h1 (by kernel_rfl) e; subst this; exact ⟨fuel, (i2 K k x17 x18 x20 x21 x22 x23 fuel x19).trans h⟩
  rcases List.mem_cons.1 hp with rfl | hp
  · exact absurd hid (by simp)
  rcases List.mem_cons.1 hp with rfl | hp
  · exact absurd hid (by simp)
  rcases List.mem_cons.1 hp with rfl | hp
  · exact absurd hid (by simp)
  cases hp
theorem w0 (K : Res → Option Res) : LpSound Go.Proofs.Try.prog (X K) 0 b0 := lp_ok ((cx K).ok laid) (by rw [show loopsOf b0 = [] from by kernel_rfl]; intro p hp; cases hp) rfl fun p hp hid => by
  rcases List.mem_cons.1 hp with rfl | hp
  · intro st k r h1 h2; obtain ⟨x8, x9, x10, x11, x12, x13, x14, e, h⟩ := v0 (K := K) h2; have := St.like_eq (y := s0 x8 x9 x10 x11 x12 x13 x14) h1 (by kernel_rfl) e; subst this; exact ⟨fuel, (i0 K k x8 x10 x11 x12 x13 x14 fuel x9).trans h⟩
  rcases List.mem_cons.1 hp with rfl | hp
  · exact absurd hid (by simp)
  rcases List.mem_cons.1 hp with rfl | hp
  · exact absurd hid (by simp)
  rcases List.mem_cons.1 hp with rfl | hp
  · exact absurd hid (by simp)
  rcases List.mem_cons.1 hp with rfl | hp
  · exact absurd hid (by simp)
  cases hp
theorem tie (K : Res → Option Res) (a1 a2 a3 : Int) (a4 a5 : List Int) (a6 : Int) (a7 : List (List Cl)) : exec (X K) c (entry 178 [one (.ow 0), one (.int .i64 a1), one (.int .i64 a2), one (.int .i64 a3), one (.fn 115 [0])] [⟨[.int .i64], .ints a4, true, 0⟩] [[.tr 2 2 [.int .i64] (.ints a5), .int .i64 a6, .tr 2 2 [.int .i64, .int .i64, .bool] (.cells a7)]]) (endK (X K)) = g a1 a2 a3 a4 a5 a6 a7 (fun r1 r2 r3 r4 r5 r6 => K (m r1 r2 r3 r4 r5 r6)) := Eq.trans (b := b a1 a2 a3 a4 a5 a6 a7 (fun r1 r2 r3 r4 r5 r6 => K (m r1 r2 r3 r4 r5 r6))) (by kernel_rfl) (by rw [e])
theorem runv {l : List Lf} {K : Res → Option Res} {r : Res} (h : run l K = some r) : ∃ a1 a2 a3 a4 a5 a6 a7, l = [.i a1, .i a2, .i a3, .q (.ints a4), .q (.ints a5), .i a6, .q (.cells a7)] ∧ g a1 a2 a3 a4 a5 a6 a7 (fun r1 r2 r3 r4 r5 r6 => K (m r1 r2 r3 r4 r5 r6)) = some r := by
  unfold run at h; split at h
  · exact ⟨_, _, _, _, _, _, _, rfl, h⟩
  · cases h
theorem ok : Con Go.Proofs.Try.prog con := con_of (fn := Go.Proofs.Try.f194) (c := c) (Fi := fi) (X := X) (fun_of laid (by kernel_rfl) (by kernel_rfl) (by kernel_rfl) rfl (by kernel_rfl) (by kernel_rfl) cx (fun _ => rfl) (fun _ => rfl) (fun K => by
    rw [show loopsOf c = [(0, b0), (2, b2), (4, b4), (6, b6), (8, b8)] from by kernel_rfl]; intro p hp
    rcases List.mem_cons.1 hp with rfl | hp
    · exact w0 K
    rcases List.mem_cons.1 hp with rfl | hp
    · exact w2 K
    rcases List.mem_cons.1 hp with rfl | hp
    · exact w4 K
    rcases List.mem_cons.1 hp with rfl | hp
    · exact w6 K
    rcases List.mem_cons.1 hp with rfl | hp
    · exact w8 K
    cases hp)) fun xs rows boxes K r hl hr => by
  obtain ⟨a1, a2, a3, a4, a5, a6, a7, e, h⟩ := runv hr
  have := St.like_eq (y := a a1 a2 a3 a4 a5 a6 a7) hl (by kernel_rfl) e
  obtain ⟨rfl, rfl, rfl⟩ := argSt_inj this
  exact (tie K a1 a2 a3 a4 a5 a6 a7).trans h
end slices_partitionCmpFunc_int
-- GROUP slices_pdqsortCmpFunc_int
namespace slices_pdqsortCmpFunc_int
noncomputable def c : Code := bodyOf Go.Proofs.Try.f166
noncomputable def fi : Fin := ⟨Γ0, [], [], [true], [([.sl [.int .i64] 8, .int .i64, .sl [.int .i64, .int .i64, .bool] 24], [0, 1, 0])], []⟩
noncomputable def m (r1 r2 : List Int) (r3 : Int) (r4 : List (List Cl)) : Res := ⟨[], [some ⟨[.int .i64], .ints r1, true, 0⟩], [], [[.tr 2 2 [.int .i64] (.ints r2), .int .i64 r3, .tr 2 2 [.int .i64, .int .i64, .bool] (.cells r4)]], []⟩
abbrev T : Type := Int → Int → Int → List Int → List Int → Int → List (List Cl) → (List Int → List Int → Int → List (List Cl) → Option Res) → Option Res
noncomputable def runz (h : T) : List Lf → (Res → Option Res) → Option Res
  | [.i a1, .i a2, .i a3, .q (.ints a4), .q (.ints a5), .i a6, .q (.cells a7)], K => h a1 a2 a3 a4 a5 a6 a7 (fun r1 r2 r3 r4 => K (m r1 r2 r3 r4))
  | _, _ => none
noncomputable def a (a1 a2 a3 : Int) (a4 a5 : List Int) (a6 : Int) (a7 : List (List Cl)) : St := argSt [one (.ow 0), one (.int .i64 a1), one (.int .i64 a2), one (.int .i64 a3), one (.fn 115 [0])] [⟨[.int .i64], .ints a4, true, 0⟩] [[.tr 2 2 [.int .i64] (.ints a5), .int .i64 a6, .tr 2 2 [.int .i64, .int .i64, .bool] (.cells a7)]]
noncomputable def conz (h : T) : FuncId × St × (List Lf → (Res → Option Res) → Option Res) := (166, a 0 0 0 [] [] 0 [], runz h)
end slices_pdqsortCmpFunc_int
abbrev Z_slices_pdqsortCmpFunc_int : Type := slices_pdqsortCmpFunc_int.T
def Gd_slices_pdqsortCmpFunc_int (z : Z_slices_pdqsortCmpFunc_int) : Prop := Con Go.Proofs.Try.prog (slices_pdqsortCmpFunc_int.conz z)
namespace slices_pdqsortCmpFunc_int
noncomputable def b0 : Code := codeAt c [1, 1, 0, 0]
noncomputable def s0 (x8 x9 x10 : Int) (x11 x12 : Bool) (x13 x14 : List Int) (x15 : Int) (x16 : List (List Cl)) : St := ⟨mkT 148 [(0, one (.ow 0)), (1, one (.int .i64 x8)), (2, one (.int .i64 x9)), (3, one (.int .i64 x10)), (4, one (.fn 115 [0])), (10, one (.bool x11)), (11, one (.bool x12))], [(0, ⟨[.int .i64], .ints x13, true, 0⟩)], [(0, [.tr 2 2 [.int .i64] (.ints x14), .int .i64 x15, .tr 2 2 [.int .i64, .int .i64, .bool] (.cells x16)])]⟩
noncomputable def j2 (z : Z_slices_pdqsortCmpFunc_int) (x8 x9 x40 : Int) (x52 x53 : List Int) (x54 : Int) (x55 : List (List Cl)) (x29 : Int) (x11 x12 : Bool) (rec : Int → Int → Int → Bool → Bool → List Int → List Int → Int → List (List Cl) → Option Res) (x57 : Bool) : Option Res :=
  bif x57 then (slices_partitionEqualCmpFunc_int.g x8 x9 x40 x52 x53 x54 x55 fun r58 r59 r60 r61 r62 =>
    rec r58 x9 x29 x11 x12 r59 r60 r61 r62)
  else (slices_partitionCmpFunc_int.g x8 x9 x40 x52 x53 x54 x55 fun r63 r64 r65 r66 r67 r68 =>
  bif decide (IntKind.i64.wrap (r63 - x8) < IntKind.i64.wrap (x9 - r63)) then (z x8 r63 x29 r65 r66 r67 r68 fun r69 r70 r71 r72 =>
    rec (IntKind.i64.wrap (r63 + 1)) x9 x29 (decide (IntKind.i64.wrap ((IntKind.i64.wrap (x9 - x8)).tdiv 8) ≤ IntKind.i64.wrap (r63 - x8))) r64 r69 r70 r71 r72)
  else (z (IntKind.i64.wrap (r63 + 1)) x9 x29 r65 r66 r67 r68 fun r73 r74 r75 r76 =>
  rec x8 r63 x29 (decide (IntKind.i64.wrap ((IntKind.i64.wrap (x9 - x8)).tdiv 8) ≤ IntKind.i64.wrap (x9 - r63))) r64 r73 r74 r75 r76))
noncomputable def j3 (z : Z_slices_pdqsortCmpFunc_int) (x8 x40 x9 x29 : Int) (x11 x12 : Bool) (rec : Int → Int → Int → Bool → Bool → List Int → List Int → Int → List (List Cl) → Option Res) (x52 x53 : List Int) (x54 : Int) (x55 : List (List Cl)) : Option Res :=
  bif decide (0 < x8) then (bif decide (0 ≤ IntKind.i64.wrap (x8 - 1)) && decide (IntKind.i64.wrap (x8 - 1) < (x52.length : Int)) then (bif decide (0 ≤ x40) && decide (x40 < (x52.length : Int)) then (impl_packed_1.g (x52.getD ((IntKind.i64.wrap (x8 - 1)).toNat) 0) (x52.getD x40.toNat 0) x53 x54 x55 fun r56 =>
        j2 z x8 x9 x40 x52 x53 x54 x55 x29 x11 x12 rec (!(decide (r56 < 0))))
      else none)
    else none)
  else j2 z x8 x9 x40 x52 x53 x54 x55 x29 x11 x12 rec false
noncomputable def j1 (z : Z_slices_pdqsortCmpFunc_int) (x8 x9 : Int) (x42 x43 : List Int) (x44 : Int) (x45 : List (List Cl)) (x40 x29 : Int) (x11 x12 : Bool) (rec : Int → Int → Int → Bool → Bool → List Int → List Int → Int → List (List Cl) → Option Res) (R : List Int → List Int → Int → List (List Cl) → Option Res) (x46 : Bool) : Option Res :=
  bif x46 then (slices_partialInsertionSortCmpFunc_int.g x8 x9 x42 x43 x44 x45 fun r47 r48 r49 r50 r51 =>
    bif r47 then R r48 r49 r50 r51
    else j3 z x8 x40 x9 x29 x11 x12 rec r48 r49 r50 r51)
  else j3 z x8 x40 x9 x29 x11 x12 rec x42 x43 x44 x45
noncomputable def j4 (z : Z_slices_pdqsortCmpFunc_int) (x11 x12 : Bool) (x8 x9 x29 : Int) (rec : Int → Int → Int → Bool → Bool → List Int → List Int → Int → List (List Cl) → Option Res) (R : List Int → List Int → Int → List (List Cl) → Option Res) (x40 x41 : Int) (x42 x43 : List Int) (x44 : Int) (x45 : List (List Cl)) : Option Res :=
  bif x11 then (bif x12 then j1 z x8 x9 x42 x43 x44 x45 x40 x29 x11 x12 rec R (x41 == 1)
    else j1 z x8 x9 x42 x43 x44 x45 x40 x29 x11 x12 rec R false)
  else j1 z x8 x9 x42 x43 x44 x45 x40 x29 x11 x12 rec R false
noncomputable def j5 (z : Z_slices_pdqsortCmpFunc_int) (x8 x9 : Int) (x11 x12 : Bool) (rec : Int → Int → Int → Bool → Bool → List Int → List Int → Int → List (List Cl) → Option Res) (R : List Int → List Int → Int → List (List Cl) → Option Res) (x29 : Int) (x30 x31 : List Int) (x32 : Int) (x33 : List (List Cl)) : Option Res :=
  slices_choosePivotCmpFunc_int.g x30 x8 x9 x31 x32 x33 fun r34 r35 =>
  bif (r35 == 2) then (slices_reverseRangeCmpFunc_int.g x8 x9 x30 x31 x32 x33 fun r36 r37 r38 r39 =>
    j4 z x11 x12 x8 x9 x29 rec R (IntKind.i64.wrap ((IntKind.i64.wrap (x9 - 1)) - (IntKind.i64.wrap (r34 - x8)))) 1 r36 r37 r38 r39)
  else j4 z x11 x12 x8 x9 x29 rec R r34 r35 x30 x31 x32 x33
noncomputable def l0s (z : Z_slices_pdqsortCmpFunc_int)  (rec : Int → Int → Int → Bool → Bool → List Int → List Int → Int → List (List Cl) → Option Res) (R : List Int → List Int → Int → List (List Cl) → Option Res) (x8 x9 x10 : Int) (x11 x12 : Bool) (x13 x14 : List Int) (x15 : Int) (x16 : List (List Cl)) : Option Res :=
  bif decide (IntKind.i64.wrap (x9 - x8) ≤ 12) then (slices_insertionSortCmpFunc_int.g x8 x9 x13 x14 x15 x16 fun r17 r18 r19 r20 =>
    R r17 r18 r19 r20)
  else bif (x10 == 0) then (slices_heapSortCmpFunc_int.g x8 x9 x13 x14 x15 x16 fun r21 r22 r23 r24 =>
    R r21 r22 r23 r24)
  else bif !x11 then (slices_breakPatternsCmpFunc_int.g x8 x9 x13 x14 x15 x16 fun r25 r26 r27 r28 =>
    j5 z x8 x9 x11 x12 rec R (IntKind.i64.wrap (x10 - 1)) r25 r26 r27 r28)
  else j5 z x8 x9 x11 x12 rec R x10 x13 x14 x15 x16
noncomputable def l0 (z : Z_slices_pdqsortCmpFunc_int)  (R : List Int → List Int → Int → List (List Cl) → Option Res) : Nat → Int → Int → Int → Bool → Bool → List Int → List Int → Int → List (List Cl) → Option Res
  | 0, _, _, _, _, _, _, _, _, _ => none
  | n + 1, x8, x9, x10, x11, x12, x13, x14, x15, x16 => l0s z (fun x8 x9 x10 x11 x12 x13 x14 x15 x16 => l0 z R n x8 x9 x10 x11 x12 x13 x14 x15 x16) R x8 x9 x10 x11 x12 x13 x14 x15 x16
noncomputable def p0 (z : Z_slices_pdqsortCmpFunc_int) (K : Res → Option Res) : List Lf → (St → Option Res) → Option Res
  | [.i x8, .i x9, .i x10, .b x11, .b x12, .q (.ints x13), .q (.ints x14), .i x15, .q (.cells x16)], k => l0 z (fun r1 r2 r3 r4 => K (m r1 r2 r3 r4)) fuel x8 x9 x10 x11 x12 x13 x14 x15 x16
  | _, _ => none
noncomputable def os (z : Z_slices_pdqsortCmpFunc_int) : List (FuncId × St × (List Lf → (Res → Option Res) → Option Res)) := [slices_insertionSortCmpFunc_int.con, slices_heapSortCmpFunc_int.con, slices_breakPatternsCmpFunc_int.con, slices_choosePivotCmpFunc_int.con, slices_reverseRangeCmpFunc_int.con, slices_partialInsertionSortCmpFunc_int.con, impl_packed_1.con, slices_partitionEqualCmpFunc_int.con, slices_partitionCmpFunc_int.con, slices_pdqsortCmpFunc_int.conz z]
noncomputable def X (z : Z_slices_pdqsortCmpFunc_int) (K : Res → Option Res) : Ctx := { Γ := Γ0, orc := orcOf (os z), io := [(187, [⟨true, 0, 1⟩, ⟨false, 0, 1⟩, ⟨false, 0, 1⟩, ⟨false, 0, 1⟩]), (188, [⟨true, 0, 1⟩, ⟨false, 0, 1⟩, ⟨false, 0, 1⟩, ⟨false, 0, 1⟩]), (189, [⟨true, 0, 1⟩, ⟨false, 0, 1⟩, ⟨false, 0, 1⟩, ⟨false, 0, 1⟩]), (191, [⟨true, 0, 1⟩, ⟨false, 0, 1⟩, ⟨false, 0, 1⟩, ⟨false, 0, 1⟩]), (192, [⟨true, 0, 1⟩, ⟨false, 0, 1⟩, ⟨false, 0, 1⟩, ⟨false, 0, 1⟩]), (193, [⟨true, 0, 1⟩, ⟨false, 0, 1⟩, ⟨false, 0, 1⟩, ⟨false, 0, 1⟩, ⟨false, 0, 1⟩]), (194, [⟨true, 0, 1⟩, ⟨false, 0, 1⟩, ⟨false, 0, 1⟩, ⟨false, 0, 1⟩, ⟨false, 0, 1⟩]), (166, [⟨true, 0, 1⟩, ⟨false, 0, 1⟩, ⟨false, 0, 1⟩, ⟨false, 0, 1⟩, ⟨false, 0, 1⟩])], share := [], mvl := [], bun := [], cut := [], own := [], cin := [(0, ⟨[0, 1, 2, 3, 4, 10, 11], [(0, 0)], [0], [], [], []⟩)], cout := [(0, ⟨[], [], [], [], [], []⟩)], lp := lpOf [(0, s0 0 0 0 false false [] [] 0 [], p0 z K)], kl := [], nk := true, eqs := eqs0, byt := byt0, fin := finK fi K }
noncomputable def g (z : Z_slices_pdqsortCmpFunc_int) (a1 a2 a3 : Int) (a4 a5 : List Int) (a6 : Int) (a7 : List (List Cl)) (R : List Int → List Int → Int → List (List Cl) → Option Res) : Option Res :=
  l0 z R fuel a1 a2 a3 true true a4 a5 a6 a7
theorem cx (z : Z_slices_pdqsortCmpFunc_int) (hz : Gd_slices_pdqsortCmpFunc_int z) (K : Res → Option Res) : CtxOk Go.Proofs.Try.prog Γ0 byt0 eqs0 (X z K) (os z) := ⟨rfl, rfl, rfl, (fun p hp => by
  rcases List.mem_cons.1 hp with rfl | hp
  · exact slices_insertionSortCmpFunc_int.ok
  rcases List.mem_cons.1 hp with rfl | hp
  · exact slices_heapSortCmpFunc_int.ok
  rcases List.mem_cons.1 hp with rfl | hp
  · exact slices_breakPatternsCmpFunc_int.ok
  rcases List.mem_cons.1 hp with rfl | hp
  · exact slices_choosePivotCmpFunc_int.ok
  rcases List.mem_cons.1 hp with rfl | hp
  · exact slices_reverseRangeCmpFunc_int.ok
  rcases List.mem_cons.1 hp with rfl | hp
  · exact slices_partialInsertionSortCmpFunc_int.ok
  rcases List.mem_cons.1 hp with rfl | hp
  · exact impl_packed_1.ok
  rcases List.mem_cons.1 hp with rfl | hp
  · exact slices_partitionEqualCmpFunc_int.ok
  rcases List.mem_cons.1 hp with rfl | hp
  · exact slices_partitionCmpFunc_int.ok
  rcases List.mem_cons.1 hp with rfl | hp
  · exact hz
  cases hp), rfl, rfl, rfl, rfl⟩
theorem t0 (z : Z_slices_pdqsortCmpFunc_int) (K : Res → Option Res) (k : St → Option Res) (it : St → (St → Option Res) → Option Res) (x8 x9 x10 : Int) (x11 x12 : Bool) (x13 x14 : List Int) (x15 : Int) (x16 : List (List Cl)) : iterS (X z K) 0 b0 it (s0 x8 x9 x10 x11 x12 x13 x14 x15 x16) k = l0s z (fun x8 x9 x10 x11 x12 x13 x14 x15 x16 => it (s0 x8 x9 x10 x11 x12 x13 x14 x15 x16) k) (fun r1 r2 r3 r4 => K (m r1 r2 r3 r4)) x8 x9 x10 x11 x12 x13 x14 x15 x16 := by kernel_rfl
theorem i0 (z : Z_slices_pdqsortCmpFunc_int) (K : Res → Option Res) (k : St → Option Res)  : ∀ (n : Nat) (x8 x9 x10 : Int) (x11 x12 : Bool) (x13 x14 : List Int) (x15 : Int) (x16 : List (List Cl)), iter (X z K) 0 b0 n (s0 x8 x9 x10 x11 x12 x13 x14 x15 x16) k = l0 z (fun r1 r2 r3 r4 => K (m r1 r2 r3 r4)) n x8 x9 x10 x11 x12 x13 x14 x15 x16
  | 0, _, _, _, _, _, _, _, _, _ => rfl
  | n + 1, x8, x9, x10, x11, x12, x13, x14, x15, x16 => by
    rw [iter_succ, t0 z, show (fun x8 x9 x10 x11 x12 x13 x14 x15 x16 => iter (X z K) 0 b0 n (s0 x8 x9 x10 x11 x12 x13 x14 x15 x16) k) = (fun x8 x9 x10 x11 x12 x13 x14 x15 x16 => l0 z (fun r1 r2 r3 r4 => K (m r1 r2 r3 r4)) n x8 x9 x10 x11 x12 x13 x14 x15 x16) from funext fun x8 => funext fun x9 => funext fun x10 => funext fun x11 => funext fun x12 => funext fun x13 => funext fun x14 => funext fun x15 => funext fun x16 => i0 z K k n x8 x9 x10 x11 x12 x13 x14 x15 x16]; rfl
theorem v0 (z : Z_slices_pdqsortCmpFunc_int) {K : Res → Option Res} {l : List Lf} {k : St → Option Res} {r : Res} (h : p0 z K l k = some r) : ∃ x8 x9 x10 x11 x12 x13 x14 x15 x16, l = [.i x8, .i x9, .i x10, .b x11, .b x12, .q (.ints x13), .q (.ints x14), .i x15, .q (.cells x16)] ∧ l0 z (fun r1 r2 r3 r4 => K (m r1 r2 r3 r4)) fuel x8 x9 x10 x11 x12 x13 x14 x15 x16 = some r := by
  unfold p0 at h; split at h
  · exact ⟨_, _, _, _, _, _, _, _, _, rfl, h⟩
  · cases h
theorem w0 (z : Z_slices_pdqsortCmpFunc_int) (hz : Gd_slices_pdqsortCmpFunc_int z) (K : Res → Option Res) : LpSound Go.Proofs.Try.prog (X z K) 0 b0 := lp_ok (((cx z hz) K).ok laid) (by rw [show loopsOf b0 = [] from by kernel_rfl]; intro p hp; cases hp) rfl fun p hp hid => by
  rcases List.mem_cons.1 hp with rfl | hp
  · intro st k r h1 h2; obtain ⟨x8, x9, x10, x11, x12, x13, x14, x15, x16, e, h⟩ := v0 z (K := K) h2; have := St.like_eq (y := s0 x8 x9 x10 x11 x12 x13 x14 x15 x16) h1 (by kernel_rfl) e; subst this; exact ⟨fuel, (i0 z K k fuel x8 x9 x10 x11 x12 x13 x14 x15 x16).trans h⟩
  cases hp
theorem tie (z : Z_slices_pdqsortCmpFunc_int) (K : Res → Option Res) (a1 a2 a3 : Int) (a4 a5 : List Int) (a6 : Int) (a7 : List (List Cl)) : exec (X z K) c (entry 148 [one (.ow 0), one (.int .i64 a1), one (.int .i64 a2), one (.int .i64 a3), one (.fn 115 [0])] [⟨[.int .i64], .ints a4, true, 0⟩] [[.tr 2 2 [.int .i64] (.ints a5), .int .i64 a6, .tr 2 2 [.int .i64, .int .i64, .bool] (.cells a7)]]) (endK (X z K)) = (g z) a1 a2 a3 a4 a5 a6 a7 (fun r1 r2 r3 r4 => K (m r1 r2 r3 r4)) := by kernel_rfl
theorem runv (z : Z_slices_pdqsortCmpFunc_int) {l : List Lf} {K : Res → Option Res} {r : Res} (h : runz (g z) l K = some r) : ∃ a1 a2 a3 a4 a5 a6 a7, l = [.i a1, .i a2, .i a3, .q (.ints a4), .q (.ints a5), .i a6, .q (.cells a7)] ∧ (g z) a1 a2 a3 a4 a5 a6 a7 (fun r1 r2 r3 r4 => K (m r1 r2 r3 r4)) = some r := by
  unfold runz at h; split at h
  · exact ⟨_, _, _, _, _, _, _, rfl, h⟩
  · cases h
theorem ok (z : Z_slices_pdqsortCmpFunc_int) (hz : Gd_slices_pdqsortCmpFunc_int z) : Con Go.Proofs.Try.prog (conz (g z)) := con_of (fn := Go.Proofs.Try.f166) (c := c) (Fi := fi) (X := X z) (fun_of laid (by kernel_rfl) (by kernel_rfl) (by kernel_rfl) rfl (by kernel_rfl) (by kernel_rfl) (cx z hz) (fun _ => rfl) (fun _ => rfl) (fun K => by
    rw [show loopsOf c = [(0, b0)] from by kernel_rfl]; intro p hp
    rcases List.mem_cons.1 hp with rfl | hp
    · exact w0 z hz K
    cases hp)) fun xs rows boxes K r hl hr => by
  obtain ⟨a1, a2, a3, a4, a5, a6, a7, e, h⟩ := runv z hr
  have := St.like_eq (y := a a1 a2 a3 a4 a5 a6 a7) hl (by kernel_rfl) e
  obtain ⟨rfl, rfl, rfl⟩ := argSt_inj this
  exact (tie z K a1 a2 a3 a4 a5 a6 a7).trans h
end slices_pdqsortCmpFunc_int
noncomputable def rec_slices_pdqsortCmpFunc_int : Nat → Z_slices_pdqsortCmpFunc_int
  | 0 => (fun _ _ _ _ _ _ _ _ => none)
  | n + 1 => slices_pdqsortCmpFunc_int.g (rec_slices_pdqsortCmpFunc_int n)
theorem good_slices_pdqsortCmpFunc_int : ∀ n, Gd_slices_pdqsortCmpFunc_int (rec_slices_pdqsortCmpFunc_int n)
  | 0 => con_none (fun l K => by show slices_pdqsortCmpFunc_int.runz (fun _ _ _ _ _ _ _ _ => none) l K = none; unfold slices_pdqsortCmpFunc_int.runz; split <;> rfl)
  | n + 1 => slices_pdqsortCmpFunc_int.ok _ (good_slices_pdqsortCmpFunc_int n)
namespace slices_pdqsortCmpFunc_int
noncomputable def gn (n : Nat) (a1 a2 a3 : Int) (a4 a5 : List Int) (a6 : Int) (a7 : List (List Cl)) (R : List Int → List Int → Int → List (List Cl) → Option Res) : Option Res := (rec_slices_pdqsortCmpFunc_int n) a1 a2 a3 a4 a5 a6 a7 R
theorem Gx : ∃ x : T, x = gn fuel := ⟨_, rfl⟩
noncomputable def G : T := Classical.choose Gx
theorem Ge : G = gn fuel := Classical.choose_spec Gx
theorem gn_succ (n : Nat) (a1 a2 a3 : Int) (a4 a5 : List Int) (a6 : Int) (a7 : List (List Cl)) (R : List Int → List Int → Int → List (List Cl) → Option Res) : gn (n + 1) a1 a2 a3 a4 a5 a6 a7 R = g (rec_slices_pdqsortCmpFunc_int n) a1 a2 a3 a4 a5 a6 a7 R := rfl
noncomputable def con : FuncId × St × (List Lf → (Res → Option Res) → Option Res) := conz G
theorem okG : Con Go.Proofs.Try.prog con := by
  unfold con; rw [Ge]; exact (good_slices_pdqsortCmpFunc_int fuel)
end slices_pdqsortCmpFunc_int
-- END GROUP
namespace slices_SortFunc_int_int
noncomputable def c : Code := bodyOf Go.Proofs.Try.f114
noncomputable def fi : Fin := ⟨Γ0, [], [], [true], [([.sl [.int .i64] 8, .int .i64, .sl [.int .i64, .int .i64, .bool] 24], [0, 1, 0])], []⟩
noncomputable def m (r1 r2 : List Int) (r3 : Int) (r4 : List (List Cl)) : Res := ⟨[], [some ⟨[.int .i64], .ints r1, true, 0⟩], [], [[.tr 2 2 [.int .i64] (.ints r2), .int .i64 r3, .tr 2 2 [.int .i64, .int .i64, .bool] (.cells r4)]], []⟩
noncomputable def os : List (FuncId × St × (List Lf → (Res → Option Res) → Option Res)) := [bits_Len.con, slices_pdqsortCmpFunc_int.con]
noncomputable def X (K : Res → Option Res) : Ctx := { Γ := Γ0, orc := orcOf os, io := [(166, [⟨true, 0, 1⟩, ⟨false, 0, 1⟩, ⟨false, 0, 1⟩, ⟨false, 0, 1⟩, ⟨false, 0, 1⟩])], share := [], mvl := [], bun := [], cut := [], own := [], cin := [], cout := [], lp := lpOf [], kl := [], nk := true, eqs := eqs0, byt := byt0, fin := finK fi K }
noncomputable def b (a1 a2 : List Int) (a3 : Int) (a4 : List (List Cl)) (R : List Int → List Int → Int → List (List Cl) → Option Res) : Option Res :=
  bits_Len.g (IntKind.u64.wrap (a1.length : Int)) fun r5 =>
  slices_pdqsortCmpFunc_int.G 0 (a1.length : Int) r5 a1 a2 a3 a4 fun r6 r7 r8 r9 =>
  R r6 r7 r8 r9
theorem gx : ∃ x : List Int → List Int → Int → List (List Cl) → (List Int → List Int → Int → List (List Cl) → Option Res) → Option Res, x = b := ⟨_, rfl⟩
noncomputable def g : List Int → List Int → Int → List (List Cl) → (List Int → List Int → Int → List (List Cl) → Option Res) → Option Res := Classical.choose gx
theorem e : g = b := Classical.choose_spec gx
noncomputable def run : List Lf → (Res → Option Res) → Option Res
  | [.q (.ints a1), .q (.ints a2), .i a3, .q (.cells a4)], K => g a1 a2 a3 a4 (fun r1 r2 r3 r4 => K (m r1 r2 r3 r4))
  | _, _ => none
noncomputable def a (a1 a2 : List Int) (a3 : Int) (a4 : List (List Cl)) : St := argSt [one (.ow 0), one (.fn 115 [0])] [⟨[.int .i64], .ints a1, true, 0⟩] [[.tr 2 2 [.int .i64] (.ints a2), .int .i64 a3, .tr 2 2 [.int .i64, .int .i64, .bool] (.cells a4)]]
noncomputable def con : FuncId × St × (List Lf → (Res → Option Res) → Option Res) := (114, a [] [] 0 [], run)
theorem cx (K : Res → Option Res) : CtxOk Go.Proofs.Try.prog Γ0 byt0 eqs0 (X K) os := ⟨rfl, rfl, rfl, (fun p hp => by
  rcases List.mem_cons.1 hp with rfl | hp
  · exact bits_Len.ok
  rcases List.mem_cons.1 hp with rfl | hp
  · exact slices_pdqsortCmpFunc_int.okG
  cases hp), rfl, rfl, rfl, rfl⟩
theorem tie (K : Res → Option Res) (a1 a2 : List Int) (a3 : Int) (a4 : List (List Cl)) : exec (X K) c (entry 14 [one (.ow 0), one (.fn 115 [0])] [⟨[.int .i64], .ints a1, true, 0⟩] [[.tr 2 2 [.int .i64] (.ints a2), .int .i64 a3, .tr 2 2 [.int .i64, .int .i64, .bool] (.cells a4)]]) (endK (X K)) = g a1 a2 a3 a4 (fun r1 r2 r3 r4 => K (m r1 r2 r3 r4)) := Eq.trans (b := b a1 a2 a3 a4 (fun r1 r2 r3 r4 => K (m r1 r2 r3 r4))) (by kernel_rfl) (by rw [e])
theorem runv {l : List Lf} {K : Res → Option Res} {r : Res} (h : run l K = some r) : ∃ a1 a2 a3 a4, l = [.q (.ints a1), .q (.ints a2), .i a3, .q (.cells a4)] ∧ g a1 a2 a3 a4 (fun r1 r2 r3 r4 => K (m r1 r2 r3 r4)) = some r := by
  unfold run at h; split at h
  · exact ⟨_, _, _, _, rfl, h⟩
  · cases h
theorem ok : Con Go.Proofs.Try.prog con := con_of (fn := Go.Proofs.Try.f114) (c := c) (Fi := fi) (X := X) (fun_of laid (by kernel_rfl) (by kernel_rfl) (by kernel_rfl) rfl (by kernel_rfl) (by kernel_rfl) cx (fun _ => rfl) (fun _ => rfl) (fun K => by
    rw [show loopsOf c = [] from by kernel_rfl]; intro p hp
    cases hp)) fun xs rows boxes K r hl hr => by
  obtain ⟨a1, a2, a3, a4, e, h⟩ := runv hr
  have := St.like_eq (y := a a1 a2 a3 a4) hl (by kernel_rfl) e
  obtain ⟨rfl, rfl, rfl⟩ := argSt_inj this
  exact (tie K a1 a2 a3 a4).trans h
end slices_SortFunc_int_int
namespace impl_packed
noncomputable def c : Code := bodyOf Go.Proofs.Try.f63
noncomputable def fi : Fin := ⟨Γ0, [(.cell 2 38, 38)], [[1, 1, 1]], [], [], []⟩
noncomputable def m (r1 : List Int) (r2 : Int) (r3 : List (List Cl)) : Res := ⟨[⟨true, [.ow 1000, .int .i64 r2, .ow 1001]⟩], [], [⟨[.int .i64], .ints r1, true, 0⟩, ⟨[.int .i64, .int .i64, .bool], .cells r3, true, 0⟩], [], []⟩
noncomputable def b0 : Code := codeAt c [1, 1, 0, 1, 0, 0]
noncomputable def b2 : Code := codeAt c [1, 1, 1, 1, 1, 0, 1, 0, 0]
noncomputable def s0 (x4 : List (List Cl)) (x5 x6 : Int) (x7 x8 : List Int) (x9 : Int) (x10 : List (List Cl)) (x11 : Int) : St := ⟨mkT 78 [(1, one (.bp 1000 0)), (2, one (.bp 1016 0)), (3, one (.ow 3056)), (11, one (.tr 2 2 [.int .i64, .int .i64, .bool] (.cells x4))), (12, one (.int .i64 x5)), (13, one (.int .i64 x6))], [(3056, ⟨[.int .i64], .ints x7, true, 0⟩)], [(1000, [.tr 2 2 [.int .i64] (.ints x8), .int .i64 x9, .tr 2 2 [.int .i64, .int .i64, .bool] (.cells x10)]), (1016, [.nil, .int .i64 x11, .nil])]⟩
noncomputable def l0s (x4 : List (List Cl)) (x5 : Int) (x8 : List Int) (x9 : Int) (x10 : List (List Cl)) (x11 : Int) (rec : Int → List Int → Option Res) (k : List Int → Option Res) (x6 : Int) (x7 : List Int) : Option Res :=
  bif decide (x6 < x5) then (bif decide (0 ≤ x6) && decide (x6 < (x4.length : Int)) then (bif ((x4.getD x6.toNat []).getD 2 (.i 0)).toB then (bif decide ((x7.length + 1) * 8 ≤ 140737488355328) then rec (IntKind.i64.wrap (x6 + 1)) (x7 ++ ([x6] : List Int))
        else none)
      else rec (IntKind.i64.wrap (x6 + 1)) x7)
    else none)
  else k x7
noncomputable def l0 (x4 : List (List Cl)) (x5 : Int) (x8 : List Int) (x9 : Int) (x10 : List (List Cl)) (x11 : Int) (k : List Int → Option Res) : Nat → Int → List Int → Option Res
  | 0, _, _ => none
  | n + 1, x6, x7 => l0s x4 x5 x8 x9 x10 x11 (fun x6 x7 => l0 x4 x5 x8 x9 x10 x11 k n x6 x7) k x6 x7
noncomputable def o0 (x4 : List (List Cl)) (x5 : Int) (x8 : List Int) (x9 : Int) (x10 : List (List Cl)) (x11 : Int) (y1 : List Int) : St := ⟨mkT 78 [(1, one (.bp 1000 0)), (2, one (.bp 1016 0)), (3, one (.ow 3056))], [(3056, ⟨[.int .i64], .ints y1, true, 0⟩)], [(1000, [.tr 2 2 [.int .i64] (.ints x8), .int .i64 x9, .tr 2 2 [.int .i64, .int .i64, .bool] (.cells x10)]), (1016, [.nil, .int .i64 x11, .nil])]⟩
noncomputable def p0 (K : Res → Option Res) : List Lf → (St → Option Res) → Option Res
  | [.q (.cells x4), .i x5, .i x6, .q (.ints x7), .q (.ints x8), .i x9, .q (.cells x10), .i x11], k => l0 x4 x5 x8 x9 x10 x11 (fun y1 => k (o0 x4 x5 x8 x9 x10 x11 y1)) fuel x6 x7
  | _, _ => none
noncomputable def s2 (x17 x18 : Int) (x19 x20 : List Int) (x21 : List (List Cl)) (x22 : List Int) (x23 : Int) (x24 : List (List Cl)) (x25 x26 : Int) : St := ⟨mkT 78 [(1, one (.bp 1000 0)), (2, one (.bp 1016 0)), (6, one (.bp 19560 0)), (36, one (.ow 3056)), (37, one (.int .i64 x17)), (38, one (.int .i64 x18))], [(3056, ⟨[.int .i64], .ints x19, true, 0⟩), (19480, ⟨[.int .i64], .ints x20, true, 0⟩), (19528, ⟨[.int .i64, .int .i64, .bool], .cells x21, true, 0⟩)], [(1000, [.tr 2 2 [.int .i64] (.ints x22), .int .i64 x23, .tr 2 2 [.int .i64, .int .i64, .bool] (.cells x24)]), (1016, [.nil, .int .i64 x25, .nil]), (19560, [.ow 19480, .int .i64 x26, .ow 19528])]⟩
noncomputable def l2s (x17 : Int) (x19 x22 : List Int) (x23 : Int) (x24 : List (List Cl)) (x25 : Int) (rec : Int → List Int → List (List Cl) → Int → Option Res) (k : List Int → List (List Cl) → Int → Option Res) (x18 : Int) (x20 : List Int) (x21 : List (List Cl)) (x26 : Int) : Option Res :=
  bif decide (x18 < x17) then (bif decide (0 ≤ x18) && decide (x18 < (x19.length : Int)) then (bif decide (0 ≤ x19.getD x18.toNat 0) && decide (x19.getD x18.toNat 0 < (x24.length : Int)) then (bif decide (0 ≤ x26) && decide (x26 ≤ (x20.length : Int)) then (bif decide (0 ≤ ((x24.getD ((x19.getD x18.toNat 0).toNat) []).getD 0 (.i 0)).toI) && decide (((x24.getD ((x19.getD x18.toNat 0).toNat) []).getD 0 (.i 0)).toI ≤ IntKind.i64.wrap ((((x24.getD ((x19.getD x18.toNat 0).toNat) []).getD 0 (.i 0)).toI) + (((x24.getD ((x19.getD x18.toNat 0).toNat) []).getD 1 (.i 0)).toI))) && decide (IntKind.i64.wrap ((((x24.getD ((x19.getD x18.toNat 0).toNat) []).getD 0 (.i 0)).toI) + (((x24.getD ((x19.getD x18.toNat 0).toNat) []).getD 1 (.i 0)).toI)) ≤ (x22.length : Int)) then (bif decide (((x22.drop ((((x24.getD ((x19.getD x18.toNat 0).toNat) []).getD 0 (.i 0)).toI).toNat)).take (((IntKind.i64.wrap ((((x24.getD ((x19.getD x18.toNat 0).toNat) []).getD 0 (.i 0)).toI) + (((x24.getD ((x19.getD x18.toNat 0).toNat) []).getD 1 (.i 0)).toI))).toNat) - ((((x24.getD ((x19.getD x18.toNat 0).toNat) []).getD 0 (.i 0)).toI).toNat))).length ≤ x20.length - x26.toNat) then (bif decide (0 ≤ x19.getD x18.toNat 0) && decide (x19.getD x18.toNat 0 < (x21.length : Int)) then rec (IntKind.i64.wrap (x18 + 1)) (overlay x20 x26.toNat ((x22.drop ((((x24.getD ((x19.getD x18.toNat 0).toNat) []).getD 0 (.i 0)).toI).toNat)).take (((IntKind.i64.wrap ((((x24.getD ((x19.getD x18.toNat 0).toNat) []).getD 0 (.i 0)).toI) + (((x24.getD ((x19.getD x18.toNat 0).toNat) []).getD 1 (.i 0)).toI))).toNat) - ((((x24.getD ((x19.getD x18.toNat 0).toNat) []).getD 0 (.i 0)).toI).toNat)))) (x21.set ((x19.getD x18.toNat 0).toNat) (splice (x21.getD ((x19.getD x18.toNat 0).toNat) []) 0 [.i x26])) (IntKind.i64.wrap (x26 + (((x24.getD ((x19.getD x18.toNat 0).toNat) []).getD 1 (.i 0)).toI)))
              else none)
            else bif decide (0 ≤ x19.getD x18.toNat 0) && decide (x19.getD x18.toNat 0 < (x21.length : Int)) then rec (IntKind.i64.wrap (x18 + 1)) (overlay x20 x26.toNat (((x22.drop ((((x24.getD ((x19.getD x18.toNat 0).toNat) []).getD 0 (.i 0)).toI).toNat)).take (((IntKind.i64.wrap ((((x24.getD ((x19.getD x18.toNat 0).toNat) []).getD 0 (.i 0)).toI) + (((x24.getD ((x19.getD x18.toNat 0).toNat) []).getD 1 (.i 0)).toI))).toNat) - ((((x24.getD ((x19.getD x18.toNat 0).toNat) []).getD 0 (.i 0)).toI).toNat))).take (x20.length - x26.toNat))) (x21.set ((x19.getD x18.toNat 0).toNat) (splice (x21.getD ((x19.getD x18.toNat 0).toNat) []) 0 [.i x26])) (IntKind.i64.wrap (x26 + (((x24.getD ((x19.getD x18.toNat 0).toNat) []).getD 1 (.i 0)).toI)))
            else none)
          else none)
        else none)
      else none)
    else none)
  else k x20 x21 x26
noncomputable def l2 (x17 : Int) (x19 x22 : List Int) (x23 : Int) (x24 : List (List Cl)) (x25 : Int) (k : List Int → List (List Cl) → Int → Option Res) : Nat → Int → List Int → List (List Cl) → Int → Option Res
  | 0, _, _, _, _ => none
  | n + 1, x18, x20, x21, x26 => l2s x17 x19 x22 x23 x24 x25 (fun x18 x20 x21 x26 => l2 x17 x19 x22 x23 x24 x25 k n x18 x20 x21 x26) k x18 x20 x21 x26
noncomputable def o2 (x17 : Int) (x19 x22 : List Int) (x23 : Int) (x24 : List (List Cl)) (x25 : Int) (y1 : List Int) (y2 : List (List Cl)) (y4 : Int) : St := ⟨mkT 78 [(2, one (.bp 1016 0)), (6, one (.bp 19560 0))], [(19480, ⟨[.int .i64], .ints y1, true, 0⟩), (19528, ⟨[.int .i64, .int .i64, .bool], .cells y2, true, 0⟩)], [(1016, [.nil, .int .i64 x25, .nil]), (19560, [.ow 19480, .int .i64 y4, .ow 19528])]⟩
noncomputable def p2 (K : Res → Option Res) : List Lf → (St → Option Res) → Option Res
  | [.i x17, .i x18, .q (.ints x19), .q (.ints x20), .q (.cells x21), .q (.ints x22), .i x23, .q (.cells x24), .i x25, .i x26], k => l2 x17 x19 x22 x23 x24 x25 (fun y1 y2 y4 => k (o2 x17 x19 x22 x23 x24 x25 y1 y2 y4)) fuel x18 x20 x21 x26
  | _, _ => none
noncomputable def os : List (FuncId × St × (List Lf → (Res → Option Res) → Option Res)) := [slices_SortFunc_int_int.con]
noncomputable def X (K : Res → Option Res) : Ctx := { Γ := Γ0, orc := orcOf os, io := [(114, [⟨true, 0, 1⟩, ⟨false, 0, 1⟩])], share := [], mvl := [], bun := [], cut := [], own := [(1, 0, 0, [.int .i64])], cin := [(0, ⟨[1, 2, 3, 11, 12, 13], [(3056, 3056), (13336, 3056)], [1000, 1016], [], [], []⟩), (2, ⟨[1, 2, 6, 36, 37, 38], [(3056, 3056), (19480, 19480), (19528, 19528)], [1000, 1016, 19560], [], [], []⟩)], cout := [(0, ⟨[1, 2, 3], [(3056, 3056)], [1000, 1016], [], [], []⟩), (2, ⟨[2, 6], [(19480, 19480), (19528, 19528)], [1016, 19560], [], [], []⟩)], lp := lpOf [(0, s0 [] 0 0 [] [] 0 [] 0, p0 K), (2, s2 0 0 [] [] [] [] 0 [] 0 0, p2 K)], kl := [], nk := true, eqs := eqs0, byt := byt0, fin := finK fi K }
noncomputable def b (a1 : List Int) (a2 : Int) (a3 : List (List Cl)) (R : List Int → Int → List (List Cl) → Option Res) : Option Res :=
  l0 a3 (a3.length : Int) a1 a2 a3 0 (fun y12 => 
  slices_SortFunc_int_int.g y12 a1 a2 a3 fun r13 r14 r15 r16 =>
  bif decide ((r14.length : Int) = (r14.length : Int)) && decide (0 ≤ (r14.length : Int)) && decide ((r14.length : Int) * 8 ≤ 140737488355328) then (bif decide (r16.length * 24 ≤ 140737488355328) then (l2 (r13.length : Int) r13 r14 r15 r16 0 (fun y27 y28 y29 => 
      R y27 y29 y28) fuel 0 (List.replicate ((r14.length : Int).toNat) 0) r16 0)
    else none)
  else none) fuel 0 ([] : List Int)
theorem gx : ∃ x : List Int → Int → List (List Cl) → (List Int → Int → List (List Cl) → Option Res) → Option Res, x = b := ⟨_, rfl⟩
noncomputable def g : List Int → Int → List (List Cl) → (List Int → Int → List (List Cl) → Option Res) → Option Res := Classical.choose gx
theorem e : g = b := Classical.choose_spec gx
noncomputable def run : List Lf → (Res → Option Res) → Option Res
  | [.q (.ints a1), .i a2, .q (.cells a3)], K => g a1 a2 a3 (fun r1 r2 r3 => K (m r1 r2 r3))
  | _, _ => none
noncomputable def a (a1 : List Int) (a2 : Int) (a3 : List (List Cl)) : St := argSt [.v ⟨true, [.tr 2 2 [.int .i64] (.ints a1), .int .i64 a2, .tr 2 2 [.int .i64, .int .i64, .bool] (.cells a3)]⟩] [] []
noncomputable def con : FuncId × St × (List Lf → (Res → Option Res) → Option Res) := (63, a [] 0 [], run)
theorem cx (K : Res → Option Res) : CtxOk Go.Proofs.Try.prog Γ0 byt0 eqs0 (X K) os := ⟨rfl, rfl, rfl, (fun p hp => by
  rcases List.mem_cons.1 hp with rfl | hp
  · exact slices_SortFunc_int_int.ok
  cases hp), rfl, rfl, rfl, rfl⟩
theorem t0 (K : Res → Option Res) (k : St → Option Res) (it : St → (St → Option Res) → Option Res) (x4 : List (List Cl)) (x5 x6 : Int) (x7 x8 : List Int) (x9 : Int) (x10 : List (List Cl)) (x11 : Int) : iterS (X K) 0 b0 it (s0 x4 x5 x6 x7 x8 x9 x10 x11) k = l0s x4 x5 x8 x9 x10 x11 (fun x6 x7 => it (s0 x4 x5 x6 x7 x8 x9 x10 x11) k) (fun y1 => k (o0 x4 x5 x8 x9 x10 x11 y1)) x6 x7 := by kernel_rfl
theorem i0 (K : Res → Option Res) (k : St → Option Res) (x4 : List (List Cl)) (x5 : Int) (x8 : List Int) (x9 : Int) (x10 : List (List Cl)) (x11 : Int) : ∀ (n : Nat) (x6 : Int) (x7 : List Int), iter (X K) 0 b0 n (s0 x4 x5 x6 x7 x8 x9 x10 x11) k = l0 x4 x5 x8 x9 x10 x11 (fun y1 => k (o0 x4 x5 x8 x9 x10 x11 y1)) n x6 x7
  | 0, _, _ => rfl
  | n + 1, x6, x7 => by
    rw [iter_succ, t0, show (fun x6 x7 => iter (X K) 0 b0 n (s0 x4 x5 x6 x7 x8 x9 x10 x11) k) = (fun x6 x7 => l0 x4 x5 x8 x9 x10 x11 (fun y1 => k (o0 x4 x5 x8 x9 x10 x11 y1)) n x6 x7) from funext fun x6 => funext fun x7 => i0 K k x4 x5 x8 x9 x10 x11 n x6 x7]; rfl
theorem v0 {K : Res → Option Res} {l : List Lf} {k : St → Option Res} {r : Res} (h : p0 K l k = some r) : ∃ x4 x5 x6 x7 x8 x9 x10 x11, l = [.q (.cells x4), .i x5, .i x6, .q (.ints x7), .q (.ints x8), .i x9, .q (.cells x10), .i x11] ∧ l0 x4 x5 x8 x9 x10 x11 (fun y1 => k (o0 x4 x5 x8 x9 x10 x11 y1)) fuel x6 x7 = some r := by
  unfold p0 at h; split at h
  · exact ⟨_, _, _, _, _, _, _, _, rfl, h⟩
  · cases h
theorem t2 (K : Res → Option Res) (k : St → Option Res) (it : St → (St → Option Res) → Option Res) (x17 x18 : Int) (x19 x20 : List Int) (x21 : List (List Cl)) (x22 : List Int) (x23 : Int) (x24 : List (List Cl)) (x25 x26 : Int) : iterS (X K) 2 b2 it (s2 x17 x18 x19 x20 x21 x22 x23 x24 x25 x26) k = l2s x17 x19 x22 x23 x24 x25 (fun x18 x20 x21 x26 => it (s2 x17 x18 x19 x20 x21 x22 x23 x24 x25 x26) k) (fun y1 y2 y4 => k (o2 x17 x19 x22 x23 x24 x25 y1 y2 y4)) x18 x20 x21 x26 := by kernel_rfl
theorem i2 (K : Res → Option Res) (k : St → Option Res) (x17 : Int) (x19 x22 : List Int) (x23 : Int) (x24 : List (List Cl)) (x25 : Int) : ∀ (n : Nat) (x18 : Int) (x20 : List Int) (x21 : List (List Cl)) (x26 : Int), iter (X K) 2 b2 n (s2 x17 x18 x19 x20 x21 x22 x23 x24 x25 x26) k = l2 x17 x19 x22 x23 x24 x25 (fun y1 y2 y4 => k (o2 x17 x19 x22 x23 x24 x25 y1 y2 y4)) n x18 x20 x21 x26
  | 0, _, _, _, _ => rfl
  | n + 1, x18, x20, x21, x26 => by
    rw [iter_succ, t2, show (fun x18 x20 x21 x26 => iter (X K) 2 b2 n (s2 x17 x18 x19 x20 x21 x22 x23 x24 x25 x26) k) = (fun x18 x20 x21 x26 => l2 x17 x19 x22 x23 x24 x25 (fun y1 y2 y4 => k (o2 x17 x19 x22 x23 x24 x25 y1 y2 y4)) n x18 x20 x21 x26) from funext fun x18 => funext fun x20 => funext fun x21 => funext fun x26 => i2 K k x17 x19 x22 x23 x24 x25 n x18 x20 x21 x26]; rfl
theorem v2 {K : Res → Option Res} {l : List Lf} {k : St → Option Res} {r : Res} (h : p2 K l k = some r) : ∃ x17 x18 x19 x20 x21 x22 x23 x24 x25 x26, l = [.i x17, .i x18, .q (.ints x19), .q (.ints x20), .q (.cells x21), .q (.ints x22), .i x23, .q (.cells x24), .i x25, .i x26] ∧ l2 x17 x19 x22 x23 x24 x25 (fun y1 y2 y4 => k (o2 x17 x19 x22 x23 x24 x25 y1 y2 y4)) fuel x18 x20 x21 x26 = some r := by
  unfold p2 at h; split at h
  · exact ⟨_, _, _, _, _, _, _, _, _, _, rfl, h⟩
  · cases h
theorem w2 (K : Res → Option Res) : LpSound Go.Proofs.Try.prog (X K) 2 b2 := lp_ok ((cx K).ok laid) (by rw [show loopsOf b2 = [] from by kernel_rfl]; intro p hp; cases hp) rfl fun p hp hid => by
  rcases List.mem_cons.1 hp with rfl | hp
  · exact absurd hid (by simp)
  rcases List.mem_cons.1 hp with rfl | hp
  · intro st k r h1 h2; obtain ⟨x17, x18, x19, x20, x21, x22, x23, x24, x25, x26, e, h⟩ := v2 (K := K) h2; have := St.like_eq (y := s2 x17 x18 x19 x20 x21 x22 x23 x24 x25 x26) h1 (by kernel_rfl) e; subst this; exact ⟨fuel, (i2 K k x17 x19 x22 x23 x24 x25 fuel x18 x20 x21 x26).trans h⟩
  cases hp
theorem w0 (K : Res → Option Res) : LpSound Go.Proofs.Try.prog (X K) 0 b0 := lp_ok ((cx K).ok laid) (by rw [show loopsOf b0 = [] from by kernel_rfl]; intro p hp; cases hp) rfl fun p hp hid => by
  rcases List.mem_cons.1 hp with rfl | hp
  · intro st k r h1 h2; obtain ⟨x4, x5, x6, x7, x8, x9, x10, x11, e, h⟩ := v0 (K := K) h2; have := St.like_eq (y := s0 x4 x5 x6 x7 x8 x9 x10 x11) h1 (by kernel_rfl) e; subst this; exact ⟨fuel, (i0 K k x4 x5 x8 x9 x10 x11 fuel x6 x7).trans h⟩
  rcases List.mem_cons.1 hp with rfl | hp
  · exact absurd hid (by simp)
  cases hp
theorem tie (K : Res → Option Res) (a1 : List Int) (a2 : Int) (a3 : List (List Cl)) : exec (X K) c (entry 78 [.v ⟨true, [.tr 2 2 [.int .i64] (.ints a1), .int .i64 a2, .tr 2 2 [.int .i64, .int .i64, .bool] (.cells a3)]⟩] [] []) (endK (X K)) = g a1 a2 a3 (fun r1 r2 r3 => K (m r1 r2 r3)) := Eq.trans (b := b a1 a2 a3 (fun r1 r2 r3 => K (m r1 r2 r3))) (by kernel_rfl) (by rw [e])
theorem runv {l : List Lf} {K : Res → Option Res} {r : Res} (h : run l K = some r) : ∃ a1 a2 a3, l = [.q (.ints a1), .i a2, .q (.cells a3)] ∧ g a1 a2 a3 (fun r1 r2 r3 => K (m r1 r2 r3)) = some r := by
  unfold run at h; split at h
  · exact ⟨_, _, _, rfl, h⟩
  · cases h
theorem ok : Con Go.Proofs.Try.prog con := con_of (fn := Go.Proofs.Try.f63) (c := c) (Fi := fi) (X := X) (fun_of laid (by kernel_rfl) (by kernel_rfl) (by kernel_rfl) rfl (by kernel_rfl) (by kernel_rfl) cx (fun _ => rfl) (fun _ => rfl) (fun K => by
    rw [show loopsOf c = [(0, b0), (2, b2)] from by kernel_rfl]; intro p hp
    rcases List.mem_cons.1 hp with rfl | hp
    · exact w0 K
    rcases List.mem_cons.1 hp with rfl | hp
    · exact w2 K
    cases hp)) fun xs rows boxes K r hl hr => by
  obtain ⟨a1, a2, a3, e, h⟩ := runv hr
  have := St.like_eq (y := a a1 a2 a3) hl (by kernel_rfl) e
  obtain ⟨rfl, rfl, rfl⟩ := argSt_inj this
  exact (tie K a1 a2 a3).trans h
end impl_packed
namespace impl_SizeOf
noncomputable def c : Code := bodyOf Go.Proofs.Try.f120
noncomputable def fi : Fin := ⟨Γ0, [(.tmp 2, 3)], [[1]], [], [], []⟩
noncomputable def m (r1 : Int) : Res := ⟨[⟨false, [.int .i64 r1]⟩], [], [], [], []⟩
noncomputable def b0 : Code := codeAt c [1, 1, 1, 0, 1, 0, 0]
noncomputable def s0 (x2 : Int) (x3 : List Int) (x4 x5 : Int) : St := ⟨mkT 25 [(3, one (.int .i64 x2)), (9, one (.tr 0 1 [.int .i64] (.ints x3))), (10, one (.int .i64 x4)), (11, one (.int .i64 x5))], [], []⟩
noncomputable def l0s (x3 : List Int) (x4 : Int) (rec : Int → Int → Option Res) (k : Int → Option Res) (R : Int → Option Res) (x2 x5 : Int) : Option Res :=
  bif decide (x5 < x4) then (bif decide (0 ≤ x5) && decide (x5 < (x3.length : Int)) then (impl_within.g (x3.getD x5.toNat 0) 0 300 fun r6 =>
      bif !r6 then R (-1)
      else rec (IntKind.i64.wrap (x2 * (x3.getD x5.toNat 0))) (IntKind.i64.wrap (x5 + 1)))
    else none)
  else k x2
noncomputable def l0 (x3 : List Int) (x4 : Int) (k : Int → Option Res) (R : Int → Option Res) : Nat → Int → Int → Option Res
  | 0, _, _ => none
  | n + 1, x2, x5 => l0s x3 x4 (fun x2 x5 => l0 x3 x4 k R n x2 x5) k R x2 x5
noncomputable def o0 (x3 : List Int) (x4 y1 : Int) : St := ⟨mkT 25 [(3, one (.int .i64 y1))], [], []⟩
noncomputable def p0 (K : Res → Option Res) : List Lf → (St → Option Res) → Option Res
  | [.i x2, .q (.ints x3), .i x4, .i x5], k => l0 x3 x4 (fun y1 => k (o0 x3 x4 y1)) (fun r1 => K (m r1)) fuel x2 x5
  | _, _ => none
noncomputable def os : List (FuncId × St × (List Lf → (Res → Option Res) → Option Res)) := [impl_within.con]
noncomputable def X (K : Res → Option Res) : Ctx := { Γ := Γ0, orc := orcOf os, io := [], share := [], mvl := [], bun := [], cut := [], own := [], cin := [(0, ⟨[3, 9, 10, 11], [], [], [], [], []⟩)], cout := [(0, ⟨[3], [], [], [], [], []⟩)], lp := lpOf [(0, s0 0 [] 0 0, p0 K)], kl := [], nk := true, eqs := eqs0, byt := byt0, fin := finK fi K }
noncomputable def b (a1 : List Int) (R : Int → Option Res) : Option Res :=
  bif decide (3 < (a1.length : Int)) then R (-1)
  else (l0 a1 (a1.length : Int) (fun y7 => 
  bif decide (300 < y7) then R (-1)
  else R y7) R fuel 1 0)
theorem gx : ∃ x : List Int → (Int → Option Res) → Option Res, x = b := ⟨_, rfl⟩
noncomputable def g : List Int → (Int → Option Res) → Option Res := Classical.choose gx
theorem e : g = b := Classical.choose_spec gx
noncomputable def run : List Lf → (Res → Option Res) → Option Res
  | [.q (.ints a1)], K => g a1 (fun r1 => K (m r1))
  | _, _ => none
noncomputable def a (a1 : List Int) : St := argSt [one (.tr 0 1 [.int .i64] (.ints a1))] [] []
noncomputable def con : FuncId × St × (List Lf → (Res → Option Res) → Option Res) := (120, a [], run)
theorem cx (K : Res → Option Res) : CtxOk Go.Proofs.Try.prog Γ0 byt0 eqs0 (X K) os := ⟨rfl, rfl, rfl, (fun p hp => by
  rcases List.mem_cons.1 hp with rfl | hp
  · exact impl_within.ok
  cases hp), rfl, rfl, rfl, rfl⟩
theorem t0 (K : Res → Option Res) (k : St → Option Res) (it : St → (St → Option Res) → Option Res) (x2 : Int) (x3 : List Int) (x4 x5 : Int) : iterS (X K) 0 b0 it (s0 x2 x3 x4 x5) k = l0s x3 x4 (fun x2 x5 => it (s0 x2 x3 x4 x5) k) (fun y1 => k (o0 x3 x4 y1)) (fun r1 => K (m r1)) x2 x5 := by kernel_rfl
theorem i0 (K : Res → Option Res) (k : St → Option Res) (x3 : List Int) (x4 : Int) : ∀ (n : Nat) (x2 x5 : Int), iter (X K) 0 b0 n (s0 x2 x3 x4 x5) k = l0 x3 x4 (fun y1 => k (o0 x3 x4 y1)) (fun r1 => K (m r1)) n x2 x5
  | 0, _, _ => rfl
  | n + 1, x2, x5 => by
    rw [iter_succ, t0, show (fun x2 x5 => iter (X K) 0 b0 n (s0 x2 x3 x4 x5) k) = (fun x2 x5 => l0 x3 x4 (fun y1 => k (o0 x3 x4 y1)) (fun r1 => K (m r1)) n x2 x5) from funext fun x2 => funext fun x5 => i0 K k x3 x4 n x2 x5]; rfl
theorem v0 {K : Res → Option Res} {l : List Lf} {k : St → Option Res} {r : Res} (h : p0 K l k = some r) : ∃ x2 x3 x4 x5, l = [.i x2, .q (.ints x3), .i x4, .i x5] ∧ l0 x3 x4 (fun y1 => k (o0 x3 x4 y1)) (fun r1 => K (m r1)) fuel x2 x5 = some r := by
  unfold p0 at h; split at h
  · exact ⟨_, _, _, _, rfl, h⟩
  · cases h
theorem w0 (K : Res → Option Res) : LpSound Go.Proofs.Try.prog (X K) 0 b0 := lp_ok ((cx K).ok laid) (by rw [show loopsOf b0 = [] from by kernel_rfl]; intro p hp; cases hp) rfl fun p hp hid => by
  rcases List.mem_cons.1 hp with rfl | hp
  · intro st k r h1 h2; obtain ⟨x2, x3, x4, x5, e, h⟩ := v0 (K := K) h2; have := St.like_eq (y := s0 x2 x3 x4 x5) h1 (by kernel_rfl) e; subst this; exact ⟨fuel, (i0 K k x3 x4 fuel x2 x5).trans h⟩
  cases hp
theorem tie (K : Res → Option Res) (a1 : List Int) : exec (X K) c (entry 25 [one (.tr 0 1 [.int .i64] (.ints a1))] [] []) (endK (X K)) = g a1 (fun r1 => K (m r1)) := Eq.trans (b := b a1 (fun r1 => K (m r1))) (by kernel_rfl) (by rw [e])
theorem runv {l : List Lf} {K : Res → Option Res} {r : Res} (h : run l K = some r) : ∃ a1, l = [.q (.ints a1)] ∧ g a1 (fun r1 => K (m r1)) = some r := by
  unfold run at h; split at h
  · exact ⟨_, rfl, h⟩
  · cases h
theorem ok : Con Go.Proofs.Try.prog con := con_of (fn := Go.Proofs.Try.f120) (c := c) (Fi := fi) (X := X) (fun_of laid (by kernel_rfl) (by kernel_rfl) (by kernel_rfl) rfl (by kernel_rfl) (by kernel_rfl) cx (fun _ => rfl) (fun _ => rfl) (fun K => by
    rw [show loopsOf c = [(0, b0)] from by kernel_rfl]; intro p hp
    rcases List.mem_cons.1 hp with rfl | hp
    · exact w0 K
    cases hp)) fun xs rows boxes K r hl hr => by
  obtain ⟨a1, e, h⟩ := runv hr
  have := St.like_eq (y := a a1) hl (by kernel_rfl) e
  obtain ⟨rfl, rfl, rfl⟩ := argSt_inj this
  exact (tie K a1).trans h
end impl_SizeOf
namespace impl_NumOk
noncomputable def c : Code := bodyOf Go.Proofs.Try.f123
noncomputable def fi : Fin := ⟨Γ0, [(.tmp 2, 4)], [[1]], [], [], []⟩
noncomputable def m (r1 : Bool) : Res := ⟨[⟨false, [.bool r1]⟩], [], [], [], []⟩
noncomputable def os : List (FuncId × St × (List Lf → (Res → Option Res) → Option Res)) := [impl_within.con]
noncomputable def X (K : Res → Option Res) : Ctx := { Γ := Γ0, orc := orcOf os, io := [], share := [], mvl := [], bun := [], cut := [], own := [], cin := [], cout := [], lp := lpOf [], kl := [], nk := true, eqs := eqs0, byt := byt0, fin := finK fi K }
noncomputable def b (a1 : Int) (R : Bool → Option Res) : Option Res :=
  impl_within.g a1 (-1000000000000) 1000000000000 fun r2 =>
  R r2
theorem gx : ∃ x : Int → (Bool → Option Res) → Option Res, x = b := ⟨_, rfl⟩
noncomputable def g : Int → (Bool → Option Res) → Option Res := Classical.choose gx
theorem e : g = b := Classical.choose_spec gx
noncomputable def run : List Lf → (Res → Option Res) → Option Res
  | [.i a1], K => g a1 (fun r1 => K (m r1))
  | _, _ => none
noncomputable def a (a1 : Int) : St := argSt [one (.int .i64 a1)] [] []
noncomputable def con : FuncId × St × (List Lf → (Res → Option Res) → Option Res) := (123, a 0, run)
theorem cx (K : Res → Option Res) : CtxOk Go.Proofs.Try.prog Γ0 byt0 eqs0 (X K) os := ⟨rfl, rfl, rfl, (fun p hp => by
  rcases List.mem_cons.1 hp with rfl | hp
  · exact impl_within.ok
  cases hp), rfl, rfl, rfl, rfl⟩
theorem tie (K : Res → Option Res) (a1 : Int) : exec (X K) c (entry 5 [one (.int .i64 a1)] [] []) (endK (X K)) = g a1 (fun r1 => K (m r1)) := Eq.trans (b := b a1 (fun r1 => K (m r1))) (by kernel_rfl) (by rw [e])
theorem runv {l : List Lf} {K : Res → Option Res} {r : Res} (h : run l K = some r) : ∃ a1, l = [.i a1] ∧ g a1 (fun r1 => K (m r1)) = some r := by
  unfold run at h; split at h
  · exact ⟨_, rfl, h⟩
  · cases h
theorem ok : Con Go.Proofs.Try.prog con := con_of (fn := Go.Proofs.Try.f123) (c := c) (Fi := fi) (X := X) (fun_of laid (by kernel_rfl) (by kernel_rfl) (by kernel_rfl) rfl (by kernel_rfl) (by kernel_rfl) cx (fun _ => rfl) (fun _ => rfl) (fun K => by
    rw [show loopsOf c = [] from by kernel_rfl]; intro p hp
    cases hp)) fun xs rows boxes K r hl hr => by
  obtain ⟨a1, e, h⟩ := runv hr
  have := St.like_eq (y := a a1) hl (by kernel_rfl) e
  obtain ⟨rfl, rfl, rfl⟩ := argSt_inj this
  exact (tie K a1).trans h
end impl_NumOk
namespace impl_ArrayOk_1
noncomputable def c : Code := bodyOf Go.Proofs.Try.f122
noncomputable def fi : Fin := ⟨Γ0, [(.tmp 2, 4)], [[1]], [], [], []⟩
noncomputable def m (r1 : Bool) : Res := ⟨[⟨false, [.bool r1]⟩], [], [], [], []⟩
noncomputable def os : List (FuncId × St × (List Lf → (Res → Option Res) → Option Res)) := [impl_NumOk.con]
noncomputable def X (K : Res → Option Res) : Ctx := { Γ := Γ0, orc := orcOf os, io := [], share := [], mvl := [], bun := [], cut := [], own := [], cin := [], cout := [], lp := lpOf [], kl := [], nk := true, eqs := eqs0, byt := byt0, fin := finK fi K }
noncomputable def b (a1 : Int) (R : Bool → Option Res) : Option Res :=
  impl_NumOk.g a1 fun r2 =>
  R (!r2)
theorem gx : ∃ x : Int → (Bool → Option Res) → Option Res, x = b := ⟨_, rfl⟩
noncomputable def g : Int → (Bool → Option Res) → Option Res := Classical.choose gx
theorem e : g = b := Classical.choose_spec gx
noncomputable def run : List Lf → (Res → Option Res) → Option Res
  | [.i a1], K => g a1 (fun r1 => K (m r1))
  | _, _ => none
noncomputable def a (a1 : Int) : St := argSt [one (.int .i64 a1)] [] []
noncomputable def con : FuncId × St × (List Lf → (Res → Option Res) → Option Res) := (122, a 0, run)
theorem cx (K : Res → Option Res) : CtxOk Go.Proofs.Try.prog Γ0 byt0 eqs0 (X K) os := ⟨rfl, rfl, rfl, (fun p hp => by
  rcases List.mem_cons.1 hp with rfl | hp
  · exact impl_NumOk.ok
  cases hp), rfl, rfl, rfl, rfl⟩
theorem tie (K : Res → Option Res) (a1 : Int) : exec (X K) c (entry 6 [one (.int .i64 a1)] [] []) (endK (X K)) = g a1 (fun r1 => K (m r1)) := Eq.trans (b := b a1 (fun r1 => K (m r1))) (by kernel_rfl) (by rw [e])
theorem runv {l : List Lf} {K : Res → Option Res} {r : Res} (h : run l K = some r) : ∃ a1, l = [.i a1] ∧ g a1 (fun r1 => K (m r1)) = some r := by
  unfold run at h; split at h
  · exact ⟨_, rfl, h⟩
  · cases h
theorem ok : Con Go.Proofs.Try.prog con := con_of (fn := Go.Proofs.Try.f122) (c := c) (Fi := fi) (X := X) (fun_of laid (by kernel_rfl) (by kernel_rfl) (by kernel_rfl) rfl (by kernel_rfl) (by kernel_rfl) cx (fun _ => rfl) (fun _ => rfl) (fun K => by
    rw [show loopsOf c = [] from by kernel_rfl]; intro p hp
    cases hp)) fun xs rows boxes K r hl hr => by
  obtain ⟨a1, e, h⟩ := runv hr
  have := St.like_eq (y := a a1) hl (by kernel_rfl) e
  obtain ⟨rfl, rfl, rfl⟩ := argSt_inj this
  exact (tie K a1).trans h
end impl_ArrayOk_1
namespace slices_IndexFunc_int_int
noncomputable def c : Code := bodyOf Go.Proofs.Try.f169
noncomputable def fi : Fin := ⟨Γ0, [(.tmp 4, 3)], [[1]], [], [], []⟩
noncomputable def m (r1 : Int) : Res := ⟨[⟨false, [.int .i64 r1]⟩], [], [], [], []⟩
noncomputable def b0 : Code := codeAt c [1, 0, 1, 0, 0]
noncomputable def s0 (x2 : List Int) (x3 x4 : Int) : St := ⟨mkT 19 [(0, one (.tr 0 1 [.int .i64] (.ints x2))), (1, one (.fn 122 [])), (7, one (.int .i64 x3)), (8, one (.int .i64 x4))], [], []⟩
noncomputable def l0s (x2 : List Int) (x3 : Int) (rec : Int → Option Res) (k : Option Res) (R : Int → Option Res) (x4 : Int) : Option Res :=
  bif decide (x4 < x3) then (bif decide (0 ≤ x4) && decide (x4 < (x2.length : Int)) then (impl_ArrayOk_1.g (x2.getD x4.toNat 0) fun r5 =>
      bif r5 then R x4
      else rec (IntKind.i64.wrap (x4 + 1)))
    else none)
  else k
noncomputable def l0 (x2 : List Int) (x3 : Int) (k : Option Res) (R : Int → Option Res) : Nat → Int → Option Res
  | 0, _ => none
  | n + 1, x4 => l0s x2 x3 (fun x4 => l0 x2 x3 k R n x4) k R x4
noncomputable def o0 (x2 : List Int) (x3 : Int) : St := ⟨mkT 19 [], [], []⟩
noncomputable def p0 (K : Res → Option Res) : List Lf → (St → Option Res) → Option Res
  | [.q (.ints x2), .i x3, .i x4], k => l0 x2 x3 (k (o0 x2 x3)) (fun r1 => K (m r1)) fuel x4
  | _, _ => none
noncomputable def os : List (FuncId × St × (List Lf → (Res → Option Res) → Option Res)) := [impl_ArrayOk_1.con]
noncomputable def X (K : Res → Option Res) : Ctx := { Γ := Γ0, orc := orcOf os, io := [], share := [], mvl := [], bun := [], cut := [], own := [], cin := [(0, ⟨[0, 1, 7, 8], [], [], [], [], []⟩)], cout := [(0, ⟨[], [], [], [], [], []⟩)], lp := lpOf [(0, s0 [] 0 0, p0 K)], kl := [], nk := true, eqs := eqs0, byt := byt0, fin := finK fi K }
noncomputable def b (a1 : List Int) (R : Int → Option Res) : Option Res :=
  l0 a1 (a1.length : Int) (
  R (-1)) R fuel 0
theorem gx : ∃ x : List Int → (Int → Option Res) → Option Res, x = b := ⟨_, rfl⟩
noncomputable def g : List Int → (Int → Option Res) → Option Res := Classical.choose gx
theorem e : g = b := Classical.choose_spec gx
noncomputable def run : List Lf → (Res → Option Res) → Option Res
  | [.q (.ints a1)], K => g a1 (fun r1 => K (m r1))
  | _, _ => none
noncomputable def a (a1 : List Int) : St := argSt [one (.tr 0 1 [.int .i64] (.ints a1)), one (.fn 122 [])] [] []
noncomputable def con : FuncId × St × (List Lf → (Res → Option Res) → Option Res) := (169, a [], run)
theorem cx (K : Res → Option Res) : CtxOk Go.Proofs.Try.prog Γ0 byt0 eqs0 (X K) os := ⟨rfl, rfl, rfl, (fun p hp => by
  rcases List.mem_cons.1 hp with rfl | hp
  · exact impl_ArrayOk_1.ok
  cases hp), rfl, rfl, rfl, rfl⟩
theorem t0 (K : Res → Option Res) (k : St → Option Res) (it : St → (St → Option Res) → Option Res) (x2 : List Int) (x3 x4 : Int) : iterS (X K) 0 b0 it (s0 x2 x3 x4) k = l0s x2 x3 (fun x4 => it (s0 x2 x3 x4) k) (k (o0 x2 x3)) (fun r1 => K (m r1)) x4 := by kernel_rfl
theorem i0 (K : Res → Option Res) (k : St → Option Res) (x2 : List Int) (x3 : Int) : ∀ (n : Nat) (x4 : Int), iter (X K) 0 b0 n (s0 x2 x3 x4) k = l0 x2 x3 (k (o0 x2 x3)) (fun r1 => K (m r1)) n x4
  | 0, _ => rfl
  | n + 1, x4 => by
    rw [iter_succ, t0, show (fun x4 => iter (X K) 0 b0 n (s0 x2 x3 x4) k) = (fun x4 => l0 x2 x3 (k (o0 x2 x3)) (fun r1 => K (m r1)) n x4) from funext fun x4 => i0 K k x2 x3 n x4]; rfl
theorem v0 {K : Res → Option Res} {l : List Lf} {k : St → Option Res} {r : Res} (h : p0 K l k = some r) : ∃ x2 x3 x4, l = [.q (.ints x2), .i x3, .i x4] ∧ l0 x2 x3 (k (o0 x2 x3)) (fun r1 => K (m r1)) fuel x4 = some r := by
  unfold p0 at h; split at h
  · exact ⟨_, _, _, rfl, h⟩
  · cases h
theorem w0 (K : Res → Option Res) : LpSound Go.Proofs.Try.prog (X K) 0 b0 := lp_ok ((cx K).ok laid) (by rw [show loopsOf b0 = [] from by kernel_rfl]; intro p hp; cases hp) rfl fun p hp hid => by
  rcases List.mem_cons.1 hp with rfl | hp
  · intro st k r h1 h2; obtain ⟨x2, x3, x4, e, h⟩ := v0 (K := K) h2; have := St.like_eq (y := s0 x2 x3 x4) h1 (by kernel_rfl) e; subst this; exact ⟨fuel, (i0 K k x2 x3 fuel x4).trans h⟩
  cases hp
theorem tie (K : Res → Option Res) (a1 : List Int) : exec (X K) c (entry 19 [one (.tr 0 1 [.int .i64] (.ints a1)), one (.fn 122 [])] [] []) (endK (X K)) = g a1 (fun r1 => K (m r1)) := Eq.trans (b := b a1 (fun r1 => K (m r1))) (by kernel_rfl) (by rw [e])
theorem runv {l : List Lf} {K : Res → Option Res} {r : Res} (h : run l K = some r) : ∃ a1, l = [.q (.ints a1)] ∧ g a1 (fun r1 => K (m r1)) = some r := by
  unfold run at h; split at h
  · exact ⟨_, rfl, h⟩
  · cases h
theorem ok : Con Go.Proofs.Try.prog con := con_of (fn := Go.Proofs.Try.f169) (c := c) (Fi := fi) (X := X) (fun_of laid (by kernel_rfl) (by kernel_rfl) (by kernel_rfl) rfl (by kernel_rfl) (by kernel_rfl) cx (fun _ => rfl) (fun _ => rfl) (fun K => by
    rw [show loopsOf c = [(0, b0)] from by kernel_rfl]; intro p hp
    rcases List.mem_cons.1 hp with rfl | hp
    · exact w0 K
    cases hp)) fun xs rows boxes K r hl hr => by
  obtain ⟨a1, e, h⟩ := runv hr
  have := St.like_eq (y := a a1) hl (by kernel_rfl) e
  obtain ⟨rfl, rfl, rfl⟩ := argSt_inj this
  exact (tie K a1).trans h
end slices_IndexFunc_int_int
namespace slices_ContainsFunc_int_int
noncomputable def c : Code := bodyOf Go.Proofs.Try.f121
noncomputable def fi : Fin := ⟨Γ0, [(.tmp 4, 4)], [[1]], [], [], []⟩
noncomputable def m (r1 : Bool) : Res := ⟨[⟨false, [.bool r1]⟩], [], [], [], []⟩
noncomputable def os : List (FuncId × St × (List Lf → (Res → Option Res) → Option Res)) := [slices_IndexFunc_int_int.con]
noncomputable def X (K : Res → Option Res) : Ctx := { Γ := Γ0, orc := orcOf os, io := [], share := [], mvl := [], bun := [], cut := [], own := [], cin := [], cout := [], lp := lpOf [], kl := [], nk := true, eqs := eqs0, byt := byt0, fin := finK fi K }
noncomputable def b (a1 : List Int) (R : Bool → Option Res) : Option Res :=
  slices_IndexFunc_int_int.g a1 fun r2 =>
  R (decide (0 ≤ r2))
theorem gx : ∃ x : List Int → (Bool → Option Res) → Option Res, x = b := ⟨_, rfl⟩
noncomputable def g : List Int → (Bool → Option Res) → Option Res := Classical.choose gx
theorem e : g = b := Classical.choose_spec gx
noncomputable def run : List Lf → (Res → Option Res) → Option Res
  | [.q (.ints a1)], K => g a1 (fun r1 => K (m r1))
  | _, _ => none
noncomputable def a (a1 : List Int) : St := argSt [one (.tr 0 1 [.int .i64] (.ints a1)), one (.fn 122 [])] [] []
noncomputable def con : FuncId × St × (List Lf → (Res → Option Res) → Option Res) := (121, a [], run)
theorem cx (K : Res → Option Res) : CtxOk Go.Proofs.Try.prog Γ0 byt0 eqs0 (X K) os := ⟨rfl, rfl, rfl, (fun p hp => by
  rcases List.mem_cons.1 hp with rfl | hp
  · exact slices_IndexFunc_int_int.ok
  cases hp), rfl, rfl, rfl, rfl⟩
theorem tie (K : Res → Option Res) (a1 : List Int) : exec (X K) c (entry 9 [one (.tr 0 1 [.int .i64] (.ints a1)), one (.fn 122 [])] [] []) (endK (X K)) = g a1 (fun r1 => K (m r1)) := Eq.trans (b := b a1 (fun r1 => K (m r1))) (by kernel_rfl) (by rw [e])
theorem runv {l : List Lf} {K : Res → Option Res} {r : Res} (h : run l K = some r) : ∃ a1, l = [.q (.ints a1)] ∧ g a1 (fun r1 => K (m r1)) = some r := by
  unfold run at h; split at h
  · exact ⟨_, rfl, h⟩
  · cases h
theorem ok : Con Go.Proofs.Try.prog con := con_of (fn := Go.Proofs.Try.f121) (c := c) (Fi := fi) (X := X) (fun_of laid (by kernel_rfl) (by kernel_rfl) (by kernel_rfl) rfl (by kernel_rfl) (by kernel_rfl) cx (fun _ => rfl) (fun _ => rfl) (fun K => by
    rw [show loopsOf c = [] from by kernel_rfl]; intro p hp
    cases hp)) fun xs rows boxes K r hl hr => by
  obtain ⟨a1, e, h⟩ := runv hr
  have := St.like_eq (y := a a1) hl (by kernel_rfl) e
  obtain ⟨rfl, rfl, rfl⟩ := argSt_inj this
  exact (tie K a1).trans h
end slices_ContainsFunc_int_int
namespace impl_ArrayOk
noncomputable def c : Code := bodyOf Go.Proofs.Try.f70
noncomputable def fi : Fin := ⟨Γ0, [(.tmp 2, 4)], [[1]], [], [], []⟩
noncomputable def m (r1 : Bool) : Res := ⟨[⟨false, [.bool r1]⟩], [], [], [], []⟩
noncomputable def os : List (FuncId × St × (List Lf → (Res → Option Res) → Option Res)) := [impl_SizeOf.con, slices_ContainsFunc_int_int.con]
noncomputable def X (K : Res → Option Res) : Ctx := { Γ := Γ0, orc := orcOf os, io := [], share := [], mvl := [], bun := [], cut := [], own := [], cin := [], cout := [], lp := lpOf [], kl := [], nk := true, eqs := eqs0, byt := byt0, fin := finK fi K }
noncomputable def b (a1 a2 : List Int) (R : Bool → Option Res) : Option Res :=
  impl_SizeOf.g a1 fun r3 =>
  bif ((a2.length : Int) == r3) then (slices_ContainsFunc_int_int.g a2 fun r4 =>
    R (!r4))
  else R false
theorem gx : ∃ x : List Int → List Int → (Bool → Option Res) → Option Res, x = b := ⟨_, rfl⟩
noncomputable def g : List Int → List Int → (Bool → Option Res) → Option Res := Classical.choose gx
theorem e : g = b := Classical.choose_spec gx
noncomputable def run : List Lf → (Res → Option Res) → Option Res
  | [.q (.ints a1), .q (.ints a2)], K => g a1 a2 (fun r1 => K (m r1))
  | _, _ => none
noncomputable def a (a1 a2 : List Int) : St := argSt [.v ⟨true, [.tr 0 1 [.int .i64] (.ints a1), .tr 0 1 [.int .i64] (.ints a2)]⟩] [] []
noncomputable def con : FuncId × St × (List Lf → (Res → Option Res) → Option Res) := (70, a [] [], run)
theorem cx (K : Res → Option Res) : CtxOk Go.Proofs.Try.prog Γ0 byt0 eqs0 (X K) os := ⟨rfl, rfl, rfl, (fun p hp => by
  rcases List.mem_cons.1 hp with rfl | hp
  · exact impl_SizeOf.ok
  rcases List.mem_cons.1 hp with rfl | hp
  · exact slices_ContainsFunc_int_int.ok
  cases hp), rfl, rfl, rfl, rfl⟩
theorem tie (K : Res → Option Res) (a1 a2 : List Int) : exec (X K) c (entry 16 [.v ⟨true, [.tr 0 1 [.int .i64] (.ints a1), .tr 0 1 [.int .i64] (.ints a2)]⟩] [] []) (endK (X K)) = g a1 a2 (fun r1 => K (m r1)) := Eq.trans (b := b a1 a2 (fun r1 => K (m r1))) (by kernel_rfl) (by rw [e])
theorem runv {l : List Lf} {K : Res → Option Res} {r : Res} (h : run l K = some r) : ∃ a1 a2, l = [.q (.ints a1), .q (.ints a2)] ∧ g a1 a2 (fun r1 => K (m r1)) = some r := by
  unfold run at h; split at h
  · exact ⟨_, _, rfl, h⟩
  · cases h
theorem ok : Con Go.Proofs.Try.prog con := con_of (fn := Go.Proofs.Try.f70) (c := c) (Fi := fi) (X := X) (fun_of laid (by kernel_rfl) (by kernel_rfl) (by kernel_rfl) rfl (by kernel_rfl) (by kernel_rfl) cx (fun _ => rfl) (fun _ => rfl) (fun K => by
    rw [show loopsOf c = [] from by kernel_rfl]; intro p hp
    cases hp)) fun xs rows boxes K r hl hr => by
  obtain ⟨a1, a2, e, h⟩ := runv hr
  have := St.like_eq (y := a a1 a2) hl (by kernel_rfl) e
  obtain ⟨rfl, rfl, rfl⟩ := argSt_inj this
  exact (tie K a1 a2).trans h
end impl_ArrayOk
namespace laws_szIntS
noncomputable def c : Code := bodyOf Go.Proofs.Try.f77
noncomputable def fi : Fin := ⟨Γ0, [(.tmp 4, 3)], [[1]], [], [], []⟩
noncomputable def m (r1 : Int) : Res := ⟨[⟨false, [.int .i64 r1]⟩], [], [], [], []⟩
noncomputable def os : List (FuncId × St × (List Lf → (Res → Option Res) → Option Res)) := []
noncomputable def X (K : Res → Option Res) : Ctx := { Γ := Γ0, orc := orcOf os, io := [], share := [], mvl := [], bun := [], cut := [], own := [], cin := [], cout := [], lp := lpOf [], kl := [], nk := true, eqs := eqs0, byt := byt0, fin := finK fi K }
noncomputable def b (a1 : List Int) (a2 : Int) (R : Int → Option Res) : Option Res :=
  bif decide (IntKind.i64.wrap (a2 - (a1.length : Int)) < 0) then R (-1)
  else R (IntKind.i64.wrap (a2 - (a1.length : Int)))
theorem gx : ∃ x : List Int → Int → (Int → Option Res) → Option Res, x = b := ⟨_, rfl⟩
noncomputable def g : List Int → Int → (Int → Option Res) → Option Res := Classical.choose gx
theorem e : g = b := Classical.choose_spec gx
noncomputable def run : List Lf → (Res → Option Res) → Option Res
  | [.q (.ints a1), .i a2], K => g a1 a2 (fun r1 => K (m r1))
  | _, _ => none
noncomputable def a (a1 : List Int) (a2 : Int) : St := argSt [one (.tr 0 1 [.int .i64] (.ints a1)), one (.int .i64 a2)] [] []
noncomputable def con : FuncId × St × (List Lf → (Res → Option Res) → Option Res) := (77, a [] 0, run)
theorem cx (K : Res → Option Res) : CtxOk Go.Proofs.Try.prog Γ0 byt0 eqs0 (X K) os := ⟨rfl, rfl, rfl, (fun p hp => by
  cases hp), rfl, rfl, rfl, rfl⟩
theorem tie (K : Res → Option Res) (a1 : List Int) (a2 : Int) : exec (X K) c (entry 12 [one (.tr 0 1 [.int .i64] (.ints a1)), one (.int .i64 a2)] [] []) (endK (X K)) = g a1 a2 (fun r1 => K (m r1)) := Eq.trans (b := b a1 a2 (fun r1 => K (m r1))) (by kernel_rfl) (by rw [e])
theorem runv {l : List Lf} {K : Res → Option Res} {r : Res} (h : run l K = some r) : ∃ a1 a2, l = [.q (.ints a1), .i a2] ∧ g a1 a2 (fun r1 => K (m r1)) = some r := by
  unfold run at h; split at h
  · exact ⟨_, _, rfl, h⟩
  · cases h
theorem ok : Con Go.Proofs.Try.prog con := con_of (fn := Go.Proofs.Try.f77) (c := c) (Fi := fi) (X := X) (fun_of laid (by kernel_rfl) (by kernel_rfl) (by kernel_rfl) rfl (by kernel_rfl) (by kernel_rfl) cx (fun _ => rfl) (fun _ => rfl) (fun K => by
    rw [show loopsOf c = [] from by kernel_rfl]; intro p hp
    cases hp)) fun xs rows boxes K r hl hr => by
  obtain ⟨a1, a2, e, h⟩ := runv hr
  have := St.like_eq (y := a a1 a2) hl (by kernel_rfl) e
  obtain ⟨rfl, rfl, rfl⟩ := argSt_inj this
  exact (tie K a1 a2).trans h
end laws_szIntS
namespace laws_szCellS
noncomputable def c : Code := bodyOf Go.Proofs.Try.f78
noncomputable def fi : Fin := ⟨Γ0, [(.tmp 4, 3)], [[1]], [], [], []⟩
noncomputable def m (r1 : Int) : Res := ⟨[⟨false, [.int .i64 r1]⟩], [], [], [], []⟩
noncomputable def os : List (FuncId × St × (List Lf → (Res → Option Res) → Option Res)) := []
noncomputable def X (K : Res → Option Res) : Ctx := { Γ := Γ0, orc := orcOf os, io := [], share := [], mvl := [], bun := [], cut := [], own := [], cin := [], cout := [], lp := lpOf [], kl := [], nk := true, eqs := eqs0, byt := byt0, fin := finK fi K }
noncomputable def b (a1 : List (List Cl)) (a2 : Int) (R : Int → Option Res) : Option Res :=
  bif decide (IntKind.i64.wrap (a2 - (a1.length : Int)) < 0) then R (-1)
  else R (IntKind.i64.wrap (a2 - (a1.length : Int)))
theorem gx : ∃ x : List (List Cl) → Int → (Int → Option Res) → Option Res, x = b := ⟨_, rfl⟩
noncomputable def g : List (List Cl) → Int → (Int → Option Res) → Option Res := Classical.choose gx
theorem e : g = b := Classical.choose_spec gx
noncomputable def run : List Lf → (Res → Option Res) → Option Res
  | [.q (.cells a1), .i a2], K => g a1 a2 (fun r1 => K (m r1))
  | _, _ => none
noncomputable def a (a1 : List (List Cl)) (a2 : Int) : St := argSt [one (.tr 0 1 [.int .i64, .int .i64, .bool] (.cells a1)), one (.int .i64 a2)] [] []
noncomputable def con : FuncId × St × (List Lf → (Res → Option Res) → Option Res) := (78, a [] 0, run)
theorem cx (K : Res → Option Res) : CtxOk Go.Proofs.Try.prog Γ0 byt0 eqs0 (X K) os := ⟨rfl, rfl, rfl, (fun p hp => by
  cases hp), rfl, rfl, rfl, rfl⟩
theorem tie (K : Res → Option Res) (a1 : List (List Cl)) (a2 : Int) : exec (X K) c (entry 12 [one (.tr 0 1 [.int .i64, .int .i64, .bool] (.cells a1)), one (.int .i64 a2)] [] []) (endK (X K)) = g a1 a2 (fun r1 => K (m r1)) := Eq.trans (b := b a1 a2 (fun r1 => K (m r1))) (by kernel_rfl) (by rw [e])
theorem runv {l : List Lf} {K : Res → Option Res} {r : Res} (h : run l K = some r) : ∃ a1 a2, l = [.q (.cells a1), .i a2] ∧ g a1 a2 (fun r1 => K (m r1)) = some r := by
  unfold run at h; split at h
  · exact ⟨_, _, rfl, h⟩
  · cases h
theorem ok : Con Go.Proofs.Try.prog con := con_of (fn := Go.Proofs.Try.f78) (c := c) (Fi := fi) (X := X) (fun_of laid (by kernel_rfl) (by kernel_rfl) (by kernel_rfl) rfl (by kernel_rfl) (by kernel_rfl) cx (fun _ => rfl) (fun _ => rfl) (fun K => by
    rw [show loopsOf c = [] from by kernel_rfl]; intro p hp
    cases hp)) fun xs rows boxes K r hl hr => by
  obtain ⟨a1, a2, e, h⟩ := runv hr
  have := St.like_eq (y := a a1 a2) hl (by kernel_rfl) e
  obtain ⟨rfl, rfl, rfl⟩ := argSt_inj this
  exact (tie K a1 a2).trans h
end laws_szCellS
namespace laws_szHeap
noncomputable def c : Code := bodyOf Go.Proofs.Try.f31
noncomputable def fi : Fin := ⟨Γ0, [(.tmp 4, 3)], [[1]], [], [], []⟩
noncomputable def m (r1 : Int) : Res := ⟨[⟨false, [.int .i64 r1]⟩], [], [], [], []⟩
noncomputable def os : List (FuncId × St × (List Lf → (Res → Option Res) → Option Res)) := [laws_szIntS.con, laws_szCellS.con]
noncomputable def X (K : Res → Option Res) : Ctx := { Γ := Γ0, orc := orcOf os, io := [], share := [], mvl := [], bun := [], cut := [], own := [], cin := [], cout := [], lp := lpOf [], kl := [], nk := true, eqs := eqs0, byt := byt0, fin := finK fi K }
noncomputable def b (a1 : List Int) (a2 : Int) (a3 : List (List Cl)) (a4 : Int) (R : Int → Option Res) : Option Res :=
  laws_szIntS.g a1 a4 fun r5 =>
  bif decide (r5 < 0) then R (-1)
  else (laws_szCellS.g a3 r5 fun r6 =>
  bif decide (r6 < 0) then R (-1)
  else R r6)
theorem gx : ∃ x : List Int → Int → List (List Cl) → Int → (Int → Option Res) → Option Res, x = b := ⟨_, rfl⟩
noncomputable def g : List Int → Int → List (List Cl) → Int → (Int → Option Res) → Option Res := Classical.choose gx
theorem e : g = b := Classical.choose_spec gx
noncomputable def run : List Lf → (Res → Option Res) → Option Res
  | [.q (.ints a1), .i a2, .q (.cells a3), .i a4], K => g a1 a2 a3 a4 (fun r1 => K (m r1))
  | _, _ => none
noncomputable def a (a1 : List Int) (a2 : Int) (a3 : List (List Cl)) (a4 : Int) : St := argSt [.v ⟨true, [.tr 0 1 [.int .i64] (.ints a1), .int .i64 a2, .tr 0 1 [.int .i64, .int .i64, .bool] (.cells a3)]⟩, one (.int .i64 a4)] [] []
noncomputable def con : FuncId × St × (List Lf → (Res → Option Res) → Option Res) := (31, a [] 0 [] 0, run)
theorem cx (K : Res → Option Res) : CtxOk Go.Proofs.Try.prog Γ0 byt0 eqs0 (X K) os := ⟨rfl, rfl, rfl, (fun p hp => by
  rcases List.mem_cons.1 hp with rfl | hp
  · exact laws_szIntS.ok
  rcases List.mem_cons.1 hp with rfl | hp
  · exact laws_szCellS.ok
  cases hp), rfl, rfl, rfl, rfl⟩
theorem tie (K : Res → Option Res) (a1 : List Int) (a2 : Int) (a3 : List (List Cl)) (a4 : Int) : exec (X K) c (entry 18 [.v ⟨true, [.tr 0 1 [.int .i64] (.ints a1), .int .i64 a2, .tr 0 1 [.int .i64, .int .i64, .bool] (.cells a3)]⟩, one (.int .i64 a4)] [] []) (endK (X K)) = g a1 a2 a3 a4 (fun r1 => K (m r1)) := Eq.trans (b := b a1 a2 a3 a4 (fun r1 => K (m r1))) (by kernel_rfl) (by rw [e])
theorem runv {l : List Lf} {K : Res → Option Res} {r : Res} (h : run l K = some r) : ∃ a1 a2 a3 a4, l = [.q (.ints a1), .i a2, .q (.cells a3), .i a4] ∧ g a1 a2 a3 a4 (fun r1 => K (m r1)) = some r := by
  unfold run at h; split at h
  · exact ⟨_, _, _, _, rfl, h⟩
  · cases h
theorem ok : Con Go.Proofs.Try.prog con := con_of (fn := Go.Proofs.Try.f31) (c := c) (Fi := fi) (X := X) (fun_of laid (by kernel_rfl) (by kernel_rfl) (by kernel_rfl) rfl (by kernel_rfl) (by kernel_rfl) cx (fun _ => rfl) (fun _ => rfl) (fun K => by
    rw [show loopsOf c = [] from by kernel_rfl]; intro p hp
    cases hp)) fun xs rows boxes K r hl hr => by
  obtain ⟨a1, a2, a3, a4, e, h⟩ := runv hr
  have := St.like_eq (y := a a1 a2 a3 a4) hl (by kernel_rfl) e
  obtain ⟨rfl, rfl, rfl⟩ := argSt_inj this
  exact (tie K a1 a2 a3 a4).trans h
end laws_szHeap
namespace laws_szArray
noncomputable def c : Code := bodyOf Go.Proofs.Try.f32
noncomputable def fi : Fin := ⟨Γ0, [(.tmp 4, 3)], [[1]], [], [], []⟩
noncomputable def m (r1 : Int) : Res := ⟨[⟨false, [.int .i64 r1]⟩], [], [], [], []⟩
noncomputable def os : List (FuncId × St × (List Lf → (Res → Option Res) → Option Res)) := [laws_szIntS.con]
noncomputable def X (K : Res → Option Res) : Ctx := { Γ := Γ0, orc := orcOf os, io := [], share := [], mvl := [], bun := [], cut := [], own := [], cin := [], cout := [], lp := lpOf [], kl := [], nk := true, eqs := eqs0, byt := byt0, fin := finK fi K }
noncomputable def b (a1 a2 : List Int) (a3 : Int) (R : Int → Option Res) : Option Res :=
  laws_szIntS.g a1 a3 fun r4 =>
  bif decide (r4 < 0) then R (-1)
  else (laws_szIntS.g a2 r4 fun r5 =>
  bif decide (r5 < 0) then R (-1)
  else R r5)
theorem gx : ∃ x : List Int → List Int → Int → (Int → Option Res) → Option Res, x = b := ⟨_, rfl⟩
noncomputable def g : List Int → List Int → Int → (Int → Option Res) → Option Res := Classical.choose gx
theorem e : g = b := Classical.choose_spec gx
noncomputable def run : List Lf → (Res → Option Res) → Option Res
  | [.q (.ints a1), .q (.ints a2), .i a3], K => g a1 a2 a3 (fun r1 => K (m r1))
  | _, _ => none
noncomputable def a (a1 a2 : List Int) (a3 : Int) : St := argSt [.v ⟨true, [.tr 0 1 [.int .i64] (.ints a1), .tr 0 1 [.int .i64] (.ints a2)]⟩, one (.int .i64 a3)] [] []
noncomputable def con : FuncId × St × (List Lf → (Res → Option Res) → Option Res) := (32, a [] [] 0, run)
theorem cx (K : Res → Option Res) : CtxOk Go.Proofs.Try.prog Γ0 byt0 eqs0 (X K) os := ⟨rfl, rfl, rfl, (fun p hp => by
  rcases List.mem_cons.1 hp with rfl | hp
  · exact laws_szIntS.ok
  cases hp), rfl, rfl, rfl, rfl⟩
theorem tie (K : Res → Option Res) (a1 a2 : List Int) (a3 : Int) : exec (X K) c (entry 18 [.v ⟨true, [.tr 0 1 [.int .i64] (.ints a1), .tr 0 1 [.int .i64] (.ints a2)]⟩, one (.int .i64 a3)] [] []) (endK (X K)) = g a1 a2 a3 (fun r1 => K (m r1)) := Eq.trans (b := b a1 a2 a3 (fun r1 => K (m r1))) (by kernel_rfl) (by rw [e])
theorem runv {l : List Lf} {K : Res → Option Res} {r : Res} (h : run l K = some r) : ∃ a1 a2 a3, l = [.q (.ints a1), .q (.ints a2), .i a3] ∧ g a1 a2 a3 (fun r1 => K (m r1)) = some r := by
  unfold run at h; split at h
  · exact ⟨_, _, _, rfl, h⟩
  · cases h
theorem ok : Con Go.Proofs.Try.prog con := con_of (fn := Go.Proofs.Try.f32) (c := c) (Fi := fi) (X := X) (fun_of laid (by kernel_rfl) (by kernel_rfl) (by kernel_rfl) rfl (by kernel_rfl) (by kernel_rfl) cx (fun _ => rfl) (fun _ => rfl) (fun K => by
    rw [show loopsOf c = [] from by kernel_rfl]; intro p hp
    cases hp)) fun xs rows boxes K r hl hr => by
  obtain ⟨a1, a2, a3, e, h⟩ := runv hr
  have := St.like_eq (y := a a1 a2 a3) hl (by kernel_rfl) e
  obtain ⟨rfl, rfl, rfl⟩ := argSt_inj this
  exact (tie K a1 a2 a3).trans h
end laws_szArray
namespace laws_toIntS
noncomputable def c : Code := bodyOf Go.Proofs.Try.f81
noncomputable def fi : Fin := ⟨Γ0, [(.tmp 2, 33)], [[1]], [], [], []⟩
noncomputable def m (r1 : List Int) : Res := ⟨[⟨false, [.ow 1000]⟩], [], [⟨[.int .i64], .ints r1, true, 0⟩], [], []⟩
noncomputable def b0 : Code := codeAt c [1, 1, 0, 1, 0, 0]
noncomputable def s0 (x2 : List Int) (x3 : Int) (x4 : List Int) : St := ⟨mkT 22 [(0, one (.tr 0 1 [.int .i64] (.ints x2))), (3, one (.ow 3080)), (4, one (.int .i64 x3))], [(3080, ⟨[.int .i64], .ints x4, true, 0⟩)], []⟩
noncomputable def l0s (x2 : List Int) (rec : Int → List Int → Option Res) (k : List Int → Option Res) (x3 : Int) (x4 : List Int) : Option Res :=
  bif decide (x3 < (x2.length : Int)) then (bif decide (0 ≤ x3) && decide (x3 < (x2.length : Int)) then (bif decide (0 ≤ x3) && decide (x3 < (x4.length : Int)) then rec (IntKind.i64.wrap (x3 + 1)) (x4.set x3.toNat (x2.getD x3.toNat 0))
      else none)
    else none)
  else k x4
noncomputable def l0 (x2 : List Int) (k : List Int → Option Res) : Nat → Int → List Int → Option Res
  | 0, _, _ => none
  | n + 1, x3, x4 => l0s x2 (fun x3 x4 => l0 x2 k n x3 x4) k x3 x4
noncomputable def o0 (x2 y1 : List Int) : St := ⟨mkT 22 [(3, one (.ow 3080))], [(3080, ⟨[.int .i64], .ints y1, true, 0⟩)], []⟩
noncomputable def p0 (K : Res → Option Res) : List Lf → (St → Option Res) → Option Res
  | [.q (.ints x2), .i x3, .q (.ints x4)], k => l0 x2 (fun y1 => k (o0 x2 y1)) fuel x3 x4
  | _, _ => none
noncomputable def os : List (FuncId × St × (List Lf → (Res → Option Res) → Option Res)) := []
noncomputable def X (K : Res → Option Res) : Ctx := { Γ := Γ0, orc := orcOf os, io := [], share := [], mvl := [], bun := [], cut := [], own := [], cin := [(0, ⟨[0, 3, 4], [(3080, 3080)], [], [], [], []⟩)], cout := [(0, ⟨[3], [(3080, 3080)], [], [], [], []⟩)], lp := lpOf [(0, s0 [] 0 [], p0 K)], kl := [], nk := true, eqs := eqs0, byt := byt0, fin := finK fi K }
noncomputable def b (a1 : List Int) (R : List Int → Option Res) : Option Res :=
  bif decide ((a1.length : Int) = (a1.length : Int)) && decide (0 ≤ (a1.length : Int)) && decide ((a1.length : Int) * 8 ≤ 140737488355328) then (l0 a1 (fun y5 => 
    R y5) fuel 0 (List.replicate ((a1.length : Int).toNat) 0))
  else none
theorem gx : ∃ x : List Int → (List Int → Option Res) → Option Res, x = b := ⟨_, rfl⟩
noncomputable def g : List Int → (List Int → Option Res) → Option Res := Classical.choose gx
theorem e : g = b := Classical.choose_spec gx
noncomputable def run : List Lf → (Res → Option Res) → Option Res
  | [.q (.ints a1)], K => g a1 (fun r1 => K (m r1))
  | _, _ => none
noncomputable def a (a1 : List Int) : St := argSt [one (.tr 0 1 [.int .i64] (.ints a1))] [] []
noncomputable def con : FuncId × St × (List Lf → (Res → Option Res) → Option Res) := (81, a [], run)
theorem cx (K : Res → Option Res) : CtxOk Go.Proofs.Try.prog Γ0 byt0 eqs0 (X K) os := ⟨rfl, rfl, rfl, (fun p hp => by
  cases hp), rfl, rfl, rfl, rfl⟩
theorem t0 (K : Res → Option Res) (k : St → Option Res) (it : St → (St → Option Res) → Option Res) (x2 : List Int) (x3 : Int) (x4 : List Int) : iterS (X K) 0 b0 it (s0 x2 x3 x4) k = l0s x2 (fun x3 x4 => it (s0 x2 x3 x4) k) (fun y1 => k (o0 x2 y1)) x3 x4 := by kernel_rfl
theorem i0 (K : Res → Option Res) (k : St → Option Res) (x2 : List Int) : ∀ (n : Nat) (x3 : Int) (x4 : List Int), iter (X K) 0 b0 n (s0 x2 x3 x4) k = l0 x2 (fun y1 => k (o0 x2 y1)) n x3 x4
  | 0, _, _ => rfl
  | n + 1, x3, x4 => by
    rw [iter_succ, t0, show (fun x3 x4 => iter (X K) 0 b0 n (s0 x2 x3 x4) k) = (fun x3 x4 => l0 x2 (fun y1 => k (o0 x2 y1)) n x3 x4) from funext fun x3 => funext fun x4 => i0 K k x2 n x3 x4]; rfl
theorem v0 {K : Res → Option Res} {l : List Lf} {k : St → Option Res} {r : Res} (h : p0 K l k = some r) : ∃ x2 x3 x4, l = [.q (.ints x2), .i x3, .q (.ints x4)] ∧ l0 x2 (fun y1 => k (o0 x2 y1)) fuel x3 x4 = some r := by
  unfold p0 at h; split at h
  · exact ⟨_, _, _, rfl, h⟩
  · cases h
theorem w0 (K : Res → Option Res) : LpSound Go.Proofs.Try.prog (X K) 0 b0 := lp_ok ((cx K).ok laid) (by rw [show loopsOf b0 = [] from by kernel_rfl]; intro p hp; cases hp) rfl fun p hp hid => by
  rcases List.mem_cons.1 hp with rfl | hp
  · intro st k r h1 h2; obtain ⟨x2, x3, x4, e, h⟩ := v0 (K := K) h2; have := St.like_eq (y := s0 x2 x3 x4) h1 (by kernel_rfl) e; subst this; exact ⟨fuel, (i0 K k x2 fuel x3 x4).trans h⟩
  cases hp
theorem tie (K : Res → Option Res) (a1 : List Int) : exec (X K) c (entry 22 [one (.tr 0 1 [.int .i64] (.ints a1))] [] []) (endK (X K)) = g a1 (fun r1 => K (m r1)) := Eq.trans (b := b a1 (fun r1 => K (m r1))) (by kernel_rfl) (by rw [e])
theorem runv {l : List Lf} {K : Res → Option Res} {r : Res} (h : run l K = some r) : ∃ a1, l = [.q (.ints a1)] ∧ g a1 (fun r1 => K (m r1)) = some r := by
  unfold run at h; split at h
  · exact ⟨_, rfl, h⟩
  · cases h
theorem ok : Con Go.Proofs.Try.prog con := con_of (fn := Go.Proofs.Try.f81) (c := c) (Fi := fi) (X := X) (fun_of laid (by kernel_rfl) (by kernel_rfl) (by kernel_rfl) rfl (by kernel_rfl) (by kernel_rfl) cx (fun _ => rfl) (fun _ => rfl) (fun K => by
    rw [show loopsOf c = [(0, b0)] from by kernel_rfl]; intro p hp
    rcases List.mem_cons.1 hp with rfl | hp
    · exact w0 K
    cases hp)) fun xs rows boxes K r hl hr => by
  obtain ⟨a1, e, h⟩ := runv hr
  have := St.like_eq (y := a a1) hl (by kernel_rfl) e
  obtain ⟨rfl, rfl, rfl⟩ := argSt_inj this
  exact (tie K a1).trans h
end laws_toIntS
namespace laws_toCell
noncomputable def c : Code := bodyOf Go.Proofs.Try.f132
noncomputable def fi : Fin := ⟨Γ0, [(.cell 2 49, 49)], [[1, 1, 1]], [], [], []⟩
noncomputable def m (a1 a2 : Int) (a3 : Bool) : Res := ⟨[⟨true, [.int .i64 a1, .int .i64 a2, .bool a3]⟩], [], [], [], []⟩
noncomputable def os : List (FuncId × St × (List Lf → (Res → Option Res) → Option Res)) := []
noncomputable def X (K : Res → Option Res) : Ctx := { Γ := Γ0, orc := orcOf os, io := [], share := [], mvl := [], bun := [], cut := [], own := [], cin := [], cout := [], lp := lpOf [], kl := [], nk := true, eqs := eqs0, byt := byt0, fin := finK fi K }
noncomputable def b (a1 a2 : Int) (a3 : Bool) (R : Option Res) : Option Res :=
  R
theorem gx : ∃ x : Int → Int → Bool → (Option Res) → Option Res, x = b := ⟨_, rfl⟩
noncomputable def g : Int → Int → Bool → (Option Res) → Option Res := Classical.choose gx
theorem e : g = b := Classical.choose_spec gx
noncomputable def run : List Lf → (Res → Option Res) → Option Res
  | [.i a1, .i a2, .b a3], K => g a1 a2 a3 (K (m a1 a2 a3))
  | _, _ => none
noncomputable def a (a1 a2 : Int) (a3 : Bool) : St := argSt [.v ⟨true, [.int .i64 a1, .int .i64 a2, .bool a3]⟩] [] []
noncomputable def con : FuncId × St × (List Lf → (Res → Option Res) → Option Res) := (132, a 0 0 false, run)
theorem cx (K : Res → Option Res) : CtxOk Go.Proofs.Try.prog Γ0 byt0 eqs0 (X K) os := ⟨rfl, rfl, rfl, (fun p hp => by
  cases hp), rfl, rfl, rfl, rfl⟩
theorem tie (K : Res → Option Res) (a1 a2 : Int) (a3 : Bool) : exec (X K) c (entry 14 [.v ⟨true, [.int .i64 a1, .int .i64 a2, .bool a3]⟩] [] []) (endK (X K)) = g a1 a2 a3 (K (m a1 a2 a3)) := Eq.trans (b := b a1 a2 a3 (K (m a1 a2 a3))) (by kernel_rfl) (by rw [e])
theorem runv {l : List Lf} {K : Res → Option Res} {r : Res} (h : run l K = some r) : ∃ a1 a2 a3, l = [.i a1, .i a2, .b a3] ∧ g a1 a2 a3 (K (m a1 a2 a3)) = some r := by
  unfold run at h; split at h
  · exact ⟨_, _, _, rfl, h⟩
  · cases h
theorem ok : Con Go.Proofs.Try.prog con := con_of (fn := Go.Proofs.Try.f132) (c := c) (Fi := fi) (X := X) (fun_of laid (by kernel_rfl) (by kernel_rfl) (by kernel_rfl) rfl (by kernel_rfl) (by kernel_rfl) cx (fun _ => rfl) (fun _ => rfl) (fun K => by
    rw [show loopsOf c = [] from by kernel_rfl]; intro p hp
    cases hp)) fun xs rows boxes K r hl hr => by
  obtain ⟨a1, a2, a3, e, h⟩ := runv hr
  have := St.like_eq (y := a a1 a2 a3) hl (by kernel_rfl) e
  obtain ⟨rfl, rfl, rfl⟩ := argSt_inj this
  exact (tie K a1 a2 a3).trans h
end laws_toCell
namespace laws_toCellS
noncomputable def c : Code := bodyOf Go.Proofs.Try.f82
noncomputable def fi : Fin := ⟨Γ0, [(.tmp 2, 36)], [[1]], [], [], []⟩
noncomputable def m (r1 : List (List Cl)) : Res := ⟨[⟨false, [.ow 1000]⟩], [], [⟨[.int .i64, .int .i64, .bool], .cells r1, true, 0⟩], [], []⟩
noncomputable def b0 : Code := codeAt c [1, 1, 0, 1, 0, 0]
noncomputable def s0 (x2 : List (List Cl)) (x3 : Int) (x4 : List (List Cl)) : St := ⟨mkT 23 [(0, one (.tr 0 1 [.int .i64, .int .i64, .bool] (.cells x2))), (3, one (.ow 3080)), (4, one (.int .i64 x3))], [(3080, ⟨[.int .i64, .int .i64, .bool], .cells x4, true, 0⟩)], []⟩
noncomputable def l0s (x2 : List (List Cl)) (rec : Int → List (List Cl) → Option Res) (k : List (List Cl) → Option Res) (x3 : Int) (x4 : List (List Cl)) : Option Res :=
  bif decide (x3 < (x2.length : Int)) then (bif decide (0 ≤ x3) && decide (x3 < (x2.length : Int)) then (laws_toCell.g (((x2.getD x3.toNat []).getD 0 (.i 0)).toI) (((x2.getD x3.toNat []).getD 1 (.i 0)).toI) (((x2.getD x3.toNat []).getD 2 (.i 0)).toB) (
      bif decide (0 ≤ x3) && decide (x3 < (x4.length : Int)) then rec (IntKind.i64.wrap (x3 + 1)) (x4.set x3.toNat [.i (((x2.getD x3.toNat []).getD 0 (.i 0)).toI), .i (((x2.getD x3.toNat []).getD 1 (.i 0)).toI), .b (((x2.getD x3.toNat []).getD 2 (.i 0)).toB)])
      else none))
    else none)
  else k x4
noncomputable def l0 (x2 : List (List Cl)) (k : List (List Cl) → Option Res) : Nat → Int → List (List Cl) → Option Res
  | 0, _, _ => none
  | n + 1, x3, x4 => l0s x2 (fun x3 x4 => l0 x2 k n x3 x4) k x3 x4
noncomputable def o0 (x2 y1 : List (List Cl)) : St := ⟨mkT 23 [(3, one (.ow 3080))], [(3080, ⟨[.int .i64, .int .i64, .bool], .cells y1, true, 0⟩)], []⟩
noncomputable def p0 (K : Res → Option Res) : List Lf → (St → Option Res) → Option Res
  | [.q (.cells x2), .i x3, .q (.cells x4)], k => l0 x2 (fun y1 => k (o0 x2 y1)) fuel x3 x4
  | _, _ => none
noncomputable def os : List (FuncId × St × (List Lf → (Res → Option Res) → Option Res)) := [laws_toCell.con]
noncomputable def X (K : Res → Option Res) : Ctx := { Γ := Γ0, orc := orcOf os, io := [], share := [], mvl := [], bun := [], cut := [], own := [], cin := [(0, ⟨[0, 3, 4], [(3080, 3080)], [], [], [], []⟩)], cout := [(0, ⟨[3], [(3080, 3080)], [], [], [], []⟩)], lp := lpOf [(0, s0 [] 0 [], p0 K)], kl := [], nk := true, eqs := eqs0, byt := byt0, fin := finK fi K }
noncomputable def b (a1 : List (List Cl)) (R : List (List Cl) → Option Res) : Option Res :=
  bif decide ((a1.length : Int) = (a1.length : Int)) && decide (0 ≤ (a1.length : Int)) && decide ((a1.length : Int) * 24 ≤ 140737488355328) then (l0 a1 (fun y5 => 
    R y5) fuel 0 (List.replicate ((a1.length : Int).toNat) [.i 0, .i 0, .b false]))
  else none
theorem gx : ∃ x : List (List Cl) → (List (List Cl) → Option Res) → Option Res, x = b := ⟨_, rfl⟩
noncomputable def g : List (List Cl) → (List (List Cl) → Option Res) → Option Res := Classical.choose gx
theorem e : g = b := Classical.choose_spec gx
noncomputable def run : List Lf → (Res → Option Res) → Option Res
  | [.q (.cells a1)], K => g a1 (fun r1 => K (m r1))
  | _, _ => none
noncomputable def a (a1 : List (List Cl)) : St := argSt [one (.tr 0 1 [.int .i64, .int .i64, .bool] (.cells a1))] [] []
noncomputable def con : FuncId × St × (List Lf → (Res → Option Res) → Option Res) := (82, a [], run)
theorem cx (K : Res → Option Res) : CtxOk Go.Proofs.Try.prog Γ0 byt0 eqs0 (X K) os := ⟨rfl, rfl, rfl, (fun p hp => by
  rcases List.mem_cons.1 hp with rfl | hp
  · exact laws_toCell.ok
  cases hp), rfl, rfl, rfl, rfl⟩
theorem t0 (K : Res → Option Res) (k : St → Option Res) (it : St → (St → Option Res) → Option Res) (x2 : List (List Cl)) (x3 : Int) (x4 : List (List Cl)) : iterS (X K) 0 b0 it (s0 x2 x3 x4) k = l0s x2 (fun x3 x4 => it (s0 x2 x3 x4) k) (fun y1 => k (o0 x2 y1)) x3 x4 := by kernel_rfl
theorem i0 (K : Res → Option Res) (k : St → Option Res) (x2 : List (List Cl)) : ∀ (n : Nat) (x3 : Int) (x4 : List (List Cl)), iter (X K) 0 b0 n (s0 x2 x3 x4) k = l0 x2 (fun y1 => k (o0 x2 y1)) n x3 x4
  | 0, _, _ => rfl
  | n + 1, x3, x4 => by
    rw [iter_succ, t0, show (fun x3 x4 => iter (X K) 0 b0 n (s0 x2 x3 x4) k) = (fun x3 x4 => l0 x2 (fun y1 => k (o0 x2 y1)) n x3 x4) from funext fun x3 => funext fun x4 => i0 K k x2 n x3 x4]; rfl
theorem v0 {K : Res → Option Res} {l : List Lf} {k : St → Option Res} {r : Res} (h : p0 K l k = some r) : ∃ x2 x3 x4, l = [.q (.cells x2), .i x3, .q (.cells x4)] ∧ l0 x2 (fun y1 => k (o0 x2 y1)) fuel x3 x4 = some r := by
  unfold p0 at h; split at h
  · exact ⟨_, _, _, rfl, h⟩
  · cases h
theorem w0 (K : Res → Option Res) : LpSound Go.Proofs.Try.prog (X K) 0 b0 := lp_ok ((cx K).ok laid) (by rw [show loopsOf b0 = [] from by kernel_rfl]; intro p hp; cases hp) rfl fun p hp hid => by
  rcases List.mem_cons.1 hp with rfl | hp
  · intro st k r h1 h2; obtain ⟨x2, x3, x4, e, h⟩ := v0 (K := K) h2; have := St.like_eq (y := s0 x2 x3 x4) h1 (by kernel_rfl) e; subst this; exact ⟨fuel, (i0 K k x2 fuel x3 x4).trans h⟩
  cases hp
theorem tie (K : Res → Option Res) (a1 : List (List Cl)) : exec (X K) c (entry 23 [one (.tr 0 1 [.int .i64, .int .i64, .bool] (.cells a1))] [] []) (endK (X K)) = g a1 (fun r1 => K (m r1)) := Eq.trans (b := b a1 (fun r1 => K (m r1))) (by kernel_rfl) (by rw [e])
theorem runv {l : List Lf} {K : Res → Option Res} {r : Res} (h : run l K = some r) : ∃ a1, l = [.q (.cells a1)] ∧ g a1 (fun r1 => K (m r1)) = some r := by
  unfold run at h; split at h
  · exact ⟨_, rfl, h⟩
  · cases h
theorem ok : Con Go.Proofs.Try.prog con := con_of (fn := Go.Proofs.Try.f82) (c := c) (Fi := fi) (X := X) (fun_of laid (by kernel_rfl) (by kernel_rfl) (by kernel_rfl) rfl (by kernel_rfl) (by kernel_rfl) cx (fun _ => rfl) (fun _ => rfl) (fun K => by
    rw [show loopsOf c = [(0, b0)] from by kernel_rfl]; intro p hp
    rcases List.mem_cons.1 hp with rfl | hp
    · exact w0 K
    cases hp)) fun xs rows boxes K r hl hr => by
  obtain ⟨a1, e, h⟩ := runv hr
  have := St.like_eq (y := a a1) hl (by kernel_rfl) e
  obtain ⟨rfl, rfl, rfl⟩ := argSt_inj this
  exact (tie K a1).trans h
end laws_toCellS
namespace laws_toHeap
noncomputable def c : Code := bodyOf Go.Proofs.Try.f34
noncomputable def fi : Fin := ⟨Γ0, [(.cell 2 38, 38)], [[1, 1, 1]], [], [], []⟩
noncomputable def m (a2 : Int) (r1 : List Int) (r3 : List (List Cl)) : Res := ⟨[⟨true, [.ow 1000, .int .i64 a2, .ow 1001]⟩], [], [⟨[.int .i64], .ints r1, true, 0⟩, ⟨[.int .i64, .int .i64, .bool], .cells r3, true, 0⟩], [], []⟩
noncomputable def os : List (FuncId × St × (List Lf → (Res → Option Res) → Option Res)) := [laws_toIntS.con, laws_toCellS.con]
noncomputable def X (K : Res → Option Res) : Ctx := { Γ := Γ0, orc := orcOf os, io := [], share := [], mvl := [], bun := [], cut := [], own := [], cin := [], cout := [], lp := lpOf [], kl := [], nk := true, eqs := eqs0, byt := byt0, fin := finK fi K }
noncomputable def b (a1 : List Int) (a2 : Int) (a3 : List (List Cl)) (R : List Int → List (List Cl) → Option Res) : Option Res :=
  laws_toIntS.g a1 fun r4 =>
  laws_toCellS.g a3 fun r5 =>
  R r4 r5
theorem gx : ∃ x : List Int → Int → List (List Cl) → (List Int → List (List Cl) → Option Res) → Option Res, x = b := ⟨_, rfl⟩
noncomputable def g : List Int → Int → List (List Cl) → (List Int → List (List Cl) → Option Res) → Option Res := Classical.choose gx
theorem e : g = b := Classical.choose_spec gx
noncomputable def run : List Lf → (Res → Option Res) → Option Res
  | [.q (.ints a1), .i a2, .q (.cells a3)], K => g a1 a2 a3 (fun r1 r3 => K (m a2 r1 r3))
  | _, _ => none
noncomputable def a (a1 : List Int) (a2 : Int) (a3 : List (List Cl)) : St := argSt [.v ⟨true, [.tr 0 1 [.int .i64] (.ints a1), .int .i64 a2, .tr 0 1 [.int .i64, .int .i64, .bool] (.cells a3)]⟩] [] []
noncomputable def con : FuncId × St × (List Lf → (Res → Option Res) → Option Res) := (34, a [] 0 [], run)
theorem cx (K : Res → Option Res) : CtxOk Go.Proofs.Try.prog Γ0 byt0 eqs0 (X K) os := ⟨rfl, rfl, rfl, (fun p hp => by
  rcases List.mem_cons.1 hp with rfl | hp
  · exact laws_toIntS.ok
  rcases List.mem_cons.1 hp with rfl | hp
  · exact laws_toCellS.ok
  cases hp), rfl, rfl, rfl, rfl⟩
theorem tie (K : Res → Option Res) (a1 : List Int) (a2 : Int) (a3 : List (List Cl)) : exec (X K) c (entry 16 [.v ⟨true, [.tr 0 1 [.int .i64] (.ints a1), .int .i64 a2, .tr 0 1 [.int .i64, .int .i64, .bool] (.cells a3)]⟩] [] []) (endK (X K)) = g a1 a2 a3 (fun r1 r3 => K (m a2 r1 r3)) := Eq.trans (b := b a1 a2 a3 (fun r1 r3 => K (m a2 r1 r3))) (by kernel_rfl) (by rw [e])
theorem runv {l : List Lf} {K : Res → Option Res} {r : Res} (h : run l K = some r) : ∃ a1 a2 a3, l = [.q (.ints a1), .i a2, .q (.cells a3)] ∧ g a1 a2 a3 (fun r1 r3 => K (m a2 r1 r3)) = some r := by
  unfold run at h; split at h
  · exact ⟨_, _, _, rfl, h⟩
  · cases h
theorem ok : Con Go.Proofs.Try.prog con := con_of (fn := Go.Proofs.Try.f34) (c := c) (Fi := fi) (X := X) (fun_of laid (by kernel_rfl) (by kernel_rfl) (by kernel_rfl) rfl (by kernel_rfl) (by kernel_rfl) cx (fun _ => rfl) (fun _ => rfl) (fun K => by
    rw [show loopsOf c = [] from by kernel_rfl]; intro p hp
    cases hp)) fun xs rows boxes K r hl hr => by
  obtain ⟨a1, a2, a3, e, h⟩ := runv hr
  have := St.like_eq (y := a a1 a2 a3) hl (by kernel_rfl) e
  obtain ⟨rfl, rfl, rfl⟩ := argSt_inj this
  exact (tie K a1 a2 a3).trans h
end laws_toHeap
namespace laws_toArray
noncomputable def c : Code := bodyOf Go.Proofs.Try.f35
noncomputable def fi : Fin := ⟨Γ0, [(.cell 2 44, 44)], [[1, 1]], [], [], []⟩
noncomputable def m (r1 r2 : List Int) : Res := ⟨[⟨true, [.ow 1000, .ow 1001]⟩], [], [⟨[.int .i64], .ints r1, true, 0⟩, ⟨[.int .i64], .ints r2, true, 0⟩], [], []⟩
noncomputable def os : List (FuncId × St × (List Lf → (Res → Option Res) → Option Res)) := [laws_toIntS.con]
noncomputable def X (K : Res → Option Res) : Ctx := { Γ := Γ0, orc := orcOf os, io := [], share := [], mvl := [], bun := [], cut := [], own := [], cin := [], cout := [], lp := lpOf [], kl := [], nk := true, eqs := eqs0, byt := byt0, fin := finK fi K }
noncomputable def b (a1 a2 : List Int) (R : List Int → List Int → Option Res) : Option Res :=
  laws_toIntS.g a1 fun r3 =>
  laws_toIntS.g a2 fun r4 =>
  R r3 r4
theorem gx : ∃ x : List Int → List Int → (List Int → List Int → Option Res) → Option Res, x = b := ⟨_, rfl⟩
noncomputable def g : List Int → List Int → (List Int → List Int → Option Res) → Option Res := Classical.choose gx
theorem e : g = b := Classical.choose_spec gx
noncomputable def run : List Lf → (Res → Option Res) → Option Res
  | [.q (.ints a1), .q (.ints a2)], K => g a1 a2 (fun r1 r2 => K (m r1 r2))
  | _, _ => none
noncomputable def a (a1 a2 : List Int) : St := argSt [.v ⟨true, [.tr 0 1 [.int .i64] (.ints a1), .tr 0 1 [.int .i64] (.ints a2)]⟩] [] []
noncomputable def con : FuncId × St × (List Lf → (Res → Option Res) → Option Res) := (35, a [] [], run)
theorem cx (K : Res → Option Res) : CtxOk Go.Proofs.Try.prog Γ0 byt0 eqs0 (X K) os := ⟨rfl, rfl, rfl, (fun p hp => by
  rcases List.mem_cons.1 hp with rfl | hp
  · exact laws_toIntS.ok
  cases hp), rfl, rfl, rfl, rfl⟩
theorem tie (K : Res → Option Res) (a1 a2 : List Int) : exec (X K) c (entry 13 [.v ⟨true, [.tr 0 1 [.int .i64] (.ints a1), .tr 0 1 [.int .i64] (.ints a2)]⟩] [] []) (endK (X K)) = g a1 a2 (fun r1 r2 => K (m r1 r2)) := Eq.trans (b := b a1 a2 (fun r1 r2 => K (m r1 r2))) (by kernel_rfl) (by rw [e])
theorem runv {l : List Lf} {K : Res → Option Res} {r : Res} (h : run l K = some r) : ∃ a1 a2, l = [.q (.ints a1), .q (.ints a2)] ∧ g a1 a2 (fun r1 r2 => K (m r1 r2)) = some r := by
  unfold run at h; split at h
  · exact ⟨_, _, rfl, h⟩
  · cases h
theorem ok : Con Go.Proofs.Try.prog con := con_of (fn := Go.Proofs.Try.f35) (c := c) (Fi := fi) (X := X) (fun_of laid (by kernel_rfl) (by kernel_rfl) (by kernel_rfl) rfl (by kernel_rfl) (by kernel_rfl) cx (fun _ => rfl) (fun _ => rfl) (fun K => by
    rw [show loopsOf c = [] from by kernel_rfl]; intro p hp
    cases hp)) fun xs rows boxes K r hl hr => by
  obtain ⟨a1, a2, e, h⟩ := runv hr
  have := St.like_eq (y := a a1 a2) hl (by kernel_rfl) e
  obtain ⟨rfl, rfl, rfl⟩ := argSt_inj this
  exact (tie K a1 a2).trans h
end laws_toArray
namespace impl_copyHeap
noncomputable def c : Code := bodyOf Go.Proofs.Try.f83
noncomputable def fi : Fin := ⟨Γ0, [(.cell 2 38, 38)], [[1, 1, 1]], [], [], []⟩
noncomputable def m (a1 : List Int) (a2 : Int) (a3 : List (List Cl)) : Res := ⟨[⟨true, [.ow 1000, .int .i64 a2, .ow 1001]⟩], [], [⟨[.int .i64], .ints a1, true, 0⟩, ⟨[.int .i64, .int .i64, .bool], .cells a3, true, 0⟩], [], []⟩
noncomputable def os : List (FuncId × St × (List Lf → (Res → Option Res) → Option Res)) := []
noncomputable def X (K : Res → Option Res) : Ctx := { Γ := Γ0, orc := orcOf os, io := [], share := [], mvl := [], bun := [], cut := [], own := [], cin := [], cout := [], lp := lpOf [], kl := [], nk := true, eqs := eqs0, byt := byt0, fin := finK fi K }
noncomputable def b (a1 : List Int) (a2 : Int) (a3 : List (List Cl)) (R : Option Res) : Option Res :=
  bif decide (a1.length * 8 ≤ 140737488355328) then (bif decide (a3.length * 24 ≤ 140737488355328) then R
    else none)
  else none
theorem gx : ∃ x : List Int → Int → List (List Cl) → (Option Res) → Option Res, x = b := ⟨_, rfl⟩
noncomputable def g : List Int → Int → List (List Cl) → (Option Res) → Option Res := Classical.choose gx
theorem e : g = b := Classical.choose_spec gx
noncomputable def run : List Lf → (Res → Option Res) → Option Res
  | [.q (.ints a1), .i a2, .q (.cells a3)], K => g a1 a2 a3 (K (m a1 a2 a3))
  | _, _ => none
noncomputable def a (a1 : List Int) (a2 : Int) (a3 : List (List Cl)) : St := argSt [.v ⟨true, [.tr 0 1 [.int .i64] (.ints a1), .int .i64 a2, .tr 0 1 [.int .i64, .int .i64, .bool] (.cells a3)]⟩] [] []
noncomputable def con : FuncId × St × (List Lf → (Res → Option Res) → Option Res) := (83, a [] 0 [], run)
theorem cx (K : Res → Option Res) : CtxOk Go.Proofs.Try.prog Γ0 byt0 eqs0 (X K) os := ⟨rfl, rfl, rfl, (fun p hp => by
  cases hp), rfl, rfl, rfl, rfl⟩
theorem tie (K : Res → Option Res) (a1 : List Int) (a2 : Int) (a3 : List (List Cl)) : exec (X K) c (entry 12 [.v ⟨true, [.tr 0 1 [.int .i64] (.ints a1), .int .i64 a2, .tr 0 1 [.int .i64, .int .i64, .bool] (.cells a3)]⟩] [] []) (endK (X K)) = g a1 a2 a3 (K (m a1 a2 a3)) := Eq.trans (b := b a1 a2 a3 (K (m a1 a2 a3))) (by kernel_rfl) (by rw [e])
theorem runv {l : List Lf} {K : Res → Option Res} {r : Res} (h : run l K = some r) : ∃ a1 a2 a3, l = [.q (.ints a1), .i a2, .q (.cells a3)] ∧ g a1 a2 a3 (K (m a1 a2 a3)) = some r := by
  unfold run at h; split at h
  · exact ⟨_, _, _, rfl, h⟩
  · cases h
theorem ok : Con Go.Proofs.Try.prog con := con_of (fn := Go.Proofs.Try.f83) (c := c) (Fi := fi) (X := X) (fun_of laid (by kernel_rfl) (by kernel_rfl) (by kernel_rfl) rfl (by kernel_rfl) (by kernel_rfl) cx (fun _ => rfl) (fun _ => rfl) (fun K => by
    rw [show loopsOf c = [] from by kernel_rfl]; intro p hp
    cases hp)) fun xs rows boxes K r hl hr => by
  obtain ⟨a1, a2, a3, e, h⟩ := runv hr
  have := St.like_eq (y := a a1 a2 a3) hl (by kernel_rfl) e
  obtain ⟨rfl, rfl, rfl⟩ := argSt_inj this
  exact (tie K a1 a2 a3).trans h
end impl_copyHeap
namespace slices_Grow_int_int
noncomputable def c : Code := bodyOf Go.Proofs.Try.f177
noncomputable def fi : Fin := ⟨Γ0, [(.tmp 4, 33)], [[1]], [], [], []⟩
noncomputable def m (r1 : List Int) : Res := ⟨[⟨false, [.ow 1000]⟩], [], [⟨[.int .i64], .ints r1, true, 0⟩], [], []⟩
noncomputable def os : List (FuncId × St × (List Lf → (Res → Option Res) → Option Res)) := []
noncomputable def X (K : Res → Option Res) : Ctx := { Γ := Γ0, orc := orcOf os, io := [], share := [], mvl := [], bun := [], cut := [(5, 8)], own := [], cin := [], cout := [], lp := lpOf [], kl := [], nk := true, eqs := eqs0, byt := byt0, fin := finK fi K }
noncomputable def b (a1 : Int) (R : List Int → Option Res) : Option Res :=
  bif decide (a1 < 0) then none
  else bif decide (0 < IntKind.i64.wrap (a1 - 0)) then (bif decide (0 ≤ IntKind.i64.wrap (a1 - 0)) && decide (IntKind.i64.wrap (a1 - 0) * 8 ≤ 140737488355328) then (bif decide (0 ≤ ((List.replicate ((IntKind.i64.wrap (a1 - 0)).toNat) 0).length : Int)) then R ((List.replicate ((IntKind.i64.wrap (a1 - 0)).toNat) 0).take 0)
      else none)
    else none)
  else R ([] : List Int)
theorem gx : ∃ x : Int → (List Int → Option Res) → Option Res, x = b := ⟨_, rfl⟩
noncomputable def g : Int → (List Int → Option Res) → Option Res := Classical.choose gx
theorem e : g = b := Classical.choose_spec gx
noncomputable def run : List Lf → (Res → Option Res) → Option Res
  | [.i a1], K => g a1 (fun r1 => K (m r1))
  | _, _ => none
noncomputable def a (a1 : Int) : St := argSt [one (.nil), one (.int .i64 a1)] [] []
noncomputable def con : FuncId × St × (List Lf → (Res → Option Res) → Option Res) := (177, a 0, run)
theorem cx (K : Res → Option Res) : CtxOk Go.Proofs.Try.prog Γ0 byt0 eqs0 (X K) os := ⟨rfl, rfl, rfl, (fun p hp => by
  cases hp), rfl, rfl, rfl, rfl⟩
theorem tie (K : Res → Option Res) (a1 : Int) : exec (X K) c (entry 27 [one (.nil), one (.int .i64 a1)] [] []) (endK (X K)) = g a1 (fun r1 => K (m r1)) := Eq.trans (b := b a1 (fun r1 => K (m r1))) (by kernel_rfl) (by rw [e])
theorem runv {l : List Lf} {K : Res → Option Res} {r : Res} (h : run l K = some r) : ∃ a1, l = [.i a1] ∧ g a1 (fun r1 => K (m r1)) = some r := by
  unfold run at h; split at h
  · exact ⟨_, rfl, h⟩
  · cases h
theorem ok : Con Go.Proofs.Try.prog con := con_of (fn := Go.Proofs.Try.f177) (c := c) (Fi := fi) (X := X) (fun_of laid (by kernel_rfl) (by kernel_rfl) (by kernel_rfl) rfl (by kernel_rfl) (by kernel_rfl) cx (fun _ => rfl) (fun _ => rfl) (fun K => by
    rw [show loopsOf c = [] from by kernel_rfl]; intro p hp
    cases hp)) fun xs rows boxes K r hl hr => by
  obtain ⟨a1, e, h⟩ := runv hr
  have := St.like_eq (y := a a1) hl (by kernel_rfl) e
  obtain ⟨rfl, rfl, rfl⟩ := argSt_inj this
  exact (tie K a1).trans h
end slices_Grow_int_int
namespace slices_Concat_int_int_i2
noncomputable def c : Code := bodyOf Go.Proofs.Try.f133
noncomputable def fi : Fin := ⟨Γ0, [(.tmp 2, 33)], [[1]], [], [], []⟩
noncomputable def m (r1 : List Int) : Res := ⟨[⟨false, [.ow 1000]⟩], [], [⟨[.int .i64], .ints r1, true, 0⟩], [], []⟩
noncomputable def b0 : Code := codeAt c [1, 1, 0, 1, 0, 0]
noncomputable def b2 : Code := codeAt c [1, 1, 1, 1, 0, 1, 0, 0]
noncomputable def s0 (x2 : List (List Cl)) (x3 : Int) (x4 : List (List Cl)) (x5 x6 : Int) : St := ⟨mkT 36 [(0, one (.tr 2 0 [.ints .i64] (.cells x2))), (3, one (.int .i64 x3)), (9, one (.tr 2 0 [.ints .i64] (.cells x4))), (10, one (.int .i64 x5)), (11, one (.int .i64 x6))], [], []⟩
noncomputable def l0s (x2 x4 : List (List Cl)) (x5 : Int) (rec : Int → Int → Option Res) (k : Int → Option Res) (x3 x6 : Int) : Option Res :=
  bif decide (x6 < x5) then (bif decide (0 ≤ x6) && decide (x6 < (x4.length : Int)) then (bif decide (IntKind.i64.wrap (x3 + ((((x4.getD x6.toNat []).getD 0 (.i 0)).toL).length : Int)) < 0) then none
      else rec (IntKind.i64.wrap (x3 + ((((x4.getD x6.toNat []).getD 0 (.i 0)).toL).length : Int))) (IntKind.i64.wrap (x6 + 1)))
    else none)
  else k x3
noncomputable def l0 (x2 x4 : List (List Cl)) (x5 : Int) (k : Int → Option Res) : Nat → Int → Int → Option Res
  | 0, _, _ => none
  | n + 1, x3, x6 => l0s x2 x4 x5 (fun x3 x6 => l0 x2 x4 x5 k n x3 x6) k x3 x6
noncomputable def o0 (x2 x4 : List (List Cl)) (x5 y2 : Int) : St := ⟨mkT 36 [(0, one (.tr 2 0 [.ints .i64] (.cells x2))), (3, one (.int .i64 y2))], [], []⟩
noncomputable def p0 (K : Res → Option Res) : List Lf → (St → Option Res) → Option Res
  | [.q (.cells x2), .i x3, .q (.cells x4), .i x5, .i x6], k => l0 x2 x4 x5 (fun y2 => k (o0 x2 x4 x5 y2)) fuel x3 x6
  | _, _ => none
noncomputable def s2 (x9 : List (List Cl)) (x10 x11 : Int) (x12 : List Int) : St := ⟨mkT 36 [(6, one (.ow 19449)), (25, one (.tr 2 0 [.ints .i64] (.cells x9))), (26, one (.int .i64 x10)), (27, one (.int .i64 x11))], [(19449, ⟨[.int .i64], .ints x12, true, 0⟩)], []⟩
noncomputable def l2s (x9 : List (List Cl)) (x10 : Int) (rec : Int → List Int → Option Res) (k : List Int → Option Res) (x11 : Int) (x12 : List Int) : Option Res :=
  bif decide (x11 < x10) then (bif decide (0 ≤ x11) && decide (x11 < (x9.length : Int)) then (bif decide ((x12.length + (((x9.getD x11.toNat []).getD 0 (.i 0)).toL).length) * 8 ≤ 140737488355328) then rec (IntKind.i64.wrap (x11 + 1)) (x12 ++ (((x9.getD x11.toNat []).getD 0 (.i 0)).toL))
      else none)
    else none)
  else k x12
noncomputable def l2 (x9 : List (List Cl)) (x10 : Int) (k : List Int → Option Res) : Nat → Int → List Int → Option Res
  | 0, _, _ => none
  | n + 1, x11, x12 => l2s x9 x10 (fun x11 x12 => l2 x9 x10 k n x11 x12) k x11 x12
noncomputable def o2 (x9 : List (List Cl)) (x10 : Int) (y1 : List Int) : St := ⟨mkT 36 [(6, one (.ow 19449))], [(19449, ⟨[.int .i64], .ints y1, true, 0⟩)], []⟩
noncomputable def p2 (K : Res → Option Res) : List Lf → (St → Option Res) → Option Res
  | [.q (.cells x9), .i x10, .i x11, .q (.ints x12)], k => l2 x9 x10 (fun y1 => k (o2 x9 x10 y1)) fuel x11 x12
  | _, _ => none
noncomputable def os : List (FuncId × St × (List Lf → (Res → Option Res) → Option Res)) := [slices_Grow_int_int.con]
noncomputable def X (K : Res → Option Res) : Ctx := { Γ := Γ0, orc := orcOf os, io := [], share := [], mvl := [], bun := [(9, 1)], cut := [], own := [], cin := [(0, ⟨[0, 3, 9, 10, 11], [], [], [], [], []⟩), (2, ⟨[6, 25, 26, 27], [(19449, 19449), (27656, 19449)], [], [], [], []⟩)], cout := [(0, ⟨[0, 3], [], [], [], [], []⟩), (2, ⟨[6], [(19449, 19449)], [], [], [], []⟩)], lp := lpOf [(0, s0 [] 0 [] 0 0, p0 K), (2, s2 [] 0 0 [], p2 K)], kl := [], nk := true, eqs := eqs0, byt := byt0, fin := finK fi K }
noncomputable def b (a1 : List (List Cl)) (R : List Int → Option Res) : Option Res :=
  l0 a1 a1 (a1.length : Int) (fun y7 => 
  slices_Grow_int_int.g y7 fun r8 =>
  l2 a1 (a1.length : Int) (fun y13 => 
  R y13) fuel 0 r8) fuel 0 0
theorem gx : ∃ x : List (List Cl) → (List Int → Option Res) → Option Res, x = b := ⟨_, rfl⟩
noncomputable def g : List (List Cl) → (List Int → Option Res) → Option Res := Classical.choose gx
theorem e : g = b := Classical.choose_spec gx
noncomputable def run : List Lf → (Res → Option Res) → Option Res
  | [.q (.cells a1)], K => g a1 (fun r1 => K (m r1))
  | _, _ => none
noncomputable def a (a1 : List (List Cl)) : St := argSt [one (.tr 2 0 [.ints .i64] (.cells a1))] [] []
noncomputable def con : FuncId × St × (List Lf → (Res → Option Res) → Option Res) := (133, a [], run)
theorem cx (K : Res → Option Res) : CtxOk Go.Proofs.Try.prog Γ0 byt0 eqs0 (X K) os := ⟨rfl, rfl, rfl, (fun p hp => by
  rcases List.mem_cons.1 hp with rfl | hp
  · exact slices_Grow_int_int.ok
  cases hp), rfl, rfl, rfl, rfl⟩
theorem t0 (K : Res → Option Res) (k : St → Option Res) (it : St → (St → Option Res) → Option Res) (x2 : List (List Cl)) (x3 : Int) (x4 : List (List Cl)) (x5 x6 : Int) : iterS (X K) 0 b0 it (s0 x2 x3 x4 x5 x6) k = l0s x2 x4 x5 (fun x3 x6 => it (s0 x2 x3 x4 x5 x6) k) (fun y2 => k (o0 x2 x4 x5 y2)) x3 x6 := by kernel_rfl
theorem i0 (K : Res → Option Res) (k : St → Option Res) (x2 x4 : List (List Cl)) (x5 : Int) : ∀ (n : Nat) (x3 x6 : Int), iter (X K) 0 b0 n (s0 x2 x3 x4 x5 x6) k = l0 x2 x4 x5 (fun y2 => k (o0 x2 x4 x5 y2)) n x3 x6
  | 0, _, _ => rfl
  | n + 1, x3, x6 => by
    rw [iter_succ, t0, show (fun x3 x6 => iter (X K) 0 b0 n (s0 x2 x3 x4 x5 x6) k) = (fun x3 x6 => l0 x2 x4 x5 (fun y2 => k (o0 x2 x4 x5 y2)) n x3 x6) from funext fun x3 => funext fun x6 => i0 K k x2 x4 x5 n x3 x6]; rfl
theorem v0 {K : Res → Option Res} {l : List Lf} {k : St → Option Res} {r : Res} (h : p0 K l k = some r) : ∃ x2 x3 x4 x5 x6, l = [.q (.cells x2), .i x3, .q (.cells x4), .i x5, .i x6] ∧ l0 x2 x4 x5 (fun y2 => k (o0 x2 x4 x5 y2)) fuel x3 x6 = some r := by
  unfold p0 at h; split at h
  · exact ⟨_, _, _, _, _, rfl, h⟩
  · cases h
theorem t2 (K : Res → Option Res) (k : St → Option Res) (it : St → (St → Option Res) → Option Res) (x9 : List (List Cl)) (x10 x11 : Int) (x12 : List Int) : iterS (X K) 2 b2 it (s2 x9 x10 x11 x12) k = l2s x9 x10 (fun x11 x12 => it (s2 x9 x10 x11 x12) k) (fun y1 => k (o2 x9 x10 y1)) x11 x12 := by kernel_rfl
theorem i2 (K : Res → Option Res) (k : St → Option Res) (x9 : List (List Cl)) (x10 : Int) : ∀ (n : Nat) (x11 : Int) (x12 : List Int), iter (X K) 2 b2 n (s2 x9 x10 x11 x12) k = l2 x9 x10 (fun y1 => k (o2 x9 x10 y1)) n x11 x12
  | 0, _, _ => rfl
  | n + 1, x11, x12 => by
    rw [iter_succ, t2, show (fun x11 x12 => iter (X K) 2 b2 n (s2 x9 x10 x11 x12) k) = (fun x11 x12 => l2 x9 x10 (fun y1 => k (o2 x9 x10 y1)) n x11 x12) from funext fun x11 => funext fun x12 => i2 K k x9 x10 n x11 x12]; rfl
theorem v2 {K : Res → Option Res} {l : List Lf} {k : St → Option Res} {r : Res} (h : p2 K l k = some r) : ∃ x9 x10 x11 x12, l = [.q (.cells x9), .i x10, .i x11, .q (.ints x12)] ∧ l2 x9 x10 (fun y1 => k (o2 x9 x10 y1)) fuel x11 x12 = some r := by
  unfold p2 at h; split at h
  · exact ⟨_, _, _, _, rfl, h⟩
  · cases h
theorem w2 (K : Res → Option Res) : LpSound Go.Proofs.Try.prog (X K) 2 b2 := lp_ok ((cx K).ok laid) (by rw [show loopsOf b2 = [] from by kernel_rfl]; intro p hp; cases hp) rfl fun p hp hid => by
  rcases List.mem_cons.1 hp with rfl | hp
  · exact absurd hid (by simp)
  rcases List.mem_cons.1 hp with rfl | hp
  · intro st k r h1 h2; obtain ⟨x9, x10, x11, x12, e, h⟩ := v2 (K := K) h2; have := St.like_eq (y := s2 x9 x10 x11 x12) h1 (by kernel_rfl) e; subst this; exact ⟨fuel, (i2 K k x9 x10 fuel x11 x12).trans h⟩
  cases hp
theorem w0 (K : Res → Option Res) : LpSound Go.Proofs.Try.prog (X K) 0 b0 := lp_ok ((cx K).ok laid) (by rw [show loopsOf b0 = [] from by kernel_rfl]; intro p hp; cases hp) rfl fun p hp hid => by
  rcases List.mem_cons.1 hp with rfl | hp
  · intro st k r h1 h2; obtain ⟨x2, x3, x4, x5, x6, e, h⟩ := v0 (K := K) h2; have := St.like_eq (y := s0 x2 x3 x4 x5 x6) h1 (by kernel_rfl) e; subst this; exact ⟨fuel, (i0 K k x2 x4 x5 fuel x3 x6).trans h⟩
  rcases List.mem_cons.1 hp with rfl | hp
  · exact absurd hid (by simp)
  cases hp
theorem tie (K : Res → Option Res) (a1 : List (List Cl)) : exec (X K) c (entry 36 [one (.tr 2 0 [.ints .i64] (.cells a1))] [] []) (endK (X K)) = g a1 (fun r1 => K (m r1)) := Eq.trans (b := b a1 (fun r1 => K (m r1))) (by kernel_rfl) (by rw [e])
theorem runv {l : List Lf} {K : Res → Option Res} {r : Res} (h : run l K = some r) : ∃ a1, l = [.q (.cells a1)] ∧ g a1 (fun r1 => K (m r1)) = some r := by
  unfold run at h; split at h
  · exact ⟨_, rfl, h⟩
  · cases h
theorem ok : Con Go.Proofs.Try.prog con := con_of (fn := Go.Proofs.Try.f133) (c := c) (Fi := fi) (X := X) (fun_of laid (by kernel_rfl) (by kernel_rfl) (by kernel_rfl) rfl (by kernel_rfl) (by kernel_rfl) cx (fun _ => rfl) (fun _ => rfl) (fun K => by
    rw [show loopsOf c = [(0, b0), (2, b2)] from by kernel_rfl]; intro p hp
    rcases List.mem_cons.1 hp with rfl | hp
    · exact w0 K
    rcases List.mem_cons.1 hp with rfl | hp
    · exact w2 K
    cases hp)) fun xs rows boxes K r hl hr => by
  obtain ⟨a1, e, h⟩ := runv hr
  have := St.like_eq (y := a a1) hl (by kernel_rfl) e
  obtain ⟨rfl, rfl, rfl⟩ := argSt_inj this
  exact (tie K a1).trans h
end slices_Concat_int_int_i2
namespace slices_Concat_int_int
noncomputable def b (a1 a2 a3 : List Int) (R : List Int → Option Res) : Option Res := slices_Concat_int_int_i2.g [[.l a1], [.l a2], [.l a3]] R
theorem gx : ∃ x : List Int → List Int → List Int → (List Int → Option Res) → Option Res, x = b := ⟨_, rfl⟩
noncomputable def g : List Int → List Int → List Int → (List Int → Option Res) → Option Res := Classical.choose gx
theorem e : g = b := Classical.choose_spec gx
noncomputable def run : List Lf → (Res → Option Res) → Option Res
  | [.q (.ints a1), .q (.ints a2), .q (.ints a3)], K => g a1 a2 a3 (fun r1 => K (slices_Concat_int_int_i2.m r1))
  | _, _ => none
noncomputable def a (a1 a2 a3 : List Int) : St := argSt [.bn [.tr 0 1 [.int .i64] (.ints a1), .tr 0 1 [.int .i64] (.ints a2), .tr 0 1 [.int .i64] (.ints a3)]] [] []
noncomputable def con : FuncId × St × (List Lf → (Res → Option Res) → Option Res) := (133, a [] [] [], run)
theorem ok : Con Go.Proofs.Try.prog con := fun xs rows boxes K r hr => by
  cases hl : (argSt xs rows boxes).like con.2.1 with
  | false => simp only [hl, cond_false] at hr; cases hr
  | true =>
    simp only [hl, cond_true] at hr
    have hr : run (argSt xs rows boxes).leaves K = some r := hr
    obtain ⟨a1, a2, a3, e', h⟩ : ∃ a1 a2 a3, (argSt xs rows boxes).leaves = [.q (.ints a1), .q (.ints a2), .q (.ints a3)] ∧ g a1 a2 a3 (fun r1 => K (slices_Concat_int_int_i2.m r1)) = some r := by
      unfold run at hr; split at hr
      · exact ⟨_, _, _, by assumption, hr⟩
      · cases hr
    have := St.like_eq (y := a a1 a2 a3) hl (by kernel_rfl) e'
    obtain ⟨rfl, rfl, rfl⟩ := argSt_inj this
    rw [e] at h
    exact bn_sound slices_Concat_int_int_i2.ok (fun L => by kernel_rfl) [a1, a2, a3] h
end slices_Concat_int_int
namespace impl_wordsOf
noncomputable def c : Code := bodyOf Go.Proofs.Try.f84
noncomputable def fi : Fin := ⟨Γ0, [(.tmp 2, 33)], [[1]], [], [], []⟩
noncomputable def m (r1 : List Int) : Res := ⟨[⟨false, [.ow 1000]⟩], [], [⟨[.int .i64], .ints r1, true, 0⟩], [], []⟩
noncomputable def os : List (FuncId × St × (List Lf → (Res → Option Res) → Option Res)) := [slices_Concat_int_int.con]
noncomputable def X (K : Res → Option Res) : Ctx := { Γ := Γ0, orc := orcOf os, io := [], share := [], mvl := [], bun := [(1, 8)], cut := [], own := [], cin := [], cout := [], lp := lpOf [], kl := [], nk := true, eqs := eqs0, byt := byt0, fin := finK fi K }
noncomputable def b (a1 a2 : List Int) (R : List Int → Option Res) : Option Res :=
  slices_Concat_int_int.g ([(a1.length : Int)] : List Int) a1 a2 fun r3 =>
  R r3
theorem gx : ∃ x : List Int → List Int → (List Int → Option Res) → Option Res, x = b := ⟨_, rfl⟩
noncomputable def g : List Int → List Int → (List Int → Option Res) → Option Res := Classical.choose gx
theorem e : g = b := Classical.choose_spec gx
noncomputable def run : List Lf → (Res → Option Res) → Option Res
  | [.q (.ints a1), .q (.ints a2)], K => g a1 a2 (fun r1 => K (m r1))
  | _, _ => none
noncomputable def a (a1 a2 : List Int) : St := argSt [.v ⟨true, [.tr 0 1 [.int .i64] (.ints a1), .tr 0 1 [.int .i64] (.ints a2)]⟩] [] []
noncomputable def con : FuncId × St × (List Lf → (Res → Option Res) → Option Res) := (84, a [] [], run)
theorem cx (K : Res → Option Res) : CtxOk Go.Proofs.Try.prog Γ0 byt0 eqs0 (X K) os := ⟨rfl, rfl, rfl, (fun p hp => by
  rcases List.mem_cons.1 hp with rfl | hp
  · exact slices_Concat_int_int.ok
  cases hp), rfl, rfl, rfl, rfl⟩
theorem tie (K : Res → Option Res) (a1 a2 : List Int) : exec (X K) c (entry 13 [.v ⟨true, [.tr 0 1 [.int .i64] (.ints a1), .tr 0 1 [.int .i64] (.ints a2)]⟩] [] []) (endK (X K)) = g a1 a2 (fun r1 => K (m r1)) := Eq.trans (b := b a1 a2 (fun r1 => K (m r1))) (by kernel_rfl) (by rw [e])
theorem runv {l : List Lf} {K : Res → Option Res} {r : Res} (h : run l K = some r) : ∃ a1 a2, l = [.q (.ints a1), .q (.ints a2)] ∧ g a1 a2 (fun r1 => K (m r1)) = some r := by
  unfold run at h; split at h
  · exact ⟨_, _, rfl, h⟩
  · cases h
theorem ok : Con Go.Proofs.Try.prog con := con_of (fn := Go.Proofs.Try.f84) (c := c) (Fi := fi) (X := X) (fun_of laid (by kernel_rfl) (by kernel_rfl) (by kernel_rfl) rfl (by kernel_rfl) (by kernel_rfl) cx (fun _ => rfl) (fun _ => rfl) (fun K => by
    rw [show loopsOf c = [] from by kernel_rfl]; intro p hp
    cases hp)) fun xs rows boxes K r hl hr => by
  obtain ⟨a1, a2, e, h⟩ := runv hr
  have := St.like_eq (y := a a1 a2) hl (by kernel_rfl) e
  obtain ⟨rfl, rfl, rfl⟩ := argSt_inj this
  exact (tie K a1 a2).trans h
end impl_wordsOf
namespace impl_HeapPut_1
noncomputable def c : Code := bodyOf Go.Proofs.Try.f86
noncomputable def fi : Fin := ⟨Γ0, [(.tmp 2, 4)], [[1]], [], [], []⟩
noncomputable def m (r1 : Bool) : Res := ⟨[⟨false, [.bool r1]⟩], [], [], [], []⟩
noncomputable def os : List (FuncId × St × (List Lf → (Res → Option Res) → Option Res)) := []
noncomputable def X (K : Res → Option Res) : Ctx := { Γ := Γ0, orc := orcOf os, io := [], share := [], mvl := [], bun := [], cut := [], own := [], cin := [], cout := [], lp := lpOf [], kl := [], nk := true, eqs := eqs0, byt := byt0, fin := finK fi K }
noncomputable def b (a1 a2 : Int) (a3 : Bool) (R : Bool → Option Res) : Option Res :=
  R (!a3)
theorem gx : ∃ x : Int → Int → Bool → (Bool → Option Res) → Option Res, x = b := ⟨_, rfl⟩
noncomputable def g : Int → Int → Bool → (Bool → Option Res) → Option Res := Classical.choose gx
theorem e : g = b := Classical.choose_spec gx
noncomputable def run : List Lf → (Res → Option Res) → Option Res
  | [.i a1, .i a2, .b a3], K => g a1 a2 a3 (fun r1 => K (m r1))
  | _, _ => none
noncomputable def a (a1 a2 : Int) (a3 : Bool) : St := argSt [.v ⟨true, [.int .i64 a1, .int .i64 a2, .bool a3]⟩] [] []
noncomputable def con : FuncId × St × (List Lf → (Res → Option Res) → Option Res) := (86, a 0 0 false, run)
theorem cx (K : Res → Option Res) : CtxOk Go.Proofs.Try.prog Γ0 byt0 eqs0 (X K) os := ⟨rfl, rfl, rfl, (fun p hp => by
  cases hp), rfl, rfl, rfl, rfl⟩
theorem tie (K : Res → Option Res) (a1 a2 : Int) (a3 : Bool) : exec (X K) c (entry 6 [.v ⟨true, [.int .i64 a1, .int .i64 a2, .bool a3]⟩] [] []) (endK (X K)) = g a1 a2 a3 (fun r1 => K (m r1)) := Eq.trans (b := b a1 a2 a3 (fun r1 => K (m r1))) (by kernel_rfl) (by rw [e])
theorem runv {l : List Lf} {K : Res → Option Res} {r : Res} (h : run l K = some r) : ∃ a1 a2 a3, l = [.i a1, .i a2, .b a3] ∧ g a1 a2 a3 (fun r1 => K (m r1)) = some r := by
  unfold run at h; split at h
  · exact ⟨_, _, _, rfl, h⟩
  · cases h
theorem ok : Con Go.Proofs.Try.prog con := con_of (fn := Go.Proofs.Try.f86) (c := c) (Fi := fi) (X := X) (fun_of laid (by kernel_rfl) (by kernel_rfl) (by kernel_rfl) rfl (by kernel_rfl) (by kernel_rfl) cx (fun _ => rfl) (fun _ => rfl) (fun K => by
    rw [show loopsOf c = [] from by kernel_rfl]; intro p hp
    cases hp)) fun xs rows boxes K r hl hr => by
  obtain ⟨a1, a2, a3, e, h⟩ := runv hr
  have := St.like_eq (y := a a1 a2 a3) hl (by kernel_rfl) e
  obtain ⟨rfl, rfl, rfl⟩ := argSt_inj this
  exact (tie K a1 a2 a3).trans h
end impl_HeapPut_1
namespace impl_Cell
noncomputable def c : Code := bodyOf Go.Proofs.Try.f85
noncomputable def fi : Fin := ⟨Γ0, [(.tmp 4, 3)], [[1]], [], [], []⟩
noncomputable def m (r1 : Int) : Res := ⟨[⟨false, [.int .i64 r1]⟩], [], [], [], []⟩
noncomputable def b0 : Code := codeAt c [1, 0, 1, 0, 0]
noncomputable def s0 (x2 : List (List Cl)) (x3 x4 : Int) : St := ⟨mkT 19 [(0, one (.tr 0 1 [.int .i64, .int .i64, .bool] (.cells x2))), (1, one (.fn 86 [])), (7, one (.int .i64 x3)), (8, one (.int .i64 x4))], [], []⟩
noncomputable def l0s (x2 : List (List Cl)) (x3 : Int) (rec : Int → Option Res) (k : Option Res) (R : Int → Option Res) (x4 : Int) : Option Res :=
  bif decide (x4 < x3) then (bif decide (0 ≤ x4) && decide (x4 < (x2.length : Int)) then (impl_HeapPut_1.g (((x2.getD x4.toNat []).getD 0 (.i 0)).toI) (((x2.getD x4.toNat []).getD 1 (.i 0)).toI) (((x2.getD x4.toNat []).getD 2 (.i 0)).toB) fun r5 =>
      bif r5 then R x4
      else rec (IntKind.i64.wrap (x4 + 1)))
    else none)
  else k
noncomputable def l0 (x2 : List (List Cl)) (x3 : Int) (k : Option Res) (R : Int → Option Res) : Nat → Int → Option Res
  | 0, _ => none
  | n + 1, x4 => l0s x2 x3 (fun x4 => l0 x2 x3 k R n x4) k R x4
noncomputable def o0 (x2 : List (List Cl)) (x3 : Int) : St := ⟨mkT 19 [], [], []⟩
noncomputable def p0 (K : Res → Option Res) : List Lf → (St → Option Res) → Option Res
  | [.q (.cells x2), .i x3, .i x4], k => l0 x2 x3 (k (o0 x2 x3)) (fun r1 => K (m r1)) fuel x4
  | _, _ => none
noncomputable def os : List (FuncId × St × (List Lf → (Res → Option Res) → Option Res)) := [impl_HeapPut_1.con]
noncomputable def X (K : Res → Option Res) : Ctx := { Γ := Γ0, orc := orcOf os, io := [], share := [], mvl := [], bun := [], cut := [], own := [], cin := [(0, ⟨[0, 1, 7, 8], [], [], [], [], []⟩)], cout := [(0, ⟨[], [], [], [], [], []⟩)], lp := lpOf [(0, s0 [] 0 0, p0 K)], kl := [], nk := true, eqs := eqs0, byt := byt0, fin := finK fi K }
noncomputable def b (a1 : List (List Cl)) (R : Int → Option Res) : Option Res :=
  l0 a1 (a1.length : Int) (
  R (-1)) R fuel 0
theorem gx : ∃ x : List (List Cl) → (Int → Option Res) → Option Res, x = b := ⟨_, rfl⟩
noncomputable def g : List (List Cl) → (Int → Option Res) → Option Res := Classical.choose gx
theorem e : g = b := Classical.choose_spec gx
noncomputable def run : List Lf → (Res → Option Res) → Option Res
  | [.q (.cells a1)], K => g a1 (fun r1 => K (m r1))
  | _, _ => none
noncomputable def a (a1 : List (List Cl)) : St := argSt [one (.tr 0 1 [.int .i64, .int .i64, .bool] (.cells a1)), one (.fn 86 [])] [] []
noncomputable def con : FuncId × St × (List Lf → (Res → Option Res) → Option Res) := (85, a [], run)
theorem cx (K : Res → Option Res) : CtxOk Go.Proofs.Try.prog Γ0 byt0 eqs0 (X K) os := ⟨rfl, rfl, rfl, (fun p hp => by
  rcases List.mem_cons.1 hp with rfl | hp
  · exact impl_HeapPut_1.ok
  cases hp), rfl, rfl, rfl, rfl⟩
theorem t0 (K : Res → Option Res) (k : St → Option Res) (it : St → (St → Option Res) → Option Res) (x2 : List (List Cl)) (x3 x4 : Int) : iterS (X K) 0 b0 it (s0 x2 x3 x4) k = l0s x2 x3 (fun x4 => it (s0 x2 x3 x4) k) (k (o0 x2 x3)) (fun r1 => K (m r1)) x4 := by kernel_rfl
theorem i0 (K : Res → Option Res) (k : St → Option Res) (x2 : List (List Cl)) (x3 : Int) : ∀ (n : Nat) (x4 : Int), iter (X K) 0 b0 n (s0 x2 x3 x4) k = l0 x2 x3 (k (o0 x2 x3)) (fun r1 => K (m r1)) n x4
  | 0, _ => rfl
  | n + 1, x4 => by
    rw [iter_succ, t0, show (fun x4 => iter (X K) 0 b0 n (s0 x2 x3 x4) k) = (fun x4 => l0 x2 x3 (k (o0 x2 x3)) (fun r1 => K (m r1)) n x4) from funext fun x4 => i0 K k x2 x3 n x4]; rfl
theorem v0 {K : Res → Option Res} {l : List Lf} {k : St → Option Res} {r : Res} (h : p0 K l k = some r) : ∃ x2 x3 x4, l = [.q (.cells x2), .i x3, .i x4] ∧ l0 x2 x3 (k (o0 x2 x3)) (fun r1 => K (m r1)) fuel x4 = some r := by
  unfold p0 at h; split at h
  · exact ⟨_, _, _, rfl, h⟩
  · cases h
theorem w0 (K : Res → Option Res) : LpSound Go.Proofs.Try.prog (X K) 0 b0 := lp_ok ((cx K).ok laid) (by rw [show loopsOf b0 = [] from by kernel_rfl]; intro p hp; cases hp) rfl fun p hp hid => by
  rcases List.mem_cons.1 hp with rfl | hp
  · intro st k r h1 h2; obtain ⟨x2, x3, x4, e, h⟩ := v0 (K := K) h2; have := St.like_eq (y := s0 x2 x3 x4) h1 (by kernel_rfl) e; subst this; exact ⟨fuel, (i0 K k x2 x3 fuel x4).trans h⟩
  cases hp
theorem tie (K : Res → Option Res) (a1 : List (List Cl)) : exec (X K) c (entry 19 [one (.tr 0 1 [.int .i64, .int .i64, .bool] (.cells a1)), one (.fn 86 [])] [] []) (endK (X K)) = g a1 (fun r1 => K (m r1)) := Eq.trans (b := b a1 (fun r1 => K (m r1))) (by kernel_rfl) (by rw [e])
theorem runv {l : List Lf} {K : Res → Option Res} {r : Res} (h : run l K = some r) : ∃ a1, l = [.q (.cells a1)] ∧ g a1 (fun r1 => K (m r1)) = some r := by
  unfold run at h; split at h
  · exact ⟨_, rfl, h⟩
  · cases h
theorem ok : Con Go.Proofs.Try.prog con := con_of (fn := Go.Proofs.Try.f85) (c := c) (Fi := fi) (X := X) (fun_of laid (by kernel_rfl) (by kernel_rfl) (by kernel_rfl) rfl (by kernel_rfl) (by kernel_rfl) cx (fun _ => rfl) (fun _ => rfl) (fun K => by
    rw [show loopsOf c = [(0, b0)] from by kernel_rfl]; intro p hp
    rcases List.mem_cons.1 hp with rfl | hp
    · exact w0 K
    cases hp)) fun xs rows boxes K r hl hr => by
  obtain ⟨a1, e, h⟩ := runv hr
  have := St.like_eq (y := a a1) hl (by kernel_rfl) e
  obtain ⟨rfl, rfl, rfl⟩ := argSt_inj this
  exact (tie K a1).trans h
end impl_Cell
namespace impl_HeapPut
noncomputable def c : Code := bodyOf Go.Proofs.Try.f36
noncomputable def fi : Fin := ⟨Γ0, [(.cell 4 38, 38), (.tmp 5, 3), (.tmp 6, 4)], [[1, 1, 1], [1], [1]], [], [], []⟩
noncomputable def m (r1 : List Int) (r2 : Int) (r3 : List (List Cl)) (r4 : Int) (r5 : Bool) : Res := ⟨[⟨true, [.ow 1000, .int .i64 r2, .ow 1001]⟩, ⟨false, [.int .i64 r4]⟩, ⟨false, [.bool r5]⟩], [], [⟨[.int .i64], .ints r1, true, 0⟩, ⟨[.int .i64, .int .i64, .bool], .cells r3, true, 0⟩], [], []⟩
noncomputable def os : List (FuncId × St × (List Lf → (Res → Option Res) → Option Res)) := [impl_HeapOk.con, impl_ArrayOk.con, impl_copyHeap.con, impl_wordsOf.con, impl_packed.con, impl_Cell.con]
noncomputable def X (K : Res → Option Res) : Ctx := { Γ := Γ0, orc := orcOf os, io := [(63, [⟨false, 2, 2⟩])], share := [], mvl := [], bun := [], cut := [], own := [], cin := [], cout := [], lp := lpOf [], kl := [], nk := true, eqs := eqs0, byt := byt0, fin := finK fi K }
noncomputable def b (a1 : List Int) (a2 : Int) (a3 : List (List Cl)) (a4 a5 : List Int) (R : List Int → Int → List (List Cl) → Int → Bool → Option Res) : Option Res :=
  impl_HeapOk.g a1 a2 a3 fun r6 =>
  bif !r6 then R ([] : List Int) 0 ([] : List (List Cl)) (-1) false
  else (impl_ArrayOk.g a4 a5 fun r7 =>
  bif !r7 then (impl_copyHeap.g a1 a2 a3 (
    R a1 a2 a3 (-1) false))
  else (impl_wordsOf.g a4 a5 fun r8 =>
  impl_copyHeap.g a1 a2 a3 (
  bif decide (IntKind.i64.wrap ((a1.length : Int) - a2) < (r8.length : Int)) then (impl_packed.g a1 a2 a3 fun r9 r10 r11 =>
    impl_Cell.g r11 fun r12 =>
    bif decide (r12 < 0) then (bif decide ((r11.length + 1) * 24 ≤ 140737488355328) then (bif decide (IntKind.i64.wrap ((r9.length : Int) - r10) < (r8.length : Int)) then (impl_copyHeap.g a1 a2 a3 (
          R a1 a2 a3 (-1) false))
        else bif decide (200 ≤ (r11.length : Int)) then (impl_copyHeap.g a1 a2 a3 (
          R a1 a2 a3 (-1) false))
        else bif decide (0 ≤ r10) && decide (r10 ≤ (r9.length : Int)) then (bif decide (r8.length ≤ r9.length - r10.toNat) then (bif decide (0 ≤ (r11.length : Int)) && decide ((r11.length : Int) < ((r11 ++ ([[.i 0, .i 0, .b false]] : List (List Cl))).length : Int)) then R (overlay r9 r10.toNat r8) (IntKind.i64.wrap (r10 + (r8.length : Int))) ((r11 ++ ([[.i 0, .i 0, .b false]] : List (List Cl))).set ((r11.length : Int).toNat) [.i r10, .i (r8.length : Int), .b true]) (r11.length : Int) true
            else none)
          else bif decide (0 ≤ (r11.length : Int)) && decide ((r11.length : Int) < ((r11 ++ ([[.i 0, .i 0, .b false]] : List (List Cl))).length : Int)) then R (overlay r9 r10.toNat (r8.take (r9.length - r10.toNat))) (IntKind.i64.wrap (r10 + (r8.length : Int))) ((r11 ++ ([[.i 0, .i 0, .b false]] : List (List Cl))).set ((r11.length : Int).toNat) [.i r10, .i (r8.length : Int), .b true]) (r11.length : Int) true
          else none)
        else none)
      else none)
    else bif decide (IntKind.i64.wrap ((r9.length : Int) - r10) < (r8.length : Int)) then (impl_copyHeap.g a1 a2 a3 (
      R a1 a2 a3 (-1) false))
    else bif decide (200 ≤ r12) then (impl_copyHeap.g a1 a2 a3 (
      R a1 a2 a3 (-1) false))
    else bif decide (0 ≤ r10) && decide (r10 ≤ (r9.length : Int)) then (bif decide (r8.length ≤ r9.length - r10.toNat) then (bif decide (0 ≤ r12) && decide (r12 < (r11.length : Int)) then R (overlay r9 r10.toNat r8) (IntKind.i64.wrap (r10 + (r8.length : Int))) (r11.set r12.toNat [.i r10, .i (r8.length : Int), .b true]) r12 true
        else none)
      else bif decide (0 ≤ r12) && decide (r12 < (r11.length : Int)) then R (overlay r9 r10.toNat (r8.take (r9.length - r10.toNat))) (IntKind.i64.wrap (r10 + (r8.length : Int))) (r11.set r12.toNat [.i r10, .i (r8.length : Int), .b true]) r12 true
      else none)
    else none)
  else (impl_Cell.g a3 fun r13 =>
  bif decide (r13 < 0) then (bif decide ((a3.length + 1) * 24 ≤ 140737488355328) then (bif decide (IntKind.i64.wrap ((a1.length : Int) - a2) < (r8.length : Int)) then (impl_copyHeap.g a1 a2 a3 (
        R a1 a2 a3 (-1) false))
      else bif decide (200 ≤ (a3.length : Int)) then (impl_copyHeap.g a1 a2 a3 (
        R a1 a2 a3 (-1) false))
      else bif decide (0 ≤ a2) && decide (a2 ≤ (a1.length : Int)) then (bif decide (r8.length ≤ a1.length - a2.toNat) then (bif decide (0 ≤ (a3.length : Int)) && decide ((a3.length : Int) < ((a3 ++ ([[.i 0, .i 0, .b false]] : List (List Cl))).length : Int)) then R (overlay a1 a2.toNat r8) (IntKind.i64.wrap (a2 + (r8.length : Int))) ((a3 ++ ([[.i 0, .i 0, .b false]] : List (List Cl))).set ((a3.length : Int).toNat) [.i a2, .i (r8.length : Int), .b true]) (a3.length : Int) true
          else none)
        else bif decide (0 ≤ (a3.length : Int)) && decide ((a3.length : Int) < ((a3 ++ ([[.i 0, .i 0, .b false]] : List (List Cl))).length : Int)) then R (overlay a1 a2.toNat (r8.take (a1.length - a2.toNat))) (IntKind.i64.wrap (a2 + (r8.length : Int))) ((a3 ++ ([[.i 0, .i 0, .b false]] : List (List Cl))).set ((a3.length : Int).toNat) [.i a2, .i (r8.length : Int), .b true]) (a3.length : Int) true
        else none)
      else none)
    else none)
  else bif decide (IntKind.i64.wrap ((a1.length : Int) - a2) < (r8.length : Int)) then (impl_copyHeap.g a1 a2 a3 (
    R a1 a2 a3 (-1) false))
  else bif decide (200 ≤ r13) then (impl_copyHeap.g a1 a2 a3 (
    R a1 a2 a3 (-1) false))
  else bif decide (0 ≤ a2) && decide (a2 ≤ (a1.length : Int)) then (bif decide (r8.length ≤ a1.length - a2.toNat) then (bif decide (0 ≤ r13) && decide (r13 < (a3.length : Int)) then R (overlay a1 a2.toNat r8) (IntKind.i64.wrap (a2 + (r8.length : Int))) (a3.set r13.toNat [.i a2, .i (r8.length : Int), .b true]) r13 true
      else none)
    else bif decide (0 ≤ r13) && decide (r13 < (a3.length : Int)) then R (overlay a1 a2.toNat (r8.take (a1.length - a2.toNat))) (IntKind.i64.wrap (a2 + (r8.length : Int))) (a3.set r13.toNat [.i a2, .i (r8.length : Int), .b true]) r13 true
    else none)
  else none))))
theorem gx : ∃ x : List Int → Int → List (List Cl) → List Int → List Int → (List Int → Int → List (List Cl) → Int → Bool → Option Res) → Option Res, x = b := ⟨_, rfl⟩
noncomputable def g : List Int → Int → List (List Cl) → List Int → List Int → (List Int → Int → List (List Cl) → Int → Bool → Option Res) → Option Res := Classical.choose gx
theorem e : g = b := Classical.choose_spec gx
noncomputable def run : List Lf → (Res → Option Res) → Option Res
  | [.q (.ints a1), .i a2, .q (.cells a3), .q (.ints a4), .q (.ints a5)], K => g a1 a2 a3 a4 a5 (fun r1 r2 r3 r4 r5 => K (m r1 r2 r3 r4 r5))
  | _, _ => none
noncomputable def a (a1 : List Int) (a2 : Int) (a3 : List (List Cl)) (a4 a5 : List Int) : St := argSt [.v ⟨true, [.tr 2 2 [.int .i64] (.ints a1), .int .i64 a2, .tr 2 2 [.int .i64, .int .i64, .bool] (.cells a3)]⟩, .v ⟨true, [.tr 0 1 [.int .i64] (.ints a4), .tr 0 1 [.int .i64] (.ints a5)]⟩] [] []
noncomputable def con : FuncId × St × (List Lf → (Res → Option Res) → Option Res) := (36, a [] 0 [] [] [], run)
theorem cx (K : Res → Option Res) : CtxOk Go.Proofs.Try.prog Γ0 byt0 eqs0 (X K) os := ⟨rfl, rfl, rfl, (fun p hp => by
  rcases List.mem_cons.1 hp with rfl | hp
  · exact impl_HeapOk.ok
  rcases List.mem_cons.1 hp with rfl | hp
  · exact impl_ArrayOk.ok
  rcases List.mem_cons.1 hp with rfl | hp
  · exact impl_copyHeap.ok
  rcases List.mem_cons.1 hp with rfl | hp
  · exact impl_wordsOf.ok
  rcases List.mem_cons.1 hp with rfl | hp
  · exact impl_packed.ok
  rcases List.mem_cons.1 hp with rfl | hp
  · exact impl_Cell.ok
  cases hp), rfl, rfl, rfl, rfl⟩
theorem tie (K : Res → Option Res) (a1 : List Int) (a2 : Int) (a3 : List (List Cl)) (a4 a5 : List Int) : exec (X K) c (entry 87 [.v ⟨true, [.tr 2 2 [.int .i64] (.ints a1), .int .i64 a2, .tr 2 2 [.int .i64, .int .i64, .bool] (.cells a3)]⟩, .v ⟨true, [.tr 0 1 [.int .i64] (.ints a4), .tr 0 1 [.int .i64] (.ints a5)]⟩] [] []) (endK (X K)) = g a1 a2 a3 a4 a5 (fun r1 r2 r3 r4 r5 => K (m r1 r2 r3 r4 r5)) := Eq.trans (b := b a1 a2 a3 a4 a5 (fun r1 r2 r3 r4 r5 => K (m r1 r2 r3 r4 r5))) (by kernel_rfl) (by rw [e])
theorem runv {l : List Lf} {K : Res → Option Res} {r : Res} (h : run l K = some r) : ∃ a1 a2 a3 a4 a5, l = [.q (.ints a1), .i a2, .q (.cells a3), .q (.ints a4), .q (.ints a5)] ∧ g a1 a2 a3 a4 a5 (fun r1 r2 r3 r4 r5 => K (m r1 r2 r3 r4 r5)) = some r := by
  unfold run at h; split at h
  · exact ⟨_, _, _, _, _, rfl, h⟩
  · cases h
theorem ok : Con Go.Proofs.Try.prog con := con_of (fn := Go.Proofs.Try.f36) (c := c) (Fi := fi) (X := X) (fun_of laid (by kernel_rfl) (by kernel_rfl) (by kernel_rfl) rfl (by kernel_rfl) (by kernel_rfl) cx (fun _ => rfl) (fun _ => rfl) (fun K => by
    rw [show loopsOf c = [] from by kernel_rfl]; intro p hp
    cases hp)) fun xs rows boxes K r hl hr => by
  obtain ⟨a1, a2, a3, a4, a5, e, h⟩ := runv hr
  have := St.like_eq (y := a a1 a2 a3 a4 a5) hl (by kernel_rfl) e
  obtain ⟨rfl, rfl, rfl⟩ := argSt_inj this
  exact (tie K a1 a2 a3 a4 a5).trans h
end impl_HeapPut
namespace laws_eqIntS
noncomputable def c : Code := bodyOf Go.Proofs.Try.f87
noncomputable def fi : Fin := ⟨Γ0, [(.tmp 4, 4)], [[1]], [], [], []⟩
noncomputable def m (r1 : Bool) : Res := ⟨[⟨false, [.bool r1]⟩], [], [], [], []⟩
noncomputable def b0 : Code := codeAt c [1, 1, 0, 1, 0, 0]
noncomputable def s0 (x3 x4 : List Int) (x5 : Int) : St := ⟨mkT 26 [(0, one (.tr 0 1 [.int .i64] (.ints x3))), (1, one (.tr 0 1 [.int .i64] (.ints x4))), (5, one (.int .i64 x5))], [], []⟩
noncomputable def l0s (x3 x4 : List Int) (rec : Int → Option Res) (k : Option Res) (R : Bool → Option Res) (x5 : Int) : Option Res :=
  bif decide (x5 < (x3.length : Int)) then (bif decide (0 ≤ x5) && decide (x5 < (x3.length : Int)) then (bif decide (0 ≤ x5) && decide (x5 < (x4.length : Int)) then (bif (x3.getD x5.toNat 0 != x4.getD x5.toNat 0) then R false
        else rec (IntKind.i64.wrap (x5 + 1)))
      else none)
    else none)
  else k
noncomputable def l0 (x3 x4 : List Int) (k : Option Res) (R : Bool → Option Res) : Nat → Int → Option Res
  | 0, _ => none
  | n + 1, x5 => l0s x3 x4 (fun x5 => l0 x3 x4 k R n x5) k R x5
noncomputable def o0 (x3 x4 : List Int) : St := ⟨mkT 26 [], [], []⟩
noncomputable def p0 (K : Res → Option Res) : List Lf → (St → Option Res) → Option Res
  | [.q (.ints x3), .q (.ints x4), .i x5], k => l0 x3 x4 (k (o0 x3 x4)) (fun r1 => K (m r1)) fuel x5
  | _, _ => none
noncomputable def os : List (FuncId × St × (List Lf → (Res → Option Res) → Option Res)) := []
noncomputable def X (K : Res → Option Res) : Ctx := { Γ := Γ0, orc := orcOf os, io := [], share := [], mvl := [], bun := [], cut := [], own := [], cin := [(0, ⟨[0, 1, 5], [], [], [], [], []⟩)], cout := [(0, ⟨[], [], [], [], [], []⟩)], lp := lpOf [(0, s0 [] [] 0, p0 K)], kl := [], nk := true, eqs := eqs0, byt := byt0, fin := finK fi K }
noncomputable def b (a1 a2 : List Int) (R : Bool → Option Res) : Option Res :=
  bif ((a1.length : Int) != (a2.length : Int)) then R false
  else (l0 a1 a2 (
  R true) R fuel 0)
theorem gx : ∃ x : List Int → List Int → (Bool → Option Res) → Option Res, x = b := ⟨_, rfl⟩
noncomputable def g : List Int → List Int → (Bool → Option Res) → Option Res := Classical.choose gx
theorem e : g = b := Classical.choose_spec gx
noncomputable def run : List Lf → (Res → Option Res) → Option Res
  | [.q (.ints a1), .q (.ints a2)], K => g a1 a2 (fun r1 => K (m r1))
  | _, _ => none
noncomputable def a (a1 a2 : List Int) : St := argSt [one (.tr 0 1 [.int .i64] (.ints a1)), one (.tr 0 1 [.int .i64] (.ints a2))] [] []
noncomputable def con : FuncId × St × (List Lf → (Res → Option Res) → Option Res) := (87, a [] [], run)
theorem cx (K : Res → Option Res) : CtxOk Go.Proofs.Try.prog Γ0 byt0 eqs0 (X K) os := ⟨rfl, rfl, rfl, (fun p hp => by
  cases hp), rfl, rfl, rfl, rfl⟩
theorem t0 (K : Res → Option Res) (k : St → Option Res) (it : St → (St → Option Res) → Option Res) (x3 x4 : List Int) (x5 : Int) : iterS (X K) 0 b0 it (s0 x3 x4 x5) k = l0s x3 x4 (fun x5 => it (s0 x3 x4 x5) k) (k (o0 x3 x4)) (fun r1 => K (m r1)) x5 := by kernel_rfl
theorem i0 (K : Res → Option Res) (k : St → Option Res) (x3 x4 : List Int) : ∀ (n : Nat) (x5 : Int), iter (X K) 0 b0 n (s0 x3 x4 x5) k = l0 x3 x4 (k (o0 x3 x4)) (fun r1 => K (m r1)) n x5
  | 0, _ => rfl
  | n + 1, x5 => by
    rw [iter_succ, t0, show (fun x5 => iter (X K) 0 b0 n (s0 x3 x4 x5) k) = (fun x5 => l0 x3 x4 (k (o0 x3 x4)) (fun r1 => K (m r1)) n x5) from funext fun x5 => i0 K k x3 x4 n x5]; rfl
theorem v0 {K : Res → Option Res} {l : List Lf} {k : St → Option Res} {r : Res} (h : p0 K l k = some r) : ∃ x3 x4 x5, l = [.q (.ints x3), .q (.ints x4), .i x5] ∧ l0 x3 x4 (k (o0 x3 x4)) (fun r1 => K (m r1)) fuel x5 = some r := by
  unfold p0 at h; split at h
  · exact ⟨_, _, _, rfl, h⟩
  · cases h
theorem w0 (K : Res → Option Res) : LpSound Go.Proofs.Try.prog (X K) 0 b0 := lp_ok ((cx K).ok laid) (by rw [show loopsOf b0 = [] from by kernel_rfl]; intro p hp; cases hp) rfl fun p hp hid => by
  rcases List.mem_cons.1 hp with rfl | hp
  · intro st k r h1 h2; obtain ⟨x3, x4, x5, e, h⟩ := v0 (K := K) h2; have := St.like_eq (y := s0 x3 x4 x5) h1 (by kernel_rfl) e; subst this; exact ⟨fuel, (i0 K k x3 x4 fuel x5).trans h⟩
  cases hp
theorem tie (K : Res → Option Res) (a1 a2 : List Int) : exec (X K) c (entry 26 [one (.tr 0 1 [.int .i64] (.ints a1)), one (.tr 0 1 [.int .i64] (.ints a2))] [] []) (endK (X K)) = g a1 a2 (fun r1 => K (m r1)) := Eq.trans (b := b a1 a2 (fun r1 => K (m r1))) (by kernel_rfl) (by rw [e])
theorem runv {l : List Lf} {K : Res → Option Res} {r : Res} (h : run l K = some r) : ∃ a1 a2, l = [.q (.ints a1), .q (.ints a2)] ∧ g a1 a2 (fun r1 => K (m r1)) = some r := by
  unfold run at h; split at h
  · exact ⟨_, _, rfl, h⟩
  · cases h
theorem ok : Con Go.Proofs.Try.prog con := con_of (fn := Go.Proofs.Try.f87) (c := c) (Fi := fi) (X := X) (fun_of laid (by kernel_rfl) (by kernel_rfl) (by kernel_rfl) rfl (by kernel_rfl) (by kernel_rfl) cx (fun _ => rfl) (fun _ => rfl) (fun K => by
    rw [show loopsOf c = [(0, b0)] from by kernel_rfl]; intro p hp
    rcases List.mem_cons.1 hp with rfl | hp
    · exact w0 K
    cases hp)) fun xs rows boxes K r hl hr => by
  obtain ⟨a1, a2, e, h⟩ := runv hr
  have := St.like_eq (y := a a1 a2) hl (by kernel_rfl) e
  obtain ⟨rfl, rfl, rfl⟩ := argSt_inj this
  exact (tie K a1 a2).trans h
end laws_eqIntS
namespace laws_eqCell
noncomputable def c : Code := bodyOf Go.Proofs.Try.f134
noncomputable def fi : Fin := ⟨Γ0, [(.tmp 4, 4)], [[1]], [], [], []⟩
noncomputable def m (r1 : Bool) : Res := ⟨[⟨false, [.bool r1]⟩], [], [], [], []⟩
noncomputable def os : List (FuncId × St × (List Lf → (Res → Option Res) → Option Res)) := []
noncomputable def X (K : Res → Option Res) : Ctx := { Γ := Γ0, orc := orcOf os, io := [], share := [], mvl := [], bun := [], cut := [], own := [], cin := [], cout := [], lp := lpOf [], kl := [], nk := true, eqs := eqs0, byt := byt0, fin := finK fi K }
noncomputable def b (a1 a2 : Int) (a3 : Bool) (a4 a5 : Int) (a6 : Bool) (R : Bool → Option Res) : Option Res :=
  bif (a1 != a4) then R false
  else bif (a2 != a5) then R false
  else bif (a3 != a6) then R false
  else R true
theorem gx : ∃ x : Int → Int → Bool → Int → Int → Bool → (Bool → Option Res) → Option Res, x = b := ⟨_, rfl⟩
noncomputable def g : Int → Int → Bool → Int → Int → Bool → (Bool → Option Res) → Option Res := Classical.choose gx
theorem e : g = b := Classical.choose_spec gx
noncomputable def run : List Lf → (Res → Option Res) → Option Res
  | [.i a1, .i a2, .b a3, .i a4, .i a5, .b a6], K => g a1 a2 a3 a4 a5 a6 (fun r1 => K (m r1))
  | _, _ => none
noncomputable def a (a1 a2 : Int) (a3 : Bool) (a4 a5 : Int) (a6 : Bool) : St := argSt [.v ⟨true, [.int .i64 a1, .int .i64 a2, .bool a3]⟩, .v ⟨true, [.int .i64 a4, .int .i64 a5, .bool a6]⟩] [] []
noncomputable def con : FuncId × St × (List Lf → (Res → Option Res) → Option Res) := (134, a 0 0 false 0 0 false, run)
theorem cx (K : Res → Option Res) : CtxOk Go.Proofs.Try.prog Γ0 byt0 eqs0 (X K) os := ⟨rfl, rfl, rfl, (fun p hp => by
  cases hp), rfl, rfl, rfl, rfl⟩
theorem tie (K : Res → Option Res) (a1 a2 : Int) (a3 : Bool) (a4 a5 : Int) (a6 : Bool) : exec (X K) c (entry 20 [.v ⟨true, [.int .i64 a1, .int .i64 a2, .bool a3]⟩, .v ⟨true, [.int .i64 a4, .int .i64 a5, .bool a6]⟩] [] []) (endK (X K)) = g a1 a2 a3 a4 a5 a6 (fun r1 => K (m r1)) := Eq.trans (b := b a1 a2 a3 a4 a5 a6 (fun r1 => K (m r1))) (by kernel_rfl) (by rw [e])
theorem runv {l : List Lf} {K : Res → Option Res} {r : Res} (h : run l K = some r) : ∃ a1 a2 a3 a4 a5 a6, l = [.i a1, .i a2, .b a3, .i a4, .i a5, .b a6] ∧ g a1 a2 a3 a4 a5 a6 (fun r1 => K (m r1)) = some r := by
  unfold run at h; split at h
  · exact ⟨_, _, _, _, _, _, rfl, h⟩
  · cases h
theorem ok : Con Go.Proofs.Try.prog con := con_of (fn := Go.Proofs.Try.f134) (c := c) (Fi := fi) (X := X) (fun_of laid (by kernel_rfl) (by kernel_rfl) (by kernel_rfl) rfl (by kernel_rfl) (by kernel_rfl) cx (fun _ => rfl) (fun _ => rfl) (fun K => by
    rw [show loopsOf c = [] from by kernel_rfl]; intro p hp
    cases hp)) fun xs rows boxes K r hl hr => by
  obtain ⟨a1, a2, a3, a4, a5, a6, e, h⟩ := runv hr
  have := St.like_eq (y := a a1 a2 a3 a4 a5 a6) hl (by kernel_rfl) e
  obtain ⟨rfl, rfl, rfl⟩ := argSt_inj this
  exact (tie K a1 a2 a3 a4 a5 a6).trans h
end laws_eqCell
namespace laws_eqCellS
noncomputable def c : Code := bodyOf Go.Proofs.Try.f88
noncomputable def fi : Fin := ⟨Γ0, [(.tmp 4, 4)], [[1]], [], [], []⟩
noncomputable def m (r1 : Bool) : Res := ⟨[⟨false, [.bool r1]⟩], [], [], [], []⟩
noncomputable def b0 : Code := codeAt c [1, 1, 0, 1, 0, 0]
noncomputable def s0 (x3 x4 : List (List Cl)) (x5 : Int) : St := ⟨mkT 27 [(0, one (.tr 0 1 [.int .i64, .int .i64, .bool] (.cells x3))), (1, one (.tr 0 1 [.int .i64, .int .i64, .bool] (.cells x4))), (5, one (.int .i64 x5))], [], []⟩
noncomputable def l0s (x3 x4 : List (List Cl)) (rec : Int → Option Res) (k : Option Res) (R : Bool → Option Res) (x5 : Int) : Option Res :=
  bif decide (x5 < (x3.length : Int)) then (bif decide (0 ≤ x5) && decide (x5 < (x3.length : Int)) then (bif decide (0 ≤ x5) && decide (x5 < (x4.length : Int)) then (laws_eqCell.g (((x3.getD x5.toNat []).getD 0 (.i 0)).toI) (((x3.getD x5.toNat []).getD 1 (.i 0)).toI) (((x3.getD x5.toNat []).getD 2 (.i 0)).toB) (((x4.getD x5.toNat []).getD 0 (.i 0)).toI) (((x4.getD x5.toNat []).getD 1 (.i 0)).toI) (((x4.getD x5.toNat []).getD 2 (.i 0)).toB) fun r6 =>
        bif !r6 then R false
        else rec (IntKind.i64.wrap (x5 + 1)))
      else none)
    else none)
  else k
noncomputable def l0 (x3 x4 : List (List Cl)) (k : Option Res) (R : Bool → Option Res) : Nat → Int → Option Res
  | 0, _ => none
  | n + 1, x5 => l0s x3 x4 (fun x5 => l0 x3 x4 k R n x5) k R x5
noncomputable def o0 (x3 x4 : List (List Cl)) : St := ⟨mkT 27 [], [], []⟩
noncomputable def p0 (K : Res → Option Res) : List Lf → (St → Option Res) → Option Res
  | [.q (.cells x3), .q (.cells x4), .i x5], k => l0 x3 x4 (k (o0 x3 x4)) (fun r1 => K (m r1)) fuel x5
  | _, _ => none
noncomputable def os : List (FuncId × St × (List Lf → (Res → Option Res) → Option Res)) := [laws_eqCell.con]
noncomputable def X (K : Res → Option Res) : Ctx := { Γ := Γ0, orc := orcOf os, io := [], share := [], mvl := [], bun := [], cut := [], own := [], cin := [(0, ⟨[0, 1, 5], [], [], [], [], []⟩)], cout := [(0, ⟨[], [], [], [], [], []⟩)], lp := lpOf [(0, s0 [] [] 0, p0 K)], kl := [], nk := true, eqs := eqs0, byt := byt0, fin := finK fi K }
noncomputable def b (a1 a2 : List (List Cl)) (R : Bool → Option Res) : Option Res :=
  bif ((a1.length : Int) != (a2.length : Int)) then R false
  else (l0 a1 a2 (
  R true) R fuel 0)
theorem gx : ∃ x : List (List Cl) → List (List Cl) → (Bool → Option Res) → Option Res, x = b := ⟨_, rfl⟩
noncomputable def g : List (List Cl) → List (List Cl) → (Bool → Option Res) → Option Res := Classical.choose gx
theorem e : g = b := Classical.choose_spec gx
noncomputable def run : List Lf → (Res → Option Res) → Option Res
  | [.q (.cells a1), .q (.cells a2)], K => g a1 a2 (fun r1 => K (m r1))
  | _, _ => none
noncomputable def a (a1 a2 : List (List Cl)) : St := argSt [one (.tr 0 1 [.int .i64, .int .i64, .bool] (.cells a1)), one (.tr 0 1 [.int .i64, .int .i64, .bool] (.cells a2))] [] []
noncomputable def con : FuncId × St × (List Lf → (Res → Option Res) → Option Res) := (88, a [] [], run)
theorem cx (K : Res → Option Res) : CtxOk Go.Proofs.Try.prog Γ0 byt0 eqs0 (X K) os := ⟨rfl, rfl, rfl, (fun p hp => by
  rcases List.mem_cons.1 hp with rfl | hp
  · exact laws_eqCell.ok
  cases hp), rfl, rfl, rfl, rfl⟩
theorem t0 (K : Res → Option Res) (k : St → Option Res) (it : St → (St → Option Res) → Option Res) (x3 x4 : List (List Cl)) (x5 : Int) : iterS (X K) 0 b0 it (s0 x3 x4 x5) k = l0s x3 x4 (fun x5 => it (s0 x3 x4 x5) k) (k (o0 x3 x4)) (fun r1 => K (m r1)) x5 := by kernel_rfl
theorem i0 (K : Res → Option Res) (k : St → Option Res) (x3 x4 : List (List Cl)) : ∀ (n : Nat) (x5 : Int), iter (X K) 0 b0 n (s0 x3 x4 x5) k = l0 x3 x4 (k (o0 x3 x4)) (fun r1 => K (m r1)) n x5
  | 0, _ => rfl
  | n + 1, x5 => by
    rw [iter_succ, t0, show (fun x5 => iter (X K) 0 b0 n (s0 x3 x4 x5) k) = (fun x5 => l0 x3 x4 (k (o0 x3 x4)) (fun r1 => K (m r1)) n x5) from funext fun x5 => i0 K k x3 x4 n x5]; rfl
theorem v0 {K : Res → Option Res} {l : List Lf} {k : St → Option Res} {r : Res} (h : p0 K l k = some r) : ∃ x3 x4 x5, l = [.q (.cells x3), .q (.cells x4), .i x5] ∧ l0 x3 x4 (k (o0 x3 x4)) (fun r1 => K (m r1)) fuel x5 = some r := by
  unfold p0 at h; split at h
  · exact ⟨_, _, _, rfl, h⟩
  · cases h
theorem w0 (K : Res → Option Res) : LpSound Go.Proofs.Try.prog (X K) 0 b0 := lp_ok ((cx K).ok laid) (by rw [show loopsOf b0 = [] from by kernel_rfl]; intro p hp; cases hp) rfl fun p hp hid => by
  rcases List.mem_cons.1 hp with rfl | hp
  · intro st k r h1 h2; obtain ⟨x3, x4, x5, e, h⟩ := v0 (K := K) h2; have := St.like_eq (y := s0 x3 x4 x5) h1 (by kernel_rfl) e; subst this; exact ⟨fuel, (i0 K k x3 x4 fuel x5).trans h⟩
  cases hp
theorem tie (K : Res → Option Res) (a1 a2 : List (List Cl)) : exec (X K) c (entry 27 [one (.tr 0 1 [.int .i64, .int .i64, .bool] (.cells a1)), one (.tr 0 1 [.int .i64, .int .i64, .bool] (.cells a2))] [] []) (endK (X K)) = g a1 a2 (fun r1 => K (m r1)) := Eq.trans (b := b a1 a2 (fun r1 => K (m r1))) (by kernel_rfl) (by rw [e])
theorem runv {l : List Lf} {K : Res → Option Res} {r : Res} (h : run l K = some r) : ∃ a1 a2, l = [.q (.cells a1), .q (.cells a2)] ∧ g a1 a2 (fun r1 => K (m r1)) = some r := by
  unfold run at h; split at h
  · exact ⟨_, _, rfl, h⟩
  · cases h
theorem ok : Con Go.Proofs.Try.prog con := con_of (fn := Go.Proofs.Try.f88) (c := c) (Fi := fi) (X := X) (fun_of laid (by kernel_rfl) (by kernel_rfl) (by kernel_rfl) rfl (by kernel_rfl) (by kernel_rfl) cx (fun _ => rfl) (fun _ => rfl) (fun K => by
    rw [show loopsOf c = [(0, b0)] from by kernel_rfl]; intro p hp
    rcases List.mem_cons.1 hp with rfl | hp
    · exact w0 K
    cases hp)) fun xs rows boxes K r hl hr => by
  obtain ⟨a1, a2, e, h⟩ := runv hr
  have := St.like_eq (y := a a1 a2) hl (by kernel_rfl) e
  obtain ⟨rfl, rfl, rfl⟩ := argSt_inj this
  exact (tie K a1 a2).trans h
end laws_eqCellS
namespace laws_eqHeap
noncomputable def c : Code := bodyOf Go.Proofs.Try.f37
noncomputable def fi : Fin := ⟨Γ0, [(.tmp 4, 4)], [[1]], [], [], []⟩
noncomputable def m (r1 : Bool) : Res := ⟨[⟨false, [.bool r1]⟩], [], [], [], []⟩
noncomputable def os : List (FuncId × St × (List Lf → (Res → Option Res) → Option Res)) := [laws_eqIntS.con, laws_eqCellS.con]
noncomputable def X (K : Res → Option Res) : Ctx := { Γ := Γ0, orc := orcOf os, io := [], share := [], mvl := [], bun := [], cut := [], own := [], cin := [], cout := [], lp := lpOf [], kl := [], nk := true, eqs := eqs0, byt := byt0, fin := finK fi K }
noncomputable def b (a1 : List Int) (a2 : Int) (a3 : List (List Cl)) (a4 : List Int) (a5 : Int) (a6 : List (List Cl)) (R : Bool → Option Res) : Option Res :=
  laws_eqIntS.g a1 a4 fun r7 =>
  bif !r7 then R false
  else bif (a2 != a5) then R false
  else (laws_eqCellS.g a3 a6 fun r8 =>
  bif !r8 then R false
  else R true)
theorem gx : ∃ x : List Int → Int → List (List Cl) → List Int → Int → List (List Cl) → (Bool → Option Res) → Option Res, x = b := ⟨_, rfl⟩
noncomputable def g : List Int → Int → List (List Cl) → List Int → Int → List (List Cl) → (Bool → Option Res) → Option Res := Classical.choose gx
theorem e : g = b := Classical.choose_spec gx
noncomputable def run : List Lf → (Res → Option Res) → Option Res
  | [.q (.ints a1), .i a2, .q (.cells a3), .q (.ints a4), .i a5, .q (.cells a6)], K => g a1 a2 a3 a4 a5 a6 (fun r1 => K (m r1))
  | _, _ => none
noncomputable def a (a1 : List Int) (a2 : Int) (a3 : List (List Cl)) (a4 : List Int) (a5 : Int) (a6 : List (List Cl)) : St := argSt [.v ⟨true, [.tr 0 1 [.int .i64] (.ints a1), .int .i64 a2, .tr 0 1 [.int .i64, .int .i64, .bool] (.cells a3)]⟩, .v ⟨true, [.tr 0 1 [.int .i64] (.ints a4), .int .i64 a5, .tr 0 1 [.int .i64, .int .i64, .bool] (.cells a6)]⟩] [] []
noncomputable def con : FuncId × St × (List Lf → (Res → Option Res) → Option Res) := (37, a [] 0 [] [] 0 [], run)
theorem cx (K : Res → Option Res) : CtxOk Go.Proofs.Try.prog Γ0 byt0 eqs0 (X K) os := ⟨rfl, rfl, rfl, (fun p hp => by
  rcases List.mem_cons.1 hp with rfl | hp
  · exact laws_eqIntS.ok
  rcases List.mem_cons.1 hp with rfl | hp
  · exact laws_eqCellS.ok
  cases hp), rfl, rfl, rfl, rfl⟩
theorem tie (K : Res → Option Res) (a1 : List Int) (a2 : Int) (a3 : List (List Cl)) (a4 : List Int) (a5 : Int) (a6 : List (List Cl)) : exec (X K) c (entry 22 [.v ⟨true, [.tr 0 1 [.int .i64] (.ints a1), .int .i64 a2, .tr 0 1 [.int .i64, .int .i64, .bool] (.cells a3)]⟩, .v ⟨true, [.tr 0 1 [.int .i64] (.ints a4), .int .i64 a5, .tr 0 1 [.int .i64, .int .i64, .bool] (.cells a6)]⟩] [] []) (endK (X K)) = g a1 a2 a3 a4 a5 a6 (fun r1 => K (m r1)) := Eq.trans (b := b a1 a2 a3 a4 a5 a6 (fun r1 => K (m r1))) (by kernel_rfl) (by rw [e])
theorem runv {l : List Lf} {K : Res → Option Res} {r : Res} (h : run l K = some r) : ∃ a1 a2 a3 a4 a5 a6, l = [.q (.ints a1), .i a2, .q (.cells a3), .q (.ints a4), .i a5, .q (.cells a6)] ∧ g a1 a2 a3 a4 a5 a6 (fun r1 => K (m r1)) = some r := by
  unfold run at h; split at h
  · exact ⟨_, _, _, _, _, _, rfl, h⟩
  · cases h
theorem ok : Con Go.Proofs.Try.prog con := con_of (fn := Go.Proofs.Try.f37) (c := c) (Fi := fi) (X := X) (fun_of laid (by kernel_rfl) (by kernel_rfl) (by kernel_rfl) rfl (by kernel_rfl) (by kernel_rfl) cx (fun _ => rfl) (fun _ => rfl) (fun K => by
    rw [show loopsOf c = [] from by kernel_rfl]; intro p hp
    cases hp)) fun xs rows boxes K r hl hr => by
  obtain ⟨a1, a2, a3, a4, a5, a6, e, h⟩ := runv hr
  have := St.like_eq (y := a a1 a2 a3 a4 a5 a6) hl (by kernel_rfl) e
  obtain ⟨rfl, rfl, rfl⟩ := argSt_inj this
  exact (tie K a1 a2 a3 a4 a5 a6).trans h
end laws_eqHeap
namespace laws_eqArray
noncomputable def c : Code := bodyOf Go.Proofs.Try.f38
noncomputable def fi : Fin := ⟨Γ0, [(.tmp 4, 4)], [[1]], [], [], []⟩
noncomputable def m (r1 : Bool) : Res := ⟨[⟨false, [.bool r1]⟩], [], [], [], []⟩
noncomputable def os : List (FuncId × St × (List Lf → (Res → Option Res) → Option Res)) := [laws_eqIntS.con]
noncomputable def X (K : Res → Option Res) : Ctx := { Γ := Γ0, orc := orcOf os, io := [], share := [], mvl := [], bun := [], cut := [], own := [], cin := [], cout := [], lp := lpOf [], kl := [], nk := true, eqs := eqs0, byt := byt0, fin := finK fi K }
noncomputable def b (a1 a2 a3 a4 : List Int) (R : Bool → Option Res) : Option Res :=
  laws_eqIntS.g a1 a3 fun r5 =>
  bif !r5 then R false
  else (laws_eqIntS.g a2 a4 fun r6 =>
  bif !r6 then R false
  else R true)
theorem gx : ∃ x : List Int → List Int → List Int → List Int → (Bool → Option Res) → Option Res, x = b := ⟨_, rfl⟩
noncomputable def g : List Int → List Int → List Int → List Int → (Bool → Option Res) → Option Res := Classical.choose gx
theorem e : g = b := Classical.choose_spec gx
noncomputable def run : List Lf → (Res → Option Res) → Option Res
  | [.q (.ints a1), .q (.ints a2), .q (.ints a3), .q (.ints a4)], K => g a1 a2 a3 a4 (fun r1 => K (m r1))
  | _, _ => none
noncomputable def a (a1 a2 a3 a4 : List Int) : St := argSt [.v ⟨true, [.tr 0 1 [.int .i64] (.ints a1), .tr 0 1 [.int .i64] (.ints a2)]⟩, .v ⟨true, [.tr 0 1 [.int .i64] (.ints a3), .tr 0 1 [.int .i64] (.ints a4)]⟩] [] []
noncomputable def con : FuncId × St × (List Lf → (Res → Option Res) → Option Res) := (38, a [] [] [] [], run)
theorem cx (K : Res → Option Res) : CtxOk Go.Proofs.Try.prog Γ0 byt0 eqs0 (X K) os := ⟨rfl, rfl, rfl, (fun p hp => by
  rcases List.mem_cons.1 hp with rfl | hp
  · exact laws_eqIntS.ok
  cases hp), rfl, rfl, rfl, rfl⟩
theorem tie (K : Res → Option Res) (a1 a2 a3 a4 : List Int) : exec (X K) c (entry 17 [.v ⟨true, [.tr 0 1 [.int .i64] (.ints a1), .tr 0 1 [.int .i64] (.ints a2)]⟩, .v ⟨true, [.tr 0 1 [.int .i64] (.ints a3), .tr 0 1 [.int .i64] (.ints a4)]⟩] [] []) (endK (X K)) = g a1 a2 a3 a4 (fun r1 => K (m r1)) := Eq.trans (b := b a1 a2 a3 a4 (fun r1 => K (m r1))) (by kernel_rfl) (by rw [e])
theorem runv {l : List Lf} {K : Res → Option Res} {r : Res} (h : run l K = some r) : ∃ a1 a2 a3 a4, l = [.q (.ints a1), .q (.ints a2), .q (.ints a3), .q (.ints a4)] ∧ g a1 a2 a3 a4 (fun r1 => K (m r1)) = some r := by
  unfold run at h; split at h
  · exact ⟨_, _, _, _, rfl, h⟩
  · cases h
theorem ok : Con Go.Proofs.Try.prog con := con_of (fn := Go.Proofs.Try.f38) (c := c) (Fi := fi) (X := X) (fun_of laid (by kernel_rfl) (by kernel_rfl) (by kernel_rfl) rfl (by kernel_rfl) (by kernel_rfl) cx (fun _ => rfl) (fun _ => rfl) (fun K => by
    rw [show loopsOf c = [] from by kernel_rfl]; intro p hp
    cases hp)) fun xs rows boxes K r hl hr => by
  obtain ⟨a1, a2, a3, a4, e, h⟩ := runv hr
  have := St.like_eq (y := a a1 a2 a3 a4) hl (by kernel_rfl) e
  obtain ⟨rfl, rfl, rfl⟩ := argSt_inj this
  exact (tie K a1 a2 a3 a4).trans h
end laws_eqArray
namespace laws_markIntS
noncomputable def c : Code := bodyOf Go.Proofs.Try.f75
noncomputable def fi : Fin := ⟨Γ0, [(.tmp 4, 3)], [[1]], [true], [], []⟩
noncomputable def m (r1 : Int) (r2 : List Int) : Res := ⟨[⟨false, [.int .i64 r1]⟩], [some ⟨[.int .i64], .ints r2, true, 0⟩], [], [], []⟩
noncomputable def b0 : Code := codeAt c [1, 0, 1, 0, 0]
noncomputable def s0 (x3 x4 : Int) (x5 : List Int) : St := ⟨mkT 19 [(0, one (.ow 0)), (1, one (.int .i64 x3)), (5, one (.int .i64 x4))], [(0, ⟨[.int .i64], .ints x5, true, 0⟩)], []⟩
noncomputable def l0s  (rec : Int → Int → List Int → Option Res) (k : Int → List Int → Option Res) (x3 x4 : Int) (x5 : List Int) : Option Res :=
  bif decide (x4 < (x5.length : Int)) then (bif decide (0 ≤ x4) && decide (x4 < (x5.length : Int)) then rec (IntKind.i64.wrap (x3 + 1)) (IntKind.i64.wrap (x4 + 1)) (x5.set x4.toNat x3)
    else none)
  else k x3 x5
noncomputable def l0  (k : Int → List Int → Option Res) : Nat → Int → Int → List Int → Option Res
  | 0, _, _, _ => none
  | n + 1, x3, x4, x5 => l0s (fun x3 x4 x5 => l0 k n x3 x4 x5) k x3 x4 x5
noncomputable def o0 (y1 : Int) (y2 : List Int) : St := ⟨mkT 19 [(1, one (.int .i64 y1))], [(0, ⟨[.int .i64], .ints y2, true, 0⟩)], []⟩
noncomputable def p0 (K : Res → Option Res) : List Lf → (St → Option Res) → Option Res
  | [.i x3, .i x4, .q (.ints x5)], k => l0 (fun y1 y2 => k (o0 y1 y2)) fuel x3 x4 x5
  | _, _ => none
noncomputable def os : List (FuncId × St × (List Lf → (Res → Option Res) → Option Res)) := []
noncomputable def X (K : Res → Option Res) : Ctx := { Γ := Γ0, orc := orcOf os, io := [], share := [], mvl := [], bun := [], cut := [], own := [], cin := [(0, ⟨[0, 1, 5], [(0, 0)], [], [], [], []⟩)], cout := [(0, ⟨[1], [(0, 0)], [], [], [], []⟩)], lp := lpOf [(0, s0 0 0 [], p0 K)], kl := [], nk := true, eqs := eqs0, byt := byt0, fin := finK fi K }
noncomputable def b (a1 : Int) (a2 : List Int) (R : Int → List Int → Option Res) : Option Res :=
  l0 (fun y6 y7 => 
  R y6 y7) fuel a1 0 a2
theorem gx : ∃ x : Int → List Int → (Int → List Int → Option Res) → Option Res, x = b := ⟨_, rfl⟩
noncomputable def g : Int → List Int → (Int → List Int → Option Res) → Option Res := Classical.choose gx
theorem e : g = b := Classical.choose_spec gx
noncomputable def run : List Lf → (Res → Option Res) → Option Res
  | [.i a1, .q (.ints a2)], K => g a1 a2 (fun r1 r2 => K (m r1 r2))
  | _, _ => none
noncomputable def a (a1 : Int) (a2 : List Int) : St := argSt [one (.ow 0), one (.int .i64 a1)] [⟨[.int .i64], .ints a2, true, 0⟩] []
noncomputable def con : FuncId × St × (List Lf → (Res → Option Res) → Option Res) := (75, a 0 [], run)
theorem cx (K : Res → Option Res) : CtxOk Go.Proofs.Try.prog Γ0 byt0 eqs0 (X K) os := ⟨rfl, rfl, rfl, (fun p hp => by
  cases hp), rfl, rfl, rfl, rfl⟩
theorem t0 (K : Res → Option Res) (k : St → Option Res) (it : St → (St → Option Res) → Option Res) (x3 x4 : Int) (x5 : List Int) : iterS (X K) 0 b0 it (s0 x3 x4 x5) k = l0s (fun x3 x4 x5 => it (s0 x3 x4 x5) k) (fun y1 y2 => k (o0 y1 y2)) x3 x4 x5 := by kernel_rfl
theorem i0 (K : Res → Option Res) (k : St → Option Res)  : ∀ (n : Nat) (x3 x4 : Int) (x5 : List Int), iter (X K) 0 b0 n (s0 x3 x4 x5) k = l0 (fun y1 y2 => k (o0 y1 y2)) n x3 x4 x5
  | 0, _, _, _ => rfl
  | n + 1, x3, x4, x5 => by
    rw [iter_succ, t0, show (fun x3 x4 x5 => iter (X K) 0 b0 n (s0 x3 x4 x5) k) = (fun x3 x4 x5 => l0 (fun y1 y2 => k (o0 y1 y2)) n x3 x4 x5) from funext fun x3 => funext fun x4 => funext fun x5 => i0 K k n x3 x4 x5]; rfl
theorem v0 {K : Res → Option Res} {l : List Lf} {k : St → Option Res} {r : Res} (h : p0 K l k = some r) : ∃ x3 x4 x5, l = [.i x3, .i x4, .q (.ints x5)] ∧ l0 (fun y1 y2 => k (o0 y1 y2)) fuel x3 x4 x5 = some r := by
  unfold p0 at h; split at h
  · exact ⟨_, _, _, rfl, h⟩
  · cases h
theorem w0 (K : Res → Option Res) : LpSound Go.Proofs.Try.prog (X K) 0 b0 := lp_ok ((cx K).ok laid) (by rw [show loopsOf b0 = [] from by kernel_rfl]; intro p hp; cases hp) rfl fun p hp hid => by
  rcases List.mem_cons.1 hp with rfl | hp
  · intro st k r h1 h2; obtain ⟨x3, x4, x5, e, h⟩ := v0 (K := K) h2; have := St.like_eq (y := s0 x3 x4 x5) h1 (by kernel_rfl) e; subst this; exact ⟨fuel, (i0 K k fuel x3 x4 x5).trans h⟩
  cases hp
theorem tie (K : Res → Option Res) (a1 : Int) (a2 : List Int) : exec (X K) c (entry 19 [one (.ow 0), one (.int .i64 a1)] [⟨[.int .i64], .ints a2, true, 0⟩] []) (endK (X K)) = g a1 a2 (fun r1 r2 => K (m r1 r2)) := Eq.trans (b := b a1 a2 (fun r1 r2 => K (m r1 r2))) (by kernel_rfl) (by rw [e])
theorem runv {l : List Lf} {K : Res → Option Res} {r : Res} (h : run l K = some r) : ∃ a1 a2, l = [.i a1, .q (.ints a2)] ∧ g a1 a2 (fun r1 r2 => K (m r1 r2)) = some r := by
  unfold run at h; split at h
  · exact ⟨_, _, rfl, h⟩
  · cases h
theorem ok : Con Go.Proofs.Try.prog con := con_of (fn := Go.Proofs.Try.f75) (c := c) (Fi := fi) (X := X) (fun_of laid (by kernel_rfl) (by kernel_rfl) (by kernel_rfl) rfl (by kernel_rfl) (by kernel_rfl) cx (fun _ => rfl) (fun _ => rfl) (fun K => by
    rw [show loopsOf c = [(0, b0)] from by kernel_rfl]; intro p hp
    rcases List.mem_cons.1 hp with rfl | hp
    · exact w0 K
    cases hp)) fun xs rows boxes K r hl hr => by
  obtain ⟨a1, a2, e, h⟩ := runv hr
  have := St.like_eq (y := a a1 a2) hl (by kernel_rfl) e
  obtain ⟨rfl, rfl, rfl⟩ := argSt_inj this
  exact (tie K a1 a2).trans h
end laws_markIntS
namespace laws_markCellS
noncomputable def c : Code := bodyOf Go.Proofs.Try.f89
noncomputable def fi : Fin := ⟨Γ0, [(.tmp 4, 3)], [[1]], [true], [], []⟩
noncomputable def m (r1 : Int) (r2 : List (List Cl)) : Res := ⟨[⟨false, [.int .i64 r1]⟩], [some ⟨[.int .i64, .int .i64, .bool], .cells r2, true, 0⟩], [], [], []⟩
noncomputable def b0 : Code := codeAt c [1, 0, 1, 0, 0]
noncomputable def s0 (x3 x4 : Int) (x5 : List (List Cl)) : St := ⟨mkT 36 [(0, one (.ow 0)), (1, one (.int .i64 x3)), (5, one (.int .i64 x4))], [(0, ⟨[.int .i64, .int .i64, .bool], .cells x5, true, 0⟩)], []⟩
noncomputable def l0s  (rec : Int → Int → List (List Cl) → Option Res) (k : Int → List (List Cl) → Option Res) (x3 x4 : Int) (x5 : List (List Cl)) : Option Res :=
  bif decide (x4 < (x5.length : Int)) then (bif decide (0 ≤ x4) && decide (x4 < (x5.length : Int)) then (bif decide (0 ≤ x4) && decide (x4 < ((x5.set x4.toNat (splice (x5.getD x4.toNat []) 0 [.i x3])).length : Int)) then (bif decide (0 ≤ x4) && decide (x4 < (((x5.set x4.toNat (splice (x5.getD x4.toNat []) 0 [.i x3])).set x4.toNat (splice ((x5.set x4.toNat (splice (x5.getD x4.toNat []) 0 [.i x3])).getD x4.toNat []) 1 [.i (IntKind.i64.wrap (x3 + 1))])).length : Int)) then rec (IntKind.i64.wrap ((IntKind.i64.wrap ((IntKind.i64.wrap (x3 + 1)) + 1)) + 1)) (IntKind.i64.wrap (x4 + 1)) (((x5.set x4.toNat (splice (x5.getD x4.toNat []) 0 [.i x3])).set x4.toNat (splice ((x5.set x4.toNat (splice (x5.getD x4.toNat []) 0 [.i x3])).getD x4.toNat []) 1 [.i (IntKind.i64.wrap (x3 + 1))])).set x4.toNat (splice (((x5.set x4.toNat (splice (x5.getD x4.toNat []) 0 [.i x3])).set x4.toNat (splice ((x5.set x4.toNat (splice (x5.getD x4.toNat []) 0 [.i x3])).getD x4.toNat []) 1 [.i (IntKind.i64.wrap (x3 + 1))])).getD x4.toNat []) 2 [.b ((IntKind.i64.wrap ((IntKind.i64.wrap (x3 + 1)) + 1)).tmod 3 == 0)]))
        else none)
      else none)
    else none)
  else k x3 x5
noncomputable def l0  (k : Int → List (List Cl) → Option Res) : Nat → Int → Int → List (List Cl) → Option Res
  | 0, _, _, _ => none
  | n + 1, x3, x4, x5 => l0s (fun x3 x4 x5 => l0 k n x3 x4 x5) k x3 x4 x5
noncomputable def o0 (y1 : Int) (y2 : List (List Cl)) : St := ⟨mkT 36 [(1, one (.int .i64 y1))], [(0, ⟨[.int .i64, .int .i64, .bool], .cells y2, true, 0⟩)], []⟩
noncomputable def p0 (K : Res → Option Res) : List Lf → (St → Option Res) → Option Res
  | [.i x3, .i x4, .q (.cells x5)], k => l0 (fun y1 y2 => k (o0 y1 y2)) fuel x3 x4 x5
  | _, _ => none
noncomputable def os : List (FuncId × St × (List Lf → (Res → Option Res) → Option Res)) := []
noncomputable def X (K : Res → Option Res) : Ctx := { Γ := Γ0, orc := orcOf os, io := [], share := [], mvl := [], bun := [], cut := [], own := [], cin := [(0, ⟨[0, 1, 5], [(0, 0)], [], [], [], []⟩)], cout := [(0, ⟨[1], [(0, 0)], [], [], [], []⟩)], lp := lpOf [(0, s0 0 0 [], p0 K)], kl := [], nk := true, eqs := eqs0, byt := byt0, fin := finK fi K }
noncomputable def b (a1 : Int) (a2 : List (List Cl)) (R : Int → List (List Cl) → Option Res) : Option Res :=
  l0 (fun y6 y7 => 
  R y6 y7) fuel a1 0 a2
theorem gx : ∃ x : Int → List (List Cl) → (Int → List (List Cl) → Option Res) → Option Res, x = b := ⟨_, rfl⟩
noncomputable def g : Int → List (List Cl) → (Int → List (List Cl) → Option Res) → Option Res := Classical.choose gx
theorem e : g = b := Classical.choose_spec gx
noncomputable def run : List Lf → (Res → Option Res) → Option Res
  | [.i a1, .q (.cells a2)], K => g a1 a2 (fun r1 r2 => K (m r1 r2))
  | _, _ => none
noncomputable def a (a1 : Int) (a2 : List (List Cl)) : St := argSt [one (.ow 0), one (.int .i64 a1)] [⟨[.int .i64, .int .i64, .bool], .cells a2, true, 0⟩] []
noncomputable def con : FuncId × St × (List Lf → (Res → Option Res) → Option Res) := (89, a 0 [], run)
theorem cx (K : Res → Option Res) : CtxOk Go.Proofs.Try.prog Γ0 byt0 eqs0 (X K) os := ⟨rfl, rfl, rfl, (fun p hp => by
  cases hp), rfl, rfl, rfl, rfl⟩
theorem t0 (K : Res → Option Res) (k : St → Option Res) (it : St → (St → Option Res) → Option Res) (x3 x4 : Int) (x5 : List (List Cl)) : iterS (X K) 0 b0 it (s0 x3 x4 x5) k = l0s (fun x3 x4 x5 => it (s0 x3 x4 x5) k) (fun y1 y2 => k (o0 y1 y2)) x3 x4 x5 := by kernel_rfl
theorem i0 (K : Res → Option Res) (k : St → Option Res)  : ∀ (n : Nat) (x3 x4 : Int) (x5 : List (List Cl)), iter (X K) 0 b0 n (s0 x3 x4 x5) k = l0 (fun y1 y2 => k (o0 y1 y2)) n x3 x4 x5
  | 0, _, _, _ => rfl
  | n + 1, x3, x4, x5 => by
    rw [iter_succ, t0, show (fun x3 x4 x5 => iter (X K) 0 b0 n (s0 x3 x4 x5) k) = (fun x3 x4 x5 => l0 (fun y1 y2 => k (o0 y1 y2)) n x3 x4 x5) from funext fun x3 => funext fun x4 => funext fun x5 => i0 K k n x3 x4 x5]; rfl
theorem v0 {K : Res → Option Res} {l : List Lf} {k : St → Option Res} {r : Res} (h : p0 K l k = some r) : ∃ x3 x4 x5, l = [.i x3, .i x4, .q (.cells x5)] ∧ l0 (fun y1 y2 => k (o0 y1 y2)) fuel x3 x4 x5 = some r := by
  unfold p0 at h; split at h
  · exact ⟨_, _, _, rfl, h⟩
  · cases h
theorem w0 (K : Res → Option Res) : LpSound Go.Proofs.Try.prog (X K) 0 b0 := lp_ok ((cx K).ok laid) (by rw [show loopsOf b0 = [] from by kernel_rfl]; intro p hp; cases hp) rfl fun p hp hid => by
  rcases List.mem_cons.1 hp with rfl | hp
  · intro st k r h1 h2; obtain ⟨x3, x4, x5, e, h⟩ := v0 (K := K) h2; have := St.like_eq (y := s0 x3 x4 x5) h1 (by kernel_rfl) e; subst this; exact ⟨fuel, (i0 K k fuel x3 x4 x5).trans h⟩
  cases hp
theorem tie (K : Res → Option Res) (a1 : Int) (a2 : List (List Cl)) : exec (X K) c (entry 36 [one (.ow 0), one (.int .i64 a1)] [⟨[.int .i64, .int .i64, .bool], .cells a2, true, 0⟩] []) (endK (X K)) = g a1 a2 (fun r1 r2 => K (m r1 r2)) := Eq.trans (b := b a1 a2 (fun r1 r2 => K (m r1 r2))) (by kernel_rfl) (by rw [e])
theorem runv {l : List Lf} {K : Res → Option Res} {r : Res} (h : run l K = some r) : ∃ a1 a2, l = [.i a1, .q (.cells a2)] ∧ g a1 a2 (fun r1 r2 => K (m r1 r2)) = some r := by
  unfold run at h; split at h
  · exact ⟨_, _, rfl, h⟩
  · cases h
theorem ok : Con Go.Proofs.Try.prog con := con_of (fn := Go.Proofs.Try.f89) (c := c) (Fi := fi) (X := X) (fun_of laid (by kernel_rfl) (by kernel_rfl) (by kernel_rfl) rfl (by kernel_rfl) (by kernel_rfl) cx (fun _ => rfl) (fun _ => rfl) (fun K => by
    rw [show loopsOf c = [(0, b0)] from by kernel_rfl]; intro p hp
    rcases List.mem_cons.1 hp with rfl | hp
    · exact w0 K
    cases hp)) fun xs rows boxes K r hl hr => by
  obtain ⟨a1, a2, e, h⟩ := runv hr
  have := St.like_eq (y := a a1 a2) hl (by kernel_rfl) e
  obtain ⟨rfl, rfl, rfl⟩ := argSt_inj this
  exact (tie K a1 a2).trans h
end laws_markCellS
namespace laws_markHeap
noncomputable def c : Code := bodyOf Go.Proofs.Try.f39
noncomputable def fi : Fin := ⟨Γ0, [(.tmp 4, 3)], [[1]], [true, true], [], []⟩
noncomputable def m (r1 : Int) (r2 : List Int) (r3 : List (List Cl)) : Res := ⟨[⟨false, [.int .i64 r1]⟩], [some ⟨[.int .i64], .ints r2, true, 0⟩, some ⟨[.int .i64, .int .i64, .bool], .cells r3, true, 0⟩], [], [], []⟩
noncomputable def os : List (FuncId × St × (List Lf → (Res → Option Res) → Option Res)) := [laws_markIntS.con, laws_markCellS.con]
noncomputable def X (K : Res → Option Res) : Ctx := { Γ := Γ0, orc := orcOf os, io := [(75, [⟨true, 0, 1⟩, ⟨false, 0, 1⟩]), (89, [⟨true, 0, 1⟩, ⟨false, 0, 1⟩])], share := [], mvl := [], bun := [], cut := [], own := [], cin := [], cout := [], lp := lpOf [], kl := [], nk := true, eqs := eqs0, byt := byt0, fin := finK fi K }
noncomputable def b (a1 a2 : Int) (a3 : List Int) (a4 : List (List Cl)) (R : Int → List Int → List (List Cl) → Option Res) : Option Res :=
  laws_markIntS.g a2 a3 fun r5 r6 =>
  laws_markCellS.g r5 a4 fun r7 r8 =>
  R r7 r6 r8
theorem gx : ∃ x : Int → Int → List Int → List (List Cl) → (Int → List Int → List (List Cl) → Option Res) → Option Res, x = b := ⟨_, rfl⟩
noncomputable def g : Int → Int → List Int → List (List Cl) → (Int → List Int → List (List Cl) → Option Res) → Option Res := Classical.choose gx
theorem e : g = b := Classical.choose_spec gx
noncomputable def run : List Lf → (Res → Option Res) → Option Res
  | [.i a1, .i a2, .q (.ints a3), .q (.cells a4)], K => g a1 a2 a3 a4 (fun r1 r2 r3 => K (m r1 r2 r3))
  | _, _ => none
noncomputable def a (a1 a2 : Int) (a3 : List Int) (a4 : List (List Cl)) : St := argSt [.v ⟨true, [.ow 0, .int .i64 a1, .ow 1]⟩, one (.int .i64 a2)] [⟨[.int .i64], .ints a3, true, 0⟩, ⟨[.int .i64, .int .i64, .bool], .cells a4, true, 0⟩] []
noncomputable def con : FuncId × St × (List Lf → (Res → Option Res) → Option Res) := (39, a 0 0 [] [], run)
theorem cx (K : Res → Option Res) : CtxOk Go.Proofs.Try.prog Γ0 byt0 eqs0 (X K) os := ⟨rfl, rfl, rfl, (fun p hp => by
  rcases List.mem_cons.1 hp with rfl | hp
  · exact laws_markIntS.ok
  rcases List.mem_cons.1 hp with rfl | hp
  · exact laws_markCellS.ok
  cases hp), rfl, rfl, rfl, rfl⟩
theorem tie (K : Res → Option Res) (a1 a2 : Int) (a3 : List Int) (a4 : List (List Cl)) : exec (X K) c (entry 14 [.v ⟨true, [.ow 0, .int .i64 a1, .ow 1]⟩, one (.int .i64 a2)] [⟨[.int .i64], .ints a3, true, 0⟩, ⟨[.int .i64, .int .i64, .bool], .cells a4, true, 0⟩] []) (endK (X K)) = g a1 a2 a3 a4 (fun r1 r2 r3 => K (m r1 r2 r3)) := Eq.trans (b := b a1 a2 a3 a4 (fun r1 r2 r3 => K (m r1 r2 r3))) (by kernel_rfl) (by rw [e])
theorem runv {l : List Lf} {K : Res → Option Res} {r : Res} (h : run l K = some r) : ∃ a1 a2 a3 a4, l = [.i a1, .i a2, .q (.ints a3), .q (.cells a4)] ∧ g a1 a2 a3 a4 (fun r1 r2 r3 => K (m r1 r2 r3)) = some r := by
  unfold run at h; split at h
  · exact ⟨_, _, _, _, rfl, h⟩
  · cases h
theorem ok : Con Go.Proofs.Try.prog con := con_of (fn := Go.Proofs.Try.f39) (c := c) (Fi := fi) (X := X) (fun_of laid (by kernel_rfl) (by kernel_rfl) (by kernel_rfl) rfl (by kernel_rfl) (by kernel_rfl) cx (fun _ => rfl) (fun _ => rfl) (fun K => by
    rw [show loopsOf c = [] from by kernel_rfl]; intro p hp
    cases hp)) fun xs rows boxes K r hl hr => by
  obtain ⟨a1, a2, a3, a4, e, h⟩ := runv hr
  have := St.like_eq (y := a a1 a2 a3 a4) hl (by kernel_rfl) e
  obtain ⟨rfl, rfl, rfl⟩ := argSt_inj this
  exact (tie K a1 a2 a3 a4).trans h
end laws_markHeap
namespace laws_markArray
noncomputable def c : Code := bodyOf Go.Proofs.Try.f40
noncomputable def fi : Fin := ⟨Γ0, [(.tmp 4, 3)], [[1]], [true, true], [], []⟩
noncomputable def m (r1 : Int) (r2 r3 : List Int) : Res := ⟨[⟨false, [.int .i64 r1]⟩], [some ⟨[.int .i64], .ints r2, true, 0⟩, some ⟨[.int .i64], .ints r3, true, 0⟩], [], [], []⟩
noncomputable def os : List (FuncId × St × (List Lf → (Res → Option Res) → Option Res)) := [laws_markIntS.con]
noncomputable def X (K : Res → Option Res) : Ctx := { Γ := Γ0, orc := orcOf os, io := [(75, [⟨true, 0, 1⟩, ⟨false, 0, 1⟩])], share := [], mvl := [], bun := [], cut := [], own := [], cin := [], cout := [], lp := lpOf [], kl := [], nk := true, eqs := eqs0, byt := byt0, fin := finK fi K }
noncomputable def b (a1 : Int) (a2 a3 : List Int) (R : Int → List Int → List Int → Option Res) : Option Res :=
  laws_markIntS.g a1 a2 fun r4 r5 =>
  laws_markIntS.g r4 a3 fun r6 r7 =>
  R r6 r5 r7
theorem gx : ∃ x : Int → List Int → List Int → (Int → List Int → List Int → Option Res) → Option Res, x = b := ⟨_, rfl⟩
noncomputable def g : Int → List Int → List Int → (Int → List Int → List Int → Option Res) → Option Res := Classical.choose gx
theorem e : g = b := Classical.choose_spec gx
noncomputable def run : List Lf → (Res → Option Res) → Option Res
  | [.i a1, .q (.ints a2), .q (.ints a3)], K => g a1 a2 a3 (fun r1 r2 r3 => K (m r1 r2 r3))
  | _, _ => none
noncomputable def a (a1 : Int) (a2 a3 : List Int) : St := argSt [.v ⟨true, [.ow 0, .ow 1]⟩, one (.int .i64 a1)] [⟨[.int .i64], .ints a2, true, 0⟩, ⟨[.int .i64], .ints a3, true, 0⟩] []
noncomputable def con : FuncId × St × (List Lf → (Res → Option Res) → Option Res) := (40, a 0 [] [], run)
theorem cx (K : Res → Option Res) : CtxOk Go.Proofs.Try.prog Γ0 byt0 eqs0 (X K) os := ⟨rfl, rfl, rfl, (fun p hp => by
  rcases List.mem_cons.1 hp with rfl | hp
  · exact laws_markIntS.ok
  cases hp), rfl, rfl, rfl, rfl⟩
theorem tie (K : Res → Option Res) (a1 : Int) (a2 a3 : List Int) : exec (X K) c (entry 14 [.v ⟨true, [.ow 0, .ow 1]⟩, one (.int .i64 a1)] [⟨[.int .i64], .ints a2, true, 0⟩, ⟨[.int .i64], .ints a3, true, 0⟩] []) (endK (X K)) = g a1 a2 a3 (fun r1 r2 r3 => K (m r1 r2 r3)) := Eq.trans (b := b a1 a2 a3 (fun r1 r2 r3 => K (m r1 r2 r3))) (by kernel_rfl) (by rw [e])
theorem runv {l : List Lf} {K : Res → Option Res} {r : Res} (h : run l K = some r) : ∃ a1 a2 a3, l = [.i a1, .q (.ints a2), .q (.ints a3)] ∧ g a1 a2 a3 (fun r1 r2 r3 => K (m r1 r2 r3)) = some r := by
  unfold run at h; split at h
  · exact ⟨_, _, _, rfl, h⟩
  · cases h
theorem ok : Con Go.Proofs.Try.prog con := con_of (fn := Go.Proofs.Try.f40) (c := c) (Fi := fi) (X := X) (fun_of laid (by kernel_rfl) (by kernel_rfl) (by kernel_rfl) rfl (by kernel_rfl) (by kernel_rfl) cx (fun _ => rfl) (fun _ => rfl) (fun K => by
    rw [show loopsOf c = [] from by kernel_rfl]; intro p hp
    cases hp)) fun xs rows boxes K r hl hr => by
  obtain ⟨a1, a2, a3, e, h⟩ := runv hr
  have := St.like_eq (y := a a1 a2 a3) hl (by kernel_rfl) e
  obtain ⟨rfl, rfl, rfl⟩ := argSt_inj this
  exact (tie K a1 a2 a3).trans h
end laws_markArray
namespace laws_heldIntS
noncomputable def c : Code := bodyOf Go.Proofs.Try.f76
noncomputable def fi : Fin := ⟨Γ0, [(.tmp 4, 3)], [[1]], [], [], []⟩
noncomputable def m (r1 : Int) : Res := ⟨[⟨false, [.int .i64 r1]⟩], [], [], [], []⟩
noncomputable def b0 : Code := codeAt c [1, 0, 1, 0, 0]
noncomputable def s0 (x3 : List Int) (x4 x5 : Int) : St := ⟨mkT 21 [(0, one (.tr 0 1 [.int .i64] (.ints x3))), (1, one (.int .i64 x4)), (5, one (.int .i64 x5))], [], []⟩
noncomputable def l0s (x3 : List Int) (rec : Int → Int → Option Res) (k : Int → Option Res) (R : Int → Option Res) (x4 x5 : Int) : Option Res :=
  bif decide (x5 < (x3.length : Int)) then (bif decide (0 ≤ x5) && decide (x5 < (x3.length : Int)) then (bif (x3.getD x5.toNat 0 != x4) then R (-1)
      else rec (IntKind.i64.wrap (x4 + 1)) (IntKind.i64.wrap (x5 + 1)))
    else none)
  else k x4
noncomputable def l0 (x3 : List Int) (k : Int → Option Res) (R : Int → Option Res) : Nat → Int → Int → Option Res
  | 0, _, _ => none
  | n + 1, x4, x5 => l0s x3 (fun x4 x5 => l0 x3 k R n x4 x5) k R x4 x5
noncomputable def o0 (x3 : List Int) (y1 : Int) : St := ⟨mkT 21 [(1, one (.int .i64 y1))], [], []⟩
noncomputable def p0 (K : Res → Option Res) : List Lf → (St → Option Res) → Option Res
  | [.q (.ints x3), .i x4, .i x5], k => l0 x3 (fun y1 => k (o0 x3 y1)) (fun r1 => K (m r1)) fuel x4 x5
  | _, _ => none
noncomputable def os : List (FuncId × St × (List Lf → (Res → Option Res) → Option Res)) := []
noncomputable def X (K : Res → Option Res) : Ctx := { Γ := Γ0, orc := orcOf os, io := [], share := [], mvl := [], bun := [], cut := [], own := [], cin := [(0, ⟨[0, 1, 5], [], [], [], [], []⟩)], cout := [(0, ⟨[1], [], [], [], [], []⟩)], lp := lpOf [(0, s0 [] 0 0, p0 K)], kl := [], nk := true, eqs := eqs0, byt := byt0, fin := finK fi K }
noncomputable def b (a1 : List Int) (a2 : Int) (R : Int → Option Res) : Option Res :=
  l0 a1 (fun y6 => 
  R y6) R fuel a2 0
theorem gx : ∃ x : List Int → Int → (Int → Option Res) → Option Res, x = b := ⟨_, rfl⟩
noncomputable def g : List Int → Int → (Int → Option Res) → Option Res := Classical.choose gx
theorem e : g = b := Classical.choose_spec gx
noncomputable def run : List Lf → (Res → Option Res) → Option Res
  | [.q (.ints a1), .i a2], K => g a1 a2 (fun r1 => K (m r1))
  | _, _ => none
noncomputable def a (a1 : List Int) (a2 : Int) : St := argSt [one (.tr 0 1 [.int .i64] (.ints a1)), one (.int .i64 a2)] [] []
noncomputable def con : FuncId × St × (List Lf → (Res → Option Res) → Option Res) := (76, a [] 0, run)
theorem cx (K : Res → Option Res) : CtxOk Go.Proofs.Try.prog Γ0 byt0 eqs0 (X K) os := ⟨rfl, rfl, rfl, (fun p hp => by
  cases hp), rfl, rfl, rfl, rfl⟩
theorem t0 (K : Res → Option Res) (k : St → Option Res) (it : St → (St → Option Res) → Option Res) (x3 : List Int) (x4 x5 : Int) : iterS (X K) 0 b0 it (s0 x3 x4 x5) k = l0s x3 (fun x4 x5 => it (s0 x3 x4 x5) k) (fun y1 => k (o0 x3 y1)) (fun r1 => K (m r1)) x4 x5 := by kernel_rfl
theorem i0 (K : Res → Option Res) (k : St → Option Res) (x3 : List Int) : ∀ (n : Nat) (x4 x5 : Int), iter (X K) 0 b0 n (s0 x3 x4 x5) k = l0 x3 (fun y1 => k (o0 x3 y1)) (fun r1 => K (m r1)) n x4 x5
  | 0, _, _ => rfl
  | n + 1, x4, x5 => by
    rw [iter_succ, t0, show (fun x4 x5 => iter (X K) 0 b0 n (s0 x3 x4 x5) k) = (fun x4 x5 => l0 x3 (fun y1 => k (o0 x3 y1)) (fun r1 => K (m r1)) n x4 x5) from funext fun x4 => funext fun x5 => i0 K k x3 n x4 x5]; rfl
theorem v0 {K : Res → Option Res} {l : List Lf} {k : St → Option Res} {r : Res} (h : p0 K l k = some r) : ∃ x3 x4 x5, l = [.q (.ints x3), .i x4, .i x5] ∧ l0 x3 (fun y1 => k (o0 x3 y1)) (fun r1 => K (m r1)) fuel x4 x5 = some r := by
  unfold p0 at h; split at h
  · exact ⟨_, _, _, rfl, h⟩
  · cases h
theorem w0 (K : Res → Option Res) : LpSound Go.Proofs.Try.prog (X K) 0 b0 := lp_ok ((cx K).ok laid) (by rw [show loopsOf b0 = [] from by kernel_rfl]; intro p hp; cases hp) rfl fun p hp hid => by
  rcases List.mem_cons.1 hp with rfl | hp
  · intro st k r h1 h2; obtain ⟨x3, x4, x5, e, h⟩ := v0 (K := K) h2; have := St.like_eq (y := s0 x3 x4 x5) h1 (by kernel_rfl) e; subst this; exact ⟨fuel, (i0 K k x3 fuel x4 x5).trans h⟩
  cases hp
theorem tie (K : Res → Option Res) (a1 : List Int) (a2 : Int) : exec (X K) c (entry 21 [one (.tr 0 1 [.int .i64] (.ints a1)), one (.int .i64 a2)] [] []) (endK (X K)) = g a1 a2 (fun r1 => K (m r1)) := Eq.trans (b := b a1 a2 (fun r1 => K (m r1))) (by kernel_rfl) (by rw [e])
theorem runv {l : List Lf} {K : Res → Option Res} {r : Res} (h : run l K = some r) : ∃ a1 a2, l = [.q (.ints a1), .i a2] ∧ g a1 a2 (fun r1 => K (m r1)) = some r := by
  unfold run at h; split at h
  · exact ⟨_, _, rfl, h⟩
  · cases h
theorem ok : Con Go.Proofs.Try.prog con := con_of (fn := Go.Proofs.Try.f76) (c := c) (Fi := fi) (X := X) (fun_of laid (by kernel_rfl) (by kernel_rfl) (by kernel_rfl) rfl (by kernel_rfl) (by kernel_rfl) cx (fun _ => rfl) (fun _ => rfl) (fun K => by
    rw [show loopsOf c = [(0, b0)] from by kernel_rfl]; intro p hp
    rcases List.mem_cons.1 hp with rfl | hp
    · exact w0 K
    cases hp)) fun xs rows boxes K r hl hr => by
  obtain ⟨a1, a2, e, h⟩ := runv hr
  have := St.like_eq (y := a a1 a2) hl (by kernel_rfl) e
  obtain ⟨rfl, rfl, rfl⟩ := argSt_inj this
  exact (tie K a1 a2).trans h
end laws_heldIntS
namespace laws_heldCellS
noncomputable def c : Code := bodyOf Go.Proofs.Try.f90
noncomputable def fi : Fin := ⟨Γ0, [(.tmp 4, 3)], [[1]], [], [], []⟩
noncomputable def m (r1 : Int) : Res := ⟨[⟨false, [.int .i64 r1]⟩], [], [], [], []⟩
noncomputable def b0 : Code := codeAt c [1, 0, 1, 0, 0]
noncomputable def s0 (x3 : List (List Cl)) (x4 x5 : Int) : St := ⟨mkT 42 [(0, one (.tr 0 1 [.int .i64, .int .i64, .bool] (.cells x3))), (1, one (.int .i64 x4)), (5, one (.int .i64 x5))], [], []⟩
noncomputable def l0s (x3 : List (List Cl)) (rec : Int → Int → Option Res) (k : Int → Option Res) (R : Int → Option Res) (x4 x5 : Int) : Option Res :=
  bif decide (x5 < (x3.length : Int)) then (bif decide (0 ≤ x5) && decide (x5 < (x3.length : Int)) then (bif (((x3.getD x5.toNat []).getD 0 (.i 0)).toI != x4) then R (-1)
      else bif decide (0 ≤ x5) && decide (x5 < (x3.length : Int)) then (bif (((x3.getD x5.toNat []).getD 1 (.i 0)).toI != IntKind.i64.wrap (x4 + 1)) then R (-1)
        else bif decide (0 ≤ x5) && decide (x5 < (x3.length : Int)) then (bif ((((x3.getD x5.toNat []).getD 2 (.i 0)).toB) != ((IntKind.i64.wrap ((IntKind.i64.wrap (x4 + 1)) + 1)).tmod 3 == 0)) then R (-1)
          else rec (IntKind.i64.wrap ((IntKind.i64.wrap ((IntKind.i64.wrap (x4 + 1)) + 1)) + 1)) (IntKind.i64.wrap (x5 + 1)))
        else none)
      else none)
    else none)
  else k x4
noncomputable def l0 (x3 : List (List Cl)) (k : Int → Option Res) (R : Int → Option Res) : Nat → Int → Int → Option Res
  | 0, _, _ => none
  | n + 1, x4, x5 => l0s x3 (fun x4 x5 => l0 x3 k R n x4 x5) k R x4 x5
noncomputable def o0 (x3 : List (List Cl)) (y1 : Int) : St := ⟨mkT 42 [(1, one (.int .i64 y1))], [], []⟩
noncomputable def p0 (K : Res → Option Res) : List Lf → (St → Option Res) → Option Res
  | [.q (.cells x3), .i x4, .i x5], k => l0 x3 (fun y1 => k (o0 x3 y1)) (fun r1 => K (m r1)) fuel x4 x5
  | _, _ => none
noncomputable def os : List (FuncId × St × (List Lf → (Res → Option Res) → Option Res)) := []
noncomputable def X (K : Res → Option Res) : Ctx := { Γ := Γ0, orc := orcOf os, io := [], share := [], mvl := [], bun := [], cut := [], own := [], cin := [(0, ⟨[0, 1, 5], [], [], [], [], []⟩)], cout := [(0, ⟨[1], [], [], [], [], []⟩)], lp := lpOf [(0, s0 [] 0 0, p0 K)], kl := [], nk := true, eqs := eqs0, byt := byt0, fin := finK fi K }
noncomputable def b (a1 : List (List Cl)) (a2 : Int) (R : Int → Option Res) : Option Res :=
  l0 a1 (fun y6 => 
  R y6) R fuel a2 0
theorem gx : ∃ x : List (List Cl) → Int → (Int → Option Res) → Option Res, x = b := ⟨_, rfl⟩
noncomputable def g : List (List Cl) → Int → (Int → Option Res) → Option Res := Classical.choose gx
theorem e : g = b := Classical.choose_spec gx
noncomputable def run : List Lf → (Res → Option Res) → Option Res
  | [.q (.cells a1), .i a2], K => g a1 a2 (fun r1 => K (m r1))
  | _, _ => none
noncomputable def a (a1 : List (List Cl)) (a2 : Int) : St := argSt [one (.tr 0 1 [.int .i64, .int .i64, .bool] (.cells a1)), one (.int .i64 a2)] [] []
noncomputable def con : FuncId × St × (List Lf → (Res → Option Res) → Option Res) := (90, a [] 0, run)
theorem cx (K : Res → Option Res) : CtxOk Go.Proofs.Try.prog Γ0 byt0 eqs0 (X K) os := ⟨rfl, rfl, rfl, (fun p hp => by
  cases hp), rfl, rfl, rfl, rfl⟩
theorem t0 (K : Res → Option Res) (k : St → Option Res) (it : St → (St → Option Res) → Option Res) (x3 : List (List Cl)) (x4 x5 : Int) : iterS (X K) 0 b0 it (s0 x3 x4 x5) k = l0s x3 (fun x4 x5 => it (s0 x3 x4 x5) k) (fun y1 => k (o0 x3 y1)) (fun r1 => K (m r1)) x4 x5 := by kernel_rfl
theorem i0 (K : Res → Option Res) (k : St → Option Res) (x3 : List (List Cl)) : ∀ (n : Nat) (x4 x5 : Int), iter (X K) 0 b0 n (s0 x3 x4 x5) k = l0 x3 (fun y1 => k (o0 x3 y1)) (fun r1 => K (m r1)) n x4 x5
  | 0, _, _ => rfl
  | n + 1, x4, x5 => by
    rw [iter_succ, t0, show (fun x4 x5 => iter (X K) 0 b0 n (s0 x3 x4 x5) k) = (fun x4 x5 => l0 x3 (fun y1 => k (o0 x3 y1)) (fun r1 => K (m r1)) n x4 x5) from funext fun x4 => funext fun x5 => i0 K k x3 n x4 x5]; rfl
theorem v0 {K : Res → Option Res} {l : List Lf} {k : St → Option Res} {r : Res} (h : p0 K l k = some r) : ∃ x3 x4 x5, l = [.q (.cells x3), .i x4, .i x5] ∧ l0 x3 (fun y1 => k (o0 x3 y1)) (fun r1 => K (m r1)) fuel x4 x5 = some r := by
  unfold p0 at h; split at h
  · exact ⟨_, _, _, rfl, h⟩
  · cases h
theorem w0 (K : Res → Option Res) : LpSound Go.Proofs.Try.prog (X K) 0 b0 := lp_ok ((cx K).ok laid) (by rw [show loopsOf b0 = [] from by kernel_rfl]; intro p hp; cases hp) rfl fun p hp hid => by
  rcases List.mem_cons.1 hp with rfl | hp
  · intro st k r h1 h2; obtain ⟨x3, x4, x5, e, h⟩ := v0 (K := K) h2; have := St.like_eq (y := s0 x3 x4 x5) h1 (by kernel_rfl) e; subst this; exact ⟨fuel, (i0 K k x3 fuel x4 x5).trans h⟩
  cases hp
theorem tie (K : Res → Option Res) (a1 : List (List Cl)) (a2 : Int) : exec (X K) c (entry 42 [one (.tr 0 1 [.int .i64, .int .i64, .bool] (.cells a1)), one (.int .i64 a2)] [] []) (endK (X K)) = g a1 a2 (fun r1 => K (m r1)) := Eq.trans (b := b a1 a2 (fun r1 => K (m r1))) (by kernel_rfl) (by rw [e])
theorem runv {l : List Lf} {K : Res → Option Res} {r : Res} (h : run l K = some r) : ∃ a1 a2, l = [.q (.cells a1), .i a2] ∧ g a1 a2 (fun r1 => K (m r1)) = some r := by
  unfold run at h; split at h
  · exact ⟨_, _, rfl, h⟩
  · cases h
theorem ok : Con Go.Proofs.Try.prog con := con_of (fn := Go.Proofs.Try.f90) (c := c) (Fi := fi) (X := X) (fun_of laid (by kernel_rfl) (by kernel_rfl) (by kernel_rfl) rfl (by kernel_rfl) (by kernel_rfl) cx (fun _ => rfl) (fun _ => rfl) (fun K => by
    rw [show loopsOf c = [(0, b0)] from by kernel_rfl]; intro p hp
    rcases List.mem_cons.1 hp with rfl | hp
    · exact w0 K
    cases hp)) fun xs rows boxes K r hl hr => by
  obtain ⟨a1, a2, e, h⟩ := runv hr
  have := St.like_eq (y := a a1 a2) hl (by kernel_rfl) e
  obtain ⟨rfl, rfl, rfl⟩ := argSt_inj this
  exact (tie K a1 a2).trans h
end laws_heldCellS
namespace laws_heldHeap
noncomputable def c : Code := bodyOf Go.Proofs.Try.f41
noncomputable def fi : Fin := ⟨Γ0, [(.tmp 4, 3)], [[1]], [], [], []⟩
noncomputable def m (r1 : Int) : Res := ⟨[⟨false, [.int .i64 r1]⟩], [], [], [], []⟩
noncomputable def os : List (FuncId × St × (List Lf → (Res → Option Res) → Option Res)) := [laws_heldIntS.con, laws_heldCellS.con]
noncomputable def X (K : Res → Option Res) : Ctx := { Γ := Γ0, orc := orcOf os, io := [], share := [], mvl := [], bun := [], cut := [], own := [], cin := [], cout := [], lp := lpOf [], kl := [], nk := true, eqs := eqs0, byt := byt0, fin := finK fi K }
noncomputable def b (a1 : List Int) (a2 : Int) (a3 : List (List Cl)) (a4 : Int) (R : Int → Option Res) : Option Res :=
  laws_heldIntS.g a1 a4 fun r5 =>
  bif decide (r5 < 0) then R (-1)
  else (laws_heldCellS.g a3 r5 fun r6 =>
  bif decide (r6 < 0) then R (-1)
  else R r6)
theorem gx : ∃ x : List Int → Int → List (List Cl) → Int → (Int → Option Res) → Option Res, x = b := ⟨_, rfl⟩
noncomputable def g : List Int → Int → List (List Cl) → Int → (Int → Option Res) → Option Res := Classical.choose gx
theorem e : g = b := Classical.choose_spec gx
noncomputable def run : List Lf → (Res → Option Res) → Option Res
  | [.q (.ints a1), .i a2, .q (.cells a3), .i a4], K => g a1 a2 a3 a4 (fun r1 => K (m r1))
  | _, _ => none
noncomputable def a (a1 : List Int) (a2 : Int) (a3 : List (List Cl)) (a4 : Int) : St := argSt [.v ⟨true, [.tr 0 1 [.int .i64] (.ints a1), .int .i64 a2, .tr 0 1 [.int .i64, .int .i64, .bool] (.cells a3)]⟩, one (.int .i64 a4)] [] []
noncomputable def con : FuncId × St × (List Lf → (Res → Option Res) → Option Res) := (41, a [] 0 [] 0, run)
theorem cx (K : Res → Option Res) : CtxOk Go.Proofs.Try.prog Γ0 byt0 eqs0 (X K) os := ⟨rfl, rfl, rfl, (fun p hp => by
  rcases List.mem_cons.1 hp with rfl | hp
  · exact laws_heldIntS.ok
  rcases List.mem_cons.1 hp with rfl | hp
  · exact laws_heldCellS.ok
  cases hp), rfl, rfl, rfl, rfl⟩
theorem tie (K : Res → Option Res) (a1 : List Int) (a2 : Int) (a3 : List (List Cl)) (a4 : Int) : exec (X K) c (entry 18 [.v ⟨true, [.tr 0 1 [.int .i64] (.ints a1), .int .i64 a2, .tr 0 1 [.int .i64, .int .i64, .bool] (.cells a3)]⟩, one (.int .i64 a4)] [] []) (endK (X K)) = g a1 a2 a3 a4 (fun r1 => K (m r1)) := Eq.trans (b := b a1 a2 a3 a4 (fun r1 => K (m r1))) (by kernel_rfl) (by rw [e])
theorem runv {l : List Lf} {K : Res → Option Res} {r : Res} (h : run l K = some r) : ∃ a1 a2 a3 a4, l = [.q (.ints a1), .i a2, .q (.cells a3), .i a4] ∧ g a1 a2 a3 a4 (fun r1 => K (m r1)) = some r := by
  unfold run at h; split at h
  · exact ⟨_, _, _, _, rfl, h⟩
  · cases h
theorem ok : Con Go.Proofs.Try.prog con := con_of (fn := Go.Proofs.Try.f41) (c := c) (Fi := fi) (X := X) (fun_of laid (by kernel_rfl) (by kernel_rfl) (by kernel_rfl) rfl (by kernel_rfl) (by kernel_rfl) cx (fun _ => rfl) (fun _ => rfl) (fun K => by
    rw [show loopsOf c = [] from by kernel_rfl]; intro p hp
    cases hp)) fun xs rows boxes K r hl hr => by
  obtain ⟨a1, a2, a3, a4, e, h⟩ := runv hr
  have := St.like_eq (y := a a1 a2 a3 a4) hl (by kernel_rfl) e
  obtain ⟨rfl, rfl, rfl⟩ := argSt_inj this
  exact (tie K a1 a2 a3 a4).trans h
end laws_heldHeap
namespace laws_FnExactHeapPut
noncomputable def c : Code := bodyOf Go.Proofs.Try.f6
noncomputable def fi : Fin := ⟨Γ0, [(.tmp 4, 4)], [[1]], [], [], []⟩
noncomputable def m (r1 : Bool) : Res := ⟨[⟨false, [.bool r1]⟩], [], [], [], []⟩
noncomputable def os : List (FuncId × St × (List Lf → (Res → Option Res) → Option Res)) := [laws_szHeap.con, laws_szArray.con, laws_toHeap.con, laws_toArray.con, spec_HeapPut.con, impl_HeapPut.con, laws_eqHeap.con, laws_eqArray.con, laws_markHeap.con, laws_markArray.con, laws_heldHeap.con]
noncomputable def X (K : Res → Option Res) : Ctx := { Γ := Γ0, orc := orcOf os, io := [(36, [⟨false, 2, 2⟩, ⟨false, 0, 1⟩]), (39, [⟨true, 0, 1⟩, ⟨false, 0, 1⟩]), (40, [⟨true, 0, 1⟩, ⟨false, 0, 1⟩])], share := [], mvl := [], bun := [], cut := [], own := [], cin := [], cout := [], lp := lpOf [], kl := [], nk := true, eqs := eqs0, byt := byt0, fin := finK fi K }
noncomputable def b (a1 : List Int) (a2 : Int) (a3 : List (List Cl)) (a4 a5 : List Int) (R : Bool → Option Res) : Option Res :=
  laws_szHeap.g a1 a2 a3 1048576 fun r6 =>
  bif decide (r6 < 0) then R true
  else (laws_szArray.g a4 a5 r6 fun r7 =>
  bif decide (r7 < 0) then R true
  else (laws_toHeap.g a1 a2 a3 fun r8 r9 =>
  laws_toArray.g a4 a5 fun r10 r11 =>
  spec_HeapPut.g r8 a2 r9 r10 r11 fun r12 r13 r14 r15 r16 =>
  laws_toHeap.g a1 a2 a3 fun r17 r18 =>
  laws_toArray.g a4 a5 fun r19 r20 =>
  impl_HeapPut.g r17 a2 r18 r19 r20 fun r21 r22 r23 r24 r25 =>
  laws_eqHeap.g r21 r22 r23 r12 r13 r14 fun r26 =>
  bif !r26 then R false
  else bif (r24 != r15) then R false
  else bif (r25 != r16) then R false
  else (laws_toHeap.g a1 a2 a3 fun r27 r28 =>
  laws_eqHeap.g r17 a2 r18 r27 a2 r28 fun r29 =>
  bif !r29 then R false
  else (laws_toArray.g a4 a5 fun r30 r31 =>
  laws_eqArray.g r19 r20 r30 r31 fun r32 =>
  bif !r32 then R false
  else (laws_markHeap.g a2 1 r17 r18 fun r33 r34 r35 =>
  laws_markArray.g r33 r19 r20 fun r36 r37 r38 =>
  bif decide (r36 < 0) then R false
  else (laws_eqHeap.g r21 r22 r23 r12 r13 r14 fun r39 =>
  bif !r39 then R false
  else bif (r24 != r15) then R false
  else bif (r25 != r16) then R false
  else (laws_markHeap.g r22 1 r21 r23 fun r40 r41 r42 =>
  laws_heldHeap.g r41 r22 r42 1 fun r43 =>
  bif decide (r43 < 0) then R false
  else bif (r43 != r40) then R false
  else (laws_toHeap.g a1 a2 a3 fun r44 r45 =>
  laws_toArray.g a4 a5 fun r46 r47 =>
  impl_HeapPut.g r44 a2 r45 r46 r47 fun r48 r49 r50 r51 r52 =>
  laws_eqHeap.g r48 r49 r50 r12 r13 r14 fun r53 =>
  bif !r53 then R false
  else bif (r51 != r15) then R false
  else bif (r52 != r16) then R false
  else (laws_heldHeap.g r41 r22 r42 1 fun r54 =>
  bif decide (r54 < 0) then R false
  else bif (r54 != r40) then R false
  else R true)))))))))
theorem gx : ∃ x : List Int → Int → List (List Cl) → List Int → List Int → (Bool → Option Res) → Option Res, x = b := ⟨_, rfl⟩
noncomputable def g : List Int → Int → List (List Cl) → List Int → List Int → (Bool → Option Res) → Option Res := Classical.choose gx
theorem e : g = b := Classical.choose_spec gx
noncomputable def run : List Lf → (Res → Option Res) → Option Res
  | [.q (.ints a1), .i a2, .q (.cells a3), .q (.ints a4), .q (.ints a5)], K => g a1 a2 a3 a4 a5 (fun r1 => K (m r1))
  | _, _ => none
noncomputable def a (a1 : List Int) (a2 : Int) (a3 : List (List Cl)) (a4 a5 : List Int) : St := argSt [.v ⟨true, [.tr 0 1 [.int .i64] (.ints a1), .int .i64 a2, .tr 0 1 [.int .i64, .int .i64, .bool] (.cells a3)]⟩, .v ⟨true, [.tr 0 1 [.int .i64] (.ints a4), .tr 0 1 [.int .i64] (.ints a5)]⟩] [] []
noncomputable def con : FuncId × St × (List Lf → (Res → Option Res) → Option Res) := (6, a [] 0 [] [] [], run)
theorem cx (K : Res → Option Res) : CtxOk Go.Proofs.Try.prog Γ0 byt0 eqs0 (X K) os := ⟨rfl, rfl, rfl, (fun p hp => by
  rcases List.mem_cons.1 hp with rfl | hp
  · exact laws_szHeap.ok
  rcases List.mem_cons.1 hp with rfl | hp
  · exact laws_szArray.ok
  rcases List.mem_cons.1 hp with rfl | hp
  · exact laws_toHeap.ok
  rcases List.mem_cons.1 hp with rfl | hp
  · exact laws_toArray.ok
  rcases List.mem_cons.1 hp with rfl | hp
  · exact spec_HeapPut.ok
  rcases List.mem_cons.1 hp with rfl | hp
  · exact impl_HeapPut.ok
  rcases List.mem_cons.1 hp with rfl | hp
  · exact laws_eqHeap.ok
  rcases List.mem_cons.1 hp with rfl | hp
  · exact laws_eqArray.ok
  rcases List.mem_cons.1 hp with rfl | hp
  · exact laws_markHeap.ok
  rcases List.mem_cons.1 hp with rfl | hp
  · exact laws_markArray.ok
  rcases List.mem_cons.1 hp with rfl | hp
  · exact laws_heldHeap.ok
  cases hp), rfl, rfl, rfl, rfl⟩
theorem tie (K : Res → Option Res) (a1 : List Int) (a2 : Int) (a3 : List (List Cl)) (a4 a5 : List Int) : exec (X K) c (entry 140 [.v ⟨true, [.tr 0 1 [.int .i64] (.ints a1), .int .i64 a2, .tr 0 1 [.int .i64, .int .i64, .bool] (.cells a3)]⟩, .v ⟨true, [.tr 0 1 [.int .i64] (.ints a4), .tr 0 1 [.int .i64] (.ints a5)]⟩] [] []) (endK (X K)) = g a1 a2 a3 a4 a5 (fun r1 => K (m r1)) := Eq.trans (b := b a1 a2 a3 a4 a5 (fun r1 => K (m r1))) (by kernel_rfl) (by rw [e])
theorem runv {l : List Lf} {K : Res → Option Res} {r : Res} (h : run l K = some r) : ∃ a1 a2 a3 a4 a5, l = [.q (.ints a1), .i a2, .q (.cells a3), .q (.ints a4), .q (.ints a5)] ∧ g a1 a2 a3 a4 a5 (fun r1 => K (m r1)) = some r := by
  unfold run at h; split at h
  · exact ⟨_, _, _, _, _, rfl, h⟩
  · cases h
theorem ok : Con Go.Proofs.Try.prog con := con_of (fn := Go.Proofs.Try.f6) (c := c) (Fi := fi) (X := X) (fun_of laid (by kernel_rfl) (by kernel_rfl) (by kernel_rfl) rfl (by kernel_rfl) (by kernel_rfl) cx (fun _ => rfl) (fun _ => rfl) (fun K => by
    rw [show loopsOf c = [] from by kernel_rfl]; intro p hp
    cases hp)) fun xs rows boxes K r hl hr => by
  obtain ⟨a1, a2, a3, a4, a5, e, h⟩ := runv hr
  have := St.like_eq (y := a a1 a2 a3 a4 a5) hl (by kernel_rfl) e
  obtain ⟨rfl, rfl, rfl⟩ := argSt_inj this
  exact (tie K a1 a2 a3 a4 a5).trans h
end laws_FnExactHeapPut
end Go.Tv.F
