/- The law's functions, printed by a program of ours, each with its contract. They hold without condition. -/
import Derived.Test.YtbocgpagaacpoaaNewHeapFA
set_option linter.unusedVariables false
set_option linter.unusedSimpArgs false
set_option linter.unnecessarySimpa false
set_option maxRecDepth 100000
set_option autoImplicit false
namespace Go.Tv.F
open Go Go.Tv
-- GROUP slices_pdqsortCmpFunc_int
namespace slices_pdqsortCmpFunc_int
noncomputable def c : Code := bodyOf Go.Proofs.Try.f190
noncomputable def fi : Fin := ⟨Γ0, [], [], [true], [([.sl [.int .i64] 8, .int .i64, .sl [.int .i64, .int .i64, .bool] 24], [0, 1, 0])], []⟩
noncomputable def m (r1 r2 : List Int) (r3 : Int) (r4 : List (List Cl)) : Res := ⟨[], [some ⟨[.int .i64], .ints r1, true, 0⟩], [], [[.tr 2 2 [.int .i64] (.ints r2), .int .i64 r3, .tr 2 2 [.int .i64, .int .i64, .bool] (.cells r4)]], []⟩
abbrev T : Type := Int → Int → Int → List Int → List Int → Int → List (List Cl) → (List Int → List Int → Int → List (List Cl) → Option Res) → Option Res
noncomputable def runz (h : T) : List Lf → (Res → Option Res) → Option Res
  | [.i a1, .i a2, .i a3, .q (.ints a4), .q (.ints a5), .i a6, .q (.cells a7)], K => h a1 a2 a3 a4 a5 a6 a7 (fun r1 r2 r3 r4 => K (m r1 r2 r3 r4))
  | _, _ => none
noncomputable def a (a1 a2 a3 : Int) (a4 a5 : List Int) (a6 : Int) (a7 : List (List Cl)) : St := argSt [one (.ow 0), one (.int .i64 a1), one (.int .i64 a2), one (.int .i64 a3), one (.fn 153 [0])] [⟨[.int .i64], .ints a4, true, 0⟩] [[.tr 2 2 [.int .i64] (.ints a5), .int .i64 a6, .tr 2 2 [.int .i64, .int .i64, .bool] (.cells a7)]]
noncomputable def conz (h : T) : FuncId × St × (List Lf → (Res → Option Res) → Option Res) := (190, a 0 0 0 [] [] 0 [], runz h)
end slices_pdqsortCmpFunc_int
abbrev Z_slices_pdqsortCmpFunc_int : Type := slices_pdqsortCmpFunc_int.T
def Gd_slices_pdqsortCmpFunc_int (z : Z_slices_pdqsortCmpFunc_int) : Prop := Con Go.Proofs.Try.prog (slices_pdqsortCmpFunc_int.conz z)
namespace slices_pdqsortCmpFunc_int
noncomputable def b0 : Code := codeAt c [1, 1, 0, 0]
noncomputable def s0 (x8 x9 x10 : Int) (x11 x12 : Bool) (x13 x14 : List Int) (x15 : Int) (x16 : List (List Cl)) : St := ⟨mkT 148 [(0, one (.ow 0)), (1, one (.int .i64 x8)), (2, one (.int .i64 x9)), (3, one (.int .i64 x10)), (4, one (.fn 153 [0])), (10, one (.bool x11)), (11, one (.bool x12))], [(0, ⟨[.int .i64], .ints x13, true, 0⟩)], [(0, [.tr 2 2 [.int .i64] (.ints x14), .int .i64 x15, .tr 2 2 [.int .i64, .int .i64, .bool] (.cells x16)])]⟩
noncomputable def j2 (z : Z_slices_pdqsortCmpFunc_int) (x8 x9 x40 : Int) (x52 x53 : List Int) (x54 : Int) (x55 : List (List Cl)) (x29 : Int) (x11 x12 : Bool) (rec : Int → Int → Int → Bool → Bool → List Int → List Int → Int → List (List Cl) → Option Res) (x57 : Bool) : Option Res :=
  bif x57 then (slices_partitionEqualCmpFunc_int.g x8 x9 x40 x52 x53 x54 x55 fun r58 r59 r60 r61 r62 =>
    rec r58 x9 x29 x11 x12 r59 r60 r61 r62)
  else (slices_partitionCmpFunc_int.g x8 x9 x40 x52 x53 x54 x55 fun r63 r64 r65 r66 r67 r68 =>
  bif decide (IntKind.i64.wrap (r63 - x8) < IntKind.i64.wrap (x9 - r63)) then (z x8 r63 x29 r65 r66 r67 r68 fun r69 r70 r71 r72 =>
    rec (IntKind.i64.wrap (r63 + 1)) x9 x29 (decide (IntKind.i64.wrap ((IntKind.i64.wrap (x9 - x8)).tdiv 8) ≤ IntKind.i64.wrap (r63 - x8))) r64 r69 r70 r71 r72)
  else (z (IntKind.i64.wrap (r63 + 1)) x9 x29 r65 r66 r67 r68 fun r73 r74 r75 r76 =>
  rec x8 r63 x29 (decide (IntKind.i64.wrap ((IntKind.i64.wrap (x9 - x8)).tdiv 8) ≤ IntKind.i64.wrap (x9 - r63))) r64 r73 r74 r75 r76))
noncomputable def j3 (z : Z_slices_pdqsortCmpFunc_int) (x8 x40 x9 x29 : Int) (x11 x12 : Bool) (rec : Int → Int → Int → Bool → Bool → List Int → List Int → Int → List (List Cl) → Option Res) (x52 x53 : List Int) (x54 : Int) (x55 : List (List Cl)) : Option Res :=
  bif decide (0 < x8) then (bif decide (0 ≤ IntKind.i64.wrap (x8 - 1)) && decide (IntKind.i64.wrap (x8 - 1) < (x52.length : Int)) then (bif decide (0 ≤ x40) && decide (x40 < (x52.length : Int)) then (impl_packed_1.g (x52.getD ((IntKind.i64.wrap (x8 - 1)).toNat) 0) (x52.getD x40.toNat 0) x53 x54 x55 fun r56 =>
        j2 z x8 x9 x40 x52 x53 x54 x55 x29 x11 x12 rec (!(decide (r56 < 0))))
      else none)
    else none)
  else j2 z x8 x9 x40 x52 x53 x54 x55 x29 x11 x12 rec false
noncomputable def j1 (z : Z_slices_pdqsortCmpFunc_int) (x8 x9 : Int) (x42 x43 : List Int) (x44 : Int) (x45 : List (List Cl)) (x40 x29 : Int) (x11 x12 : Bool) (rec : Int → Int → Int → Bool → Bool → List Int → List Int → Int → List (List Cl) → Option Res) (R : List Int → List Int → Int → List (List Cl) → Option Res) (x46 : Bool) : Option Res :=
  bif x46 then (slices_partialInsertionSortCmpFunc_int.g x8 x9 x42 x43 x44 x45 fun r47 r48 r49 r50 r51 =>
    bif r47 then R r48 r49 r50 r51
    else j3 z x8 x40 x9 x29 x11 x12 rec r48 r49 r50 r51)
  else j3 z x8 x40 x9 x29 x11 x12 rec x42 x43 x44 x45
noncomputable def j4 (z : Z_slices_pdqsortCmpFunc_int) (x11 x12 : Bool) (x8 x9 x29 : Int) (rec : Int → Int → Int → Bool → Bool → List Int → List Int → Int → List (List Cl) → Option Res) (R : List Int → List Int → Int → List (List Cl) → Option Res) (x40 x41 : Int) (x42 x43 : List Int) (x44 : Int) (x45 : List (List Cl)) : Option Res :=
  bif x11 then (bif x12 then j1 z x8 x9 x42 x43 x44 x45 x40 x29 x11 x12 rec R (x41 == 1)
    else j1 z x8 x9 x42 x43 x44 x45 x40 x29 x11 x12 rec R false)
  else j1 z x8 x9 x42 x43 x44 x45 x40 x29 x11 x12 rec R false
noncomputable def j5 (z : Z_slices_pdqsortCmpFunc_int) (x8 x9 : Int) (x11 x12 : Bool) (rec : Int → Int → Int → Bool → Bool → List Int → List Int → Int → List (List Cl) → Option Res) (R : List Int → List Int → Int → List (List Cl) → Option Res) (x29 : Int) (x30 x31 : List Int) (x32 : Int) (x33 : List (List Cl)) : Option Res :=
  slices_choosePivotCmpFunc_int.g x30 x8 x9 x31 x32 x33 fun r34 r35 =>
  bif (r35 == 2) then (slices_reverseRangeCmpFunc_int.g x8 x9 x30 x31 x32 x33 fun r36 r37 r38 r39 =>
    j4 z x11 x12 x8 x9 x29 rec R (IntKind.i64.wrap ((IntKind.i64.wrap (x9 - 1)) - (IntKind.i64.wrap (r34 - x8)))) 1 r36 r37 r38 r39)
  else j4 z x11 x12 x8 x9 x29 rec R r34 r35 x30 x31 x32 x33
noncomputable def l0s (z : Z_slices_pdqsortCmpFunc_int)  (rec : Int → Int → Int → Bool → Bool → List Int → List Int → Int → List (List Cl) → Option Res) (R : List Int → List Int → Int → List (List Cl) → Option Res) (x8 x9 x10 : Int) (x11 x12 : Bool) (x13 x14 : List Int) (x15 : Int) (x16 : List (List Cl)) : Option Res :=
  bif decide (IntKind.i64.wrap (x9 - x8) ≤ 12) then (slices_insertionSortCmpFunc_int.g x8 x9 x13 x14 x15 x16 fun r17 r18 r19 r20 =>
    R r17 r18 r19 r20)
  else bif (x10 == 0) then (slices_heapSortCmpFunc_int.g x8 x9 x13 x14 x15 x16 fun r21 r22 r23 r24 =>
    R r21 r22 r23 r24)
  else bif !x11 then (slices_breakPatternsCmpFunc_int.g x8 x9 x13 x14 x15 x16 fun r25 r26 r27 r28 =>
    j5 z x8 x9 x11 x12 rec R (IntKind.i64.wrap (x10 - 1)) r25 r26 r27 r28)
  else j5 z x8 x9 x11 x12 rec R x10 x13 x14 x15 x16
noncomputable def l0 (z : Z_slices_pdqsortCmpFunc_int)  (R : List Int → List Int → Int → List (List Cl) → Option Res) : Nat → Int → Int → Int → Bool → Bool → List Int → List Int → Int → List (List Cl) → Option Res
  | 0, _, _, _, _, _, _, _, _, _ => none
  | n + 1, x8, x9, x10, x11, x12, x13, x14, x15, x16 => l0s z (fun x8 x9 x10 x11 x12 x13 x14 x15 x16 => l0 z R n x8 x9 x10 x11 x12 x13 x14 x15 x16) R x8 x9 x10 x11 x12 x13 x14 x15 x16
noncomputable def p0 (z : Z_slices_pdqsortCmpFunc_int) (K : Res → Option Res) : List Lf → (St → Option Res) → Option Res
  | [.i x8, .i x9, .i x10, .b x11, .b x12, .q (.ints x13), .q (.ints x14), .i x15, .q (.cells x16)], k => l0 z (fun r1 r2 r3 r4 => K (m r1 r2 r3 r4)) fuel x8 x9 x10 x11 x12 x13 x14 x15 x16
  | _, _ => none
noncomputable def os (z : Z_slices_pdqsortCmpFunc_int) : List (FuncId × St × (List Lf → (Res → Option Res) → Option Res)) := [slices_insertionSortCmpFunc_int.con, slices_heapSortCmpFunc_int.con, slices_breakPatternsCmpFunc_int.con, slices_choosePivotCmpFunc_int.con, slices_reverseRangeCmpFunc_int.con, slices_partialInsertionSortCmpFunc_int.con, impl_packed_1.con, slices_partitionEqualCmpFunc_int.con, slices_partitionCmpFunc_int.con, slices_pdqsortCmpFunc_int.conz z]
noncomputable def X (z : Z_slices_pdqsortCmpFunc_int) (K : Res → Option Res) : Ctx := { Γ := Γ0, orc := orcOf (os z), io := [(203, [⟨true, 0, 1⟩, ⟨false, 0, 1⟩, ⟨false, 0, 1⟩, ⟨false, 0, 1⟩]), (204, [⟨true, 0, 1⟩, ⟨false, 0, 1⟩, ⟨false, 0, 1⟩, ⟨false, 0, 1⟩]), (205, [⟨true, 0, 1⟩, ⟨false, 0, 1⟩, ⟨false, 0, 1⟩, ⟨false, 0, 1⟩]), (207, [⟨true, 0, 1⟩, ⟨false, 0, 1⟩, ⟨false, 0, 1⟩, ⟨false, 0, 1⟩]), (208, [⟨true, 0, 1⟩, ⟨false, 0, 1⟩, ⟨false, 0, 1⟩, ⟨false, 0, 1⟩]), (209, [⟨true, 0, 1⟩, ⟨false, 0, 1⟩, ⟨false, 0, 1⟩, ⟨false, 0, 1⟩, ⟨false, 0, 1⟩]), (210, [⟨true, 0, 1⟩, ⟨false, 0, 1⟩, ⟨false, 0, 1⟩, ⟨false, 0, 1⟩, ⟨false, 0, 1⟩]), (190, [⟨true, 0, 1⟩, ⟨false, 0, 1⟩, ⟨false, 0, 1⟩, ⟨false, 0, 1⟩, ⟨false, 0, 1⟩])], share := [], mvl := [], bun := [], cut := [], own := [], cin := [(0, ⟨[0, 1, 2, 3, 4, 10, 11], [(0, 0)], [0], [], [], []⟩)], cout := [(0, ⟨[], [], [], [], [], []⟩)], lp := lpOf [(0, s0 0 0 0 false false [] [] 0 [], p0 z K)], kl := [], nk := true, eqs := eqs0, byt := byt0, fin := finK fi K }
noncomputable def g (z : Z_slices_pdqsortCmpFunc_int) (a1 a2 a3 : Int) (a4 a5 : List Int) (a6 : Int) (a7 : List (List Cl)) (R : List Int → List Int → Int → List (List Cl) → Option Res) : Option Res :=
  l0 z R fuel a1 a2 a3 true true a4 a5 a6 a7
theorem cx (z : Z_slices_pdqsortCmpFunc_int) (hz : Gd_slices_pdqsortCmpFunc_int z) (K : Res → Option Res) : CtxOk Go.Proofs.Try.prog Γ0 byt0 eqs0 (X z K) (os z) := ⟨rfl, rfl, rfl, (fun p hp => by
  rcases List.mem_cons.1 hp with rfl | hp
  · exact slices_insertionSortCmpFunc_int.ok
  rcases List.mem_cons.1 hp with rfl | hp
  · exact slices_heapSortCmpFunc_int.ok
  rcases List.mem_cons.1 hp with rfl | hp
  · exact slices_breakPatternsCmpFunc_int.ok
  rcases List.mem_cons.1 hp with rfl | hp
  · exact slices_choosePivotCmpFunc_int.ok
  rcases List.mem_cons.1 hp with rfl | hp
  · exact slices_reverseRangeCmpFunc_int.ok
  rcases List.mem_cons.1 hp with rfl | hp
  · exact slices_partialInsertionSortCmpFunc_int.ok
  rcases List.mem_cons.1 hp with rfl | hp
  · exact impl_packed_1.ok
  rcases List.mem_cons.1 hp with rfl | hp
  · exact slices_partitionEqualCmpFunc_int.ok
  rcases List.mem_cons.1 hp with rfl | hp
  · exact slices_partitionCmpFunc_int.ok
  rcases List.mem_cons.1 hp with rfl | hp
  · exact hz
  cases hp), rfl, rfl, rfl, rfl⟩
theorem t0 (z : Z_slices_pdqsortCmpFunc_int) (K : Res → Option Res) (k : St → Option Res) (it : St → (St → Option Res) → Option Res) (x8 x9 x10 : Int) (x11 x12 : Bool) (x13 x14 : List Int) (x15 : Int) (x16 : List (List Cl)) : iterS (X z K) 0 b0 it (s0 x8 x9 x10 x11 x12 x13 x14 x15 x16) k = l0s z (fun x8 x9 x10 x11 x12 x13 x14 x15 x16 => it (s0 x8 x9 x10 x11 x12 x13 x14 x15 x16) k) (fun r1 r2 r3 r4 => K (m r1 r2 r3 r4)) x8 x9 x10 x11 x12 x13 x14 x15 x16 := by kernel_rfl
theorem i0 (z : Z_slices_pdqsortCmpFunc_int) (K : Res → Option Res) (k : St → Option Res)  : ∀ (n : Nat) (x8 x9 x10 : Int) (x11 x12 : Bool) (x13 x14 : List Int) (x15 : Int) (x16 : List (List Cl)), iter (X z K) 0 b0 n (s0 x8 x9 x10 x11 x12 x13 x14 x15 x16) k = l0 z (fun r1 r2 r3 r4 => K (m r1 r2 r3 r4)) n x8 x9 x10 x11 x12 x13 x14 x15 x16
  | 0, _, _, _, _, _, _, _, _, _ => rfl
  | n + 1, x8, x9, x10, x11, x12, x13, x14, x15, x16 => by
    rw [iter_succ, t0 z, show (fun x8 x9 x10 x11 x12 x13 x14 x15 x16 => iter (X z K) 0 b0 n (s0 x8 x9 x10 x11 x12 x13 x14 x15 x16) k) = (fun x8 x9 x10 x11 x12 x13 x14 x15 x16 => l0 z (fun r1 r2 r3 r4 => K (m r1 r2 r3 r4)) n x8 x9 x10 x11 x12 x13 x14 x15 x16) from funext fun x8 => funext fun x9 => funext fun x10 => funext fun x11 => funext fun x12 => funext fun x13 => funext fun x14 => funext fun x15 => funext fun x16 => i0 z K k n x8 x9 x10 x11 x12 x13 x14 x15 x16]; rfl
theorem v0 (z : Z_slices_pdqsortCmpFunc_int) {K : Res → Option Res} {l : List Lf} {k : St → Option Res} {r : Res} (h : p0 z K l k = some r) : ∃ x8 x9 x10 x11 x12 x13 x14 x15 x16, l = [.i x8, .i x9, .i x10, .b x11, .b x12, .q (.ints x13), .q (.ints x14), .i x15, .q (.cells x16)] ∧ l0 z (fun r1 r2 r3 r4 => K (m r1 r2 r3 r4)) fuel x8 x9 x10 x11 x12 x13 x14 x15 x16 = some r := by
  unfold p0 at h; split at h
  · exact ⟨_, _, _, _, _, _, _, _, _, rfl, h⟩
  · cases h
theorem w0 (z : Z_slices_pdqsortCmpFunc_int) (hz : Gd_slices_pdqsortCmpFunc_int z) (K : Res → Option Res) : LpSound Go.Proofs.Try.prog (X z K) 0 b0 := lp_ok (((cx z hz) K).ok laid) (by rw [show loopsOf b0 = [] from by kernel_rfl]; intro p hp; cases hp) rfl fun p hp hid => by
  rcases List.mem_cons.1 hp with rfl | hp
  · intro st k r h1 h2; obtain ⟨x8, x9, x10, x11, x12, x13, x14, x15, x16, e, h⟩ := v0 z (K := K) h2; have := St.like_eq (y := s0 x8 x9 x10 x11 x12 x13 x14 x15 x16) h1 (by kernel_rfl) e; subst this; exact ⟨fuel, (i0 z K k fuel x8 x9 x10 x11 x12 x13 x14 x15 x16).trans h⟩
  cases hp
theorem tie (z : Z_slices_pdqsortCmpFunc_int) (K : Res → Option Res) (a1 a2 a3 : Int) (a4 a5 : List Int) (a6 : Int) (a7 : List (List Cl)) : exec (X z K) c (entry 148 [one (.ow 0), one (.int .i64 a1), one (.int .i64 a2), one (.int .i64 a3), one (.fn 153 [0])] [⟨[.int .i64], .ints a4, true, 0⟩] [[.tr 2 2 [.int .i64] (.ints a5), .int .i64 a6, .tr 2 2 [.int .i64, .int .i64, .bool] (.cells a7)]]) (endK (X z K)) = (g z) a1 a2 a3 a4 a5 a6 a7 (fun r1 r2 r3 r4 => K (m r1 r2 r3 r4)) := by kernel_rfl
theorem runv (z : Z_slices_pdqsortCmpFunc_int) {l : List Lf} {K : Res → Option Res} {r : Res} (h : runz (g z) l K = some r) : ∃ a1 a2 a3 a4 a5 a6 a7, l = [.i a1, .i a2, .i a3, .q (.ints a4), .q (.ints a5), .i a6, .q (.cells a7)] ∧ (g z) a1 a2 a3 a4 a5 a6 a7 (fun r1 r2 r3 r4 => K (m r1 r2 r3 r4)) = some r := by
  unfold runz at h; split at h
  · exact ⟨_, _, _, _, _, _, _, rfl, h⟩
  · cases h
theorem ok (z : Z_slices_pdqsortCmpFunc_int) (hz : Gd_slices_pdqsortCmpFunc_int z) : Con Go.Proofs.Try.prog (conz (g z)) := con_of (fn := Go.Proofs.Try.f190) (c := c) (Fi := fi) (X := X z) (fun_of laid (by kernel_rfl) (by kernel_rfl) (by kernel_rfl) rfl (by kernel_rfl) (by kernel_rfl) (cx z hz) (fun _ => rfl) (fun _ => rfl) (fun K => by
    rw [show loopsOf c = [(0, b0)] from by kernel_rfl]; intro p hp
    rcases List.mem_cons.1 hp with rfl | hp
    · exact w0 z hz K
    cases hp)) fun xs rows boxes K r hl hr => by
  obtain ⟨a1, a2, a3, a4, a5, a6, a7, e, h⟩ := runv z hr
  have := St.like_eq (y := a a1 a2 a3 a4 a5 a6 a7) hl (by kernel_rfl) e
  obtain ⟨rfl, rfl, rfl⟩ := argSt_inj this
  exact (tie z K a1 a2 a3 a4 a5 a6 a7).trans h
end slices_pdqsortCmpFunc_int
noncomputable def rec_slices_pdqsortCmpFunc_int : Nat → Z_slices_pdqsortCmpFunc_int
  | 0 => (fun _ _ _ _ _ _ _ _ => none)
  | n + 1 => slices_pdqsortCmpFunc_int.g (rec_slices_pdqsortCmpFunc_int n)
theorem good_slices_pdqsortCmpFunc_int : ∀ n, Gd_slices_pdqsortCmpFunc_int (rec_slices_pdqsortCmpFunc_int n)
  | 0 => con_none (fun l K => by show slices_pdqsortCmpFunc_int.runz (fun _ _ _ _ _ _ _ _ => none) l K = none; unfold slices_pdqsortCmpFunc_int.runz; split <;> rfl)
  | n + 1 => slices_pdqsortCmpFunc_int.ok _ (good_slices_pdqsortCmpFunc_int n)
namespace slices_pdqsortCmpFunc_int
noncomputable def gn (n : Nat) (a1 a2 a3 : Int) (a4 a5 : List Int) (a6 : Int) (a7 : List (List Cl)) (R : List Int → List Int → Int → List (List Cl) → Option Res) : Option Res := (rec_slices_pdqsortCmpFunc_int n) a1 a2 a3 a4 a5 a6 a7 R
theorem Gx : ∃ x : T, x = gn fuel := ⟨_, rfl⟩
noncomputable def G : T := Classical.choose Gx
theorem Ge : G = gn fuel := Classical.choose_spec Gx
theorem gn_succ (n : Nat) (a1 a2 a3 : Int) (a4 a5 : List Int) (a6 : Int) (a7 : List (List Cl)) (R : List Int → List Int → Int → List (List Cl) → Option Res) : gn (n + 1) a1 a2 a3 a4 a5 a6 a7 R = g (rec_slices_pdqsortCmpFunc_int n) a1 a2 a3 a4 a5 a6 a7 R := rfl
noncomputable def con : FuncId × St × (List Lf → (Res → Option Res) → Option Res) := conz G
theorem okG : Con Go.Proofs.Try.prog con := by
  unfold con; rw [Ge]; exact (good_slices_pdqsortCmpFunc_int fuel)
end slices_pdqsortCmpFunc_int
-- END GROUP
namespace slices_SortFunc_int_int
noncomputable def c : Code := bodyOf Go.Proofs.Try.f152
noncomputable def fi : Fin := ⟨Γ0, [], [], [true], [([.sl [.int .i64] 8, .int .i64, .sl [.int .i64, .int .i64, .bool] 24], [0, 1, 0])], []⟩
noncomputable def m (r1 r2 : List Int) (r3 : Int) (r4 : List (List Cl)) : Res := ⟨[], [some ⟨[.int .i64], .ints r1, true, 0⟩], [], [[.tr 2 2 [.int .i64] (.ints r2), .int .i64 r3, .tr 2 2 [.int .i64, .int .i64, .bool] (.cells r4)]], []⟩
noncomputable def os : List (FuncId × St × (List Lf → (Res → Option Res) → Option Res)) := [bits_Len.con, slices_pdqsortCmpFunc_int.con]
noncomputable def X (K : Res → Option Res) : Ctx := { Γ := Γ0, orc := orcOf os, io := [(190, [⟨true, 0, 1⟩, ⟨false, 0, 1⟩, ⟨false, 0, 1⟩, ⟨false, 0, 1⟩, ⟨false, 0, 1⟩])], share := [], mvl := [], bun := [], cut := [], own := [], cin := [], cout := [], lp := lpOf [], kl := [], nk := true, eqs := eqs0, byt := byt0, fin := finK fi K }
noncomputable def b (a1 a2 : List Int) (a3 : Int) (a4 : List (List Cl)) (R : List Int → List Int → Int → List (List Cl) → Option Res) : Option Res :=
  bits_Len.g (IntKind.u64.wrap (a1.length : Int)) fun r5 =>
  slices_pdqsortCmpFunc_int.G 0 (a1.length : Int) r5 a1 a2 a3 a4 fun r6 r7 r8 r9 =>
  R r6 r7 r8 r9
theorem gx : ∃ x : List Int → List Int → Int → List (List Cl) → (List Int → List Int → Int → List (List Cl) → Option Res) → Option Res, x = b := ⟨_, rfl⟩
noncomputable def g : List Int → List Int → Int → List (List Cl) → (List Int → List Int → Int → List (List Cl) → Option Res) → Option Res := Classical.choose gx
theorem e : g = b := Classical.choose_spec gx
noncomputable def run : List Lf → (Res → Option Res) → Option Res
  | [.q (.ints a1), .q (.ints a2), .i a3, .q (.cells a4)], K => g a1 a2 a3 a4 (fun r1 r2 r3 r4 => K (m r1 r2 r3 r4))
  | _, _ => none
noncomputable def a (a1 a2 : List Int) (a3 : Int) (a4 : List (List Cl)) : St := argSt [one (.ow 0), one (.fn 153 [0])] [⟨[.int .i64], .ints a1, true, 0⟩] [[.tr 2 2 [.int .i64] (.ints a2), .int .i64 a3, .tr 2 2 [.int .i64, .int .i64, .bool] (.cells a4)]]
noncomputable def con : FuncId × St × (List Lf → (Res → Option Res) → Option Res) := (152, a [] [] 0 [], run)
theorem cx (K : Res → Option Res) : CtxOk Go.Proofs.Try.prog Γ0 byt0 eqs0 (X K) os := ⟨rfl, rfl, rfl, (fun p hp => by
  rcases List.mem_cons.1 hp with rfl | hp
  · exact bits_Len.ok
  rcases List.mem_cons.1 hp with rfl | hp
  · exact slices_pdqsortCmpFunc_int.okG
  cases hp), rfl, rfl, rfl, rfl⟩
theorem tie (K : Res → Option Res) (a1 a2 : List Int) (a3 : Int) (a4 : List (List Cl)) : exec (X K) c (entry 14 [one (.ow 0), one (.fn 153 [0])] [⟨[.int .i64], .ints a1, true, 0⟩] [[.tr 2 2 [.int .i64] (.ints a2), .int .i64 a3, .tr 2 2 [.int .i64, .int .i64, .bool] (.cells a4)]]) (endK (X K)) = g a1 a2 a3 a4 (fun r1 r2 r3 r4 => K (m r1 r2 r3 r4)) := Eq.trans (b := b a1 a2 a3 a4 (fun r1 r2 r3 r4 => K (m r1 r2 r3 r4))) (by kernel_rfl) (by rw [e])
theorem runv {l : List Lf} {K : Res → Option Res} {r : Res} (h : run l K = some r) : ∃ a1 a2 a3 a4, l = [.q (.ints a1), .q (.ints a2), .i a3, .q (.cells a4)] ∧ g a1 a2 a3 a4 (fun r1 r2 r3 r4 => K (m r1 r2 r3 r4)) = some r := by
  unfold run at h; split at h
  · exact ⟨_, _, _, _, rfl, h⟩
  · cases h
theorem ok : Con Go.Proofs.Try.prog con := con_of (fn := Go.Proofs.Try.f152) (c := c) (Fi := fi) (X := X) (fun_of laid (by kernel_rfl) (by kernel_rfl) (by kernel_rfl) rfl (by kernel_rfl) (by kernel_rfl) cx (fun _ => rfl) (fun _ => rfl) (fun K => by
    rw [show loopsOf c = [] from by kernel_rfl]; intro p hp
    cases hp)) fun xs rows boxes K r hl hr => by
  obtain ⟨a1, a2, a3, a4, e, h⟩ := runv hr
  have := St.like_eq (y := a a1 a2 a3 a4) hl (by kernel_rfl) e
  obtain ⟨rfl, rfl, rfl⟩ := argSt_inj this
  exact (tie K a1 a2 a3 a4).trans h
end slices_SortFunc_int_int
namespace impl_packed
noncomputable def c : Code := bodyOf Go.Proofs.Try.f114
noncomputable def fi : Fin := ⟨Γ0, [(.cell 2 40, 40)], [[1, 1, 1]], [], [], []⟩
noncomputable def m (r1 : List Int) (r2 : Int) (r3 : List (List Cl)) : Res := ⟨[⟨true, [.ow 1000, .int .i64 r2, .ow 1001]⟩], [], [⟨[.int .i64], .ints r1, true, 0⟩, ⟨[.int .i64, .int .i64, .bool], .cells r3, true, 0⟩], [], []⟩
noncomputable def b0 : Code := codeAt c [1, 1, 0, 1, 0, 0]
noncomputable def b2 : Code := codeAt c [1, 1, 1, 1, 1, 0, 1, 0, 0]
noncomputable def s0 (x4 : List (List Cl)) (x5 x6 : Int) (x7 x8 : List Int) (x9 : Int) (x10 : List (List Cl)) (x11 : Int) : St := ⟨mkT 78 [(1, one (.bp 1000 0)), (2, one (.bp 1016 0)), (3, one (.ow 3056)), (11, one (.tr 2 2 [.int .i64, .int .i64, .bool] (.cells x4))), (12, one (.int .i64 x5)), (13, one (.int .i64 x6))], [(3056, ⟨[.int .i64], .ints x7, true, 0⟩)], [(1000, [.tr 2 2 [.int .i64] (.ints x8), .int .i64 x9, .tr 2 2 [.int .i64, .int .i64, .bool] (.cells x10)]), (1016, [.nil, .int .i64 x11, .nil])]⟩
noncomputable def l0s (x4 : List (List Cl)) (x5 : Int) (x8 : List Int) (x9 : Int) (x10 : List (List Cl)) (x11 : Int) (rec : Int → List Int → Option Res) (k : List Int → Option Res) (x6 : Int) (x7 : List Int) : Option Res :=
  bif decide (x6 < x5) then (bif decide (0 ≤ x6) && decide (x6 < (x4.length : Int)) then (bif ((x4.getD x6.toNat []).getD 2 (.i 0)).toB then (bif decide ((x7.length + 1) * 8 ≤ 140737488355328) then rec (IntKind.i64.wrap (x6 + 1)) (x7 ++ ([x6] : List Int))
        else none)
      else rec (IntKind.i64.wrap (x6 + 1)) x7)
    else none)
  else k x7
noncomputable def l0 (x4 : List (List Cl)) (x5 : Int) (x8 : List Int) (x9 : Int) (x10 : List (List Cl)) (x11 : Int) (k : List Int → Option Res) : Nat → Int → List Int → Option Res
  | 0, _, _ => none
  | n + 1, x6, x7 => l0s x4 x5 x8 x9 x10 x11 (fun x6 x7 => l0 x4 x5 x8 x9 x10 x11 k n x6 x7) k x6 x7
noncomputable def o0 (x4 : List (List Cl)) (x5 : Int) (x8 : List Int) (x9 : Int) (x10 : List (List Cl)) (x11 : Int) (y1 : List Int) : St := ⟨mkT 78 [(1, one (.bp 1000 0)), (2, one (.bp 1016 0)), (3, one (.ow 3056))], [(3056, ⟨[.int .i64], .ints y1, true, 0⟩)], [(1000, [.tr 2 2 [.int .i64] (.ints x8), .int .i64 x9, .tr 2 2 [.int .i64, .int .i64, .bool] (.cells x10)]), (1016, [.nil, .int .i64 x11, .nil])]⟩
noncomputable def p0 (K : Res → Option Res) : List Lf → (St → Option Res) → Option Res
  | [.q (.cells x4), .i x5, .i x6, .q (.ints x7), .q (.ints x8), .i x9, .q (.cells x10), .i x11], k => l0 x4 x5 x8 x9 x10 x11 (fun y1 => k (o0 x4 x5 x8 x9 x10 x11 y1)) fuel x6 x7
  | _, _ => none
noncomputable def s2 (x17 x18 : Int) (x19 x20 : List Int) (x21 : List (List Cl)) (x22 : List Int) (x23 : Int) (x24 : List (List Cl)) (x25 x26 : Int) : St := ⟨mkT 78 [(1, one (.bp 1000 0)), (2, one (.bp 1016 0)), (6, one (.bp 19560 0)), (36, one (.ow 3056)), (37, one (.int .i64 x17)), (38, one (.int .i64 x18))], [(3056, ⟨[.int .i64], .ints x19, true, 0⟩), (19480, ⟨[.int .i64], .ints x20, true, 0⟩), (19528, ⟨[.int .i64, .int .i64, .bool], .cells x21, true, 0⟩)], [(1000, [.tr 2 2 [.int .i64] (.ints x22), .int .i64 x23, .tr 2 2 [.int .i64, .int .i64, .bool] (.cells x24)]), (1016, [.nil, .int .i64 x25, .nil]), (19560, [.ow 19480, .int .i64 x26, .ow 19528])]⟩
noncomputable def l2s (x17 : Int) (x19 x22 : List Int) (x23 : Int) (x24 : List (List Cl)) (x25 : Int) (rec : Int → List Int → List (List Cl) → Int → Option Res) (k : List Int → List (List Cl) → Int → Option Res) (x18 : Int) (x20 : List Int) (x21 : List (List Cl)) (x26 : Int) : Option Res :=
  bif decide (x18 < x17) then (bif decide (0 ≤ x18) && decide (x18 < (x19.length : Int)) then (bif decide (0 ≤ x19.getD x18.toNat 0) && decide (x19.getD x18.toNat 0 < (x24.length : Int)) then (bif decide (0 ≤ x26) && decide (x26 ≤ (x20.length : Int)) then (bif decide (0 ≤ ((x24.getD ((x19.getD x18.toNat 0).toNat) []).getD 0 (.i 0)).toI) && decide (((x24.getD ((x19.getD x18.toNat 0).toNat) []).getD 0 (.i 0)).toI ≤ IntKind.i64.wrap ((((x24.getD ((x19.getD x18.toNat 0).toNat) []).getD 0 (.i 0)).toI) + (((x24.getD ((x19.getD x18.toNat 0).toNat) []).getD 1 (.i 0)).toI))) && decide (IntKind.i64.wrap ((((x24.getD ((x19.getD x18.toNat 0).toNat) []).getD 0 (.i 0)).toI) + (((x24.getD ((x19.getD x18.toNat 0).toNat) []).getD 1 (.i 0)).toI)) ≤ (x22.length : Int)) then (bif decide (((x22.drop ((((x24.getD ((x19.getD x18.toNat 0).toNat) []).getD 0 (.i 0)).toI).toNat)).take (((IntKind.i64.wrap ((((x24.getD ((x19.getD x18.toNat 0).toNat) []).getD 0 (.i 0)).toI) + (((x24.getD ((x19.getD x18.toNat 0).toNat) []).getD 1 (.i 0)).toI))).toNat) - ((((x24.getD ((x19.getD x18.toNat 0).toNat) []).getD 0 (.i 0)).toI).toNat))).length ≤ x20.length - x26.toNat) then (bif decide (0 ≤ x19.getD x18.toNat 0) && decide (x19.getD x18.toNat 0 < (x21.length : Int)) then rec (IntKind.i64.wrap (x18 + 1)) (overlay x20 x26.toNat ((x22.drop ((((x24.getD ((x19.getD x18.toNat 0).toNat) []).getD 0 (.i 0)).toI).toNat)).take (((IntKind.i64.wrap ((((x24.getD ((x19.getD x18.toNat 0).toNat) []).getD 0 (.i 0)).toI) + (((x24.getD ((x19.getD x18.toNat 0).toNat) []).getD 1 (.i 0)).toI))).toNat) - ((((x24.getD ((x19.getD x18.toNat 0).toNat) []).getD 0 (.i 0)).toI).toNat)))) (x21.set ((x19.getD x18.toNat 0).toNat) (splice (x21.getD ((x19.getD x18.toNat 0).toNat) []) 0 [.i x26])) (IntKind.i64.wrap (x26 + (((x24.getD ((x19.getD x18.toNat 0).toNat) []).getD 1 (.i 0)).toI)))
              else none)
            else bif decide (0 ≤ x19.getD x18.toNat 0) && decide (x19.getD x18.toNat 0 < (x21.length : Int)) then rec (IntKind.i64.wrap (x18 + 1)) (overlay x20 x26.toNat (((x22.drop ((((x24.getD ((x19.getD x18.toNat 0).toNat) []).getD 0 (.i 0)).toI).toNat)).take (((IntKind.i64.wrap ((((x24.getD ((x19.getD x18.toNat 0).toNat) []).getD 0 (.i 0)).toI) + (((x24.getD ((x19.getD x18.toNat 0).toNat) []).getD 1 (.i 0)).toI))).toNat) - ((((x24.getD ((x19.getD x18.toNat 0).toNat) []).getD 0 (.i 0)).toI).toNat))).take (x20.length - x26.toNat))) (x21.set ((x19.getD x18.toNat 0).toNat) (splice (x21.getD ((x19.getD x18.toNat 0).toNat) []) 0 [.i x26])) (IntKind.i64.wrap (x26 + (((x24.getD ((x19.getD x18.toNat 0).toNat) []).getD 1 (.i 0)).toI)))
            else none)
          else none)
        else none)
      else none)
    else none)
  else k x20 x21 x26
noncomputable def l2 (x17 : Int) (x19 x22 : List Int) (x23 : Int) (x24 : List (List Cl)) (x25 : Int) (k : List Int → List (List Cl) → Int → Option Res) : Nat → Int → List Int → List (List Cl) → Int → Option Res
  | 0, _, _, _, _ => none
  | n + 1, x18, x20, x21, x26 => l2s x17 x19 x22 x23 x24 x25 (fun x18 x20 x21 x26 => l2 x17 x19 x22 x23 x24 x25 k n x18 x20 x21 x26) k x18 x20 x21 x26
noncomputable def o2 (x17 : Int) (x19 x22 : List Int) (x23 : Int) (x24 : List (List Cl)) (x25 : Int) (y1 : List Int) (y2 : List (List Cl)) (y4 : Int) : St := ⟨mkT 78 [(2, one (.bp 1016 0)), (6, one (.bp 19560 0))], [(19480, ⟨[.int .i64], .ints y1, true, 0⟩), (19528, ⟨[.int .i64, .int .i64, .bool], .cells y2, true, 0⟩)], [(1016, [.nil, .int .i64 x25, .nil]), (19560, [.ow 19480, .int .i64 y4, .ow 19528])]⟩
noncomputable def p2 (K : Res → Option Res) : List Lf → (St → Option Res) → Option Res
  | [.i x17, .i x18, .q (.ints x19), .q (.ints x20), .q (.cells x21), .q (.ints x22), .i x23, .q (.cells x24), .i x25, .i x26], k => l2 x17 x19 x22 x23 x24 x25 (fun y1 y2 y4 => k (o2 x17 x19 x22 x23 x24 x25 y1 y2 y4)) fuel x18 x20 x21 x26
  | _, _ => none
noncomputable def os : List (FuncId × St × (List Lf → (Res → Option Res) → Option Res)) := [slices_SortFunc_int_int.con]
noncomputable def X (K : Res → Option Res) : Ctx := { Γ := Γ0, orc := orcOf os, io := [(152, [⟨true, 0, 1⟩, ⟨false, 0, 1⟩])], share := [], mvl := [], bun := [], cut := [], own := [(1, 0, 0, [.int .i64])], cin := [(0, ⟨[1, 2, 3, 11, 12, 13], [(3056, 3056), (13336, 3056)], [1000, 1016], [], [], []⟩), (2, ⟨[1, 2, 6, 36, 37, 38], [(3056, 3056), (19480, 19480), (19528, 19528)], [1000, 1016, 19560], [], [], []⟩)], cout := [(0, ⟨[1, 2, 3], [(3056, 3056)], [1000, 1016], [], [], []⟩), (2, ⟨[2, 6], [(19480, 19480), (19528, 19528)], [1016, 19560], [], [], []⟩)], lp := lpOf [(0, s0 [] 0 0 [] [] 0 [] 0, p0 K), (2, s2 0 0 [] [] [] [] 0 [] 0 0, p2 K)], kl := [], nk := true, eqs := eqs0, byt := byt0, fin := finK fi K }
noncomputable def b (a1 : List Int) (a2 : Int) (a3 : List (List Cl)) (R : List Int → Int → List (List Cl) → Option Res) : Option Res :=
  l0 a3 (a3.length : Int) a1 a2 a3 0 (fun y12 => 
  slices_SortFunc_int_int.g y12 a1 a2 a3 fun r13 r14 r15 r16 =>
  bif decide ((r14.length : Int) = (r14.length : Int)) && decide (0 ≤ (r14.length : Int)) && decide ((r14.length : Int) * 8 ≤ 140737488355328) then (bif decide (r16.length * 24 ≤ 140737488355328) then (l2 (r13.length : Int) r13 r14 r15 r16 0 (fun y27 y28 y29 => 
      R y27 y29 y28) fuel 0 (List.replicate ((r14.length : Int).toNat) 0) r16 0)
    else none)
  else none) fuel 0 ([] : List Int)
theorem gx : ∃ x : List Int → Int → List (List Cl) → (List Int → Int → List (List Cl) → Option Res) → Option Res, x = b := ⟨_, rfl⟩
noncomputable def g : List Int → Int → List (List Cl) → (List Int → Int → List (List Cl) → Option Res) → Option Res := Classical.choose gx
theorem e : g = b := Classical.choose_spec gx
noncomputable def run : List Lf → (Res → Option Res) → Option Res
  | [.q (.ints a1), .i a2, .q (.cells a3)], K => g a1 a2 a3 (fun r1 r2 r3 => K (m r1 r2 r3))
  | _, _ => none
noncomputable def a (a1 : List Int) (a2 : Int) (a3 : List (List Cl)) : St := argSt [.v ⟨true, [.tr 2 2 [.int .i64] (.ints a1), .int .i64 a2, .tr 2 2 [.int .i64, .int .i64, .bool] (.cells a3)]⟩] [] []
noncomputable def con : FuncId × St × (List Lf → (Res → Option Res) → Option Res) := (114, a [] 0 [], run)
theorem cx (K : Res → Option Res) : CtxOk Go.Proofs.Try.prog Γ0 byt0 eqs0 (X K) os := ⟨rfl, rfl, rfl, (fun p hp => by
  rcases List.mem_cons.1 hp with rfl | hp
  · exact slices_SortFunc_int_int.ok
  cases hp), rfl, rfl, rfl, rfl⟩
theorem t0 (K : Res → Option Res) (k : St → Option Res) (it : St → (St → Option Res) → Option Res) (x4 : List (List Cl)) (x5 x6 : Int) (x7 x8 : List Int) (x9 : Int) (x10 : List (List Cl)) (x11 : Int) : iterS (X K) 0 b0 it (s0 x4 x5 x6 x7 x8 x9 x10 x11) k = l0s x4 x5 x8 x9 x10 x11 (fun x6 x7 => it (s0 x4 x5 x6 x7 x8 x9 x10 x11) k) (fun y1 => k (o0 x4 x5 x8 x9 x10 x11 y1)) x6 x7 := by kernel_rfl
theorem i0 (K : Res → Option Res) (k : St → Option Res) (x4 : List (List Cl)) (x5 : Int) (x8 : List Int) (x9 : Int) (x10 : List (List Cl)) (x11 : Int) : ∀ (n : Nat) (x6 : Int) (x7 : List Int), iter (X K) 0 b0 n (s0 x4 x5 x6 x7 x8 x9 x10 x11) k = l0 x4 x5 x8 x9 x10 x11 (fun y1 => k (o0 x4 x5 x8 x9 x10 x11 y1)) n x6 x7
  | 0, _, _ => rfl
  | n + 1, x6, x7 => by
    rw [iter_succ, t0, show (fun x6 x7 => iter (X K) 0 b0 n (s0 x4 x5 x6 x7 x8 x9 x10 x11) k) = (fun x6 x7 => l0 x4 x5 x8 x9 x10 x11 (fun y1 => k (o0 x4 x5 x8 x9 x10 x11 y1)) n x6 x7) from funext fun x6 => funext fun x7 => i0 K k x4 x5 x8 x9 x10 x11 n x6 x7]; rfl
theorem v0 {K : Res → Option Res} {l : List Lf} {k : St → Option Res} {r : Res} (h : p0 K l k = some r) : ∃ x4 x5 x6 x7 x8 x9 x10 x11, l = [.q (.cells x4), .i x5, .i x6, .q (.ints x7), .q (.ints x8), .i x9, .q (.cells x10), .i x11] ∧ l0 x4 x5 x8 x9 x10 x11 (fun y1 => k (o0 x4 x5 x8 x9 x10 x11 y1)) fuel x6 x7 = some r := by
  unfold p0 at h; split at h
  · exact ⟨_, _, _, _, _, _, _, _, rfl, h⟩
  · cases h
theorem t2 (K : Res → Option Res) (k : St → Option Res) (it : St → (St → Option Res) → Option Res) (x17 x18 : Int) (x19 x20 : List Int) (x21 : List (List Cl)) (x22 : List Int) (x23 : Int) (x24 : List (List Cl)) (x25 x26 : Int) : iterS (X K) 2 b2 it (s2 x17 x18 x19 x20 x21 x22 x23 x24 x25 x26) k = l2s x17 x19 x22 x23 x24 x25 (fun x18 x20 x21 x26 => it (s2 x17 x18 x19 x20 x21 x22 x23 x24 x25 x26) k) (fun y1 y2 y4 => k (o2 x17 x19 x22 x23 x24 x25 y1 y2 y4)) x18 x20 x21 x26 := by kernel_rfl
theorem i2 (K : Res → Option Res) (k : St → Option Res) (x17 : Int) (x19 x22 : List Int) (x23 : Int) (x24 : List (List Cl)) (x25 : Int) : ∀ (n : Nat) (x18 : Int) (x20 : List Int) (x21 : List (List Cl)) (x26 : Int), iter (X K) 2 b2 n (s2 x17 x18 x19 x20 x21 x22 x23 x24 x25 x26) k = l2 x17 x19 x22 x23 x24 x25 (fun y1 y2 y4 => k (o2 x17 x19 x22 x23 x24 x25 y1 y2 y4)) n x18 x20 x21 x26
  | 0, _, _, _, _ => rfl
  | n + 1, x18, x20, x21, x26 => by
    rw [iter_succ, t2, show (fun x18 x20 x21 x26 => iter (X K) 2 b2 n (s2 x17 x18 x19 x20 x21 x22 x23 x24 x25 x26) k) = (fun x18 x20 x21 x26 => l2 x17 x19 x22 x23 x24 x25 (fun y1 y2 y4 => k (o2 x17 x19 x22 x23 x24 x25 y1 y2 y4)) n x18 x20 x21 x26) from funext fun x18 => funext fun x20 => funext fun x21 => funext fun x26 => i2 K k x17 x19 x22 x23 x24 x25 n x18 x20 x21 x26]; rfl
theorem v2 {K : Res → Option Res} {l : List Lf} {k : St → Option Res} {r : Res} (h : p2 K l k = some r) : ∃ x17 x18 x19 x20 x21 x22 x23 x24 x25 x26, l = [.i x17, .i x18, .q (.ints x19), .q (.ints x20), .q (.cells x21), .q (.ints x22), .i x23, .q (.cells x24), .i x25, .i x26] ∧ l2 x17 x19 x22 x23 x24 x25 (fun y1 y2 y4 => k (o2 x17 x19 x22 x23 x24 x25 y1 y2 y4)) fuel x18 x20 x21 x26 = some r := by
  unfold p2 at h; split at h
  · exact ⟨_, _, _, _, _, _, _, _, _, _, rfl, h⟩
  · cases h
theorem w2 (K : Res → Option Res) : LpSound Go.Proofs.Try.prog (X K) 2 b2 := lp_ok ((cx K).ok laid) (by rw [show loopsOf b2 = [] from by kernel_rfl]; intro p hp; cases hp) rfl fun p hp hid => by
  rcases List.mem_cons.1 hp with rfl | hp
  · exact absurd hid (by simp)
  rcases List.mem_cons.1 hp with rfl | hp
  · intro st k r h1 h2; obtain ⟨x17, x18, x19, x20, x21, x22, x23, x24, x25, x26, e, h⟩ := v2 (K := K) h2; have := St.like_eq (y := s2 x17 x18 x19 x20 x21 x22 x23 x24 x25 x26) h1 (by kernel_rfl) e; subst this; exact ⟨fuel, (i2 K k x17 x19 x22 x23 x24 x25 fuel x18 x20 x21 x26).trans h⟩
  cases hp
theorem w0 (K : Res → Option Res) : LpSound Go.Proofs.Try.prog (X K) 0 b0 := lp_ok ((cx K).ok laid) (by rw [show loopsOf b0 = [] from by kernel_rfl]; intro p hp; cases hp) rfl fun p hp hid => by
  rcases List.mem_cons.1 hp with rfl | hp
  · intro st k r h1 h2; obtain ⟨x4, x5, x6, x7, x8, x9, x10, x11, e, h⟩ := v0 (K := K) h2; have := St.like_eq (y := s0 x4 x5 x6 x7 x8 x9 x10 x11) h1 (by kernel_rfl) e; subst this; exact ⟨fuel, (i0 K k x4 x5 x8 x9 x10 x11 fuel x6 x7).trans h⟩
  rcases List.mem_cons.1 hp with rfl | hp
  · exact absurd hid (by simp)
  cases hp
theorem tie (K : Res → Option Res) (a1 : List Int) (a2 : Int) (a3 : List (List Cl)) : exec (X K) c (entry 78 [.v ⟨true, [.tr 2 2 [.int .i64] (.ints a1), .int .i64 a2, .tr 2 2 [.int .i64, .int .i64, .bool] (.cells a3)]⟩] [] []) (endK (X K)) = g a1 a2 a3 (fun r1 r2 r3 => K (m r1 r2 r3)) := Eq.trans (b := b a1 a2 a3 (fun r1 r2 r3 => K (m r1 r2 r3))) (by kernel_rfl) (by rw [e])
theorem runv {l : List Lf} {K : Res → Option Res} {r : Res} (h : run l K = some r) : ∃ a1 a2 a3, l = [.q (.ints a1), .i a2, .q (.cells a3)] ∧ g a1 a2 a3 (fun r1 r2 r3 => K (m r1 r2 r3)) = some r := by
  unfold run at h; split at h
  · exact ⟨_, _, _, rfl, h⟩
  · cases h
theorem ok : Con Go.Proofs.Try.prog con := con_of (fn := Go.Proofs.Try.f114) (c := c) (Fi := fi) (X := X) (fun_of laid (by kernel_rfl) (by kernel_rfl) (by kernel_rfl) rfl (by kernel_rfl) (by kernel_rfl) cx (fun _ => rfl) (fun _ => rfl) (fun K => by
    rw [show loopsOf c = [(0, b0), (2, b2)] from by kernel_rfl]; intro p hp
    rcases List.mem_cons.1 hp with rfl | hp
    · exact w0 K
    rcases List.mem_cons.1 hp with rfl | hp
    · exact w2 K
    cases hp)) fun xs rows boxes K r hl hr => by
  obtain ⟨a1, a2, a3, e, h⟩ := runv hr
  have := St.like_eq (y := a a1 a2 a3) hl (by kernel_rfl) e
  obtain ⟨rfl, rfl, rfl⟩ := argSt_inj this
  exact (tie K a1 a2 a3).trans h
end impl_packed
namespace impl_HeapPut_1
noncomputable def c : Code := bodyOf Go.Proofs.Try.f116
noncomputable def fi : Fin := ⟨Γ0, [(.tmp 2, 4)], [[1]], [], [], []⟩
noncomputable def m (r1 : Bool) : Res := ⟨[⟨false, [.bool r1]⟩], [], [], [], []⟩
noncomputable def os : List (FuncId × St × (List Lf → (Res → Option Res) → Option Res)) := []
noncomputable def X (K : Res → Option Res) : Ctx := { Γ := Γ0, orc := orcOf os, io := [], share := [], mvl := [], bun := [], cut := [], own := [], cin := [], cout := [], lp := lpOf [], kl := [], nk := true, eqs := eqs0, byt := byt0, fin := finK fi K }
noncomputable def b (a1 a2 : Int) (a3 : Bool) (R : Bool → Option Res) : Option Res :=
  R (!a3)
theorem gx : ∃ x : Int → Int → Bool → (Bool → Option Res) → Option Res, x = b := ⟨_, rfl⟩
noncomputable def g : Int → Int → Bool → (Bool → Option Res) → Option Res := Classical.choose gx
theorem e : g = b := Classical.choose_spec gx
noncomputable def run : List Lf → (Res → Option Res) → Option Res
  | [.i a1, .i a2, .b a3], K => g a1 a2 a3 (fun r1 => K (m r1))
  | _, _ => none
noncomputable def a (a1 a2 : Int) (a3 : Bool) : St := argSt [.v ⟨true, [.int .i64 a1, .int .i64 a2, .bool a3]⟩] [] []
noncomputable def con : FuncId × St × (List Lf → (Res → Option Res) → Option Res) := (116, a 0 0 false, run)
theorem cx (K : Res → Option Res) : CtxOk Go.Proofs.Try.prog Γ0 byt0 eqs0 (X K) os := ⟨rfl, rfl, rfl, (fun p hp => by
  cases hp), rfl, rfl, rfl, rfl⟩
theorem tie (K : Res → Option Res) (a1 a2 : Int) (a3 : Bool) : exec (X K) c (entry 6 [.v ⟨true, [.int .i64 a1, .int .i64 a2, .bool a3]⟩] [] []) (endK (X K)) = g a1 a2 a3 (fun r1 => K (m r1)) := Eq.trans (b := b a1 a2 a3 (fun r1 => K (m r1))) (by kernel_rfl) (by rw [e])
theorem runv {l : List Lf} {K : Res → Option Res} {r : Res} (h : run l K = some r) : ∃ a1 a2 a3, l = [.i a1, .i a2, .b a3] ∧ g a1 a2 a3 (fun r1 => K (m r1)) = some r := by
  unfold run at h; split at h
  · exact ⟨_, _, _, rfl, h⟩
  · cases h
theorem ok : Con Go.Proofs.Try.prog con := con_of (fn := Go.Proofs.Try.f116) (c := c) (Fi := fi) (X := X) (fun_of laid (by kernel_rfl) (by kernel_rfl) (by kernel_rfl) rfl (by kernel_rfl) (by kernel_rfl) cx (fun _ => rfl) (fun _ => rfl) (fun K => by
    rw [show loopsOf c = [] from by kernel_rfl]; intro p hp
    cases hp)) fun xs rows boxes K r hl hr => by
  obtain ⟨a1, a2, a3, e, h⟩ := runv hr
  have := St.like_eq (y := a a1 a2 a3) hl (by kernel_rfl) e
  obtain ⟨rfl, rfl, rfl⟩ := argSt_inj this
  exact (tie K a1 a2 a3).trans h
end impl_HeapPut_1
namespace impl_Cell
noncomputable def c : Code := bodyOf Go.Proofs.Try.f115
noncomputable def fi : Fin := ⟨Γ0, [(.tmp 4, 3)], [[1]], [], [], []⟩
noncomputable def m (r1 : Int) : Res := ⟨[⟨false, [.int .i64 r1]⟩], [], [], [], []⟩
noncomputable def b0 : Code := codeAt c [1, 0, 1, 0, 0]
noncomputable def s0 (x2 : List (List Cl)) (x3 x4 : Int) : St := ⟨mkT 19 [(0, one (.tr 0 1 [.int .i64, .int .i64, .bool] (.cells x2))), (1, one (.fn 116 [])), (7, one (.int .i64 x3)), (8, one (.int .i64 x4))], [], []⟩
noncomputable def l0s (x2 : List (List Cl)) (x3 : Int) (rec : Int → Option Res) (k : Option Res) (R : Int → Option Res) (x4 : Int) : Option Res :=
  bif decide (x4 < x3) then (bif decide (0 ≤ x4) && decide (x4 < (x2.length : Int)) then (impl_HeapPut_1.g (((x2.getD x4.toNat []).getD 0 (.i 0)).toI) (((x2.getD x4.toNat []).getD 1 (.i 0)).toI) (((x2.getD x4.toNat []).getD 2 (.i 0)).toB) fun r5 =>
      bif r5 then R x4
      else rec (IntKind.i64.wrap (x4 + 1)))
    else none)
  else k
noncomputable def l0 (x2 : List (List Cl)) (x3 : Int) (k : Option Res) (R : Int → Option Res) : Nat → Int → Option Res
  | 0, _ => none
  | n + 1, x4 => l0s x2 x3 (fun x4 => l0 x2 x3 k R n x4) k R x4
noncomputable def o0 (x2 : List (List Cl)) (x3 : Int) : St := ⟨mkT 19 [], [], []⟩
noncomputable def p0 (K : Res → Option Res) : List Lf → (St → Option Res) → Option Res
  | [.q (.cells x2), .i x3, .i x4], k => l0 x2 x3 (k (o0 x2 x3)) (fun r1 => K (m r1)) fuel x4
  | _, _ => none
noncomputable def os : List (FuncId × St × (List Lf → (Res → Option Res) → Option Res)) := [impl_HeapPut_1.con]
noncomputable def X (K : Res → Option Res) : Ctx := { Γ := Γ0, orc := orcOf os, io := [], share := [], mvl := [], bun := [], cut := [], own := [], cin := [(0, ⟨[0, 1, 7, 8], [], [], [], [], []⟩)], cout := [(0, ⟨[], [], [], [], [], []⟩)], lp := lpOf [(0, s0 [] 0 0, p0 K)], kl := [], nk := true, eqs := eqs0, byt := byt0, fin := finK fi K }
noncomputable def b (a1 : List (List Cl)) (R : Int → Option Res) : Option Res :=
  l0 a1 (a1.length : Int) (
  R (-1)) R fuel 0
theorem gx : ∃ x : List (List Cl) → (Int → Option Res) → Option Res, x = b := ⟨_, rfl⟩
noncomputable def g : List (List Cl) → (Int → Option Res) → Option Res := Classical.choose gx
theorem e : g = b := Classical.choose_spec gx
noncomputable def run : List Lf → (Res → Option Res) → Option Res
  | [.q (.cells a1)], K => g a1 (fun r1 => K (m r1))
  | _, _ => none
noncomputable def a (a1 : List (List Cl)) : St := argSt [one (.tr 0 1 [.int .i64, .int .i64, .bool] (.cells a1)), one (.fn 116 [])] [] []
noncomputable def con : FuncId × St × (List Lf → (Res → Option Res) → Option Res) := (115, a [], run)
theorem cx (K : Res → Option Res) : CtxOk Go.Proofs.Try.prog Γ0 byt0 eqs0 (X K) os := ⟨rfl, rfl, rfl, (fun p hp => by
  rcases List.mem_cons.1 hp with rfl | hp
  · exact impl_HeapPut_1.ok
  cases hp), rfl, rfl, rfl, rfl⟩
theorem t0 (K : Res → Option Res) (k : St → Option Res) (it : St → (St → Option Res) → Option Res) (x2 : List (List Cl)) (x3 x4 : Int) : iterS (X K) 0 b0 it (s0 x2 x3 x4) k = l0s x2 x3 (fun x4 => it (s0 x2 x3 x4) k) (k (o0 x2 x3)) (fun r1 => K (m r1)) x4 := by kernel_rfl
theorem i0 (K : Res → Option Res) (k : St → Option Res) (x2 : List (List Cl)) (x3 : Int) : ∀ (n : Nat) (x4 : Int), iter (X K) 0 b0 n (s0 x2 x3 x4) k = l0 x2 x3 (k (o0 x2 x3)) (fun r1 => K (m r1)) n x4
  | 0, _ => rfl
  | n + 1, x4 => by
    rw [iter_succ, t0, show (fun x4 => iter (X K) 0 b0 n (s0 x2 x3 x4) k) = (fun x4 => l0 x2 x3 (k (o0 x2 x3)) (fun r1 => K (m r1)) n x4) from funext fun x4 => i0 K k x2 x3 n x4]; rfl
theorem v0 {K : Res → Option Res} {l : List Lf} {k : St → Option Res} {r : Res} (h : p0 K l k = some r) : ∃ x2 x3 x4, l = [.q (.cells x2), .i x3, .i x4] ∧ l0 x2 x3 (k (o0 x2 x3)) (fun r1 => K (m r1)) fuel x4 = some r := by
  unfold p0 at h; split at h
  · exact ⟨_, _, _, rfl, h⟩
  · cases h
theorem w0 (K : Res → Option Res) : LpSound Go.Proofs.Try.prog (X K) 0 b0 := lp_ok ((cx K).ok laid) (by rw [show loopsOf b0 = [] from by kernel_rfl]; intro p hp; cases hp) rfl fun p hp hid => by
  rcases List.mem_cons.1 hp with rfl | hp
  · intro st k r h1 h2; obtain ⟨x2, x3, x4, e, h⟩ := v0 (K := K) h2; have := St.like_eq (y := s0 x2 x3 x4) h1 (by kernel_rfl) e; subst this; exact ⟨fuel, (i0 K k x2 x3 fuel x4).trans h⟩
  cases hp
theorem tie (K : Res → Option Res) (a1 : List (List Cl)) : exec (X K) c (entry 19 [one (.tr 0 1 [.int .i64, .int .i64, .bool] (.cells a1)), one (.fn 116 [])] [] []) (endK (X K)) = g a1 (fun r1 => K (m r1)) := Eq.trans (b := b a1 (fun r1 => K (m r1))) (by kernel_rfl) (by rw [e])
theorem runv {l : List Lf} {K : Res → Option Res} {r : Res} (h : run l K = some r) : ∃ a1, l = [.q (.cells a1)] ∧ g a1 (fun r1 => K (m r1)) = some r := by
  unfold run at h; split at h
  · exact ⟨_, rfl, h⟩
  · cases h
theorem ok : Con Go.Proofs.Try.prog con := con_of (fn := Go.Proofs.Try.f115) (c := c) (Fi := fi) (X := X) (fun_of laid (by kernel_rfl) (by kernel_rfl) (by kernel_rfl) rfl (by kernel_rfl) (by kernel_rfl) cx (fun _ => rfl) (fun _ => rfl) (fun K => by
    rw [show loopsOf c = [(0, b0)] from by kernel_rfl]; intro p hp
    rcases List.mem_cons.1 hp with rfl | hp
    · exact w0 K
    cases hp)) fun xs rows boxes K r hl hr => by
  obtain ⟨a1, e, h⟩ := runv hr
  have := St.like_eq (y := a a1) hl (by kernel_rfl) e
  obtain ⟨rfl, rfl, rfl⟩ := argSt_inj this
  exact (tie K a1).trans h
end impl_Cell
namespace impl_HeapPut
noncomputable def c : Code := bodyOf Go.Proofs.Try.f53
noncomputable def fi : Fin := ⟨Γ0, [(.cell 4 40, 40), (.tmp 5, 3), (.tmp 6, 4)], [[1, 1, 1], [1], [1]], [], [], []⟩
noncomputable def m (r1 : List Int) (r2 : Int) (r3 : List (List Cl)) (r4 : Int) (r5 : Bool) : Res := ⟨[⟨true, [.ow 1000, .int .i64 r2, .ow 1001]⟩, ⟨false, [.int .i64 r4]⟩, ⟨false, [.bool r5]⟩], [], [⟨[.int .i64], .ints r1, true, 0⟩, ⟨[.int .i64, .int .i64, .bool], .cells r3, true, 0⟩], [], []⟩
noncomputable def os : List (FuncId × St × (List Lf → (Res → Option Res) → Option Res)) := [impl_HeapOk.con, impl_ArrayOk.con, impl_copyHeap.con, impl_wordsOf.con, impl_packed.con, impl_Cell.con]
noncomputable def X (K : Res → Option Res) : Ctx := { Γ := Γ0, orc := orcOf os, io := [(114, [⟨false, 2, 2⟩])], share := [], mvl := [], bun := [], cut := [], own := [], cin := [], cout := [], lp := lpOf [], kl := [], nk := true, eqs := eqs0, byt := byt0, fin := finK fi K }
noncomputable def b (a1 : List Int) (a2 : Int) (a3 : List (List Cl)) (a4 a5 : List Int) (R : List Int → Int → List (List Cl) → Int → Bool → Option Res) : Option Res :=
  impl_HeapOk.g a1 a2 a3 fun r6 =>
  bif !r6 then R ([] : List Int) 0 ([] : List (List Cl)) (-1) false
  else (impl_ArrayOk.g a4 a5 fun r7 =>
  bif !r7 then (impl_copyHeap.g a1 a2 a3 (
    R a1 a2 a3 (-1) false))
  else (impl_wordsOf.g a4 a5 fun r8 =>
  impl_copyHeap.g a1 a2 a3 (
  bif decide (IntKind.i64.wrap ((a1.length : Int) - a2) < (r8.length : Int)) then (impl_packed.g a1 a2 a3 fun r9 r10 r11 =>
    impl_Cell.g r11 fun r12 =>
    bif decide (r12 < 0) then (bif decide ((r11.length + 1) * 24 ≤ 140737488355328) then (bif decide (IntKind.i64.wrap ((r9.length : Int) - r10) < (r8.length : Int)) then (impl_copyHeap.g a1 a2 a3 (
          R a1 a2 a3 (-1) false))
        else bif decide (200 ≤ (r11.length : Int)) then (impl_copyHeap.g a1 a2 a3 (
          R a1 a2 a3 (-1) false))
        else bif decide (0 ≤ r10) && decide (r10 ≤ (r9.length : Int)) then (bif decide (r8.length ≤ r9.length - r10.toNat) then (bif decide (0 ≤ (r11.length : Int)) && decide ((r11.length : Int) < ((r11 ++ ([[.i 0, .i 0, .b false]] : List (List Cl))).length : Int)) then R (overlay r9 r10.toNat r8) (IntKind.i64.wrap (r10 + (r8.length : Int))) ((r11 ++ ([[.i 0, .i 0, .b false]] : List (List Cl))).set ((r11.length : Int).toNat) [.i r10, .i (r8.length : Int), .b true]) (r11.length : Int) true
            else none)
          else bif decide (0 ≤ (r11.length : Int)) && decide ((r11.length : Int) < ((r11 ++ ([[.i 0, .i 0, .b false]] : List (List Cl))).length : Int)) then R (overlay r9 r10.toNat (r8.take (r9.length - r10.toNat))) (IntKind.i64.wrap (r10 + (r8.length : Int))) ((r11 ++ ([[.i 0, .i 0, .b false]] : List (List Cl))).set ((r11.length : Int).toNat) [.i r10, .i (r8.length : Int), .b true]) (r11.length : Int) true
          else none)
        else none)
      else none)
    else bif decide (IntKind.i64.wrap ((r9.length : Int) - r10) < (r8.length : Int)) then (impl_copyHeap.g a1 a2 a3 (
      R a1 a2 a3 (-1) false))
    else bif decide (200 ≤ r12) then (impl_copyHeap.g a1 a2 a3 (
      R a1 a2 a3 (-1) false))
    else bif decide (0 ≤ r10) && decide (r10 ≤ (r9.length : Int)) then (bif decide (r8.length ≤ r9.length - r10.toNat) then (bif decide (0 ≤ r12) && decide (r12 < (r11.length : Int)) then R (overlay r9 r10.toNat r8) (IntKind.i64.wrap (r10 + (r8.length : Int))) (r11.set r12.toNat [.i r10, .i (r8.length : Int), .b true]) r12 true
        else none)
      else bif decide (0 ≤ r12) && decide (r12 < (r11.length : Int)) then R (overlay r9 r10.toNat (r8.take (r9.length - r10.toNat))) (IntKind.i64.wrap (r10 + (r8.length : Int))) (r11.set r12.toNat [.i r10, .i (r8.length : Int), .b true]) r12 true
      else none)
    else none)
  else (impl_Cell.g a3 fun r13 =>
  bif decide (r13 < 0) then (bif decide ((a3.length + 1) * 24 ≤ 140737488355328) then (bif decide (IntKind.i64.wrap ((a1.length : Int) - a2) < (r8.length : Int)) then (impl_copyHeap.g a1 a2 a3 (
        R a1 a2 a3 (-1) false))
      else bif decide (200 ≤ (a3.length : Int)) then (impl_copyHeap.g a1 a2 a3 (
        R a1 a2 a3 (-1) false))
      else bif decide (0 ≤ a2) && decide (a2 ≤ (a1.length : Int)) then (bif decide (r8.length ≤ a1.length - a2.toNat) then (bif decide (0 ≤ (a3.length : Int)) && decide ((a3.length : Int) < ((a3 ++ ([[.i 0, .i 0, .b false]] : List (List Cl))).length : Int)) then R (overlay a1 a2.toNat r8) (IntKind.i64.wrap (a2 + (r8.length : Int))) ((a3 ++ ([[.i 0, .i 0, .b false]] : List (List Cl))).set ((a3.length : Int).toNat) [.i a2, .i (r8.length : Int), .b true]) (a3.length : Int) true
          else none)
        else bif decide (0 ≤ (a3.length : Int)) && decide ((a3.length : Int) < ((a3 ++ ([[.i 0, .i 0, .b false]] : List (List Cl))).length : Int)) then R (overlay a1 a2.toNat (r8.take (a1.length - a2.toNat))) (IntKind.i64.wrap (a2 + (r8.length : Int))) ((a3 ++ ([[.i 0, .i 0, .b false]] : List (List Cl))).set ((a3.length : Int).toNat) [.i a2, .i (r8.length : Int), .b true]) (a3.length : Int) true
        else none)
      else none)
    else none)
  else bif decide (IntKind.i64.wrap ((a1.length : Int) - a2) < (r8.length : Int)) then (impl_copyHeap.g a1 a2 a3 (
    R a1 a2 a3 (-1) false))
  else bif decide (200 ≤ r13) then (impl_copyHeap.g a1 a2 a3 (
    R a1 a2 a3 (-1) false))
  else bif decide (0 ≤ a2) && decide (a2 ≤ (a1.length : Int)) then (bif decide (r8.length ≤ a1.length - a2.toNat) then (bif decide (0 ≤ r13) && decide (r13 < (a3.length : Int)) then R (overlay a1 a2.toNat r8) (IntKind.i64.wrap (a2 + (r8.length : Int))) (a3.set r13.toNat [.i a2, .i (r8.length : Int), .b true]) r13 true
      else none)
    else bif decide (0 ≤ r13) && decide (r13 < (a3.length : Int)) then R (overlay a1 a2.toNat (r8.take (a1.length - a2.toNat))) (IntKind.i64.wrap (a2 + (r8.length : Int))) (a3.set r13.toNat [.i a2, .i (r8.length : Int), .b true]) r13 true
    else none)
  else none))))
theorem gx : ∃ x : List Int → Int → List (List Cl) → List Int → List Int → (List Int → Int → List (List Cl) → Int → Bool → Option Res) → Option Res, x = b := ⟨_, rfl⟩
noncomputable def g : List Int → Int → List (List Cl) → List Int → List Int → (List Int → Int → List (List Cl) → Int → Bool → Option Res) → Option Res := Classical.choose gx
theorem e : g = b := Classical.choose_spec gx
noncomputable def run : List Lf → (Res → Option Res) → Option Res
  | [.q (.ints a1), .i a2, .q (.cells a3), .q (.ints a4), .q (.ints a5)], K => g a1 a2 a3 a4 a5 (fun r1 r2 r3 r4 r5 => K (m r1 r2 r3 r4 r5))
  | _, _ => none
noncomputable def a (a1 : List Int) (a2 : Int) (a3 : List (List Cl)) (a4 a5 : List Int) : St := argSt [.v ⟨true, [.tr 2 2 [.int .i64] (.ints a1), .int .i64 a2, .tr 2 2 [.int .i64, .int .i64, .bool] (.cells a3)]⟩, .v ⟨true, [.tr 0 1 [.int .i64] (.ints a4), .tr 0 1 [.int .i64] (.ints a5)]⟩] [] []
noncomputable def con : FuncId × St × (List Lf → (Res → Option Res) → Option Res) := (53, a [] 0 [] [] [], run)
theorem cx (K : Res → Option Res) : CtxOk Go.Proofs.Try.prog Γ0 byt0 eqs0 (X K) os := ⟨rfl, rfl, rfl, (fun p hp => by
  rcases List.mem_cons.1 hp with rfl | hp
  · exact impl_HeapOk.ok
  rcases List.mem_cons.1 hp with rfl | hp
  · exact impl_ArrayOk.ok
  rcases List.mem_cons.1 hp with rfl | hp
  · exact impl_copyHeap.ok
  rcases List.mem_cons.1 hp with rfl | hp
  · exact impl_wordsOf.ok
  rcases List.mem_cons.1 hp with rfl | hp
  · exact impl_packed.ok
  rcases List.mem_cons.1 hp with rfl | hp
  · exact impl_Cell.ok
  cases hp), rfl, rfl, rfl, rfl⟩
theorem tie (K : Res → Option Res) (a1 : List Int) (a2 : Int) (a3 : List (List Cl)) (a4 a5 : List Int) : exec (X K) c (entry 87 [.v ⟨true, [.tr 2 2 [.int .i64] (.ints a1), .int .i64 a2, .tr 2 2 [.int .i64, .int .i64, .bool] (.cells a3)]⟩, .v ⟨true, [.tr 0 1 [.int .i64] (.ints a4), .tr 0 1 [.int .i64] (.ints a5)]⟩] [] []) (endK (X K)) = g a1 a2 a3 a4 a5 (fun r1 r2 r3 r4 r5 => K (m r1 r2 r3 r4 r5)) := Eq.trans (b := b a1 a2 a3 a4 a5 (fun r1 r2 r3 r4 r5 => K (m r1 r2 r3 r4 r5))) (by kernel_rfl) (by rw [e])
theorem runv {l : List Lf} {K : Res → Option Res} {r : Res} (h : run l K = some r) : ∃ a1 a2 a3 a4 a5, l = [.q (.ints a1), .i a2, .q (.cells a3), .q (.ints a4), .q (.ints a5)] ∧ g a1 a2 a3 a4 a5 (fun r1 r2 r3 r4 r5 => K (m r1 r2 r3 r4 r5)) = some r := by
  unfold run at h; split at h
  · exact ⟨_, _, _, _, _, rfl, h⟩
  · cases h
theorem ok : Con Go.Proofs.Try.prog con := con_of (fn := Go.Proofs.Try.f53) (c := c) (Fi := fi) (X := X) (fun_of laid (by kernel_rfl) (by kernel_rfl) (by kernel_rfl) rfl (by kernel_rfl) (by kernel_rfl) cx (fun _ => rfl) (fun _ => rfl) (fun K => by
    rw [show loopsOf c = [] from by kernel_rfl]; intro p hp
    cases hp)) fun xs rows boxes K r hl hr => by
  obtain ⟨a1, a2, a3, a4, a5, e, h⟩ := runv hr
  have := St.like_eq (y := a a1 a2 a3 a4 a5) hl (by kernel_rfl) e
  obtain ⟨rfl, rfl, rfl⟩ := argSt_inj this
  exact (tie K a1 a2 a3 a4 a5).trans h
end impl_HeapPut
namespace laws_FnNewHeap
noncomputable def c : Code := bodyOf Go.Proofs.Try.f9
noncomputable def fi : Fin := ⟨Γ0, [(.tmp 2, 4)], [[1]], [], [], []⟩
noncomputable def m (r1 : Bool) : Res := ⟨[⟨false, [.bool r1]⟩], [], [], [], []⟩
noncomputable def os : List (FuncId × St × (List Lf → (Res → Option Res) → Option Res)) := [laws_big.con, spec_DrawHeapNew.con, impl_HeapNew.con, spec_HeapNew.con, impl_ScalarOf.con, impl_HeapPut.con, impl_HeapUsed.con, impl_HeapOk.con]
noncomputable def X (K : Res → Option Res) : Ctx := { Γ := Γ0, orc := orcOf os, io := [(49, [⟨false, 2, 1⟩]), (53, [⟨false, 2, 2⟩, ⟨false, 0, 1⟩])], share := [], mvl := [], bun := [], cut := [], own := [], cin := [], cout := [], lp := lpOf [], kl := [], nk := true, eqs := eqs0, byt := byt0, fin := finK fi K }
noncomputable def b (a1 : List Int) (R : Bool → Option Res) : Option Res :=
  laws_big.g a1 fun r2 =>
  bif r2 then R true
  else (spec_DrawHeapNew.g a1 fun r3 =>
  impl_HeapNew.g r3 fun r4 r5 r6 r7 =>
  spec_HeapNew.g r3 fun r8 r9 r10 r11 =>
  bif (r7 != r11) then R false
  else bif !r7 then R ((r4.length : Int) == 0)
  else (impl_ScalarOf.g 7 fun r12 r13 r14 =>
  impl_HeapPut.g r4 r5 r6 r12 r13 fun r15 r16 r17 r18 r19 =>
  bif ((r4.length : Int) == r3) then (impl_HeapUsed.g r4 r5 r6 fun r20 =>
    bif (r20 == 0) then (impl_HeapOk.g r4 r5 r6 fun r21 =>
      bif r21 then (bif (r19 == (decide (2 ≤ r3))) then (bif !r19 then R true
          else R (r18 == 0))
        else R false)
      else R false)
    else R false)
  else R false))
theorem gx : ∃ x : List Int → (Bool → Option Res) → Option Res, x = b := ⟨_, rfl⟩
noncomputable def g : List Int → (Bool → Option Res) → Option Res := Classical.choose gx
theorem e : g = b := Classical.choose_spec gx
noncomputable def run : List Lf → (Res → Option Res) → Option Res
  | [.q (.ints a1)], K => g a1 (fun r1 => K (m r1))
  | _, _ => none
noncomputable def a (a1 : List Int) : St := argSt [one (.tr 2 1 [.int .u8] (.ints a1))] [] []
noncomputable def con : FuncId × St × (List Lf → (Res → Option Res) → Option Res) := (9, a [], run)
theorem cx (K : Res → Option Res) : CtxOk Go.Proofs.Try.prog Γ0 byt0 eqs0 (X K) os := ⟨rfl, rfl, rfl, (fun p hp => by
  rcases List.mem_cons.1 hp with rfl | hp
  · exact laws_big.ok
  rcases List.mem_cons.1 hp with rfl | hp
  · exact spec_DrawHeapNew.ok
  rcases List.mem_cons.1 hp with rfl | hp
  · exact impl_HeapNew.ok
  rcases List.mem_cons.1 hp with rfl | hp
  · exact spec_HeapNew.ok
  rcases List.mem_cons.1 hp with rfl | hp
  · exact impl_ScalarOf.ok
  rcases List.mem_cons.1 hp with rfl | hp
  · exact impl_HeapPut.ok
  rcases List.mem_cons.1 hp with rfl | hp
  · exact impl_HeapUsed.ok
  rcases List.mem_cons.1 hp with rfl | hp
  · exact impl_HeapOk.ok
  cases hp), rfl, rfl, rfl, rfl⟩
theorem tie (K : Res → Option Res) (a1 : List Int) : exec (X K) c (entry 75 [one (.tr 2 1 [.int .u8] (.ints a1))] [] []) (endK (X K)) = g a1 (fun r1 => K (m r1)) := Eq.trans (b := b a1 (fun r1 => K (m r1))) (by kernel_rfl) (by rw [e])
theorem runv {l : List Lf} {K : Res → Option Res} {r : Res} (h : run l K = some r) : ∃ a1, l = [.q (.ints a1)] ∧ g a1 (fun r1 => K (m r1)) = some r := by
  unfold run at h; split at h
  · exact ⟨_, rfl, h⟩
  · cases h
theorem ok : Con Go.Proofs.Try.prog con := con_of (fn := Go.Proofs.Try.f9) (c := c) (Fi := fi) (X := X) (fun_of laid (by kernel_rfl) (by kernel_rfl) (by kernel_rfl) rfl (by kernel_rfl) (by kernel_rfl) cx (fun _ => rfl) (fun _ => rfl) (fun K => by
    rw [show loopsOf c = [] from by kernel_rfl]; intro p hp
    cases hp)) fun xs rows boxes K r hl hr => by
  obtain ⟨a1, e, h⟩ := runv hr
  have := St.like_eq (y := a a1) hl (by kernel_rfl) e
  obtain ⟨rfl, rfl, rfl⟩ := argSt_inj this
  exact (tie K a1).trans h
end laws_FnNewHeap
end Go.Tv.F
