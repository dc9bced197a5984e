/- The law's functions, printed by a program of ours, each with its contract. They hold without condition. -/
import Derived.Test.YtpinlhfddhlcpaaHeapFA
set_option linter.unusedVariables false
set_option linter.unusedSectionVars false
set_option linter.unusedSimpArgs false
set_option linter.unnecessarySimpa false
set_option maxRecDepth 100000
set_option autoImplicit false
namespace Go.Tv.F
open Go Go.Tv
namespace slices_siftDownCmpFunc_int
noncomputable def c : Code := bodyOf Go.Proofs.Try.f141
noncomputable def fi : Fin := ⟨Γ0, [], [], [true], [([.sl [.int .i64] 8, .int .i64, .sl [.int .i64, .int .i64, .bool] 24], [0, 1, 0])], []⟩
noncomputable def m (r1 r2 : List Int) (r3 : Int) (r4 : List (List Cl)) : Res := ⟨[], [some ⟨[.int .i64], .ints r1, true, 0⟩], [], [[.tr 2 2 [.int .i64] (.ints r2), .int .i64 r3, .tr 2 2 [.int .i64, .int .i64, .bool] (.cells r4)]], []⟩
noncomputable def b0 : Code := codeAt c [1, 0, 0]
noncomputable def s0 (x8 x9 x10 : Int) (x11 x12 : List Int) (x13 : Int) (x14 : List (List Cl)) : St := ⟨mkT 82 [(0, one (.ow 0)), (2, one (.int .i64 x8)), (3, one (.int .i64 x9)), (4, one (.fn 95 [0])), (10, one (.int .i64 x10))], [(0, ⟨[.int .i64], .ints x11, true, 0⟩)], [(0, [.tr 2 2 [.int .i64] (.ints x12), .int .i64 x13, .tr 2 2 [.int .i64, .int .i64, .bool] (.cells x14)])]⟩
noncomputable def l0s (x8 x9 : Int) (x12 : List Int) (x13 : Int) (x14 : List (List Cl)) (rec : Int → List Int → Option Res) (k : List Int → Option Res) (R : List Int → List Int → Int → List (List Cl) → Option Res) (x10 : Int) (x11 : List Int) : Option Res :=
 bif decide (x8 ≤ IntKind.i64.wrap ((IntKind.i64.wrap (2 * x10)) + 1)) then k x11
 else bif decide (IntKind.i64.wrap ((IntKind.i64.wrap ((IntKind.i64.wrap (2 * x10)) + 1)) + 1) < x8) then (bif decide (0 ≤ IntKind.i64.wrap (x9 + (IntKind.i64.wrap ((IntKind.i64.wrap (2 * x10)) + 1)))) && decide (IntKind.i64.wrap (x9 + (IntKind.i64.wrap ((IntKind.i64.wrap (2 * x10)) + 1))) < (x11.length : Int)) then (bif decide (0 ≤ IntKind.i64.wrap ((IntKind.i64.wrap (x9 + (IntKind.i64.wrap ((IntKind.i64.wrap (2 * x10)) + 1)))) + 1)) && decide (IntKind.i64.wrap ((IntKind.i64.wrap (x9 + (IntKind.i64.wrap ((IntKind.i64.wrap (2 * x10)) + 1)))) + 1) < (x11.length : Int)) then (impl_packed_1.g (x11.getD ((IntKind.i64.wrap (x9 + (IntKind.i64.wrap ((IntKind.i64.wrap (2 * x10)) + 1)))).toNat) 0) (x11.getD ((IntKind.i64.wrap ((IntKind.i64.wrap (x9 + (IntKind.i64.wrap ((IntKind.i64.wrap (2 * x10)) + 1)))) + 1)).toNat) 0) x12 x13 x14 fun r15 =>
  bif decide (r15 < 0) then (bif decide (0 ≤ IntKind.i64.wrap (x9 + x10)) && decide (IntKind.i64.wrap (x9 + x10) < (x11.length : Int)) then (bif decide (0 ≤ IntKind.i64.wrap (x9 + (IntKind.i64.wrap ((IntKind.i64.wrap ((IntKind.i64.wrap (2 * x10)) + 1)) + 1)))) && decide (IntKind.i64.wrap (x9 + (IntKind.i64.wrap ((IntKind.i64.wrap ((IntKind.i64.wrap (2 * x10)) + 1)) + 1))) < (x11.length : Int)) then (impl_packed_1.g (x11.getD ((IntKind.i64.wrap (x9 + x10)).toNat) 0) (x11.getD ((IntKind.i64.wrap (x9 + (IntKind.i64.wrap ((IntKind.i64.wrap ((IntKind.i64.wrap (2 * x10)) + 1)) + 1)))).toNat) 0) x12 x13 x14 fun r16 =>
   bif !(decide (r16 < 0)) then R x11 x12 x13 x14
   else bif decide (0 ≤ IntKind.i64.wrap (x9 + (IntKind.i64.wrap ((IntKind.i64.wrap ((IntKind.i64.wrap (2 * x10)) + 1)) + 1)))) && decide (IntKind.i64.wrap (x9 + (IntKind.i64.wrap ((IntKind.i64.wrap ((IntKind.i64.wrap (2 * x10)) + 1)) + 1))) < (x11.length : Int)) then (bif decide (0 ≤ IntKind.i64.wrap (x9 + x10)) && decide (IntKind.i64.wrap (x9 + x10) < (x11.length : Int)) then (bif decide (0 ≤ IntKind.i64.wrap (x9 + x10)) && decide (IntKind.i64.wrap (x9 + x10) < (x11.length : Int)) then (bif decide (0 ≤ IntKind.i64.wrap (x9 + (IntKind.i64.wrap ((IntKind.i64.wrap ((IntKind.i64.wrap (2 * x10)) + 1)) + 1)))) && decide (IntKind.i64.wrap (x9 + (IntKind.i64.wrap ((IntKind.i64.wrap ((IntKind.i64.wrap (2 * x10)) + 1)) + 1))) < ((x11.set ((IntKind.i64.wrap (x9 + x10)).toNat) (x11.getD ((IntKind.i64.wrap (x9 + (IntKind.i64.wrap ((IntKind.i64.wrap ((IntKind.i64.wrap (2 * x10)) + 1)) + 1)))).toNat) 0)).length : Int)) then rec (IntKind.i64.wrap ((IntKind.i64.wrap ((IntKind.i64.wrap (2 * x10)) + 1)) + 1)) ((x11.set ((IntKind.i64.wrap (x9 + x10)).toNat) (x11.getD ((IntKind.i64.wrap (x9 + (IntKind.i64.wrap ((IntKind.i64.wrap ((IntKind.i64.wrap (2 * x10)) + 1)) + 1)))).toNat) 0)).set ((IntKind.i64.wrap (x9 + (IntKind.i64.wrap ((IntKind.i64.wrap ((IntKind.i64.wrap (2 * x10)) + 1)) + 1)))).toNat) (x11.getD ((IntKind.i64.wrap (x9 + x10)).toNat) 0))
    else none)
    else none)
    else none)
   else none)
   else none)
   else none)
  else bif decide (0 ≤ IntKind.i64.wrap (x9 + x10)) && decide (IntKind.i64.wrap (x9 + x10) < (x11.length : Int)) then (bif decide (0 ≤ IntKind.i64.wrap (x9 + (IntKind.i64.wrap ((IntKind.i64.wrap (2 * x10)) + 1)))) && decide (IntKind.i64.wrap (x9 + (IntKind.i64.wrap ((IntKind.i64.wrap (2 * x10)) + 1))) < (x11.length : Int)) then (impl_packed_1.g (x11.getD ((IntKind.i64.wrap (x9 + x10)).toNat) 0) (x11.getD ((IntKind.i64.wrap (x9 + (IntKind.i64.wrap ((IntKind.i64.wrap (2 * x10)) + 1)))).toNat) 0) x12 x13 x14 fun r17 =>
   bif !(decide (r17 < 0)) then R x11 x12 x13 x14
   else bif decide (0 ≤ IntKind.i64.wrap (x9 + (IntKind.i64.wrap ((IntKind.i64.wrap (2 * x10)) + 1)))) && decide (IntKind.i64.wrap (x9 + (IntKind.i64.wrap ((IntKind.i64.wrap (2 * x10)) + 1))) < (x11.length : Int)) then (bif decide (0 ≤ IntKind.i64.wrap (x9 + x10)) && decide (IntKind.i64.wrap (x9 + x10) < (x11.length : Int)) then (bif decide (0 ≤ IntKind.i64.wrap (x9 + x10)) && decide (IntKind.i64.wrap (x9 + x10) < (x11.length : Int)) then (bif decide (0 ≤ IntKind.i64.wrap (x9 + (IntKind.i64.wrap ((IntKind.i64.wrap (2 * x10)) + 1)))) && decide (IntKind.i64.wrap (x9 + (IntKind.i64.wrap ((IntKind.i64.wrap (2 * x10)) + 1))) < ((x11.set ((IntKind.i64.wrap (x9 + x10)).toNat) (x11.getD ((IntKind.i64.wrap (x9 + (IntKind.i64.wrap ((IntKind.i64.wrap (2 * x10)) + 1)))).toNat) 0)).length : Int)) then rec (IntKind.i64.wrap ((IntKind.i64.wrap (2 * x10)) + 1)) ((x11.set ((IntKind.i64.wrap (x9 + x10)).toNat) (x11.getD ((IntKind.i64.wrap (x9 + (IntKind.i64.wrap ((IntKind.i64.wrap (2 * x10)) + 1)))).toNat) 0)).set ((IntKind.i64.wrap (x9 + (IntKind.i64.wrap ((IntKind.i64.wrap (2 * x10)) + 1)))).toNat) (x11.getD ((IntKind.i64.wrap (x9 + x10)).toNat) 0))
    else none)
    else none)
    else none)
   else none)
   else none)
  else none)
  else none)
  else none)
 else bif decide (0 ≤ IntKind.i64.wrap (x9 + x10)) && decide (IntKind.i64.wrap (x9 + x10) < (x11.length : Int)) then (bif decide (0 ≤ IntKind.i64.wrap (x9 + (IntKind.i64.wrap ((IntKind.i64.wrap (2 * x10)) + 1)))) && decide (IntKind.i64.wrap (x9 + (IntKind.i64.wrap ((IntKind.i64.wrap (2 * x10)) + 1))) < (x11.length : Int)) then (impl_packed_1.g (x11.getD ((IntKind.i64.wrap (x9 + x10)).toNat) 0) (x11.getD ((IntKind.i64.wrap (x9 + (IntKind.i64.wrap ((IntKind.i64.wrap (2 * x10)) + 1)))).toNat) 0) x12 x13 x14 fun r18 =>
  bif !(decide (r18 < 0)) then R x11 x12 x13 x14
  else bif decide (0 ≤ IntKind.i64.wrap (x9 + (IntKind.i64.wrap ((IntKind.i64.wrap (2 * x10)) + 1)))) && decide (IntKind.i64.wrap (x9 + (IntKind.i64.wrap ((IntKind.i64.wrap (2 * x10)) + 1))) < (x11.length : Int)) then (bif decide (0 ≤ IntKind.i64.wrap (x9 + x10)) && decide (IntKind.i64.wrap (x9 + x10) < (x11.length : Int)) then (bif decide (0 ≤ IntKind.i64.wrap (x9 + x10)) && decide (IntKind.i64.wrap (x9 + x10) < (x11.length : Int)) then (bif decide (0 ≤ IntKind.i64.wrap (x9 + (IntKind.i64.wrap ((IntKind.i64.wrap (2 * x10)) + 1)))) && decide (IntKind.i64.wrap (x9 + (IntKind.i64.wrap ((IntKind.i64.wrap (2 * x10)) + 1))) < ((x11.set ((IntKind.i64.wrap (x9 + x10)).toNat) (x11.getD ((IntKind.i64.wrap (x9 + (IntKind.i64.wrap ((IntKind.i64.wrap (2 * x10)) + 1)))).toNat) 0)).length : Int)) then rec (IntKind.i64.wrap ((IntKind.i64.wrap (2 * x10)) + 1)) ((x11.set ((IntKind.i64.wrap (x9 + x10)).toNat) (x11.getD ((IntKind.i64.wrap (x9 + (IntKind.i64.wrap ((IntKind.i64.wrap (2 * x10)) + 1)))).toNat) 0)).set ((IntKind.i64.wrap (x9 + (IntKind.i64.wrap ((IntKind.i64.wrap (2 * x10)) + 1)))).toNat) (x11.getD ((IntKind.i64.wrap (x9 + x10)).toNat) 0))
   else none)
   else none)
   else none)
  else none)
  else none)
 else none
noncomputable def l0 (x8 x9 : Int) (x12 : List Int) (x13 : Int) (x14 : List (List Cl)) (k : List Int → Option Res) (R : List Int → List Int → Int → List (List Cl) → Option Res) : Nat → Int → List Int → Option Res
 | 0, _, _ => none
 | n + 1, x10, x11 => l0s x8 x9 x12 x13 x14 (fun x10 x11 => l0 x8 x9 x12 x13 x14 k R n x10 x11) k R x10 x11
noncomputable def o0 (x8 x9 : Int) (x12 : List Int) (x13 : Int) (x14 : List (List Cl)) (y1 : List Int) : St := ⟨mkT 82 [], [(0, ⟨[.int .i64], .ints y1, true, 0⟩)], [(0, [.tr 2 2 [.int .i64] (.ints x12), .int .i64 x13, .tr 2 2 [.int .i64, .int .i64, .bool] (.cells x14)])]⟩
noncomputable def p0 (K : Res → Option Res) : List Lf → (St → Option Res) → Option Res
 | [.i x8, .i x9, .i x10, .q (.ints x11), .q (.ints x12), .i x13, .q (.cells x14)], k => l0 x8 x9 x12 x13 x14 (fun y1 => k (o0 x8 x9 x12 x13 x14 y1)) (fun r1 r2 r3 r4 => K (m r1 r2 r3 r4)) fuel x10 x11
 | _, _ => none
noncomputable def os : List (FuncId × St × (List Lf → (Res → Option Res) → Option Res)) := [impl_packed_1.con]
noncomputable def X (K : Res → Option Res) : Ctx := { Γ := Γ0, orc := orcOf os, io := [], share := [], mvl := [], bun := [], cut := [], own := [], cin := [(0, ⟨[0, 2, 3, 4, 10], [(0, 0)], [0], [], [], []⟩)], cout := [(0, ⟨[], [(0, 0)], [0], [], [], []⟩)], lp := lpOf [(0, s0 0 0 0 [] [] 0 [], p0 K)], kl := [], nk := true, eqs := eqs0, byt := byt0, fin := finK fi K }
noncomputable def b (a1 a2 a3 : Int) (a4 a5 : List Int) (a6 : Int) (a7 : List (List Cl)) (R : List Int → List Int → Int → List (List Cl) → Option Res) : Option Res :=
 l0 a2 a3 a5 a6 a7 (fun y19 =>
 R y19 a5 a6 a7) R fuel a1 a4
theorem gx : ∃ x : Int → Int → Int → List Int → List Int → Int → List (List Cl) → (List Int → List Int → Int → List (List Cl) → Option Res) → Option Res, x = b := ⟨_, rfl⟩
noncomputable def g : Int → Int → Int → List Int → List Int → Int → List (List Cl) → (List Int → List Int → Int → List (List Cl) → Option Res) → Option Res := Classical.choose gx
theorem e : g = b := Classical.choose_spec gx
noncomputable def run : List Lf → (Res → Option Res) → Option Res
 | [.i a1, .i a2, .i a3, .q (.ints a4), .q (.ints a5), .i a6, .q (.cells a7)], K => g a1 a2 a3 a4 a5 a6 a7 (fun r1 r2 r3 r4 => K (m r1 r2 r3 r4))
 | _, _ => none
noncomputable def a (a1 a2 a3 : Int) (a4 a5 : List Int) (a6 : Int) (a7 : List (List Cl)) : St := argSt [one (.ow 0), one (.int .i64 a1), one (.int .i64 a2), one (.int .i64 a3), one (.fn 95 [0])] [⟨[.int .i64], .ints a4, true, 0⟩] [[.tr 2 2 [.int .i64] (.ints a5), .int .i64 a6, .tr 2 2 [.int .i64, .int .i64, .bool] (.cells a7)]]
noncomputable def con : FuncId × St × (List Lf → (Res → Option Res) → Option Res) := (141, a 0 0 0 [] [] 0 [], run)
theorem cx (K : Res → Option Res) : CtxOk Go.Proofs.Try.prog Γ0 byt0 eqs0 (X K) os := ⟨rfl, rfl, rfl, (fun p hp => by
 rcases List.mem_cons.1 hp with rfl | hp
 ·exact impl_packed_1.ok
 cases hp), rfl, rfl, rfl, rfl⟩
theorem t0 (K : Res → Option Res) (k : St → Option Res) (it : St → (St → Option Res) → Option Res) (x8 x9 x10 : Int) (x11 x12 : List Int) (x13 : Int) (x14 : List (List Cl)) : iterS (X K) 0 b0 it (s0 x8 x9 x10 x11 x12 x13 x14) k = l0s x8 x9 x12 x13 x14 (fun x10 x11 => it (s0 x8 x9 x10 x11 x12 x13 x14) k) (fun y1 => k (o0 x8 x9 x12 x13 x14 y1)) (fun r1 r2 r3 r4 => K (m r1 r2 r3 r4)) x10 x11 := by kernel_rfl
theorem i0 (K : Res → Option Res) (k : St → Option Res) (x8 x9 : Int) (x12 : List Int) (x13 : Int) (x14 : List (List Cl)) : ∀ (n : Nat) (x10 : Int) (x11 : List Int), iter (X K) 0 b0 n (s0 x8 x9 x10 x11 x12 x13 x14) k = l0 x8 x9 x12 x13 x14 (fun y1 => k (o0 x8 x9 x12 x13 x14 y1)) (fun r1 r2 r3 r4 => K (m r1 r2 r3 r4)) n x10 x11
 | 0, _, _ => rfl
 | n + 1, x10, x11 => by
  rw [iter_succ, t0, show (fun x10 x11 => iter (X K) 0 b0 n (s0 x8 x9 x10 x11 x12 x13 x14) k) = (fun x10 x11 => l0 x8 x9 x12 x13 x14 (fun y1 => k (o0 x8 x9 x12 x13 x14 y1)) (fun r1 r2 r3 r4 => K (m r1 r2 r3 r4)) n x10 x11) from funext fun x10 => funext fun x11 => i0 K k x8 x9 x12 x13 x14 n x10 x11]; rfl
theorem v0 {K : Res → Option Res} {l : List Lf} {k : St → Option Res} {r : Res} (h : p0 K l k = some r) : ∃ x8 x9 x10 x11 x12 x13 x14, l = [.i x8, .i x9, .i x10, .q (.ints x11), .q (.ints x12), .i x13, .q (.cells x14)] ∧ l0 x8 x9 x12 x13 x14 (fun y1 => k (o0 x8 x9 x12 x13 x14 y1)) (fun r1 r2 r3 r4 => K (m r1 r2 r3 r4)) fuel x10 x11 = some r := by
 unfold p0 at h; split at h
 ·exact ⟨_, _, _, _, _, _, _, rfl, h⟩
 ·cases h
theorem w0 (K : Res → Option Res) : LpSound Go.Proofs.Try.prog (X K) 0 b0 := lp_ok ((cx K).ok laid) (by rw [show loopsOf b0 = [] from by kernel_rfl]; intro p hp; cases hp) rfl fun p hp hid => by
 rcases List.mem_cons.1 hp with rfl | hp
 ·intro st k r h1 h2; obtain ⟨x8, x9, x10, x11, x12, x13, x14, e, h⟩ := v0 (K := K) h2; have := St.like_eq (y := s0 x8 x9 x10 x11 x12 x13 x14) h1 (by kernel_rfl) e; subst this; exact ⟨fuel, (i0 K k x8 x9 x12 x13 x14 fuel x10 x11).trans h⟩
 cases hp
theorem tie (K : Res → Option Res) (a1 a2 a3 : Int) (a4 a5 : List Int) (a6 : Int) (a7 : List (List Cl)) : exec (X K) c (entry 82 [one (.ow 0), one (.int .i64 a1), one (.int .i64 a2), one (.int .i64 a3), one (.fn 95 [0])] [⟨[.int .i64], .ints a4, true, 0⟩] [[.tr 2 2 [.int .i64] (.ints a5), .int .i64 a6, .tr 2 2 [.int .i64, .int .i64, .bool] (.cells a7)]]) (endK (X K)) = g a1 a2 a3 a4 a5 a6 a7 (fun r1 r2 r3 r4 => K (m r1 r2 r3 r4)) := Eq.trans (b := b a1 a2 a3 a4 a5 a6 a7 (fun r1 r2 r3 r4 => K (m r1 r2 r3 r4))) (by kernel_rfl) (by rw [e])
theorem runv {l : List Lf} {K : Res → Option Res} {r : Res} (h : run l K = some r) : ∃ a1 a2 a3 a4 a5 a6 a7, l = [.i a1, .i a2, .i a3, .q (.ints a4), .q (.ints a5), .i a6, .q (.cells a7)] ∧ g a1 a2 a3 a4 a5 a6 a7 (fun r1 r2 r3 r4 => K (m r1 r2 r3 r4)) = some r := by
 unfold run at h; split at h
 ·exact ⟨_, _, _, _, _, _, _, rfl, h⟩
 ·cases h
theorem ok : Con Go.Proofs.Try.prog con := con_of (fn := Go.Proofs.Try.f141) (c := c) (Fi := fi) (X := X) (fun_of laid (by kernel_rfl) (by kernel_rfl) (by kernel_rfl) rfl (by kernel_rfl) (by kernel_rfl) cx (fun _ => rfl) (fun _ => rfl) (fun K => by
 rw [show loopsOf c = [(0, b0)] from by kernel_rfl]; intro p hp
 rcases List.mem_cons.1 hp with rfl | hp
 ·exact w0 K
 cases hp)) fun xs rows boxes K r hl hr => by
 obtain ⟨a1, a2, a3, a4, a5, a6, a7, e, h⟩ := runv hr
 have := St.like_eq (y := a a1 a2 a3 a4 a5 a6 a7) hl (by kernel_rfl) e
 obtain ⟨rfl, rfl, rfl⟩ := argSt_inj this
 exact (tie K a1 a2 a3 a4 a5 a6 a7).trans h
end slices_siftDownCmpFunc_int
namespace slices_heapSortCmpFunc_int
noncomputable def c : Code := bodyOf Go.Proofs.Try.f132
noncomputable def fi : Fin := ⟨Γ0, [], [], [true], [([.sl [.int .i64] 8, .int .i64, .sl [.int .i64, .int .i64, .bool] 24], [0, 1, 0])], []⟩
noncomputable def m (r1 r2 : List Int) (r3 : Int) (r4 : List (List Cl)) : Res := ⟨[], [some ⟨[.int .i64], .ints r1, true, 0⟩], [], [[.tr 2 2 [.int .i64] (.ints r2), .int .i64 r3, .tr 2 2 [.int .i64, .int .i64, .bool] (.cells r4)]], []⟩
noncomputable def b0 : Code := codeAt c [1, 1, 1, 0, 1, 0, 0]
noncomputable def b2 : Code := codeAt c [1, 1, 1, 1, 1, 0, 0]
noncomputable def s0 (x7 x8 x9 x10 : Int) (x11 x12 : List Int) (x13 : Int) (x14 : List (List Cl)) : St := ⟨mkT 60 [(0, one (.ow 0)), (3, one (.fn 95 [0])), (8, one (.int .i64 x7)), (9, one (.int .i64 x8)), (10, one (.int .i64 x9)), (11, one (.int .i64 x10))], [(0, ⟨[.int .i64], .ints x11, true, 0⟩)], [(0, [.tr 2 2 [.int .i64] (.ints x12), .int .i64 x13, .tr 2 2 [.int .i64, .int .i64, .bool] (.cells x14)])]⟩
noncomputable def l0s (x7 x8 x9 : Int) (rec : Int → List Int → List Int → Int → List (List Cl) → Option Res) (k : List Int → List Int → Int → List (List Cl) → Option Res) (x10 : Int) (x11 x12 : List Int) (x13 : Int) (x14 : List (List Cl)) : Option Res :=
 bif decide (0 ≤ x10) then (slices_siftDownCmpFunc_int.g x10 x9 x7 x11 x12 x13 x14 fun r15 r16 r17 r18 =>
  rec (IntKind.i64.wrap (x10 - 1)) r15 r16 r17 r18)
 else k x11 x12 x13 x14
noncomputable def l0 (x7 x8 x9 : Int) (k : List Int → List Int → Int → List (List Cl) → Option Res) : Nat → Int → List Int → List Int → Int → List (List Cl) → Option Res
 | 0, _, _, _, _, _ => none
 | n + 1, x10, x11, x12, x13, x14 => l0s x7 x8 x9 (fun x10 x11 x12 x13 x14 => l0 x7 x8 x9 k n x10 x11 x12 x13 x14) k x10 x11 x12 x13 x14
noncomputable def o0 (x7 x8 x9 : Int) (y4 y5 : List Int) (y6 : Int) (y7 : List (List Cl)) : St := ⟨mkT 60 [(0, one (.ow 0)), (3, one (.fn 95 [0])), (8, one (.int .i64 x7)), (9, one (.int .i64 x8)), (10, one (.int .i64 x9))], [(0, ⟨[.int .i64], .ints y4, true, 0⟩)], [(0, [.tr 2 2 [.int .i64] (.ints y5), .int .i64 y6, .tr 2 2 [.int .i64, .int .i64, .bool] (.cells y7)])]⟩
noncomputable def p0 (K : Res → Option Res) : List Lf → (St → Option Res) → Option Res
 | [.i x7, .i x8, .i x9, .i x10, .q (.ints x11), .q (.ints x12), .i x13, .q (.cells x14)], k => l0 x7 x8 x9 (fun y4 y5 y6 y7 => k (o0 x7 x8 x9 y4 y5 y6 y7)) fuel x10 x11 x12 x13 x14
 | _, _ => none
noncomputable def s2 (x23 x24 x25 : Int) (x26 x27 : List Int) (x28 : Int) (x29 : List (List Cl)) : St := ⟨mkT 60 [(0, one (.ow 0)), (3, one (.fn 95 [0])), (8, one (.int .i64 x23)), (9, one (.int .i64 x24)), (12, one (.int .i64 x25))], [(0, ⟨[.int .i64], .ints x26, true, 0⟩)], [(0, [.tr 2 2 [.int .i64] (.ints x27), .int .i64 x28, .tr 2 2 [.int .i64, .int .i64, .bool] (.cells x29)])]⟩
noncomputable def l2s (x23 x24 : Int) (rec : Int → List Int → List Int → Int → List (List Cl) → Option Res) (k : List Int → List Int → Int → List (List Cl) → Option Res) (x25 : Int) (x26 x27 : List Int) (x28 : Int) (x29 : List (List Cl)) : Option Res :=
 bif decide (0 ≤ x25) then (bif decide (0 ≤ IntKind.i64.wrap (x23 + x25)) && decide (IntKind.i64.wrap (x23 + x25) < (x26.length : Int)) then (bif decide (0 ≤ x23) && decide (x23 < (x26.length : Int)) then (bif decide (0 ≤ x23) && decide (x23 < (x26.length : Int)) then (bif decide (0 ≤ IntKind.i64.wrap (x23 + x25)) && decide (IntKind.i64.wrap (x23 + x25) < ((x26.set x23.toNat (x26.getD ((IntKind.i64.wrap (x23 + x25)).toNat) 0)).length : Int)) then (slices_siftDownCmpFunc_int.g x24 x25 x23 ((x26.set x23.toNat (x26.getD ((IntKind.i64.wrap (x23 + x25)).toNat) 0)).set ((IntKind.i64.wrap (x23 + x25)).toNat) (x26.getD x23.toNat 0)) x27 x28 x29 fun r30 r31 r32 r33 =>
  rec (IntKind.i64.wrap (x25 - 1)) r30 r31 r32 r33)
  else none)
  else none)
  else none)
  else none)
 else k x26 x27 x28 x29
noncomputable def l2 (x23 x24 : Int) (k : List Int → List Int → Int → List (List Cl) → Option Res) : Nat → Int → List Int → List Int → Int → List (List Cl) → Option Res
 | 0, _, _, _, _, _ => none
 | n + 1, x25, x26, x27, x28, x29 => l2s x23 x24 (fun x25 x26 x27 x28 x29 => l2 x23 x24 k n x25 x26 x27 x28 x29) k x25 x26 x27 x28 x29
noncomputable def o2 (x23 x24 : Int) (y1 y2 : List Int) (y3 : Int) (y4 : List (List Cl)) : St := ⟨mkT 60 [], [(0, ⟨[.int .i64], .ints y1, true, 0⟩)], [(0, [.tr 2 2 [.int .i64] (.ints y2), .int .i64 y3, .tr 2 2 [.int .i64, .int .i64, .bool] (.cells y4)])]⟩
noncomputable def p2 (K : Res → Option Res) : List Lf → (St → Option Res) → Option Res
 | [.i x23, .i x24, .i x25, .q (.ints x26), .q (.ints x27), .i x28, .q (.cells x29)], k => l2 x23 x24 (fun y1 y2 y3 y4 => k (o2 x23 x24 y1 y2 y3 y4)) fuel x25 x26 x27 x28 x29
 | _, _ => none
noncomputable def os : List (FuncId × St × (List Lf → (Res → Option Res) → Option Res)) := [slices_siftDownCmpFunc_int.con]
noncomputable def X (K : Res → Option Res) : Ctx := { Γ := Γ0, orc := orcOf os, io := [(141, [⟨true, 0, 1⟩, ⟨false, 0, 1⟩, ⟨false, 0, 1⟩, ⟨false, 0, 1⟩, ⟨false, 0, 1⟩])], share := [], mvl := [], bun := [], cut := [], own := [], cin := [(0, ⟨[0, 3, 8, 9, 10, 11], [(0, 0)], [0], [], [], []⟩), (2, ⟨[0, 3, 8, 9, 12], [(0, 0)], [0], [], [], []⟩)], cout := [(0, ⟨[0, 3, 8, 9, 10], [(0, 0)], [0], [], [], []⟩), (2, ⟨[], [(0, 0)], [0], [], [], []⟩)], lp := lpOf [(0, s0 0 0 0 0 [] [] 0 [], p0 K), (2, s2 0 0 0 [] [] 0 [], p2 K)], kl := [], nk := true, eqs := eqs0, byt := byt0, fin := finK fi K }
noncomputable def b (a1 a2 : Int) (a3 a4 : List Int) (a5 : Int) (a6 : List (List Cl)) (R : List Int → List Int → Int → List (List Cl) → Option Res) : Option Res :=
 l0 a1 0 (IntKind.i64.wrap (a2 - a1)) (fun y19 y20 y21 y22 =>
 l2 a1 0 (fun y34 y35 y36 y37 =>
 R y34 y35 y36 y37) fuel (IntKind.i64.wrap ((IntKind.i64.wrap (a2 - a1)) - 1)) y19 y20 y21 y22) fuel (IntKind.i64.wrap ((IntKind.i64.wrap ((IntKind.i64.wrap (a2 - a1)) - 1)).tdiv 2)) a3 a4 a5 a6
theorem gx : ∃ x : Int → Int → List Int → List Int → Int → List (List Cl) → (List Int → List Int → Int → List (List Cl) → Option Res) → Option Res, x = b := ⟨_, rfl⟩
noncomputable def g : Int → Int → List Int → List Int → Int → List (List Cl) → (List Int → List Int → Int → List (List Cl) → Option Res) → Option Res := Classical.choose gx
theorem e : g = b := Classical.choose_spec gx
noncomputable def run : List Lf → (Res → Option Res) → Option Res
 | [.i a1, .i a2, .q (.ints a3), .q (.ints a4), .i a5, .q (.cells a6)], K => g a1 a2 a3 a4 a5 a6 (fun r1 r2 r3 r4 => K (m r1 r2 r3 r4))
 | _, _ => none
noncomputable def a (a1 a2 : Int) (a3 a4 : List Int) (a5 : Int) (a6 : List (List Cl)) : St := argSt [one (.ow 0), one (.int .i64 a1), one (.int .i64 a2), one (.fn 95 [0])] [⟨[.int .i64], .ints a3, true, 0⟩] [[.tr 2 2 [.int .i64] (.ints a4), .int .i64 a5, .tr 2 2 [.int .i64, .int .i64, .bool] (.cells a6)]]
noncomputable def con : FuncId × St × (List Lf → (Res → Option Res) → Option Res) := (132, a 0 0 [] [] 0 [], run)
theorem cx (K : Res → Option Res) : CtxOk Go.Proofs.Try.prog Γ0 byt0 eqs0 (X K) os := ⟨rfl, rfl, rfl, (fun p hp => by
 rcases List.mem_cons.1 hp with rfl | hp
 ·exact slices_siftDownCmpFunc_int.ok
 cases hp), rfl, rfl, rfl, rfl⟩
theorem t0 (K : Res → Option Res) (k : St → Option Res) (it : St → (St → Option Res) → Option Res) (x7 x8 x9 x10 : Int) (x11 x12 : List Int) (x13 : Int) (x14 : List (List Cl)) : iterS (X K) 0 b0 it (s0 x7 x8 x9 x10 x11 x12 x13 x14) k = l0s x7 x8 x9 (fun x10 x11 x12 x13 x14 => it (s0 x7 x8 x9 x10 x11 x12 x13 x14) k) (fun y4 y5 y6 y7 => k (o0 x7 x8 x9 y4 y5 y6 y7)) x10 x11 x12 x13 x14 := by kernel_rfl
theorem i0 (K : Res → Option Res) (k : St → Option Res) (x7 x8 x9 : Int) : ∀ (n : Nat) (x10 : Int) (x11 x12 : List Int) (x13 : Int) (x14 : List (List Cl)), iter (X K) 0 b0 n (s0 x7 x8 x9 x10 x11 x12 x13 x14) k = l0 x7 x8 x9 (fun y4 y5 y6 y7 => k (o0 x7 x8 x9 y4 y5 y6 y7)) n x10 x11 x12 x13 x14
 | 0, _, _, _, _, _ => rfl
 | n + 1, x10, x11, x12, x13, x14 => by
  rw [iter_succ, t0, show (fun x10 x11 x12 x13 x14 => iter (X K) 0 b0 n (s0 x7 x8 x9 x10 x11 x12 x13 x14) k) = (fun x10 x11 x12 x13 x14 => l0 x7 x8 x9 (fun y4 y5 y6 y7 => k (o0 x7 x8 x9 y4 y5 y6 y7)) n x10 x11 x12 x13 x14) from funext fun x10 => funext fun x11 => funext fun x12 => funext fun x13 => funext fun x14 => i0 K k x7 x8 x9 n x10 x11 x12 x13 x14]; rfl
theorem v0 {K : Res → Option Res} {l : List Lf} {k : St → Option Res} {r : Res} (h : p0 K l k = some r) : ∃ x7 x8 x9 x10 x11 x12 x13 x14, l = [.i x7, .i x8, .i x9, .i x10, .q (.ints x11), .q (.ints x12), .i x13, .q (.cells x14)] ∧ l0 x7 x8 x9 (fun y4 y5 y6 y7 => k (o0 x7 x8 x9 y4 y5 y6 y7)) fuel x10 x11 x12 x13 x14 = some r := by
 unfold p0 at h; split at h
 ·exact ⟨_, _, _, _, _, _, _, _, rfl, h⟩
 ·cases h
theorem t2 (K : Res → Option Res) (k : St → Option Res) (it : St → (St → Option Res) → Option Res) (x23 x24 x25 : Int) (x26 x27 : List Int) (x28 : Int) (x29 : List (List Cl)) : iterS (X K) 2 b2 it (s2 x23 x24 x25 x26 x27 x28 x29) k = l2s x23 x24 (fun x25 x26 x27 x28 x29 => it (s2 x23 x24 x25 x26 x27 x28 x29) k) (fun y1 y2 y3 y4 => k (o2 x23 x24 y1 y2 y3 y4)) x25 x26 x27 x28 x29 := by kernel_rfl
theorem i2 (K : Res → Option Res) (k : St → Option Res) (x23 x24 : Int) : ∀ (n : Nat) (x25 : Int) (x26 x27 : List Int) (x28 : Int) (x29 : List (List Cl)), iter (X K) 2 b2 n (s2 x23 x24 x25 x26 x27 x28 x29) k = l2 x23 x24 (fun y1 y2 y3 y4 => k (o2 x23 x24 y1 y2 y3 y4)) n x25 x26 x27 x28 x29
 | 0, _, _, _, _, _ => rfl
 | n + 1, x25, x26, x27, x28, x29 => by
  rw [iter_succ, t2, show (fun x25 x26 x27 x28 x29 => iter (X K) 2 b2 n (s2 x23 x24 x25 x26 x27 x28 x29) k) = (fun x25 x26 x27 x28 x29 => l2 x23 x24 (fun y1 y2 y3 y4 => k (o2 x23 x24 y1 y2 y3 y4)) n x25 x26 x27 x28 x29) from funext fun x25 => funext fun x26 => funext fun x27 => funext fun x28 => funext fun x29 => i2 K k x23 x24 n x25 x26 x27 x28 x29]; rfl
theorem v2 {K : Res → Option Res} {l : List Lf} {k : St → Option Res} {r : Res} (h : p2 K l k = some r) : ∃ x23 x24 x25 x26 x27 x28 x29, l = [.i x23, .i x24, .i x25, .q (.ints x26), .q (.ints x27), .i x28, .q (.cells x29)] ∧ l2 x23 x24 (fun y1 y2 y3 y4 => k (o2 x23 x24 y1 y2 y3 y4)) fuel x25 x26 x27 x28 x29 = some r := by
 unfold p2 at h; split at h
 ·exact ⟨_, _, _, _, _, _, _, rfl, h⟩
 ·cases h
theorem w0 (K : Res → Option Res) : LpSound Go.Proofs.Try.prog (X K) 0 b0 := lp_ok ((cx K).ok laid) (by rw [show loopsOf b0 = [] from by kernel_rfl]; intro p hp; cases hp) rfl fun p hp hid => by
 rcases List.mem_cons.1 hp with rfl | hp
 ·intro st k r h1 h2; obtain ⟨x7, x8, x9, x10, x11, x12, x13, x14, e, h⟩ := v0 (K := K) h2; have := St.like_eq (y := s0 x7 x8 x9 x10 x11 x12 x13 x14) h1 (by kernel_rfl) e; subst this; exact ⟨fuel, (i0 K k x7 x8 x9 fuel x10 x11 x12 x13 x14).trans h⟩
 rcases List.mem_cons.1 hp with rfl | hp
 ·exact absurd hid (by simp)
 cases hp
theorem w2 (K : Res → Option Res) : LpSound Go.Proofs.Try.prog (X K) 2 b2 := lp_ok ((cx K).ok laid) (by rw [show loopsOf b2 = [] from by kernel_rfl]; intro p hp; cases hp) rfl fun p hp hid => by
 rcases List.mem_cons.1 hp with rfl | hp
 ·exact absurd hid (by simp)
 rcases List.mem_cons.1 hp with rfl | hp
 ·intro st k r h1 h2; obtain ⟨x23, x24, x25, x26, x27, x28, x29, e, h⟩ := v2 (K := K) h2; have := St.like_eq (y := s2 x23 x24 x25 x26 x27 x28 x29) h1 (by kernel_rfl) e; subst this; exact ⟨fuel, (i2 K k x23 x24 fuel x25 x26 x27 x28 x29).trans h⟩
 cases hp
theorem tie (K : Res → Option Res) (a1 a2 : Int) (a3 a4 : List Int) (a5 : Int) (a6 : List (List Cl)) : exec (X K) c (entry 60 [one (.ow 0), one (.int .i64 a1), one (.int .i64 a2), one (.fn 95 [0])] [⟨[.int .i64], .ints a3, true, 0⟩] [[.tr 2 2 [.int .i64] (.ints a4), .int .i64 a5, .tr 2 2 [.int .i64, .int .i64, .bool] (.cells a6)]]) (endK (X K)) = g a1 a2 a3 a4 a5 a6 (fun r1 r2 r3 r4 => K (m r1 r2 r3 r4)) := Eq.trans (b := b a1 a2 a3 a4 a5 a6 (fun r1 r2 r3 r4 => K (m r1 r2 r3 r4))) (by kernel_rfl) (by rw [e])
theorem runv {l : List Lf} {K : Res → Option Res} {r : Res} (h : run l K = some r) : ∃ a1 a2 a3 a4 a5 a6, l = [.i a1, .i a2, .q (.ints a3), .q (.ints a4), .i a5, .q (.cells a6)] ∧ g a1 a2 a3 a4 a5 a6 (fun r1 r2 r3 r4 => K (m r1 r2 r3 r4)) = some r := by
 unfold run at h; split at h
 ·exact ⟨_, _, _, _, _, _, rfl, h⟩
 ·cases h
theorem ok : Con Go.Proofs.Try.prog con := con_of (fn := Go.Proofs.Try.f132) (c := c) (Fi := fi) (X := X) (fun_of laid (by kernel_rfl) (by kernel_rfl) (by kernel_rfl) rfl (by kernel_rfl) (by kernel_rfl) cx (fun _ => rfl) (fun _ => rfl) (fun K => by
 rw [show loopsOf c = [(0, b0), (2, b2)] from by kernel_rfl]; intro p hp
 rcases List.mem_cons.1 hp with rfl | hp
 ·exact w0 K
 rcases List.mem_cons.1 hp with rfl | hp
 ·exact w2 K
 cases hp)) fun xs rows boxes K r hl hr => by
 obtain ⟨a1, a2, a3, a4, a5, a6, e, h⟩ := runv hr
 have := St.like_eq (y := a a1 a2 a3 a4 a5 a6) hl (by kernel_rfl) e
 obtain ⟨rfl, rfl, rfl⟩ := argSt_inj this
 exact (tie K a1 a2 a3 a4 a5 a6).trans h
end slices_heapSortCmpFunc_int
namespace slices_nextPowerOfTwo
noncomputable def c : Code := bodyOf Go.Proofs.Try.f142
noncomputable def fi : Fin := ⟨Γ0, [(.tmp 2, 131)], [[1]], [], [], []⟩
noncomputable def m (r1 : Int) : Res := ⟨[⟨false, [.int .u64 r1]⟩], [], [], [], []⟩
noncomputable def os : List (FuncId × St × (List Lf → (Res → Option Res) → Option Res)) := [bits_Len.con]
noncomputable def X (K : Res → Option Res) : Ctx := { Γ := Γ0, orc := orcOf os, io := [], share := [], mvl := [], bun := [], cut := [], own := [], cin := [], cout := [], lp := lpOf [], kl := [], nk := true, eqs := eqs0, byt := byt0, fin := finK fi K }
noncomputable def b (a1 : Int) (R : Int → Option Res) : Option Res :=
 bits_Len.g (IntKind.u64.wrap a1) fun r2 =>
 bif decide (r2 < 0) then none
 else R (IntKind.u64.wrap (1 * 2 ^ (min r2.toNat 64)))
theorem gx : ∃ x : Int → (Int → Option Res) → Option Res, x = b := ⟨_, rfl⟩
noncomputable def g : Int → (Int → Option Res) → Option Res := Classical.choose gx
theorem e : g = b := Classical.choose_spec gx
noncomputable def run : List Lf → (Res → Option Res) → Option Res
 | [.i a1], K => g a1 (fun r1 => K (m r1))
 | _, _ => none
noncomputable def a (a1 : Int) : St := argSt [one (.int .i64 a1)] [] []
noncomputable def con : FuncId × St × (List Lf → (Res → Option Res) → Option Res) := (142, a 0, run)
theorem cx (K : Res → Option Res) : CtxOk Go.Proofs.Try.prog Γ0 byt0 eqs0 (X K) os := ⟨rfl, rfl, rfl, (fun p hp => by
 rcases List.mem_cons.1 hp with rfl | hp
 ·exact bits_Len.ok
 cases hp), rfl, rfl, rfl, rfl⟩
theorem tie (K : Res → Option Res) (a1 : Int) : exec (X K) c (entry 7 [one (.int .i64 a1)] [] []) (endK (X K)) = g a1 (fun r1 => K (m r1)) := Eq.trans (b := b a1 (fun r1 => K (m r1))) (by kernel_rfl) (by rw [e])
theorem runv {l : List Lf} {K : Res → Option Res} {r : Res} (h : run l K = some r) : ∃ a1, l = [.i a1] ∧ g a1 (fun r1 => K (m r1)) = some r := by
 unfold run at h; split at h
 ·exact ⟨_, rfl, h⟩
 ·cases h
theorem ok : Con Go.Proofs.Try.prog con := con_of (fn := Go.Proofs.Try.f142) (c := c) (Fi := fi) (X := X) (fun_of laid (by kernel_rfl) (by kernel_rfl) (by kernel_rfl) rfl (by kernel_rfl) (by kernel_rfl) cx (fun _ => rfl) (fun _ => rfl) (fun K => by
 rw [show loopsOf c = [] from by kernel_rfl]; intro p hp
 cases hp)) fun xs rows boxes K r hl hr => by
 obtain ⟨a1, e, h⟩ := runv hr
 have := St.like_eq (y := a a1) hl (by kernel_rfl) e
 obtain ⟨rfl, rfl, rfl⟩ := argSt_inj this
 exact (tie K a1).trans h
end slices_nextPowerOfTwo
namespace slices_xorshift_Next
noncomputable def c : Code := bodyOf Go.Proofs.Try.f143
noncomputable def fi : Fin := ⟨Γ0, [(.tmp 2, 154)], [[1]], [], [([.int .u64], [1])], []⟩
noncomputable def m (r1 r2 : Int) : Res := ⟨[⟨false, [.int .u64 r1]⟩], [], [], [[.int .u64 r2]], []⟩
noncomputable def os : List (FuncId × St × (List Lf → (Res → Option Res) → Option Res)) := []
noncomputable def X (K : Res → Option Res) : Ctx := { Γ := Γ0, orc := orcOf os, io := [], share := [], mvl := [], bun := [], cut := [], own := [], cin := [], cout := [], lp := lpOf [], kl := [], nk := true, eqs := eqs0, byt := byt0, fin := finK fi K }
noncomputable def b (a1 : Int) (R : Int → Int → Option Res) : Option Res :=
 R (arith.bits .xor .u64 (arith.bits .xor .u64 (arith.bits .xor .u64 a1 (IntKind.u64.wrap (a1 * 2 ^ 13))) ((arith.bits .xor .u64 a1 (IntKind.u64.wrap (a1 * 2 ^ 13))).fdiv (2 ^ 7))) (IntKind.u64.wrap ((arith.bits .xor .u64 (arith.bits .xor .u64 a1 (IntKind.u64.wrap (a1 * 2 ^ 13))) ((arith.bits .xor .u64 a1 (IntKind.u64.wrap (a1 * 2 ^ 13))).fdiv (2 ^ 7))) * 2 ^ 17))) (arith.bits .xor .u64 (arith.bits .xor .u64 (arith.bits .xor .u64 a1 (IntKind.u64.wrap (a1 * 2 ^ 13))) ((arith.bits .xor .u64 a1 (IntKind.u64.wrap (a1 * 2 ^ 13))).fdiv (2 ^ 7))) (IntKind.u64.wrap ((arith.bits .xor .u64 (arith.bits .xor .u64 a1 (IntKind.u64.wrap (a1 * 2 ^ 13))) ((arith.bits .xor .u64 a1 (IntKind.u64.wrap (a1 * 2 ^ 13))).fdiv (2 ^ 7))) * 2 ^ 17)))
theorem gx : ∃ x : Int → (Int → Int → Option Res) → Option Res, x = b := ⟨_, rfl⟩
noncomputable def g : Int → (Int → Int → Option Res) → Option Res := Classical.choose gx
theorem e : g = b := Classical.choose_spec gx
noncomputable def run : List Lf → (Res → Option Res) → Option Res
 | [.i a1], K => g a1 (fun r1 r2 => K (m r1 r2))
 | _, _ => none
noncomputable def a (a1 : Int) : St := argSt [one (.bp 0 0)] [] [[.int .u64 a1]]
noncomputable def con : FuncId × St × (List Lf → (Res → Option Res) → Option Res) := (143, a 0, run)
theorem cx (K : Res → Option Res) : CtxOk Go.Proofs.Try.prog Γ0 byt0 eqs0 (X K) os := ⟨rfl, rfl, rfl, (fun p hp => by
 cases hp), rfl, rfl, rfl, rfl⟩
theorem tie (K : Res → Option Res) (a1 : Int) : exec (X K) c (entry 33 [one (.bp 0 0)] [] [[.int .u64 a1]]) (endK (X K)) = g a1 (fun r1 r2 => K (m r1 r2)) := Eq.trans (b := b a1 (fun r1 r2 => K (m r1 r2))) (by kernel_rfl) (by rw [e])
theorem runv {l : List Lf} {K : Res → Option Res} {r : Res} (h : run l K = some r) : ∃ a1, l = [.i a1] ∧ g a1 (fun r1 r2 => K (m r1 r2)) = some r := by
 unfold run at h; split at h
 ·exact ⟨_, rfl, h⟩
 ·cases h
theorem ok : Con Go.Proofs.Try.prog con := con_of (fn := Go.Proofs.Try.f143) (c := c) (Fi := fi) (X := X) (fun_of laid (by kernel_rfl) (by kernel_rfl) (by kernel_rfl) rfl (by kernel_rfl) (by kernel_rfl) cx (fun _ => rfl) (fun _ => rfl) (fun K => by
 rw [show loopsOf c = [] from by kernel_rfl]; intro p hp
 cases hp)) fun xs rows boxes K r hl hr => by
 obtain ⟨a1, e, h⟩ := runv hr
 have := St.like_eq (y := a a1) hl (by kernel_rfl) e
 obtain ⟨rfl, rfl, rfl⟩ := argSt_inj this
 exact (tie K a1).trans h
end slices_xorshift_Next
namespace slices_breakPatternsCmpFunc_int
noncomputable def c : Code := bodyOf Go.Proofs.Try.f133
noncomputable def fi : Fin := ⟨Γ0, [], [], [true], [([.sl [.int .i64] 8, .int .i64, .sl [.int .i64, .int .i64, .bool] 24], [0, 1, 0])], []⟩
noncomputable def m (r1 r2 : List Int) (r3 : Int) (r4 : List (List Cl)) : Res := ⟨[], [some ⟨[.int .i64], .ints r1, true, 0⟩], [], [[.tr 2 2 [.int .i64] (.ints r2), .int .i64 r3, .tr 2 2 [.int .i64, .int .i64, .bool] (.cells r4)]], []⟩
noncomputable def b0 : Code := codeAt c [1, 1, 0, 1, 1, 1, 0, 0]
noncomputable def s0 (x8 x9 x10 x11 : Int) (x12 : List Int) (x13 : Int) (x14 : List Int) (x15 : Int) (x16 : List (List Cl)) : St := ⟨mkT 67 [(0, one (.ow 0)), (1, one (.int .i64 x8)), (8, one (.int .i64 x9)), (9, one (.bp 5128 0)), (10, one (.int .u64 x10)), (11, one (.int .i64 x11))], [(0, ⟨[.int .i64], .ints x12, true, 0⟩)], [(5128, [.int .u64 x13]), (0, [.tr 2 2 [.int .i64] (.ints x14), .int .i64 x15, .tr 2 2 [.int .i64, .int .i64, .bool] (.cells x16)])]⟩
noncomputable def l0s (x8 x9 x10 : Int) (x14 : List Int) (x15 : Int) (x16 : List (List Cl)) (rec : Int → List Int → Int → Option Res) (k : List Int → Option Res) (x11 : Int) (x12 : List Int) (x13 : Int) : Option Res :=
 bif decide (x11 ≤ IntKind.i64.wrap ((IntKind.i64.wrap (x8 + (IntKind.i64.wrap ((IntKind.i64.wrap (x9.tdiv 4)) * 2)))) + 1)) then (slices_xorshift_Next.g x13 fun r17 r18 =>
  bif decide (x9 ≤ IntKind.i64.wrap (arith.bits .and .u64 r17 (IntKind.u64.wrap (x10 - 1)))) then (bif decide (0 ≤ IntKind.i64.wrap (x8 + (IntKind.i64.wrap ((IntKind.i64.wrap (arith.bits .and .u64 r17 (IntKind.u64.wrap (x10 - 1)))) - x9)))) && decide (IntKind.i64.wrap (x8 + (IntKind.i64.wrap ((IntKind.i64.wrap (arith.bits .and .u64 r17 (IntKind.u64.wrap (x10 - 1)))) - x9))) < (x12.length : Int)) then (bif decide (0 ≤ x11) && decide (x11 < (x12.length : Int)) then (bif decide (0 ≤ x11) && decide (x11 < (x12.length : Int)) then (bif decide (0 ≤ IntKind.i64.wrap (x8 + (IntKind.i64.wrap ((IntKind.i64.wrap (arith.bits .and .u64 r17 (IntKind.u64.wrap (x10 - 1)))) - x9)))) && decide (IntKind.i64.wrap (x8 + (IntKind.i64.wrap ((IntKind.i64.wrap (arith.bits .and .u64 r17 (IntKind.u64.wrap (x10 - 1)))) - x9))) < ((x12.set x11.toNat (x12.getD ((IntKind.i64.wrap (x8 + (IntKind.i64.wrap ((IntKind.i64.wrap (arith.bits .and .u64 r17 (IntKind.u64.wrap (x10 - 1)))) - x9)))).toNat) 0)).length : Int)) then rec (IntKind.i64.wrap (x11 + 1)) ((x12.set x11.toNat (x12.getD ((IntKind.i64.wrap (x8 + (IntKind.i64.wrap ((IntKind.i64.wrap (arith.bits .and .u64 r17 (IntKind.u64.wrap (x10 - 1)))) - x9)))).toNat) 0)).set ((IntKind.i64.wrap (x8 + (IntKind.i64.wrap ((IntKind.i64.wrap (arith.bits .and .u64 r17 (IntKind.u64.wrap (x10 - 1)))) - x9)))).toNat) (x12.getD x11.toNat 0)) r18
   else none)
   else none)
   else none)
   else none)
  else bif decide (0 ≤ IntKind.i64.wrap (x8 + (IntKind.i64.wrap (arith.bits .and .u64 r17 (IntKind.u64.wrap (x10 - 1)))))) && decide (IntKind.i64.wrap (x8 + (IntKind.i64.wrap (arith.bits .and .u64 r17 (IntKind.u64.wrap (x10 - 1))))) < (x12.length : Int)) then (bif decide (0 ≤ x11) && decide (x11 < (x12.length : Int)) then (bif decide (0 ≤ x11) && decide (x11 < (x12.length : Int)) then (bif decide (0 ≤ IntKind.i64.wrap (x8 + (IntKind.i64.wrap (arith.bits .and .u64 r17 (IntKind.u64.wrap (x10 - 1)))))) && decide (IntKind.i64.wrap (x8 + (IntKind.i64.wrap (arith.bits .and .u64 r17 (IntKind.u64.wrap (x10 - 1))))) < ((x12.set x11.toNat (x12.getD ((IntKind.i64.wrap (x8 + (IntKind.i64.wrap (arith.bits .and .u64 r17 (IntKind.u64.wrap (x10 - 1)))))).toNat) 0)).length : Int)) then rec (IntKind.i64.wrap (x11 + 1)) ((x12.set x11.toNat (x12.getD ((IntKind.i64.wrap (x8 + (IntKind.i64.wrap (arith.bits .and .u64 r17 (IntKind.u64.wrap (x10 - 1)))))).toNat) 0)).set ((IntKind.i64.wrap (x8 + (IntKind.i64.wrap (arith.bits .and .u64 r17 (IntKind.u64.wrap (x10 - 1)))))).toNat) (x12.getD x11.toNat 0)) r18
   else none)
   else none)
   else none)
  else none)
 else k x12
noncomputable def l0 (x8 x9 x10 : Int) (x14 : List Int) (x15 : Int) (x16 : List (List Cl)) (k : List Int → Option Res) : Nat → Int → List Int → Int → Option Res
 | 0, _, _, _ => none
 | n + 1, x11, x12, x13 => l0s x8 x9 x10 x14 x15 x16 (fun x11 x12 x13 => l0 x8 x9 x10 x14 x15 x16 k n x11 x12 x13) k x11 x12 x13
noncomputable def o0 (x8 x9 x10 : Int) (x14 : List Int) (x15 : Int) (x16 : List (List Cl)) (y1 : List Int) : St := ⟨mkT 67 [], [(0, ⟨[.int .i64], .ints y1, true, 0⟩)], [(0, [.tr 2 2 [.int .i64] (.ints x14), .int .i64 x15, .tr 2 2 [.int .i64, .int .i64, .bool] (.cells x16)])]⟩
noncomputable def p0 (K : Res → Option Res) : List Lf → (St → Option Res) → Option Res
 | [.i x8, .i x9, .i x10, .i x11, .q (.ints x12), .i x13, .q (.ints x14), .i x15, .q (.cells x16)], k => l0 x8 x9 x10 x14 x15 x16 (fun y1 => k (o0 x8 x9 x10 x14 x15 x16 y1)) fuel x11 x12 x13
 | _, _ => none
noncomputable def os : List (FuncId × St × (List Lf → (Res → Option Res) → Option Res)) := [slices_nextPowerOfTwo.con, slices_xorshift_Next.con]
noncomputable def X (K : Res → Option Res) : Ctx := { Γ := Γ0, orc := orcOf os, io := [], share := [], mvl := [], bun := [], cut := [], own := [], cin := [(0, ⟨[0, 1, 8, 9, 10, 11], [(0, 0)], [5128, 0], [], [], []⟩)], cout := [(0, ⟨[], [(0, 0)], [0], [], [], []⟩)], lp := lpOf [(0, s0 0 0 0 0 [] 0 [] 0 [], p0 K)], kl := [], nk := true, eqs := eqs0, byt := byt0, fin := finK fi K }
noncomputable def b (a1 a2 : Int) (a3 a4 : List Int) (a5 : Int) (a6 : List (List Cl)) (R : List Int → List Int → Int → List (List Cl) → Option Res) : Option Res :=
 bif decide (8 ≤ IntKind.i64.wrap (a2 - a1)) then (slices_nextPowerOfTwo.g (IntKind.i64.wrap (a2 - a1)) fun r7 =>
  l0 a1 (IntKind.i64.wrap (a2 - a1)) r7 a4 a5 a6 (fun y19 =>
  R y19 a4 a5 a6) fuel (IntKind.i64.wrap ((IntKind.i64.wrap (a1 + (IntKind.i64.wrap ((IntKind.i64.wrap ((IntKind.i64.wrap (a2 - a1)).tdiv 4)) * 2)))) - 1)) a3 (IntKind.u64.wrap (IntKind.i64.wrap (a2 - a1))))
 else R a3 a4 a5 a6
theorem gx : ∃ x : Int → Int → List Int → List Int → Int → List (List Cl) → (List Int → List Int → Int → List (List Cl) → Option Res) → Option Res, x = b := ⟨_, rfl⟩
noncomputable def g : Int → Int → List Int → List Int → Int → List (List Cl) → (List Int → List Int → Int → List (List Cl) → Option Res) → Option Res := Classical.choose gx
theorem e : g = b := Classical.choose_spec gx
noncomputable def run : List Lf → (Res → Option Res) → Option Res
 | [.i a1, .i a2, .q (.ints a3), .q (.ints a4), .i a5, .q (.cells a6)], K => g a1 a2 a3 a4 a5 a6 (fun r1 r2 r3 r4 => K (m r1 r2 r3 r4))
 | _, _ => none
noncomputable def a (a1 a2 : Int) (a3 a4 : List Int) (a5 : Int) (a6 : List (List Cl)) : St := argSt [one (.ow 0), one (.int .i64 a1), one (.int .i64 a2), one (.fn 95 [0])] [⟨[.int .i64], .ints a3, true, 0⟩] [[.tr 2 2 [.int .i64] (.ints a4), .int .i64 a5, .tr 2 2 [.int .i64, .int .i64, .bool] (.cells a6)]]
noncomputable def con : FuncId × St × (List Lf → (Res → Option Res) → Option Res) := (133, a 0 0 [] [] 0 [], run)
theorem cx (K : Res → Option Res) : CtxOk Go.Proofs.Try.prog Γ0 byt0 eqs0 (X K) os := ⟨rfl, rfl, rfl, (fun p hp => by
 rcases List.mem_cons.1 hp with rfl | hp
 ·exact slices_nextPowerOfTwo.ok
 rcases List.mem_cons.1 hp with rfl | hp
 ·exact slices_xorshift_Next.ok
 cases hp), rfl, rfl, rfl, rfl⟩
theorem t0 (K : Res → Option Res) (k : St → Option Res) (it : St → (St → Option Res) → Option Res) (x8 x9 x10 x11 : Int) (x12 : List Int) (x13 : Int) (x14 : List Int) (x15 : Int) (x16 : List (List Cl)) : iterS (X K) 0 b0 it (s0 x8 x9 x10 x11 x12 x13 x14 x15 x16) k = l0s x8 x9 x10 x14 x15 x16 (fun x11 x12 x13 => it (s0 x8 x9 x10 x11 x12 x13 x14 x15 x16) k) (fun y1 => k (o0 x8 x9 x10 x14 x15 x16 y1)) x11 x12 x13 := by kernel_rfl
theorem i0 (K : Res → Option Res) (k : St → Option Res) (x8 x9 x10 : Int) (x14 : List Int) (x15 : Int) (x16 : List (List Cl)) : ∀ (n : Nat) (x11 : Int) (x12 : List Int) (x13 : Int), iter (X K) 0 b0 n (s0 x8 x9 x10 x11 x12 x13 x14 x15 x16) k = l0 x8 x9 x10 x14 x15 x16 (fun y1 => k (o0 x8 x9 x10 x14 x15 x16 y1)) n x11 x12 x13
 | 0, _, _, _ => rfl
 | n + 1, x11, x12, x13 => by
  rw [iter_succ, t0, show (fun x11 x12 x13 => iter (X K) 0 b0 n (s0 x8 x9 x10 x11 x12 x13 x14 x15 x16) k) = (fun x11 x12 x13 => l0 x8 x9 x10 x14 x15 x16 (fun y1 => k (o0 x8 x9 x10 x14 x15 x16 y1)) n x11 x12 x13) from funext fun x11 => funext fun x12 => funext fun x13 => i0 K k x8 x9 x10 x14 x15 x16 n x11 x12 x13]; rfl
theorem v0 {K : Res → Option Res} {l : List Lf} {k : St → Option Res} {r : Res} (h : p0 K l k = some r) : ∃ x8 x9 x10 x11 x12 x13 x14 x15 x16, l = [.i x8, .i x9, .i x10, .i x11, .q (.ints x12), .i x13, .q (.ints x14), .i x15, .q (.cells x16)] ∧ l0 x8 x9 x10 x14 x15 x16 (fun y1 => k (o0 x8 x9 x10 x14 x15 x16 y1)) fuel x11 x12 x13 = some r := by
 unfold p0 at h; split at h
 ·exact ⟨_, _, _, _, _, _, _, _, _, rfl, h⟩
 ·cases h
theorem w0 (K : Res → Option Res) : LpSound Go.Proofs.Try.prog (X K) 0 b0 := lp_ok ((cx K).ok laid) (by rw [show loopsOf b0 = [] from by kernel_rfl]; intro p hp; cases hp) rfl fun p hp hid => by
 rcases List.mem_cons.1 hp with rfl | hp
 ·intro st k r h1 h2; obtain ⟨x8, x9, x10, x11, x12, x13, x14, x15, x16, e, h⟩ := v0 (K := K) h2; have := St.like_eq (y := s0 x8 x9 x10 x11 x12 x13 x14 x15 x16) h1 (by kernel_rfl) e; subst this; exact ⟨fuel, (i0 K k x8 x9 x10 x14 x15 x16 fuel x11 x12 x13).trans h⟩
 cases hp
theorem tie (K : Res → Option Res) (a1 a2 : Int) (a3 a4 : List Int) (a5 : Int) (a6 : List (List Cl)) : exec (X K) c (entry 67 [one (.ow 0), one (.int .i64 a1), one (.int .i64 a2), one (.fn 95 [0])] [⟨[.int .i64], .ints a3, true, 0⟩] [[.tr 2 2 [.int .i64] (.ints a4), .int .i64 a5, .tr 2 2 [.int .i64, .int .i64, .bool] (.cells a6)]]) (endK (X K)) = g a1 a2 a3 a4 a5 a6 (fun r1 r2 r3 r4 => K (m r1 r2 r3 r4)) := Eq.trans (b := b a1 a2 a3 a4 a5 a6 (fun r1 r2 r3 r4 => K (m r1 r2 r3 r4))) (by kernel_rfl) (by rw [e])
theorem runv {l : List Lf} {K : Res → Option Res} {r : Res} (h : run l K = some r) : ∃ a1 a2 a3 a4 a5 a6, l = [.i a1, .i a2, .q (.ints a3), .q (.ints a4), .i a5, .q (.cells a6)] ∧ g a1 a2 a3 a4 a5 a6 (fun r1 r2 r3 r4 => K (m r1 r2 r3 r4)) = some r := by
 unfold run at h; split at h
 ·exact ⟨_, _, _, _, _, _, rfl, h⟩
 ·cases h
theorem ok : Con Go.Proofs.Try.prog con := con_of (fn := Go.Proofs.Try.f133) (c := c) (Fi := fi) (X := X) (fun_of laid (by kernel_rfl) (by kernel_rfl) (by kernel_rfl) rfl (by kernel_rfl) (by kernel_rfl) cx (fun _ => rfl) (fun _ => rfl) (fun K => by
 rw [show loopsOf c = [(0, b0)] from by kernel_rfl]; intro p hp
 rcases List.mem_cons.1 hp with rfl | hp
 ·exact w0 K
 cases hp)) fun xs rows boxes K r hl hr => by
 obtain ⟨a1, a2, a3, a4, a5, a6, e, h⟩ := runv hr
 have := St.like_eq (y := a a1 a2 a3 a4 a5 a6) hl (by kernel_rfl) e
 obtain ⟨rfl, rfl, rfl⟩ := argSt_inj this
 exact (tie K a1 a2 a3 a4 a5 a6).trans h
end slices_breakPatternsCmpFunc_int
namespace slices_order2CmpFunc_int
noncomputable def c : Code := bodyOf Go.Proofs.Try.f146
noncomputable def fi : Fin := ⟨Γ0, [(.tmp 10, 3), (.tmp 11, 3)], [[1], [1]], [], [([.int .i64], [1]), ([.sl [.int .i64] 8, .int .i64, .sl [.int .i64, .int .i64, .bool] 24], [0, 1, 0])], []⟩
noncomputable def m (a5 : List Int) (a6 : Int) (a7 : List (List Cl)) (r1 r2 r3 : Int) : Res := ⟨[⟨false, [.int .i64 r1]⟩, ⟨false, [.int .i64 r2]⟩], [], [], [[.int .i64 r3], [.tr 2 2 [.int .i64] (.ints a5), .int .i64 a6, .tr 2 2 [.int .i64, .int .i64, .bool] (.cells a7)]], []⟩
noncomputable def os : List (FuncId × St × (List Lf → (Res → Option Res) → Option Res)) := [impl_packed_1.con]
noncomputable def X (K : Res → Option Res) : Ctx := { Γ := Γ0, orc := orcOf os, io := [], share := [], mvl := [], bun := [], cut := [], own := [], cin := [], cout := [], lp := lpOf [], kl := [], nk := true, eqs := eqs0, byt := byt0, fin := finK fi K }
noncomputable def b (a1 : List Int) (a2 a3 a4 : Int) (a5 : List Int) (a6 : Int) (a7 : List (List Cl)) (R : Int → Int → Int → Option Res) : Option Res :=
 bif decide (0 ≤ a3) && decide (a3 < (a1.length : Int)) then (bif decide (0 ≤ a2) && decide (a2 < (a1.length : Int)) then (impl_packed_1.g (a1.getD a3.toNat 0) (a1.getD a2.toNat 0) a5 a6 a7 fun r8 =>
  bif decide (r8 < 0) then R a3 a2 (IntKind.i64.wrap (a4 + 1))
  else R a2 a3 a4)
  else none)
 else none
theorem gx : ∃ x : List Int → Int → Int → Int → List Int → Int → List (List Cl) → (Int → Int → Int → Option Res) → Option Res, x = b := ⟨_, rfl⟩
noncomputable def g : List Int → Int → Int → Int → List Int → Int → List (List Cl) → (Int → Int → Int → Option Res) → Option Res := Classical.choose gx
theorem e : g = b := Classical.choose_spec gx
noncomputable def run : List Lf → (Res → Option Res) → Option Res
 | [.q (.ints a1), .i a2, .i a3, .i a4, .q (.ints a5), .i a6, .q (.cells a7)], K => g a1 a2 a3 a4 a5 a6 a7 (fun r1 r2 r3 => K (m a5 a6 a7 r1 r2 r3))
 | _, _ => none
noncomputable def a (a1 : List Int) (a2 a3 a4 : Int) (a5 : List Int) (a6 : Int) (a7 : List (List Cl)) : St := argSt [one (.tr 0 1 [.int .i64] (.ints a1)), one (.int .i64 a2), one (.int .i64 a3), one (.bp 0 0), one (.fn 95 [1])] [] [[.int .i64 a4], [.tr 2 2 [.int .i64] (.ints a5), .int .i64 a6, .tr 2 2 [.int .i64, .int .i64, .bool] (.cells a7)]]
noncomputable def con : FuncId × St × (List Lf → (Res → Option Res) → Option Res) := (146, a [] 0 0 0 [] 0 [], run)
theorem cx (K : Res → Option Res) : CtxOk Go.Proofs.Try.prog Γ0 byt0 eqs0 (X K) os := ⟨rfl, rfl, rfl, (fun p hp => by
 rcases List.mem_cons.1 hp with rfl | hp
 ·exact impl_packed_1.ok
 cases hp), rfl, rfl, rfl, rfl⟩
theorem tie (K : Res → Option Res) (a1 : List Int) (a2 a3 a4 : Int) (a5 : List Int) (a6 : Int) (a7 : List (List Cl)) : exec (X K) c (entry 32 [one (.tr 0 1 [.int .i64] (.ints a1)), one (.int .i64 a2), one (.int .i64 a3), one (.bp 0 0), one (.fn 95 [1])] [] [[.int .i64 a4], [.tr 2 2 [.int .i64] (.ints a5), .int .i64 a6, .tr 2 2 [.int .i64, .int .i64, .bool] (.cells a7)]]) (endK (X K)) = g a1 a2 a3 a4 a5 a6 a7 (fun r1 r2 r3 => K (m a5 a6 a7 r1 r2 r3)) := Eq.trans (b := b a1 a2 a3 a4 a5 a6 a7 (fun r1 r2 r3 => K (m a5 a6 a7 r1 r2 r3))) (by kernel_rfl) (by rw [e])
theorem runv {l : List Lf} {K : Res → Option Res} {r : Res} (h : run l K = some r) : ∃ a1 a2 a3 a4 a5 a6 a7, l = [.q (.ints a1), .i a2, .i a3, .i a4, .q (.ints a5), .i a6, .q (.cells a7)] ∧ g a1 a2 a3 a4 a5 a6 a7 (fun r1 r2 r3 => K (m a5 a6 a7 r1 r2 r3)) = some r := by
 unfold run at h; split at h
 ·exact ⟨_, _, _, _, _, _, _, rfl, h⟩
 ·cases h
theorem ok : Con Go.Proofs.Try.prog con := con_of (fn := Go.Proofs.Try.f146) (c := c) (Fi := fi) (X := X) (fun_of laid (by kernel_rfl) (by kernel_rfl) (by kernel_rfl) rfl (by kernel_rfl) (by kernel_rfl) cx (fun _ => rfl) (fun _ => rfl) (fun K => by
 rw [show loopsOf c = [] from by kernel_rfl]; intro p hp
 cases hp)) fun xs rows boxes K r hl hr => by
 obtain ⟨a1, a2, a3, a4, a5, a6, a7, e, h⟩ := runv hr
 have := St.like_eq (y := a a1 a2 a3 a4 a5 a6 a7) hl (by kernel_rfl) e
 obtain ⟨rfl, rfl, rfl⟩ := argSt_inj this
 exact (tie K a1 a2 a3 a4 a5 a6 a7).trans h
end slices_order2CmpFunc_int
namespace slices_medianCmpFunc_int
noncomputable def c : Code := bodyOf Go.Proofs.Try.f145
noncomputable def fi : Fin := ⟨Γ0, [(.tmp 12, 3)], [[1]], [], [([.int .i64], [1]), ([.sl [.int .i64] 8, .int .i64, .sl [.int .i64, .int .i64, .bool] 24], [0, 1, 0])], []⟩
noncomputable def m (a6 : List Int) (a7 : Int) (a8 : List (List Cl)) (r1 r2 : Int) : Res := ⟨[⟨false, [.int .i64 r1]⟩], [], [], [[.int .i64 r2], [.tr 2 2 [.int .i64] (.ints a6), .int .i64 a7, .tr 2 2 [.int .i64, .int .i64, .bool] (.cells a8)]], []⟩
noncomputable def os : List (FuncId × St × (List Lf → (Res → Option Res) → Option Res)) := [slices_order2CmpFunc_int.con]
noncomputable def X (K : Res → Option Res) : Ctx := { Γ := Γ0, orc := orcOf os, io := [], share := [], mvl := [], bun := [], cut := [], own := [], cin := [], cout := [], lp := lpOf [], kl := [], nk := true, eqs := eqs0, byt := byt0, fin := finK fi K }
noncomputable def b (a1 : List Int) (a2 a3 a4 a5 : Int) (a6 : List Int) (a7 : Int) (a8 : List (List Cl)) (R : Int → Int → Option Res) : Option Res :=
 slices_order2CmpFunc_int.g a1 a2 a3 a5 a6 a7 a8 fun r9 r10 r11 =>
 slices_order2CmpFunc_int.g a1 r10 a4 r11 a6 a7 a8 fun r12 r13 r14 =>
 slices_order2CmpFunc_int.g a1 r9 r12 r14 a6 a7 a8 fun r15 r16 r17 =>
 R r16 r17
theorem gx : ∃ x : List Int → Int → Int → Int → Int → List Int → Int → List (List Cl) → (Int → Int → Option Res) → Option Res, x = b := ⟨_, rfl⟩
noncomputable def g : List Int → Int → Int → Int → Int → List Int → Int → List (List Cl) → (Int → Int → Option Res) → Option Res := Classical.choose gx
theorem e : g = b := Classical.choose_spec gx
noncomputable def run : List Lf → (Res → Option Res) → Option Res
 | [.q (.ints a1), .i a2, .i a3, .i a4, .i a5, .q (.ints a6), .i a7, .q (.cells a8)], K => g a1 a2 a3 a4 a5 a6 a7 a8 (fun r1 r2 => K (m a6 a7 a8 r1 r2))
 | _, _ => none
noncomputable def a (a1 : List Int) (a2 a3 a4 a5 : Int) (a6 : List Int) (a7 : Int) (a8 : List (List Cl)) : St := argSt [one (.tr 0 1 [.int .i64] (.ints a1)), one (.int .i64 a2), one (.int .i64 a3), one (.int .i64 a4), one (.bp 0 0), one (.fn 95 [1])] [] [[.int .i64 a5], [.tr 2 2 [.int .i64] (.ints a6), .int .i64 a7, .tr 2 2 [.int .i64, .int .i64, .bool] (.cells a8)]]
noncomputable def con : FuncId × St × (List Lf → (Res → Option Res) → Option Res) := (145, a [] 0 0 0 0 [] 0 [], run)
theorem cx (K : Res → Option Res) : CtxOk Go.Proofs.Try.prog Γ0 byt0 eqs0 (X K) os := ⟨rfl, rfl, rfl, (fun p hp => by
 rcases List.mem_cons.1 hp with rfl | hp
 ·exact slices_order2CmpFunc_int.ok
 cases hp), rfl, rfl, rfl, rfl⟩
theorem tie (K : Res → Option Res) (a1 : List Int) (a2 a3 a4 a5 : Int) (a6 : List Int) (a7 : Int) (a8 : List (List Cl)) : exec (X K) c (entry 41 [one (.tr 0 1 [.int .i64] (.ints a1)), one (.int .i64 a2), one (.int .i64 a3), one (.int .i64 a4), one (.bp 0 0), one (.fn 95 [1])] [] [[.int .i64 a5], [.tr 2 2 [.int .i64] (.ints a6), .int .i64 a7, .tr 2 2 [.int .i64, .int .i64, .bool] (.cells a8)]]) (endK (X K)) = g a1 a2 a3 a4 a5 a6 a7 a8 (fun r1 r2 => K (m a6 a7 a8 r1 r2)) := Eq.trans (b := b a1 a2 a3 a4 a5 a6 a7 a8 (fun r1 r2 => K (m a6 a7 a8 r1 r2))) (by kernel_rfl) (by rw [e])
theorem runv {l : List Lf} {K : Res → Option Res} {r : Res} (h : run l K = some r) : ∃ a1 a2 a3 a4 a5 a6 a7 a8, l = [.q (.ints a1), .i a2, .i a3, .i a4, .i a5, .q (.ints a6), .i a7, .q (.cells a8)] ∧ g a1 a2 a3 a4 a5 a6 a7 a8 (fun r1 r2 => K (m a6 a7 a8 r1 r2)) = some r := by
 unfold run at h; split at h
 ·exact ⟨_, _, _, _, _, _, _, _, rfl, h⟩
 ·cases h
theorem ok : Con Go.Proofs.Try.prog con := con_of (fn := Go.Proofs.Try.f145) (c := c) (Fi := fi) (X := X) (fun_of laid (by kernel_rfl) (by kernel_rfl) (by kernel_rfl) rfl (by kernel_rfl) (by kernel_rfl) cx (fun _ => rfl) (fun _ => rfl) (fun K => by
 rw [show loopsOf c = [] from by kernel_rfl]; intro p hp
 cases hp)) fun xs rows boxes K r hl hr => by
 obtain ⟨a1, a2, a3, a4, a5, a6, a7, a8, e, h⟩ := runv hr
 have := St.like_eq (y := a a1 a2 a3 a4 a5 a6 a7 a8) hl (by kernel_rfl) e
 obtain ⟨rfl, rfl, rfl⟩ := argSt_inj this
 exact (tie K a1 a2 a3 a4 a5 a6 a7 a8).trans h
end slices_medianCmpFunc_int
namespace slices_medianAdjacentCmpFunc_int
noncomputable def c : Code := bodyOf Go.Proofs.Try.f144
noncomputable def fi : Fin := ⟨Γ0, [(.tmp 8, 3)], [[1]], [], [([.int .i64], [1]), ([.sl [.int .i64] 8, .int .i64, .sl [.int .i64, .int .i64, .bool] 24], [0, 1, 0])], []⟩
noncomputable def m (a4 : List Int) (a5 : Int) (a6 : List (List Cl)) (r1 r2 : Int) : Res := ⟨[⟨false, [.int .i64 r1]⟩], [], [], [[.int .i64 r2], [.tr 2 2 [.int .i64] (.ints a4), .int .i64 a5, .tr 2 2 [.int .i64, .int .i64, .bool] (.cells a6)]], []⟩
noncomputable def os : List (FuncId × St × (List Lf → (Res → Option Res) → Option Res)) := [slices_medianCmpFunc_int.con]
noncomputable def X (K : Res → Option Res) : Ctx := { Γ := Γ0, orc := orcOf os, io := [], share := [], mvl := [], bun := [], cut := [], own := [], cin := [], cout := [], lp := lpOf [], kl := [], nk := true, eqs := eqs0, byt := byt0, fin := finK fi K }
noncomputable def b (a1 : List Int) (a2 a3 : Int) (a4 : List Int) (a5 : Int) (a6 : List (List Cl)) (R : Int → Int → Option Res) : Option Res :=
 slices_medianCmpFunc_int.g a1 (IntKind.i64.wrap (a2 - 1)) a2 (IntKind.i64.wrap (a2 + 1)) a3 a4 a5 a6 fun r7 r8 =>
 R r7 r8
theorem gx : ∃ x : List Int → Int → Int → List Int → Int → List (List Cl) → (Int → Int → Option Res) → Option Res, x = b := ⟨_, rfl⟩
noncomputable def g : List Int → Int → Int → List Int → Int → List (List Cl) → (Int → Int → Option Res) → Option Res := Classical.choose gx
theorem e : g = b := Classical.choose_spec gx
noncomputable def run : List Lf → (Res → Option Res) → Option Res
 | [.q (.ints a1), .i a2, .i a3, .q (.ints a4), .i a5, .q (.cells a6)], K => g a1 a2 a3 a4 a5 a6 (fun r1 r2 => K (m a4 a5 a6 r1 r2))
 | _, _ => none
noncomputable def a (a1 : List Int) (a2 a3 : Int) (a4 : List Int) (a5 : Int) (a6 : List (List Cl)) : St := argSt [one (.tr 0 1 [.int .i64] (.ints a1)), one (.int .i64 a2), one (.bp 0 0), one (.fn 95 [1])] [] [[.int .i64 a3], [.tr 2 2 [.int .i64] (.ints a4), .int .i64 a5, .tr 2 2 [.int .i64, .int .i64, .bool] (.cells a6)]]
noncomputable def con : FuncId × St × (List Lf → (Res → Option Res) → Option Res) := (144, a [] 0 0 [] 0 [], run)
theorem cx (K : Res → Option Res) : CtxOk Go.Proofs.Try.prog Γ0 byt0 eqs0 (X K) os := ⟨rfl, rfl, rfl, (fun p hp => by
 rcases List.mem_cons.1 hp with rfl | hp
 ·exact slices_medianCmpFunc_int.ok
 cases hp), rfl, rfl, rfl, rfl⟩
theorem tie (K : Res → Option Res) (a1 : List Int) (a2 a3 : Int) (a4 : List Int) (a5 : Int) (a6 : List (List Cl)) : exec (X K) c (entry 18 [one (.tr 0 1 [.int .i64] (.ints a1)), one (.int .i64 a2), one (.bp 0 0), one (.fn 95 [1])] [] [[.int .i64 a3], [.tr 2 2 [.int .i64] (.ints a4), .int .i64 a5, .tr 2 2 [.int .i64, .int .i64, .bool] (.cells a6)]]) (endK (X K)) = g a1 a2 a3 a4 a5 a6 (fun r1 r2 => K (m a4 a5 a6 r1 r2)) := Eq.trans (b := b a1 a2 a3 a4 a5 a6 (fun r1 r2 => K (m a4 a5 a6 r1 r2))) (by kernel_rfl) (by rw [e])
theorem runv {l : List Lf} {K : Res → Option Res} {r : Res} (h : run l K = some r) : ∃ a1 a2 a3 a4 a5 a6, l = [.q (.ints a1), .i a2, .i a3, .q (.ints a4), .i a5, .q (.cells a6)] ∧ g a1 a2 a3 a4 a5 a6 (fun r1 r2 => K (m a4 a5 a6 r1 r2)) = some r := by
 unfold run at h; split at h
 ·exact ⟨_, _, _, _, _, _, rfl, h⟩
 ·cases h
theorem ok : Con Go.Proofs.Try.prog con := con_of (fn := Go.Proofs.Try.f144) (c := c) (Fi := fi) (X := X) (fun_of laid (by kernel_rfl) (by kernel_rfl) (by kernel_rfl) rfl (by kernel_rfl) (by kernel_rfl) cx (fun _ => rfl) (fun _ => rfl) (fun K => by
 rw [show loopsOf c = [] from by kernel_rfl]; intro p hp
 cases hp)) fun xs rows boxes K r hl hr => by
 obtain ⟨a1, a2, a3, a4, a5, a6, e, h⟩ := runv hr
 have := St.like_eq (y := a a1 a2 a3 a4 a5 a6) hl (by kernel_rfl) e
 obtain ⟨rfl, rfl, rfl⟩ := argSt_inj this
 exact (tie K a1 a2 a3 a4 a5 a6).trans h
end slices_medianAdjacentCmpFunc_int
namespace slices_choosePivotCmpFunc_int
noncomputable def c : Code := bodyOf Go.Proofs.Try.f134
noncomputable def fi : Fin := ⟨Γ0, [(.tmp 8, 3), (.tmp 9, 145)], [[1], [1]], [], [([.sl [.int .i64] 8, .int .i64, .sl [.int .i64, .int .i64, .bool] 24], [0, 1, 0])], []⟩
noncomputable def m (a4 : List Int) (a5 : Int) (a6 : List (List Cl)) (r1 r2 : Int) : Res := ⟨[⟨false, [.int .i64 r1]⟩, ⟨false, [.int .i64 r2]⟩], [], [], [[.tr 2 2 [.int .i64] (.ints a4), .int .i64 a5, .tr 2 2 [.int .i64, .int .i64, .bool] (.cells a6)]], []⟩
noncomputable def os : List (FuncId × St × (List Lf → (Res → Option Res) → Option Res)) := [slices_medianAdjacentCmpFunc_int.con, slices_medianCmpFunc_int.con]
noncomputable def X (K : Res → Option Res) : Ctx := { Γ := Γ0, orc := orcOf os, io := [], share := [], mvl := [], bun := [], cut := [], own := [], cin := [], cout := [], lp := lpOf [], kl := [], nk := true, eqs := eqs0, byt := byt0, fin := finK fi K }
noncomputable def j2  (R : Int → Int → Option Res) (x19 x20 : Int) : Option Res :=
 bif (x20 == 0) then R x19 1
 else bif (x20 == 12) then R x19 2
 else R x19 0
noncomputable def j1 (a1 a4 : List Int) (a5 : Int) (a6 : List (List Cl)) (R : Int → Int → Option Res) (x13 x14 x15 x16 : Int) : Option Res :=
 slices_medianCmpFunc_int.g a1 x13 x14 x15 x16 a4 a5 a6 fun r17 r18 =>
 j2 R r17 r18
noncomputable def b (a1 : List Int) (a2 a3 : Int) (a4 : List Int) (a5 : Int) (a6 : List (List Cl)) (R : Int → Int → Option Res) : Option Res :=
 bif decide (8 ≤ IntKind.i64.wrap (a3 - a2)) then (bif decide (50 ≤ IntKind.i64.wrap (a3 - a2)) then (slices_medianAdjacentCmpFunc_int.g a1 (IntKind.i64.wrap (a2 + (IntKind.i64.wrap ((IntKind.i64.wrap ((IntKind.i64.wrap (a3 - a2)).tdiv 4)) * 1)))) 0 a4 a5 a6 fun r7 r8 =>
  slices_medianAdjacentCmpFunc_int.g a1 (IntKind.i64.wrap (a2 + (IntKind.i64.wrap ((IntKind.i64.wrap ((IntKind.i64.wrap (a3 - a2)).tdiv 4)) * 2)))) r8 a4 a5 a6 fun r9 r10 =>
  slices_medianAdjacentCmpFunc_int.g a1 (IntKind.i64.wrap (a2 + (IntKind.i64.wrap ((IntKind.i64.wrap ((IntKind.i64.wrap (a3 - a2)).tdiv 4)) * 3)))) r10 a4 a5 a6 fun r11 r12 =>
  j1 a1 a4 a5 a6 R r7 r9 r11 r12)
  else j1 a1 a4 a5 a6 R (IntKind.i64.wrap (a2 + (IntKind.i64.wrap ((IntKind.i64.wrap ((IntKind.i64.wrap (a3 - a2)).tdiv 4)) * 1)))) (IntKind.i64.wrap (a2 + (IntKind.i64.wrap ((IntKind.i64.wrap ((IntKind.i64.wrap (a3 - a2)).tdiv 4)) * 2)))) (IntKind.i64.wrap (a2 + (IntKind.i64.wrap ((IntKind.i64.wrap ((IntKind.i64.wrap (a3 - a2)).tdiv 4)) * 3)))) 0)
 else j2 R (IntKind.i64.wrap (a2 + (IntKind.i64.wrap ((IntKind.i64.wrap ((IntKind.i64.wrap (a3 - a2)).tdiv 4)) * 2)))) 0
theorem gx : ∃ x : List Int → Int → Int → List Int → Int → List (List Cl) → (Int → Int → Option Res) → Option Res, x = b := ⟨_, rfl⟩
noncomputable def g : List Int → Int → Int → List Int → Int → List (List Cl) → (Int → Int → Option Res) → Option Res := Classical.choose gx
theorem e : g = b := Classical.choose_spec gx
noncomputable def run : List Lf → (Res → Option Res) → Option Res
 | [.q (.ints a1), .i a2, .i a3, .q (.ints a4), .i a5, .q (.cells a6)], K => g a1 a2 a3 a4 a5 a6 (fun r1 r2 => K (m a4 a5 a6 r1 r2))
 | _, _ => none
noncomputable def a (a1 : List Int) (a2 a3 : Int) (a4 : List Int) (a5 : Int) (a6 : List (List Cl)) : St := argSt [one (.tr 0 1 [.int .i64] (.ints a1)), one (.int .i64 a2), one (.int .i64 a3), one (.fn 95 [0])] [] [[.tr 2 2 [.int .i64] (.ints a4), .int .i64 a5, .tr 2 2 [.int .i64, .int .i64, .bool] (.cells a6)]]
noncomputable def con : FuncId × St × (List Lf → (Res → Option Res) → Option Res) := (134, a [] 0 0 [] 0 [], run)
theorem cx (K : Res → Option Res) : CtxOk Go.Proofs.Try.prog Γ0 byt0 eqs0 (X K) os := ⟨rfl, rfl, rfl, (fun p hp => by
 rcases List.mem_cons.1 hp with rfl | hp
 ·exact slices_medianAdjacentCmpFunc_int.ok
 rcases List.mem_cons.1 hp with rfl | hp
 ·exact slices_medianCmpFunc_int.ok
 cases hp), rfl, rfl, rfl, rfl⟩
theorem tie (K : Res → Option Res) (a1 : List Int) (a2 a3 : Int) (a4 : List Int) (a5 : Int) (a6 : List (List Cl)) : exec (X K) c (entry 63 [one (.tr 0 1 [.int .i64] (.ints a1)), one (.int .i64 a2), one (.int .i64 a3), one (.fn 95 [0])] [] [[.tr 2 2 [.int .i64] (.ints a4), .int .i64 a5, .tr 2 2 [.int .i64, .int .i64, .bool] (.cells a6)]]) (endK (X K)) = g a1 a2 a3 a4 a5 a6 (fun r1 r2 => K (m a4 a5 a6 r1 r2)) := Eq.trans (b := b a1 a2 a3 a4 a5 a6 (fun r1 r2 => K (m a4 a5 a6 r1 r2))) (by kernel_rfl) (by rw [e])
theorem runv {l : List Lf} {K : Res → Option Res} {r : Res} (h : run l K = some r) : ∃ a1 a2 a3 a4 a5 a6, l = [.q (.ints a1), .i a2, .i a3, .q (.ints a4), .i a5, .q (.cells a6)] ∧ g a1 a2 a3 a4 a5 a6 (fun r1 r2 => K (m a4 a5 a6 r1 r2)) = some r := by
 unfold run at h; split at h
 ·exact ⟨_, _, _, _, _, _, rfl, h⟩
 ·cases h
theorem ok : Con Go.Proofs.Try.prog con := con_of (fn := Go.Proofs.Try.f134) (c := c) (Fi := fi) (X := X) (fun_of laid (by kernel_rfl) (by kernel_rfl) (by kernel_rfl) rfl (by kernel_rfl) (by kernel_rfl) cx (fun _ => rfl) (fun _ => rfl) (fun K => by
 rw [show loopsOf c = [] from by kernel_rfl]; intro p hp
 cases hp)) fun xs rows boxes K r hl hr => by
 obtain ⟨a1, a2, a3, a4, a5, a6, e, h⟩ := runv hr
 have := St.like_eq (y := a a1 a2 a3 a4 a5 a6) hl (by kernel_rfl) e
 obtain ⟨rfl, rfl, rfl⟩ := argSt_inj this
 exact (tie K a1 a2 a3 a4 a5 a6).trans h
end slices_choosePivotCmpFunc_int
namespace slices_reverseRangeCmpFunc_int
noncomputable def c : Code := bodyOf Go.Proofs.Try.f135
noncomputable def fi : Fin := ⟨Γ0, [], [], [true], [([.sl [.int .i64] 8, .int .i64, .sl [.int .i64, .int .i64, .bool] 24], [0, 1, 0])], []⟩
noncomputable def m (r1 r2 : List Int) (r3 : Int) (r4 : List (List Cl)) : Res := ⟨[], [some ⟨[.int .i64], .ints r1, true, 0⟩], [], [[.tr 2 2 [.int .i64] (.ints r2), .int .i64 r3, .tr 2 2 [.int .i64, .int .i64, .bool] (.cells r4)]], []⟩
noncomputable def b0 : Code := codeAt c [1, 1, 0, 0]
noncomputable def s0 (x7 x8 : Int) (x9 x10 : List Int) (x11 : Int) (x12 : List (List Cl)) : St := ⟨mkT 34 [(0, one (.ow 0)), (8, one (.int .i64 x7)), (9, one (.int .i64 x8))], [(0, ⟨[.int .i64], .ints x9, true, 0⟩)], [(0, [.tr 2 2 [.int .i64] (.ints x10), .int .i64 x11, .tr 2 2 [.int .i64, .int .i64, .bool] (.cells x12)])]⟩
noncomputable def l0s (x10 : List Int) (x11 : Int) (x12 : List (List Cl)) (rec : Int → Int → List Int → Option Res) (k : List Int → Option Res) (x7 x8 : Int) (x9 : List Int) : Option Res :=
 bif decide (x7 < x8) then (bif decide (0 ≤ x8) && decide (x8 < (x9.length : Int)) then (bif decide (0 ≤ x7) && decide (x7 < (x9.length : Int)) then (bif decide (0 ≤ x7) && decide (x7 < (x9.length : Int)) then (bif decide (0 ≤ x8) && decide (x8 < ((x9.set x7.toNat (x9.getD x8.toNat 0)).length : Int)) then rec (IntKind.i64.wrap (x7 + 1)) (IntKind.i64.wrap (x8 - 1)) ((x9.set x7.toNat (x9.getD x8.toNat 0)).set x8.toNat (x9.getD x7.toNat 0))
  else none)
  else none)
  else none)
  else none)
 else k x9
noncomputable def l0 (x10 : List Int) (x11 : Int) (x12 : List (List Cl)) (k : List Int → Option Res) : Nat → Int → Int → List Int → Option Res
 | 0, _, _, _ => none
 | n + 1, x7, x8, x9 => l0s x10 x11 x12 (fun x7 x8 x9 => l0 x10 x11 x12 k n x7 x8 x9) k x7 x8 x9
noncomputable def o0 (x10 : List Int) (x11 : Int) (x12 : List (List Cl)) (y1 : List Int) : St := ⟨mkT 34 [], [(0, ⟨[.int .i64], .ints y1, true, 0⟩)], [(0, [.tr 2 2 [.int .i64] (.ints x10), .int .i64 x11, .tr 2 2 [.int .i64, .int .i64, .bool] (.cells x12)])]⟩
noncomputable def p0 (K : Res → Option Res) : List Lf → (St → Option Res) → Option Res
 | [.i x7, .i x8, .q (.ints x9), .q (.ints x10), .i x11, .q (.cells x12)], k => l0 x10 x11 x12 (fun y1 => k (o0 x10 x11 x12 y1)) fuel x7 x8 x9
 | _, _ => none
noncomputable def os : List (FuncId × St × (List Lf → (Res → Option Res) → Option Res)) := []
noncomputable def X (K : Res → Option Res) : Ctx := { Γ := Γ0, orc := orcOf os, io := [], share := [], mvl := [], bun := [], cut := [], own := [], cin := [(0, ⟨[0, 8, 9], [(0, 0)], [0], [], [], []⟩)], cout := [(0, ⟨[], [(0, 0)], [0], [], [], []⟩)], lp := lpOf [(0, s0 0 0 [] [] 0 [], p0 K)], kl := [], nk := true, eqs := eqs0, byt := byt0, fin := finK fi K }
noncomputable def b (a1 a2 : Int) (a3 a4 : List Int) (a5 : Int) (a6 : List (List Cl)) (R : List Int → List Int → Int → List (List Cl) → Option Res) : Option Res :=
 l0 a4 a5 a6 (fun y13 =>
 R y13 a4 a5 a6) fuel a1 (IntKind.i64.wrap (a2 - 1)) a3
theorem gx : ∃ x : Int → Int → List Int → List Int → Int → List (List Cl) → (List Int → List Int → Int → List (List Cl) → Option Res) → Option Res, x = b := ⟨_, rfl⟩
noncomputable def g : Int → Int → List Int → List Int → Int → List (List Cl) → (List Int → List Int → Int → List (List Cl) → Option Res) → Option Res := Classical.choose gx
theorem e : g = b := Classical.choose_spec gx
noncomputable def run : List Lf → (Res → Option Res) → Option Res
 | [.i a1, .i a2, .q (.ints a3), .q (.ints a4), .i a5, .q (.cells a6)], K => g a1 a2 a3 a4 a5 a6 (fun r1 r2 r3 r4 => K (m r1 r2 r3 r4))
 | _, _ => none
noncomputable def a (a1 a2 : Int) (a3 a4 : List Int) (a5 : Int) (a6 : List (List Cl)) : St := argSt [one (.ow 0), one (.int .i64 a1), one (.int .i64 a2), one (.fn 95 [0])] [⟨[.int .i64], .ints a3, true, 0⟩] [[.tr 2 2 [.int .i64] (.ints a4), .int .i64 a5, .tr 2 2 [.int .i64, .int .i64, .bool] (.cells a6)]]
noncomputable def con : FuncId × St × (List Lf → (Res → Option Res) → Option Res) := (135, a 0 0 [] [] 0 [], run)
theorem cx (K : Res → Option Res) : CtxOk Go.Proofs.Try.prog Γ0 byt0 eqs0 (X K) os := ⟨rfl, rfl, rfl, (fun p hp => by
 cases hp), rfl, rfl, rfl, rfl⟩
theorem t0 (K : Res → Option Res) (k : St → Option Res) (it : St → (St → Option Res) → Option Res) (x7 x8 : Int) (x9 x10 : List Int) (x11 : Int) (x12 : List (List Cl)) : iterS (X K) 0 b0 it (s0 x7 x8 x9 x10 x11 x12) k = l0s x10 x11 x12 (fun x7 x8 x9 => it (s0 x7 x8 x9 x10 x11 x12) k) (fun y1 => k (o0 x10 x11 x12 y1)) x7 x8 x9 := by kernel_rfl
theorem i0 (K : Res → Option Res) (k : St → Option Res) (x10 : List Int) (x11 : Int) (x12 : List (List Cl)) : ∀ (n : Nat) (x7 x8 : Int) (x9 : List Int), iter (X K) 0 b0 n (s0 x7 x8 x9 x10 x11 x12) k = l0 x10 x11 x12 (fun y1 => k (o0 x10 x11 x12 y1)) n x7 x8 x9
 | 0, _, _, _ => rfl
 | n + 1, x7, x8, x9 => by
  rw [iter_succ, t0, show (fun x7 x8 x9 => iter (X K) 0 b0 n (s0 x7 x8 x9 x10 x11 x12) k) = (fun x7 x8 x9 => l0 x10 x11 x12 (fun y1 => k (o0 x10 x11 x12 y1)) n x7 x8 x9) from funext fun x7 => funext fun x8 => funext fun x9 => i0 K k x10 x11 x12 n x7 x8 x9]; rfl
theorem v0 {K : Res → Option Res} {l : List Lf} {k : St → Option Res} {r : Res} (h : p0 K l k = some r) : ∃ x7 x8 x9 x10 x11 x12, l = [.i x7, .i x8, .q (.ints x9), .q (.ints x10), .i x11, .q (.cells x12)] ∧ l0 x10 x11 x12 (fun y1 => k (o0 x10 x11 x12 y1)) fuel x7 x8 x9 = some r := by
 unfold p0 at h; split at h
 ·exact ⟨_, _, _, _, _, _, rfl, h⟩
 ·cases h
theorem w0 (K : Res → Option Res) : LpSound Go.Proofs.Try.prog (X K) 0 b0 := lp_ok ((cx K).ok laid) (by rw [show loopsOf b0 = [] from by kernel_rfl]; intro p hp; cases hp) rfl fun p hp hid => by
 rcases List.mem_cons.1 hp with rfl | hp
 ·intro st k r h1 h2; obtain ⟨x7, x8, x9, x10, x11, x12, e, h⟩ := v0 (K := K) h2; have := St.like_eq (y := s0 x7 x8 x9 x10 x11 x12) h1 (by kernel_rfl) e; subst this; exact ⟨fuel, (i0 K k x10 x11 x12 fuel x7 x8 x9).trans h⟩
 cases hp
theorem tie (K : Res → Option Res) (a1 a2 : Int) (a3 a4 : List Int) (a5 : Int) (a6 : List (List Cl)) : exec (X K) c (entry 34 [one (.ow 0), one (.int .i64 a1), one (.int .i64 a2), one (.fn 95 [0])] [⟨[.int .i64], .ints a3, true, 0⟩] [[.tr 2 2 [.int .i64] (.ints a4), .int .i64 a5, .tr 2 2 [.int .i64, .int .i64, .bool] (.cells a6)]]) (endK (X K)) = g a1 a2 a3 a4 a5 a6 (fun r1 r2 r3 r4 => K (m r1 r2 r3 r4)) := Eq.trans (b := b a1 a2 a3 a4 a5 a6 (fun r1 r2 r3 r4 => K (m r1 r2 r3 r4))) (by kernel_rfl) (by rw [e])
theorem runv {l : List Lf} {K : Res → Option Res} {r : Res} (h : run l K = some r) : ∃ a1 a2 a3 a4 a5 a6, l = [.i a1, .i a2, .q (.ints a3), .q (.ints a4), .i a5, .q (.cells a6)] ∧ g a1 a2 a3 a4 a5 a6 (fun r1 r2 r3 r4 => K (m r1 r2 r3 r4)) = some r := by
 unfold run at h; split at h
 ·exact ⟨_, _, _, _, _, _, rfl, h⟩
 ·cases h
theorem ok : Con Go.Proofs.Try.prog con := con_of (fn := Go.Proofs.Try.f135) (c := c) (Fi := fi) (X := X) (fun_of laid (by kernel_rfl) (by kernel_rfl) (by kernel_rfl) rfl (by kernel_rfl) (by kernel_rfl) cx (fun _ => rfl) (fun _ => rfl) (fun K => by
 rw [show loopsOf c = [(0, b0)] from by kernel_rfl]; intro p hp
 rcases List.mem_cons.1 hp with rfl | hp
 ·exact w0 K
 cases hp)) fun xs rows boxes K r hl hr => by
 obtain ⟨a1, a2, a3, a4, a5, a6, e, h⟩ := runv hr
 have := St.like_eq (y := a a1 a2 a3 a4 a5 a6) hl (by kernel_rfl) e
 obtain ⟨rfl, rfl, rfl⟩ := argSt_inj this
 exact (tie K a1 a2 a3 a4 a5 a6).trans h
end slices_reverseRangeCmpFunc_int
namespace slices_partialInsertionSortCmpFunc_int
noncomputable def c : Code := bodyOf Go.Proofs.Try.f136
noncomputable def fi : Fin := ⟨Γ0, [(.tmp 8, 4)], [[1]], [true], [([.sl [.int .i64] 8, .int .i64, .sl [.int .i64, .int .i64, .bool] 24], [0, 1, 0])], []⟩
noncomputable def m (r1 : Bool) (r2 r3 : List Int) (r4 : Int) (r5 : List (List Cl)) : Res := ⟨[⟨false, [.bool r1]⟩], [some ⟨[.int .i64], .ints r2, true, 0⟩], [], [[.tr 2 2 [.int .i64] (.ints r3), .int .i64 r4, .tr 2 2 [.int .i64, .int .i64, .bool] (.cells r5)]], []⟩
noncomputable def b0 : Code := codeAt c [1, 1, 0, 1, 0, 0]
noncomputable def b2 : Code := codeAt c [1, 1, 0, 1, 0, 0, 1, 0, 0, 0, 0, 0]
noncomputable def b4 : Code := codeAt c [1, 1, 0, 1, 0, 0, 1, 0, 0, 1, 1, 1, 1, 0, 1, 0, 1, 0, 0]
noncomputable def b6 : Code := codeAt c [1, 1, 0, 1, 0, 0, 1, 0, 0, 1, 1, 1, 1, 1, 1, 0, 1, 0, 0]
noncomputable def s2 (x15 x16 x17 x18 : Int) (x19 x20 : List Int) (x21 : Int) (x22 : List (List Cl)) : St := ⟨mkT 141 [(0, one (.ow 0)), (1, one (.int .i64 x15)), (2, one (.int .i64 x16)), (3, one (.fn 95 [0])), (9, one (.int .i64 x17)), (10, one (.int .i64 x18))], [(0, ⟨[.int .i64], .ints x19, true, 0⟩)], [(0, [.tr 2 2 [.int .i64] (.ints x20), .int .i64 x21, .tr 2 2 [.int .i64, .int .i64, .bool] (.cells x22)])]⟩
noncomputable def l2s (x15 x16 x18 : Int) (x19 x20 : List Int) (x21 : Int) (x22 : List (List Cl)) (rec : Int → Option Res) (k : Int → Option Res) (x17 : Int) : Option Res :=
 bif decide (x17 < x16) then (bif decide (0 ≤ x17) && decide (x17 < (x19.length : Int)) then (bif decide (0 ≤ IntKind.i64.wrap (x17 - 1)) && decide (IntKind.i64.wrap (x17 - 1) < (x19.length : Int)) then (impl_packed_1.g (x19.getD x17.toNat 0) (x19.getD ((IntKind.i64.wrap (x17 - 1)).toNat) 0) x20 x21 x22 fun r23 =>
  bif !(decide (r23 < 0)) then rec (IntKind.i64.wrap (x17 + 1))
  else k x17)
  else none)
  else none)
 else k x17
noncomputable def l2 (x15 x16 x18 : Int) (x19 x20 : List Int) (x21 : Int) (x22 : List (List Cl)) (k : Int → Option Res) : Nat → Int → Option Res
 | 0, _ => none
 | n + 1, x17 => l2s x15 x16 x18 x19 x20 x21 x22 (fun x17 => l2 x15 x16 x18 x19 x20 x21 x22 k n x17) k x17
noncomputable def o2 (x15 x16 x18 : Int) (x19 x20 : List Int) (x21 : Int) (x22 : List (List Cl)) (y3 : Int) : St := ⟨mkT 141 [(0, one (.ow 0)), (1, one (.int .i64 x15)), (2, one (.int .i64 x16)), (3, one (.fn 95 [0])), (9, one (.int .i64 y3)), (10, one (.int .i64 x18))], [(0, ⟨[.int .i64], .ints x19, true, 0⟩)], [(0, [.tr 2 2 [.int .i64] (.ints x20), .int .i64 x21, .tr 2 2 [.int .i64, .int .i64, .bool] (.cells x22)])]⟩
noncomputable def p2 (K : Res → Option Res) : List Lf → (St → Option Res) → Option Res
 | [.i x15, .i x16, .i x17, .i x18, .q (.ints x19), .q (.ints x20), .i x21, .q (.cells x22)], k => l2 x15 x16 x18 x19 x20 x21 x22 (fun y3 => k (o2 x15 x16 x18 x19 x20 x21 x22 y3)) fuel x17
 | _, _ => none
noncomputable def s4 (x25 x26 x27 x28 x29 : Int) (x30 x31 : List Int) (x32 : Int) (x33 : List (List Cl)) : St := ⟨mkT 141 [(0, one (.ow 0)), (1, one (.int .i64 x25)), (2, one (.int .i64 x26)), (3, one (.fn 95 [0])), (9, one (.int .i64 x27)), (10, one (.int .i64 x28)), (11, one (.int .i64 x29))], [(0, ⟨[.int .i64], .ints x30, true, 0⟩)], [(0, [.tr 2 2 [.int .i64] (.ints x31), .int .i64 x32, .tr 2 2 [.int .i64, .int .i64, .bool] (.cells x33)])]⟩
noncomputable def l4s (x25 x26 x27 x28 : Int) (x31 : List Int) (x32 : Int) (x33 : List (List Cl)) (rec : Int → List Int → Option Res) (k : List Int → Option Res) (x29 : Int) (x30 : List Int) : Option Res :=
 bif decide (1 ≤ x29) then (bif decide (0 ≤ x29) && decide (x29 < (x30.length : Int)) then (bif decide (0 ≤ IntKind.i64.wrap (x29 - 1)) && decide (IntKind.i64.wrap (x29 - 1) < (x30.length : Int)) then (impl_packed_1.g (x30.getD x29.toNat 0) (x30.getD ((IntKind.i64.wrap (x29 - 1)).toNat) 0) x31 x32 x33 fun r34 =>
  bif !(decide (r34 < 0)) then k x30
  else bif decide (0 ≤ IntKind.i64.wrap (x29 - 1)) && decide (IntKind.i64.wrap (x29 - 1) < (x30.length : Int)) then (bif decide (0 ≤ x29) && decide (x29 < (x30.length : Int)) then (bif decide (0 ≤ x29) && decide (x29 < (x30.length : Int)) then (bif decide (0 ≤ IntKind.i64.wrap (x29 - 1)) && decide (IntKind.i64.wrap (x29 - 1) < ((x30.set x29.toNat (x30.getD ((IntKind.i64.wrap (x29 - 1)).toNat) 0)).length : Int)) then rec (IntKind.i64.wrap (x29 - 1)) ((x30.set x29.toNat (x30.getD ((IntKind.i64.wrap (x29 - 1)).toNat) 0)).set ((IntKind.i64.wrap (x29 - 1)).toNat) (x30.getD x29.toNat 0))
   else none)
   else none)
   else none)
  else none)
  else none)
  else none)
 else k x30
noncomputable def l4 (x25 x26 x27 x28 : Int) (x31 : List Int) (x32 : Int) (x33 : List (List Cl)) (k : List Int → Option Res) : Nat → Int → List Int → Option Res
 | 0, _, _ => none
 | n + 1, x29, x30 => l4s x25 x26 x27 x28 x31 x32 x33 (fun x29 x30 => l4 x25 x26 x27 x28 x31 x32 x33 k n x29 x30) k x29 x30
noncomputable def o4 (x25 x26 x27 x28 : Int) (x31 : List Int) (x32 : Int) (x33 : List (List Cl)) (y5 : List Int) : St := ⟨mkT 141 [(0, one (.ow 0)), (1, one (.int .i64 x25)), (2, one (.int .i64 x26)), (3, one (.fn 95 [0])), (9, one (.int .i64 x27)), (10, one (.int .i64 x28))], [(0, ⟨[.int .i64], .ints y5, true, 0⟩)], [(0, [.tr 2 2 [.int .i64] (.ints x31), .int .i64 x32, .tr 2 2 [.int .i64, .int .i64, .bool] (.cells x33)])]⟩
noncomputable def p4 (K : Res → Option Res) : List Lf → (St → Option Res) → Option Res
 | [.i x25, .i x26, .i x27, .i x28, .i x29, .q (.ints x30), .q (.ints x31), .i x32, .q (.cells x33)], k => l4 x25 x26 x27 x28 x31 x32 x33 (fun y5 => k (o4 x25 x26 x27 x28 x31 x32 x33 y5)) fuel x29 x30
 | _, _ => none
noncomputable def s6 (x36 x37 x38 x39 x40 : Int) (x41 x42 : List Int) (x43 : Int) (x44 : List (List Cl)) : St := ⟨mkT 141 [(0, one (.ow 0)), (1, one (.int .i64 x36)), (2, one (.int .i64 x37)), (3, one (.fn 95 [0])), (9, one (.int .i64 x38)), (10, one (.int .i64 x39)), (12, one (.int .i64 x40))], [(0, ⟨[.int .i64], .ints x41, true, 0⟩)], [(0, [.tr 2 2 [.int .i64] (.ints x42), .int .i64 x43, .tr 2 2 [.int .i64, .int .i64, .bool] (.cells x44)])]⟩
noncomputable def l6s (x36 x37 x38 x39 : Int) (x42 : List Int) (x43 : Int) (x44 : List (List Cl)) (rec : Int → List Int → Option Res) (k : List Int → Option Res) (x40 : Int) (x41 : List Int) : Option Res :=
 bif decide (x40 < x37) then (bif decide (0 ≤ x40) && decide (x40 < (x41.length : Int)) then (bif decide (0 ≤ IntKind.i64.wrap (x40 - 1)) && decide (IntKind.i64.wrap (x40 - 1) < (x41.length : Int)) then (impl_packed_1.g (x41.getD x40.toNat 0) (x41.getD ((IntKind.i64.wrap (x40 - 1)).toNat) 0) x42 x43 x44 fun r45 =>
  bif !(decide (r45 < 0)) then k x41
  else bif decide (0 ≤ IntKind.i64.wrap (x40 - 1)) && decide (IntKind.i64.wrap (x40 - 1) < (x41.length : Int)) then (bif decide (0 ≤ x40) && decide (x40 < (x41.length : Int)) then (bif decide (0 ≤ x40) && decide (x40 < (x41.length : Int)) then (bif decide (0 ≤ IntKind.i64.wrap (x40 - 1)) && decide (IntKind.i64.wrap (x40 - 1) < ((x41.set x40.toNat (x41.getD ((IntKind.i64.wrap (x40 - 1)).toNat) 0)).length : Int)) then rec (IntKind.i64.wrap (x40 + 1)) ((x41.set x40.toNat (x41.getD ((IntKind.i64.wrap (x40 - 1)).toNat) 0)).set ((IntKind.i64.wrap (x40 - 1)).toNat) (x41.getD x40.toNat 0))
   else none)
   else none)
   else none)
  else none)
  else none)
  else none)
 else k x41
noncomputable def l6 (x36 x37 x38 x39 : Int) (x42 : List Int) (x43 : Int) (x44 : List (List Cl)) (k : List Int → Option Res) : Nat → Int → List Int → Option Res
 | 0, _, _ => none
 | n + 1, x40, x41 => l6s x36 x37 x38 x39 x42 x43 x44 (fun x40 x41 => l6 x36 x37 x38 x39 x42 x43 x44 k n x40 x41) k x40 x41
noncomputable def o6 (x36 x37 x38 x39 : Int) (x42 : List Int) (x43 : Int) (x44 : List (List Cl)) (y5 : List Int) : St := ⟨mkT 141 [(0, one (.ow 0)), (1, one (.int .i64 x36)), (2, one (.int .i64 x37)), (3, one (.fn 95 [0])), (9, one (.int .i64 x38)), (10, one (.int .i64 x39))], [(0, ⟨[.int .i64], .ints y5, true, 0⟩)], [(0, [.tr 2 2 [.int .i64] (.ints x42), .int .i64 x43, .tr 2 2 [.int .i64, .int .i64, .bool] (.cells x44)])]⟩
noncomputable def p6 (K : Res → Option Res) : List Lf → (St → Option Res) → Option Res
 | [.i x36, .i x37, .i x38, .i x39, .i x40, .q (.ints x41), .q (.ints x42), .i x43, .q (.cells x44)], k => l6 x36 x37 x38 x39 x42 x43 x44 (fun y5 => k (o6 x36 x37 x38 x39 x42 x43 x44 y5)) fuel x40 x41
 | _, _ => none
noncomputable def s0 (x7 x8 x9 x10 : Int) (x11 x12 : List Int) (x13 : Int) (x14 : List (List Cl)) : St := ⟨mkT 141 [(0, one (.ow 0)), (1, one (.int .i64 x7)), (2, one (.int .i64 x8)), (3, one (.fn 95 [0])), (9, one (.int .i64 x9)), (10, one (.int .i64 x10))], [(0, ⟨[.int .i64], .ints x11, true, 0⟩)], [(0, [.tr 2 2 [.int .i64] (.ints x12), .int .i64 x13, .tr 2 2 [.int .i64, .int .i64, .bool] (.cells x14)])]⟩
noncomputable def l0s (x7 x8 : Int) (x12 : List Int) (x13 : Int) (x14 : List (List Cl)) (rec : Int → Int → List Int → Option Res) (k : List Int → Option Res) (R : Bool → List Int → List Int → Int → List (List Cl) → Option Res) (x9 x10 : Int) (x11 : List Int) : Option Res :=
 bif decide (x10 < 5) then (l2 x7 x8 x10 x11 x12 x13 x14 (fun y24 =>
  bif (y24 == x8) then R true x11 x12 x13 x14
  else bif decide (IntKind.i64.wrap (x8 - x7) < 50) then R false x11 x12 x13 x14
  else bif decide (0 ≤ IntKind.i64.wrap (y24 - 1)) && decide (IntKind.i64.wrap (y24 - 1) < (x11.length : Int)) then (bif decide (0 ≤ y24) && decide (y24 < (x11.length : Int)) then (bif decide (0 ≤ y24) && decide (y24 < (x11.length : Int)) then (bif decide (0 ≤ IntKind.i64.wrap (y24 - 1)) && decide (IntKind.i64.wrap (y24 - 1) < ((x11.set y24.toNat (x11.getD ((IntKind.i64.wrap (y24 - 1)).toNat) 0)).length : Int)) then (bif decide (2 ≤ IntKind.i64.wrap (y24 - x7)) then (l4 x7 x8 y24 x10 x12 x13 x14 (fun y35 =>
   bif decide (2 ≤ IntKind.i64.wrap (x8 - y24)) then (l6 x7 x8 y24 x10 x12 x13 x14 (fun y46 =>
    rec y24 (IntKind.i64.wrap (x10 + 1)) y46) fuel (IntKind.i64.wrap (y24 + 1)) y35)
   else rec y24 (IntKind.i64.wrap (x10 + 1)) y35) fuel (IntKind.i64.wrap (y24 - 1)) ((x11.set y24.toNat (x11.getD ((IntKind.i64.wrap (y24 - 1)).toNat) 0)).set ((IntKind.i64.wrap (y24 - 1)).toNat) (x11.getD y24.toNat 0)))
   else bif decide (2 ≤ IntKind.i64.wrap (x8 - y24)) then (l6 x7 x8 y24 x10 x12 x13 x14 (fun y47 =>
    rec y24 (IntKind.i64.wrap (x10 + 1)) y47) fuel (IntKind.i64.wrap (y24 + 1)) ((x11.set y24.toNat (x11.getD ((IntKind.i64.wrap (y24 - 1)).toNat) 0)).set ((IntKind.i64.wrap (y24 - 1)).toNat) (x11.getD y24.toNat 0)))
   else rec y24 (IntKind.i64.wrap (x10 + 1)) ((x11.set y24.toNat (x11.getD ((IntKind.i64.wrap (y24 - 1)).toNat) 0)).set ((IntKind.i64.wrap (y24 - 1)).toNat) (x11.getD y24.toNat 0)))
   else none)
   else none)
   else none)
  else none) fuel x9)
 else k x11
noncomputable def l0 (x7 x8 : Int) (x12 : List Int) (x13 : Int) (x14 : List (List Cl)) (k : List Int → Option Res) (R : Bool → List Int → List Int → Int → List (List Cl) → Option Res) : Nat → Int → Int → List Int → Option Res
 | 0, _, _, _ => none
 | n + 1, x9, x10, x11 => l0s x7 x8 x12 x13 x14 (fun x9 x10 x11 => l0 x7 x8 x12 x13 x14 k R n x9 x10 x11) k R x9 x10 x11
noncomputable def o0 (x7 x8 : Int) (x12 : List Int) (x13 : Int) (x14 : List (List Cl)) (y1 : List Int) : St := ⟨mkT 141 [], [(0, ⟨[.int .i64], .ints y1, true, 0⟩)], [(0, [.tr 2 2 [.int .i64] (.ints x12), .int .i64 x13, .tr 2 2 [.int .i64, .int .i64, .bool] (.cells x14)])]⟩
noncomputable def p0 (K : Res → Option Res) : List Lf → (St → Option Res) → Option Res
 | [.i x7, .i x8, .i x9, .i x10, .q (.ints x11), .q (.ints x12), .i x13, .q (.cells x14)], k => l0 x7 x8 x12 x13 x14 (fun y1 => k (o0 x7 x8 x12 x13 x14 y1)) (fun r1 r2 r3 r4 r5 => K (m r1 r2 r3 r4 r5)) fuel x9 x10 x11
 | _, _ => none
noncomputable def os : List (FuncId × St × (List Lf → (Res → Option Res) → Option Res)) := [impl_packed_1.con]
noncomputable def X (K : Res → Option Res) : Ctx := { Γ := Γ0, orc := orcOf os, io := [], share := [], mvl := [], bun := [], cut := [], own := [], cin := [(2, ⟨[0, 1, 2, 3, 9, 10], [(0, 0)], [0], [], [], []⟩), (4, ⟨[0, 1, 2, 3, 9, 10, 11], [(0, 0)], [0], [], [], []⟩), (6, ⟨[0, 1, 2, 3, 9, 10, 12], [(0, 0)], [0], [], [], []⟩), (0, ⟨[0, 1, 2, 3, 9, 10], [(0, 0)], [0], [], [], []⟩)], cout := [(2, ⟨[0, 1, 2, 3, 9, 10], [(0, 0)], [0], [], [], []⟩), (4, ⟨[0, 1, 2, 3, 9, 10], [(0, 0)], [0], [], [], []⟩), (6, ⟨[0, 1, 2, 3, 9, 10], [(0, 0)], [0], [], [], []⟩), (0, ⟨[], [(0, 0)], [0], [], [], []⟩)], lp := lpOf [(2, s2 0 0 0 0 [] [] 0 [], p2 K), (4, s4 0 0 0 0 0 [] [] 0 [], p4 K), (6, s6 0 0 0 0 0 [] [] 0 [], p6 K), (0, s0 0 0 0 0 [] [] 0 [], p0 K)], kl := [], nk := true, eqs := eqs0, byt := byt0, fin := finK fi K }
noncomputable def b (a1 a2 : Int) (a3 a4 : List Int) (a5 : Int) (a6 : List (List Cl)) (R : Bool → List Int → List Int → Int → List (List Cl) → Option Res) : Option Res :=
 l0 a1 a2 a4 a5 a6 (fun y48 =>
 R false y48 a4 a5 a6) R fuel (IntKind.i64.wrap (a1 + 1)) 0 a3
theorem gx : ∃ x : Int → Int → List Int → List Int → Int → List (List Cl) → (Bool → List Int → List Int → Int → List (List Cl) → Option Res) → Option Res, x = b := ⟨_, rfl⟩
noncomputable def g : Int → Int → List Int → List Int → Int → List (List Cl) → (Bool → List Int → List Int → Int → List (List Cl) → Option Res) → Option Res := Classical.choose gx
theorem e : g = b := Classical.choose_spec gx
noncomputable def run : List Lf → (Res → Option Res) → Option Res
 | [.i a1, .i a2, .q (.ints a3), .q (.ints a4), .i a5, .q (.cells a6)], K => g a1 a2 a3 a4 a5 a6 (fun r1 r2 r3 r4 r5 => K (m r1 r2 r3 r4 r5))
 | _, _ => none
noncomputable def a (a1 a2 : Int) (a3 a4 : List Int) (a5 : Int) (a6 : List (List Cl)) : St := argSt [one (.ow 0), one (.int .i64 a1), one (.int .i64 a2), one (.fn 95 [0])] [⟨[.int .i64], .ints a3, true, 0⟩] [[.tr 2 2 [.int .i64] (.ints a4), .int .i64 a5, .tr 2 2 [.int .i64, .int .i64, .bool] (.cells a6)]]
noncomputable def con : FuncId × St × (List Lf → (Res → Option Res) → Option Res) := (136, a 0 0 [] [] 0 [], run)
theorem cx (K : Res → Option Res) : CtxOk Go.Proofs.Try.prog Γ0 byt0 eqs0 (X K) os := ⟨rfl, rfl, rfl, (fun p hp => by
 rcases List.mem_cons.1 hp with rfl | hp
 ·exact impl_packed_1.ok
 cases hp), rfl, rfl, rfl, rfl⟩
theorem t2 (K : Res → Option Res) (k : St → Option Res) (it : St → (St → Option Res) → Option Res) (x15 x16 x17 x18 : Int) (x19 x20 : List Int) (x21 : Int) (x22 : List (List Cl)) : iterS (X K) 2 b2 it (s2 x15 x16 x17 x18 x19 x20 x21 x22) k = l2s x15 x16 x18 x19 x20 x21 x22 (fun x17 => it (s2 x15 x16 x17 x18 x19 x20 x21 x22) k) (fun y3 => k (o2 x15 x16 x18 x19 x20 x21 x22 y3)) x17 := by kernel_rfl
theorem i2 (K : Res → Option Res) (k : St → Option Res) (x15 x16 x18 : Int) (x19 x20 : List Int) (x21 : Int) (x22 : List (List Cl)) : ∀ (n : Nat) (x17 : Int), iter (X K) 2 b2 n (s2 x15 x16 x17 x18 x19 x20 x21 x22) k = l2 x15 x16 x18 x19 x20 x21 x22 (fun y3 => k (o2 x15 x16 x18 x19 x20 x21 x22 y3)) n x17
 | 0, _ => rfl
 | n + 1, x17 => by
  rw [iter_succ, t2, show (fun x17 => iter (X K) 2 b2 n (s2 x15 x16 x17 x18 x19 x20 x21 x22) k) = (fun x17 => l2 x15 x16 x18 x19 x20 x21 x22 (fun y3 => k (o2 x15 x16 x18 x19 x20 x21 x22 y3)) n x17) from funext fun x17 => i2 K k x15 x16 x18 x19 x20 x21 x22 n x17]; rfl
theorem v2 {K : Res → Option Res} {l : List Lf} {k : St → Option Res} {r : Res} (h : p2 K l k = some r) : ∃ x15 x16 x17 x18 x19 x20 x21 x22, l = [.i x15, .i x16, .i x17, .i x18, .q (.ints x19), .q (.ints x20), .i x21, .q (.cells x22)] ∧ l2 x15 x16 x18 x19 x20 x21 x22 (fun y3 => k (o2 x15 x16 x18 x19 x20 x21 x22 y3)) fuel x17 = some r := by
 unfold p2 at h; split at h
 ·exact ⟨_, _, _, _, _, _, _, _, rfl, h⟩
 ·cases h
theorem t4 (K : Res → Option Res) (k : St → Option Res) (it : St → (St → Option Res) → Option Res) (x25 x26 x27 x28 x29 : Int) (x30 x31 : List Int) (x32 : Int) (x33 : List (List Cl)) : iterS (X K) 4 b4 it (s4 x25 x26 x27 x28 x29 x30 x31 x32 x33) k = l4s x25 x26 x27 x28 x31 x32 x33 (fun x29 x30 => it (s4 x25 x26 x27 x28 x29 x30 x31 x32 x33) k) (fun y5 => k (o4 x25 x26 x27 x28 x31 x32 x33 y5)) x29 x30 := by kernel_rfl
theorem i4 (K : Res → Option Res) (k : St → Option Res) (x25 x26 x27 x28 : Int) (x31 : List Int) (x32 : Int) (x33 : List (List Cl)) : ∀ (n : Nat) (x29 : Int) (x30 : List Int), iter (X K) 4 b4 n (s4 x25 x26 x27 x28 x29 x30 x31 x32 x33) k = l4 x25 x26 x27 x28 x31 x32 x33 (fun y5 => k (o4 x25 x26 x27 x28 x31 x32 x33 y5)) n x29 x30
 | 0, _, _ => rfl
 | n + 1, x29, x30 => by
  rw [iter_succ, t4, show (fun x29 x30 => iter (X K) 4 b4 n (s4 x25 x26 x27 x28 x29 x30 x31 x32 x33) k) = (fun x29 x30 => l4 x25 x26 x27 x28 x31 x32 x33 (fun y5 => k (o4 x25 x26 x27 x28 x31 x32 x33 y5)) n x29 x30) from funext fun x29 => funext fun x30 => i4 K k x25 x26 x27 x28 x31 x32 x33 n x29 x30]; rfl
theorem v4 {K : Res → Option Res} {l : List Lf} {k : St → Option Res} {r : Res} (h : p4 K l k = some r) : ∃ x25 x26 x27 x28 x29 x30 x31 x32 x33, l = [.i x25, .i x26, .i x27, .i x28, .i x29, .q (.ints x30), .q (.ints x31), .i x32, .q (.cells x33)] ∧ l4 x25 x26 x27 x28 x31 x32 x33 (fun y5 => k (o4 x25 x26 x27 x28 x31 x32 x33 y5)) fuel x29 x30 = some r := by
 unfold p4 at h; split at h
 ·exact ⟨_, _, _, _, _, _, _, _, _, rfl, h⟩
 ·cases h
theorem t6 (K : Res → Option Res) (k : St → Option Res) (it : St → (St → Option Res) → Option Res) (x36 x37 x38 x39 x40 : Int) (x41 x42 : List Int) (x43 : Int) (x44 : List (List Cl)) : iterS (X K) 6 b6 it (s6 x36 x37 x38 x39 x40 x41 x42 x43 x44) k = l6s x36 x37 x38 x39 x42 x43 x44 (fun x40 x41 => it (s6 x36 x37 x38 x39 x40 x41 x42 x43 x44) k) (fun y5 => k (o6 x36 x37 x38 x39 x42 x43 x44 y5)) x40 x41 := by kernel_rfl
theorem i6 (K : Res → Option Res) (k : St → Option Res) (x36 x37 x38 x39 : Int) (x42 : List Int) (x43 : Int) (x44 : List (List Cl)) : ∀ (n : Nat) (x40 : Int) (x41 : List Int), iter (X K) 6 b6 n (s6 x36 x37 x38 x39 x40 x41 x42 x43 x44) k = l6 x36 x37 x38 x39 x42 x43 x44 (fun y5 => k (o6 x36 x37 x38 x39 x42 x43 x44 y5)) n x40 x41
 | 0, _, _ => rfl
 | n + 1, x40, x41 => by
  rw [iter_succ, t6, show (fun x40 x41 => iter (X K) 6 b6 n (s6 x36 x37 x38 x39 x40 x41 x42 x43 x44) k) = (fun x40 x41 => l6 x36 x37 x38 x39 x42 x43 x44 (fun y5 => k (o6 x36 x37 x38 x39 x42 x43 x44 y5)) n x40 x41) from funext fun x40 => funext fun x41 => i6 K k x36 x37 x38 x39 x42 x43 x44 n x40 x41]; rfl
theorem v6 {K : Res → Option Res} {l : List Lf} {k : St → Option Res} {r : Res} (h : p6 K l k = some r) : ∃ x36 x37 x38 x39 x40 x41 x42 x43 x44, l = [.i x36, .i x37, .i x38, .i x39, .i x40, .q (.ints x41), .q (.ints x42), .i x43, .q (.cells x44)] ∧ l6 x36 x37 x38 x39 x42 x43 x44 (fun y5 => k (o6 x36 x37 x38 x39 x42 x43 x44 y5)) fuel x40 x41 = some r := by
 unfold p6 at h; split at h
 ·exact ⟨_, _, _, _, _, _, _, _, _, rfl, h⟩
 ·cases h
theorem t0 (K : Res → Option Res) (k : St → Option Res) (it : St → (St → Option Res) → Option Res) (x7 x8 x9 x10 : Int) (x11 x12 : List Int) (x13 : Int) (x14 : List (List Cl)) : iterS (X K) 0 b0 it (s0 x7 x8 x9 x10 x11 x12 x13 x14) k = l0s x7 x8 x12 x13 x14 (fun x9 x10 x11 => it (s0 x7 x8 x9 x10 x11 x12 x13 x14) k) (fun y1 => k (o0 x7 x8 x12 x13 x14 y1)) (fun r1 r2 r3 r4 r5 => K (m r1 r2 r3 r4 r5)) x9 x10 x11 := by kernel_rfl
theorem i0 (K : Res → Option Res) (k : St → Option Res) (x7 x8 : Int) (x12 : List Int) (x13 : Int) (x14 : List (List Cl)) : ∀ (n : Nat) (x9 x10 : Int) (x11 : List Int), iter (X K) 0 b0 n (s0 x7 x8 x9 x10 x11 x12 x13 x14) k = l0 x7 x8 x12 x13 x14 (fun y1 => k (o0 x7 x8 x12 x13 x14 y1)) (fun r1 r2 r3 r4 r5 => K (m r1 r2 r3 r4 r5)) n x9 x10 x11
 | 0, _, _, _ => rfl
 | n + 1, x9, x10, x11 => by
  rw [iter_succ, t0, show (fun x9 x10 x11 => iter (X K) 0 b0 n (s0 x7 x8 x9 x10 x11 x12 x13 x14) k) = (fun x9 x10 x11 => l0 x7 x8 x12 x13 x14 (fun y1 => k (o0 x7 x8 x12 x13 x14 y1)) (fun r1 r2 r3 r4 r5 => K (m r1 r2 r3 r4 r5)) n x9 x10 x11) from funext fun x9 => funext fun x10 => funext fun x11 => i0 K k x7 x8 x12 x13 x14 n x9 x10 x11]; rfl
theorem v0 {K : Res → Option Res} {l : List Lf} {k : St → Option Res} {r : Res} (h : p0 K l k = some r) : ∃ x7 x8 x9 x10 x11 x12 x13 x14, l = [.i x7, .i x8, .i x9, .i x10, .q (.ints x11), .q (.ints x12), .i x13, .q (.cells x14)] ∧ l0 x7 x8 x12 x13 x14 (fun y1 => k (o0 x7 x8 x12 x13 x14 y1)) (fun r1 r2 r3 r4 r5 => K (m r1 r2 r3 r4 r5)) fuel x9 x10 x11 = some r := by
 unfold p0 at h; split at h
 ·exact ⟨_, _, _, _, _, _, _, _, rfl, h⟩
 ·cases h
theorem w4 (K : Res → Option Res) : LpSound Go.Proofs.Try.prog (X K) 4 b4 := lp_ok ((cx K).ok laid) (by rw [show loopsOf b4 = [] from by kernel_rfl]; intro p hp; cases hp) rfl fun p hp hid => by
 rcases List.mem_cons.1 hp with rfl | hp
 ·exact absurd hid (by simp)
 rcases List.mem_cons.1 hp with rfl | hp
 ·intro st k r h1 h2; obtain ⟨x25, x26, x27, x28, x29, x30, x31, x32, x33, e, h⟩ := v4 (K := K) h2; have := St.like_eq (y := s4 x25 x26 x27 x28 x29 x30 x31 x32 x33) h1 (by kernel_rfl) e; subst this; exact ⟨fuel, (i4 K k x25 x26 x27 x28 x31 x32 x33 fuel x29 x30).trans h⟩
 rcases List.mem_cons.1 hp with rfl | hp
 ·exact absurd hid (by simp)
 rcases List.mem_cons.1 hp with rfl | hp
 ·exact absurd hid (by simp)
 cases hp
theorem w6 (K : Res → Option Res) : LpSound Go.Proofs.Try.prog (X K) 6 b6 := lp_ok ((cx K).ok laid) (by rw [show loopsOf b6 = [] from by kernel_rfl]; intro p hp; cases hp) rfl fun p hp hid => by
 rcases List.mem_cons.1 hp with rfl | hp
 ·exact absurd hid (by simp)
 rcases List.mem_cons.1 hp with rfl | hp
 ·exact absurd hid (by simp)
 rcases List.mem_cons.1 hp with rfl | hp
 ·intro st k r h1 h2; obtain ⟨x36, x37, x38, x39, x40, x41, x42, x43, x44, e, h⟩ := v6 (K := K) h2; have := St.like_eq (y := s6 x36 x37 x38 x39 x40 x41 x42 x43 x44) h1 (by kernel_rfl) e; subst this; exact ⟨fuel, (i6 K k x36 x37 x38 x39 x42 x43 x44 fuel x40 x41).trans h⟩
 rcases List.mem_cons.1 hp with rfl | hp
 ·exact absurd hid (by simp)
 cases hp
theorem w2 (K : Res → Option Res) : LpSound Go.Proofs.Try.prog (X K) 2 b2 := lp_ok ((cx K).ok laid) (by rw [show loopsOf b2 = [] from by kernel_rfl]; intro p hp; cases hp) rfl fun p hp hid => by
 rcases List.mem_cons.1 hp with rfl | hp
 ·intro st k r h1 h2; obtain ⟨x15, x16, x17, x18, x19, x20, x21, x22, e, h⟩ := v2 (K := K) h2; have := St.like_eq (y := s2 x15 x16 x17 x18 x19 x20 x21 x22) h1 (by kernel_rfl) e; subst this; exact ⟨fuel, (i2 K k x15 x16 x18 x19 x20 x21 x22 fuel x17).trans h⟩
 rcases List.mem_cons.1 hp with rfl | hp
 ·exact absurd hid (by simp)
 rcases List.mem_cons.1 hp with rfl | hp
 ·exact absurd hid (by simp)
 rcases List.mem_cons.1 hp with rfl | hp
 ·exact absurd hid (by simp)
 cases hp
theorem w0 (K : Res → Option Res) : LpSound Go.Proofs.Try.prog (X K) 0 b0 := lp_ok ((cx K).ok laid) (by
 rw [show loopsOf b0 = [(2, b2), (4, b4), (6, b6)] from by kernel_rfl]; intro p hp
 rcases List.mem_cons.1 hp with rfl | hp
 ·exact w2 K
 rcases List.mem_cons.1 hp with rfl | hp
 ·exact w4 K
 rcases List.mem_cons.1 hp with rfl | hp
 ·exact w6 K
 cases hp) rfl fun p hp hid => by
 rcases List.mem_cons.1 hp with rfl | hp
 ·exact absurd hid (by simp)
 rcases List.mem_cons.1 hp with rfl | hp
 ·exact absurd hid (by simp)
 rcases List.mem_cons.1 hp with rfl | hp
 ·exact absurd hid (by simp)
 rcases List.mem_cons.1 hp with rfl | hp
 ·intro st k r h1 h2; obtain ⟨x7, x8, x9, x10, x11, x12, x13, x14, e, h⟩ := v0 (K := K) h2; have := St.like_eq (y := s0 x7 x8 x9 x10 x11 x12 x13 x14) h1 (by kernel_rfl) e; subst this; exact ⟨fuel, (i0 K k x7 x8 x12 x13 x14 fuel x9 x10 x11).trans h⟩
 cases hp
theorem tie (K : Res → Option Res) (a1 a2 : Int) (a3 a4 : List Int) (a5 : Int) (a6 : List (List Cl)) : exec (X K) c (entry 141 [one (.ow 0), one (.int .i64 a1), one (.int .i64 a2), one (.fn 95 [0])] [⟨[.int .i64], .ints a3, true, 0⟩] [[.tr 2 2 [.int .i64] (.ints a4), .int .i64 a5, .tr 2 2 [.int .i64, .int .i64, .bool] (.cells a6)]]) (endK (X K)) = g a1 a2 a3 a4 a5 a6 (fun r1 r2 r3 r4 r5 => K (m r1 r2 r3 r4 r5)) := Eq.trans (b := b a1 a2 a3 a4 a5 a6 (fun r1 r2 r3 r4 r5 => K (m r1 r2 r3 r4 r5))) (by kernel_rfl) (by rw [e])
theorem runv {l : List Lf} {K : Res → Option Res} {r : Res} (h : run l K = some r) : ∃ a1 a2 a3 a4 a5 a6, l = [.i a1, .i a2, .q (.ints a3), .q (.ints a4), .i a5, .q (.cells a6)] ∧ g a1 a2 a3 a4 a5 a6 (fun r1 r2 r3 r4 r5 => K (m r1 r2 r3 r4 r5)) = some r := by
 unfold run at h; split at h
 ·exact ⟨_, _, _, _, _, _, rfl, h⟩
 ·cases h
theorem ok : Con Go.Proofs.Try.prog con := con_of (fn := Go.Proofs.Try.f136) (c := c) (Fi := fi) (X := X) (fun_of laid (by kernel_rfl) (by kernel_rfl) (by kernel_rfl) rfl (by kernel_rfl) (by kernel_rfl) cx (fun _ => rfl) (fun _ => rfl) (fun K => by
 rw [show loopsOf c = [(0, b0), (2, b2), (4, b4), (6, b6)] from by kernel_rfl]; intro p hp
 rcases List.mem_cons.1 hp with rfl | hp
 ·exact w0 K
 rcases List.mem_cons.1 hp with rfl | hp
 ·exact w2 K
 rcases List.mem_cons.1 hp with rfl | hp
 ·exact w4 K
 rcases List.mem_cons.1 hp with rfl | hp
 ·exact w6 K
 cases hp)) fun xs rows boxes K r hl hr => by
 obtain ⟨a1, a2, a3, a4, a5, a6, e, h⟩ := runv hr
 have := St.like_eq (y := a a1 a2 a3 a4 a5 a6) hl (by kernel_rfl) e
 obtain ⟨rfl, rfl, rfl⟩ := argSt_inj this
 exact (tie K a1 a2 a3 a4 a5 a6).trans h
end slices_partialInsertionSortCmpFunc_int
namespace slices_partitionEqualCmpFunc_int
noncomputable def c : Code := bodyOf Go.Proofs.Try.f137
noncomputable def fi : Fin := ⟨Γ0, [(.tmp 10, 3)], [[1]], [true], [([.sl [.int .i64] 8, .int .i64, .sl [.int .i64, .int .i64, .bool] 24], [0, 1, 0])], []⟩
noncomputable def m (r1 : Int) (r2 r3 : List Int) (r4 : Int) (r5 : List (List Cl)) : Res := ⟨[⟨false, [.int .i64 r1]⟩], [some ⟨[.int .i64], .ints r2, true, 0⟩], [], [[.tr 2 2 [.int .i64] (.ints r3), .int .i64 r4, .tr 2 2 [.int .i64, .int .i64, .bool] (.cells r5)]], []⟩
noncomputable def b0 : Code := codeAt c [1, 1, 1, 0, 0, 0]
noncomputable def b2 : Code := codeAt c [1, 1, 1, 0, 0, 0, 0, 0, 0, 0]
noncomputable def b4 : Code := codeAt c [1, 1, 1, 0, 0, 0, 0, 1, 0, 0, 0]
noncomputable def s2 (x15 x16 x17 : Int) (x18 x19 : List Int) (x20 : Int) (x21 : List (List Cl)) : St := ⟨mkT 90 [(0, one (.ow 0)), (1, one (.int .i64 x15)), (4, one (.fn 95 [0])), (11, one (.int .i64 x16)), (12, one (.int .i64 x17))], [(0, ⟨[.int .i64], .ints x18, true, 0⟩)], [(0, [.tr 2 2 [.int .i64] (.ints x19), .int .i64 x20, .tr 2 2 [.int .i64, .int .i64, .bool] (.cells x21)])]⟩
noncomputable def l2s (x15 x17 : Int) (x18 x19 : List Int) (x20 : Int) (x21 : List (List Cl)) (rec : Int → Option Res) (k : Int → Option Res) (x16 : Int) : Option Res :=
 bif decide (x16 ≤ x17) then (bif decide (0 ≤ x15) && decide (x15 < (x18.length : Int)) then (bif decide (0 ≤ x16) && decide (x16 < (x18.length : Int)) then (impl_packed_1.g (x18.getD x15.toNat 0) (x18.getD x16.toNat 0) x19 x20 x21 fun r22 =>
  bif !(decide (r22 < 0)) then rec (IntKind.i64.wrap (x16 + 1))
  else k x16)
  else none)
  else none)
 else k x16
noncomputable def l2 (x15 x17 : Int) (x18 x19 : List Int) (x20 : Int) (x21 : List (List Cl)) (k : Int → Option Res) : Nat → Int → Option Res
 | 0, _ => none
 | n + 1, x16 => l2s x15 x17 x18 x19 x20 x21 (fun x16 => l2 x15 x17 x18 x19 x20 x21 k n x16) k x16
noncomputable def o2 (x15 x17 : Int) (x18 x19 : List Int) (x20 : Int) (x21 : List (List Cl)) (y2 : Int) : St := ⟨mkT 90 [(0, one (.ow 0)), (1, one (.int .i64 x15)), (4, one (.fn 95 [0])), (11, one (.int .i64 y2)), (12, one (.int .i64 x17))], [(0, ⟨[.int .i64], .ints x18, true, 0⟩)], [(0, [.tr 2 2 [.int .i64] (.ints x19), .int .i64 x20, .tr 2 2 [.int .i64, .int .i64, .bool] (.cells x21)])]⟩
noncomputable def p2 (K : Res → Option Res) : List Lf → (St → Option Res) → Option Res
 | [.i x15, .i x16, .i x17, .q (.ints x18), .q (.ints x19), .i x20, .q (.cells x21)], k => l2 x15 x17 x18 x19 x20 x21 (fun y2 => k (o2 x15 x17 x18 x19 x20 x21 y2)) fuel x16
 | _, _ => none
noncomputable def s4 (x24 x25 x26 : Int) (x27 x28 : List Int) (x29 : Int) (x30 : List (List Cl)) : St := ⟨mkT 90 [(0, one (.ow 0)), (1, one (.int .i64 x24)), (4, one (.fn 95 [0])), (11, one (.int .i64 x25)), (12, one (.int .i64 x26))], [(0, ⟨[.int .i64], .ints x27, true, 0⟩)], [(0, [.tr 2 2 [.int .i64] (.ints x28), .int .i64 x29, .tr 2 2 [.int .i64, .int .i64, .bool] (.cells x30)])]⟩
noncomputable def l4s (x24 x25 : Int) (x27 x28 : List Int) (x29 : Int) (x30 : List (List Cl)) (rec : Int → Option Res) (k : Int → Option Res) (x26 : Int) : Option Res :=
 bif decide (x25 ≤ x26) then (bif decide (0 ≤ x24) && decide (x24 < (x27.length : Int)) then (bif decide (0 ≤ x26) && decide (x26 < (x27.length : Int)) then (impl_packed_1.g (x27.getD x24.toNat 0) (x27.getD x26.toNat 0) x28 x29 x30 fun r31 =>
  bif decide (r31 < 0) then rec (IntKind.i64.wrap (x26 - 1))
  else k x26)
  else none)
  else none)
 else k x26
noncomputable def l4 (x24 x25 : Int) (x27 x28 : List Int) (x29 : Int) (x30 : List (List Cl)) (k : Int → Option Res) : Nat → Int → Option Res
 | 0, _ => none
 | n + 1, x26 => l4s x24 x25 x27 x28 x29 x30 (fun x26 => l4 x24 x25 x27 x28 x29 x30 k n x26) k x26
noncomputable def o4 (x24 x25 : Int) (x27 x28 : List Int) (x29 : Int) (x30 : List (List Cl)) (y3 : Int) : St := ⟨mkT 90 [(0, one (.ow 0)), (1, one (.int .i64 x24)), (4, one (.fn 95 [0])), (11, one (.int .i64 x25)), (12, one (.int .i64 y3))], [(0, ⟨[.int .i64], .ints x27, true, 0⟩)], [(0, [.tr 2 2 [.int .i64] (.ints x28), .int .i64 x29, .tr 2 2 [.int .i64, .int .i64, .bool] (.cells x30)])]⟩
noncomputable def p4 (K : Res → Option Res) : List Lf → (St → Option Res) → Option Res
 | [.i x24, .i x25, .i x26, .q (.ints x27), .q (.ints x28), .i x29, .q (.cells x30)], k => l4 x24 x25 x27 x28 x29 x30 (fun y3 => k (o4 x24 x25 x27 x28 x29 x30 y3)) fuel x26
 | _, _ => none
noncomputable def s0 (x8 x9 x10 : Int) (x11 x12 : List Int) (x13 : Int) (x14 : List (List Cl)) : St := ⟨mkT 90 [(0, one (.ow 0)), (1, one (.int .i64 x8)), (4, one (.fn 95 [0])), (11, one (.int .i64 x9)), (12, one (.int .i64 x10))], [(0, ⟨[.int .i64], .ints x11, true, 0⟩)], [(0, [.tr 2 2 [.int .i64] (.ints x12), .int .i64 x13, .tr 2 2 [.int .i64, .int .i64, .bool] (.cells x14)])]⟩
noncomputable def l0s (x8 : Int) (x12 : List Int) (x13 : Int) (x14 : List (List Cl)) (rec : Int → Int → List Int → Option Res) (k : Int → List Int → Option Res) (x9 x10 : Int) (x11 : List Int) : Option Res :=
 l2 x8 x10 x11 x12 x13 x14 (fun y23 =>
 l4 x8 y23 x11 x12 x13 x14 (fun y32 =>
 bif decide (y32 < y23) then k y23 x11
 else bif decide (0 ≤ y32) && decide (y32 < (x11.length : Int)) then (bif decide (0 ≤ y23) && decide (y23 < (x11.length : Int)) then (bif decide (0 ≤ y23) && decide (y23 < (x11.length : Int)) then (bif decide (0 ≤ y32) && decide (y32 < ((x11.set y23.toNat (x11.getD y32.toNat 0)).length : Int)) then rec (IntKind.i64.wrap (y23 + 1)) (IntKind.i64.wrap (y32 - 1)) ((x11.set y23.toNat (x11.getD y32.toNat 0)).set y32.toNat (x11.getD y23.toNat 0))
  else none)
  else none)
  else none)
 else none) fuel x10) fuel x9
noncomputable def l0 (x8 : Int) (x12 : List Int) (x13 : Int) (x14 : List (List Cl)) (k : Int → List Int → Option Res) : Nat → Int → Int → List Int → Option Res
 | 0, _, _, _ => none
 | n + 1, x9, x10, x11 => l0s x8 x12 x13 x14 (fun x9 x10 x11 => l0 x8 x12 x13 x14 k n x9 x10 x11) k x9 x10 x11
noncomputable def o0 (x8 : Int) (x12 : List Int) (x13 : Int) (x14 : List (List Cl)) (y1 : Int) (y2 : List Int) : St := ⟨mkT 90 [(11, one (.int .i64 y1))], [(0, ⟨[.int .i64], .ints y2, true, 0⟩)], [(0, [.tr 2 2 [.int .i64] (.ints x12), .int .i64 x13, .tr 2 2 [.int .i64, .int .i64, .bool] (.cells x14)])]⟩
noncomputable def p0 (K : Res → Option Res) : List Lf → (St → Option Res) → Option Res
 | [.i x8, .i x9, .i x10, .q (.ints x11), .q (.ints x12), .i x13, .q (.cells x14)], k => l0 x8 x12 x13 x14 (fun y1 y2 => k (o0 x8 x12 x13 x14 y1 y2)) fuel x9 x10 x11
 | _, _ => none
noncomputable def os : List (FuncId × St × (List Lf → (Res → Option Res) → Option Res)) := [impl_packed_1.con]
noncomputable def X (K : Res → Option Res) : Ctx := { Γ := Γ0, orc := orcOf os, io := [], share := [], mvl := [], bun := [], cut := [], own := [], cin := [(2, ⟨[0, 1, 4, 11, 12], [(0, 0)], [0], [], [], []⟩), (4, ⟨[0, 1, 4, 11, 12], [(0, 0)], [0], [], [], []⟩), (0, ⟨[0, 1, 4, 11, 12], [(0, 0)], [0], [], [], []⟩)], cout := [(2, ⟨[0, 1, 4, 11, 12], [(0, 0)], [0], [], [], []⟩), (4, ⟨[0, 1, 4, 11, 12], [(0, 0)], [0], [], [], []⟩), (0, ⟨[11], [(0, 0)], [0], [], [], []⟩)], lp := lpOf [(2, s2 0 0 0 [] [] 0 [], p2 K), (4, s4 0 0 0 [] [] 0 [], p4 K), (0, s0 0 0 0 [] [] 0 [], p0 K)], kl := [], nk := true, eqs := eqs0, byt := byt0, fin := finK fi K }
noncomputable def b (a1 a2 a3 : Int) (a4 a5 : List Int) (a6 : Int) (a7 : List (List Cl)) (R : Int → List Int → List Int → Int → List (List Cl) → Option Res) : Option Res :=
 bif decide (0 ≤ a3) && decide (a3 < (a4.length : Int)) then (bif decide (0 ≤ a1) && decide (a1 < (a4.length : Int)) then (bif decide (0 ≤ a1) && decide (a1 < (a4.length : Int)) then (bif decide (0 ≤ a3) && decide (a3 < ((a4.set a1.toNat (a4.getD a3.toNat 0)).length : Int)) then (l0 a1 a5 a6 a7 (fun y33 y34 =>
  R y33 y34 a5 a6 a7) fuel (IntKind.i64.wrap (a1 + 1)) (IntKind.i64.wrap (a2 - 1)) ((a4.set a1.toNat (a4.getD a3.toNat 0)).set a3.toNat (a4.getD a1.toNat 0)))
  else none)
  else none)
  else none)
 else none
theorem gx : ∃ x : Int → Int → Int → List Int → List Int → Int → List (List Cl) → (Int → List Int → List Int → Int → List (List Cl) → Option Res) → Option Res, x = b := ⟨_, rfl⟩
noncomputable def g : Int → Int → Int → List Int → List Int → Int → List (List Cl) → (Int → List Int → List Int → Int → List (List Cl) → Option Res) → Option Res := Classical.choose gx
theorem e : g = b := Classical.choose_spec gx
noncomputable def run : List Lf → (Res → Option Res) → Option Res
 | [.i a1, .i a2, .i a3, .q (.ints a4), .q (.ints a5), .i a6, .q (.cells a7)], K => g a1 a2 a3 a4 a5 a6 a7 (fun r1 r2 r3 r4 r5 => K (m r1 r2 r3 r4 r5))
 | _, _ => none
noncomputable def a (a1 a2 a3 : Int) (a4 a5 : List Int) (a6 : Int) (a7 : List (List Cl)) : St := argSt [one (.ow 0), one (.int .i64 a1), one (.int .i64 a2), one (.int .i64 a3), one (.fn 95 [0])] [⟨[.int .i64], .ints a4, true, 0⟩] [[.tr 2 2 [.int .i64] (.ints a5), .int .i64 a6, .tr 2 2 [.int .i64, .int .i64, .bool] (.cells a7)]]
noncomputable def con : FuncId × St × (List Lf → (Res → Option Res) → Option Res) := (137, a 0 0 0 [] [] 0 [], run)
theorem cx (K : Res → Option Res) : CtxOk Go.Proofs.Try.prog Γ0 byt0 eqs0 (X K) os := ⟨rfl, rfl, rfl, (fun p hp => by
 rcases List.mem_cons.1 hp with rfl | hp
 ·exact impl_packed_1.ok
 cases hp), rfl, rfl, rfl, rfl⟩
theorem t2 (K : Res → Option Res) (k : St → Option Res) (it : St → (St → Option Res) → Option Res) (x15 x16 x17 : Int) (x18 x19 : List Int) (x20 : Int) (x21 : List (List Cl)) : iterS (X K) 2 b2 it (s2 x15 x16 x17 x18 x19 x20 x21) k = l2s x15 x17 x18 x19 x20 x21 (fun x16 => it (s2 x15 x16 x17 x18 x19 x20 x21) k) (fun y2 => k (o2 x15 x17 x18 x19 x20 x21 y2)) x16 := by kernel_rfl
theorem i2 (K : Res → Option Res) (k : St → Option Res) (x15 x17 : Int) (x18 x19 : List Int) (x20 : Int) (x21 : List (List Cl)) : ∀ (n : Nat) (x16 : Int), iter (X K) 2 b2 n (s2 x15 x16 x17 x18 x19 x20 x21) k = l2 x15 x17 x18 x19 x20 x21 (fun y2 => k (o2 x15 x17 x18 x19 x20 x21 y2)) n x16
 | 0, _ => rfl
 | n + 1, x16 => by
  rw [iter_succ, t2, show (fun x16 => iter (X K) 2 b2 n (s2 x15 x16 x17 x18 x19 x20 x21) k) = (fun x16 => l2 x15 x17 x18 x19 x20 x21 (fun y2 => k (o2 x15 x17 x18 x19 x20 x21 y2)) n x16) from funext fun x16 => i2 K k x15 x17 x18 x19 x20 x21 n x16]; rfl
theorem v2 {K : Res → Option Res} {l : List Lf} {k : St → Option Res} {r : Res} (h : p2 K l k = some r) : ∃ x15 x16 x17 x18 x19 x20 x21, l = [.i x15, .i x16, .i x17, .q (.ints x18), .q (.ints x19), .i x20, .q (.cells x21)] ∧ l2 x15 x17 x18 x19 x20 x21 (fun y2 => k (o2 x15 x17 x18 x19 x20 x21 y2)) fuel x16 = some r := by
 unfold p2 at h; split at h
 ·exact ⟨_, _, _, _, _, _, _, rfl, h⟩
 ·cases h
theorem t4 (K : Res → Option Res) (k : St → Option Res) (it : St → (St → Option Res) → Option Res) (x24 x25 x26 : Int) (x27 x28 : List Int) (x29 : Int) (x30 : List (List Cl)) : iterS (X K) 4 b4 it (s4 x24 x25 x26 x27 x28 x29 x30) k = l4s x24 x25 x27 x28 x29 x30 (fun x26 => it (s4 x24 x25 x26 x27 x28 x29 x30) k) (fun y3 => k (o4 x24 x25 x27 x28 x29 x30 y3)) x26 := by kernel_rfl
theorem i4 (K : Res → Option Res) (k : St → Option Res) (x24 x25 : Int) (x27 x28 : List Int) (x29 : Int) (x30 : List (List Cl)) : ∀ (n : Nat) (x26 : Int), iter (X K) 4 b4 n (s4 x24 x25 x26 x27 x28 x29 x30) k = l4 x24 x25 x27 x28 x29 x30 (fun y3 => k (o4 x24 x25 x27 x28 x29 x30 y3)) n x26
 | 0, _ => rfl
 | n + 1, x26 => by
  rw [iter_succ, t4, show (fun x26 => iter (X K) 4 b4 n (s4 x24 x25 x26 x27 x28 x29 x30) k) = (fun x26 => l4 x24 x25 x27 x28 x29 x30 (fun y3 => k (o4 x24 x25 x27 x28 x29 x30 y3)) n x26) from funext fun x26 => i4 K k x24 x25 x27 x28 x29 x30 n x26]; rfl
theorem v4 {K : Res → Option Res} {l : List Lf} {k : St → Option Res} {r : Res} (h : p4 K l k = some r) : ∃ x24 x25 x26 x27 x28 x29 x30, l = [.i x24, .i x25, .i x26, .q (.ints x27), .q (.ints x28), .i x29, .q (.cells x30)] ∧ l4 x24 x25 x27 x28 x29 x30 (fun y3 => k (o4 x24 x25 x27 x28 x29 x30 y3)) fuel x26 = some r := by
 unfold p4 at h; split at h
 ·exact ⟨_, _, _, _, _, _, _, rfl, h⟩
 ·cases h
theorem t0 (K : Res → Option Res) (k : St → Option Res) (it : St → (St → Option Res) → Option Res) (x8 x9 x10 : Int) (x11 x12 : List Int) (x13 : Int) (x14 : List (List Cl)) : iterS (X K) 0 b0 it (s0 x8 x9 x10 x11 x12 x13 x14) k = l0s x8 x12 x13 x14 (fun x9 x10 x11 => it (s0 x8 x9 x10 x11 x12 x13 x14) k) (fun y1 y2 => k (o0 x8 x12 x13 x14 y1 y2)) x9 x10 x11 := by kernel_rfl
theorem i0 (K : Res → Option Res) (k : St → Option Res) (x8 : Int) (x12 : List Int) (x13 : Int) (x14 : List (List Cl)) : ∀ (n : Nat) (x9 x10 : Int) (x11 : List Int), iter (X K) 0 b0 n (s0 x8 x9 x10 x11 x12 x13 x14) k = l0 x8 x12 x13 x14 (fun y1 y2 => k (o0 x8 x12 x13 x14 y1 y2)) n x9 x10 x11
 | 0, _, _, _ => rfl
 | n + 1, x9, x10, x11 => by
  rw [iter_succ, t0, show (fun x9 x10 x11 => iter (X K) 0 b0 n (s0 x8 x9 x10 x11 x12 x13 x14) k) = (fun x9 x10 x11 => l0 x8 x12 x13 x14 (fun y1 y2 => k (o0 x8 x12 x13 x14 y1 y2)) n x9 x10 x11) from funext fun x9 => funext fun x10 => funext fun x11 => i0 K k x8 x12 x13 x14 n x9 x10 x11]; rfl
theorem v0 {K : Res → Option Res} {l : List Lf} {k : St → Option Res} {r : Res} (h : p0 K l k = some r) : ∃ x8 x9 x10 x11 x12 x13 x14, l = [.i x8, .i x9, .i x10, .q (.ints x11), .q (.ints x12), .i x13, .q (.cells x14)] ∧ l0 x8 x12 x13 x14 (fun y1 y2 => k (o0 x8 x12 x13 x14 y1 y2)) fuel x9 x10 x11 = some r := by
 unfold p0 at h; split at h
 ·exact ⟨_, _, _, _, _, _, _, rfl, h⟩
 ·cases h
theorem w4 (K : Res → Option Res) : LpSound Go.Proofs.Try.prog (X K) 4 b4 := lp_ok ((cx K).ok laid) (by rw [show loopsOf b4 = [] from by kernel_rfl]; intro p hp; cases hp) rfl fun p hp hid => by
 rcases List.mem_cons.1 hp with rfl | hp
 ·exact absurd hid (by simp)
 rcases List.mem_cons.1 hp with rfl | hp
 ·intro st k r h1 h2; obtain ⟨x24, x25, x26, x27, x28, x29, x30, e, h⟩ := v4 (K := K) h2; have := St.like_eq (y := s4 x24 x25 x26 x27 x28 x29 x30) h1 (by kernel_rfl) e; subst this; exact ⟨fuel, (i4 K k x24 x25 x27 x28 x29 x30 fuel x26).trans h⟩
 rcases List.mem_cons.1 hp with rfl | hp
 ·exact absurd hid (by simp)
 cases hp
theorem w2 (K : Res → Option Res) : LpSound Go.Proofs.Try.prog (X K) 2 b2 := lp_ok ((cx K).ok laid) (by rw [show loopsOf b2 = [] from by kernel_rfl]; intro p hp; cases hp) rfl fun p hp hid => by
 rcases List.mem_cons.1 hp with rfl | hp
 ·intro st k r h1 h2; obtain ⟨x15, x16, x17, x18, x19, x20, x21, e, h⟩ := v2 (K := K) h2; have := St.like_eq (y := s2 x15 x16 x17 x18 x19 x20 x21) h1 (by kernel_rfl) e; subst this; exact ⟨fuel, (i2 K k x15 x17 x18 x19 x20 x21 fuel x16).trans h⟩
 rcases List.mem_cons.1 hp with rfl | hp
 ·exact absurd hid (by simp)
 rcases List.mem_cons.1 hp with rfl | hp
 ·exact absurd hid (by simp)
 cases hp
theorem w0 (K : Res → Option Res) : LpSound Go.Proofs.Try.prog (X K) 0 b0 := lp_ok ((cx K).ok laid) (by
 rw [show loopsOf b0 = [(2, b2), (4, b4)] from by kernel_rfl]; intro p hp
 rcases List.mem_cons.1 hp with rfl | hp
 ·exact w2 K
 rcases List.mem_cons.1 hp with rfl | hp
 ·exact w4 K
 cases hp) rfl fun p hp hid => by
 rcases List.mem_cons.1 hp with rfl | hp
 ·exact absurd hid (by simp)
 rcases List.mem_cons.1 hp with rfl | hp
 ·exact absurd hid (by simp)
 rcases List.mem_cons.1 hp with rfl | hp
 ·intro st k r h1 h2; obtain ⟨x8, x9, x10, x11, x12, x13, x14, e, h⟩ := v0 (K := K) h2; have := St.like_eq (y := s0 x8 x9 x10 x11 x12 x13 x14) h1 (by kernel_rfl) e; subst this; exact ⟨fuel, (i0 K k x8 x12 x13 x14 fuel x9 x10 x11).trans h⟩
 cases hp
theorem tie (K : Res → Option Res) (a1 a2 a3 : Int) (a4 a5 : List Int) (a6 : Int) (a7 : List (List Cl)) : exec (X K) c (entry 90 [one (.ow 0), one (.int .i64 a1), one (.int .i64 a2), one (.int .i64 a3), one (.fn 95 [0])] [⟨[.int .i64], .ints a4, true, 0⟩] [[.tr 2 2 [.int .i64] (.ints a5), .int .i64 a6, .tr 2 2 [.int .i64, .int .i64, .bool] (.cells a7)]]) (endK (X K)) = g a1 a2 a3 a4 a5 a6 a7 (fun r1 r2 r3 r4 r5 => K (m r1 r2 r3 r4 r5)) := Eq.trans (b := b a1 a2 a3 a4 a5 a6 a7 (fun r1 r2 r3 r4 r5 => K (m r1 r2 r3 r4 r5))) (by kernel_rfl) (by rw [e])
theorem runv {l : List Lf} {K : Res → Option Res} {r : Res} (h : run l K = some r) : ∃ a1 a2 a3 a4 a5 a6 a7, l = [.i a1, .i a2, .i a3, .q (.ints a4), .q (.ints a5), .i a6, .q (.cells a7)] ∧ g a1 a2 a3 a4 a5 a6 a7 (fun r1 r2 r3 r4 r5 => K (m r1 r2 r3 r4 r5)) = some r := by
 unfold run at h; split at h
 ·exact ⟨_, _, _, _, _, _, _, rfl, h⟩
 ·cases h
theorem ok : Con Go.Proofs.Try.prog con := con_of (fn := Go.Proofs.Try.f137) (c := c) (Fi := fi) (X := X) (fun_of laid (by kernel_rfl) (by kernel_rfl) (by kernel_rfl) rfl (by kernel_rfl) (by kernel_rfl) cx (fun _ => rfl) (fun _ => rfl) (fun K => by
 rw [show loopsOf c = [(0, b0), (2, b2), (4, b4)] from by kernel_rfl]; intro p hp
 rcases List.mem_cons.1 hp with rfl | hp
 ·exact w0 K
 rcases List.mem_cons.1 hp with rfl | hp
 ·exact w2 K
 rcases List.mem_cons.1 hp with rfl | hp
 ·exact w4 K
 cases hp)) fun xs rows boxes K r hl hr => by
 obtain ⟨a1, a2, a3, a4, a5, a6, a7, e, h⟩ := runv hr
 have := St.like_eq (y := a a1 a2 a3 a4 a5 a6 a7) hl (by kernel_rfl) e
 obtain ⟨rfl, rfl, rfl⟩ := argSt_inj this
 exact (tie K a1 a2 a3 a4 a5 a6 a7).trans h
end slices_partitionEqualCmpFunc_int
namespace slices_partitionCmpFunc_int
noncomputable def c : Code := bodyOf Go.Proofs.Try.f138
noncomputable def fi : Fin := ⟨Γ0, [(.tmp 10, 3), (.tmp 11, 4)], [[1], [1]], [true], [([.sl [.int .i64] 8, .int .i64, .sl [.int .i64, .int .i64, .bool] 24], [0, 1, 0])], []⟩
noncomputable def m (r1 : Int) (r2 : Bool) (r3 r4 : List Int) (r5 : Int) (r6 : List (List Cl)) : Res := ⟨[⟨false, [.int .i64 r1]⟩, ⟨false, [.bool r2]⟩], [some ⟨[.int .i64], .ints r3, true, 0⟩], [], [[.tr 2 2 [.int .i64] (.ints r4), .int .i64 r5, .tr 2 2 [.int .i64, .int .i64, .bool] (.cells r6)]], []⟩
noncomputable def b0 : Code := codeAt c [1, 1, 1, 0, 0, 0]
noncomputable def b2 : Code := codeAt c [1, 1, 1, 1, 0, 0, 0]
noncomputable def b4 : Code := codeAt c [1, 1, 1, 1, 1, 1, 1, 1, 1, 0, 0, 0]
noncomputable def b6 : Code := codeAt c [1, 1, 1, 1, 1, 1, 1, 1, 1, 0, 0, 0, 0, 0, 0, 0]
noncomputable def b8 : Code := codeAt c [1, 1, 1, 1, 1, 1, 1, 1, 1, 0, 0, 0, 0, 1, 0, 0, 0]
noncomputable def s0 (x8 x9 x10 : Int) (x11 x12 : List Int) (x13 : Int) (x14 : List (List Cl)) : St := ⟨mkT 178 [(0, one (.ow 0)), (1, one (.int .i64 x8)), (4, one (.fn 95 [0])), (12, one (.int .i64 x9)), (13, one (.int .i64 x10))], [(0, ⟨[.int .i64], .ints x11, true, 0⟩)], [(0, [.tr 2 2 [.int .i64] (.ints x12), .int .i64 x13, .tr 2 2 [.int .i64, .int .i64, .bool] (.cells x14)])]⟩
noncomputable def l0s (x8 x10 : Int) (x11 x12 : List Int) (x13 : Int) (x14 : List (List Cl)) (rec : Int → Option Res) (k : Int → Option Res) (x9 : Int) : Option Res :=
 bif decide (x9 ≤ x10) then (bif decide (0 ≤ x9) && decide (x9 < (x11.length : Int)) then (bif decide (0 ≤ x8) && decide (x8 < (x11.length : Int)) then (impl_packed_1.g (x11.getD x9.toNat 0) (x11.getD x8.toNat 0) x12 x13 x14 fun r15 =>
  bif decide (r15 < 0) then rec (IntKind.i64.wrap (x9 + 1))
  else k x9)
  else none)
  else none)
 else k x9
noncomputable def l0 (x8 x10 : Int) (x11 x12 : List Int) (x13 : Int) (x14 : List (List Cl)) (k : Int → Option Res) : Nat → Int → Option Res
 | 0, _ => none
 | n + 1, x9 => l0s x8 x10 x11 x12 x13 x14 (fun x9 => l0 x8 x10 x11 x12 x13 x14 k n x9) k x9
noncomputable def o0 (x8 x10 : Int) (x11 x12 : List Int) (x13 : Int) (x14 : List (List Cl)) (y2 : Int) : St := ⟨mkT 178 [(0, one (.ow 0)), (1, one (.int .i64 x8)), (4, one (.fn 95 [0])), (12, one (.int .i64 y2)), (13, one (.int .i64 x10))], [(0, ⟨[.int .i64], .ints x11, true, 0⟩)], [(0, [.tr 2 2 [.int .i64] (.ints x12), .int .i64 x13, .tr 2 2 [.int .i64, .int .i64, .bool] (.cells x14)])]⟩
noncomputable def p0 (K : Res → Option Res) : List Lf → (St → Option Res) → Option Res
 | [.i x8, .i x9, .i x10, .q (.ints x11), .q (.ints x12), .i x13, .q (.cells x14)], k => l0 x8 x10 x11 x12 x13 x14 (fun y2 => k (o0 x8 x10 x11 x12 x13 x14 y2)) fuel x9
 | _, _ => none
noncomputable def s2 (x17 x18 x19 : Int) (x20 x21 : List Int) (x22 : Int) (x23 : List (List Cl)) : St := ⟨mkT 178 [(0, one (.ow 0)), (1, one (.int .i64 x17)), (4, one (.fn 95 [0])), (12, one (.int .i64 x18)), (13, one (.int .i64 x19))], [(0, ⟨[.int .i64], .ints x20, true, 0⟩)], [(0, [.tr 2 2 [.int .i64] (.ints x21), .int .i64 x22, .tr 2 2 [.int .i64, .int .i64, .bool] (.cells x23)])]⟩
noncomputable def l2s (x17 x18 : Int) (x20 x21 : List Int) (x22 : Int) (x23 : List (List Cl)) (rec : Int → Option Res) (k : Int → Option Res) (x19 : Int) : Option Res :=
 bif decide (x18 ≤ x19) then (bif decide (0 ≤ x19) && decide (x19 < (x20.length : Int)) then (bif decide (0 ≤ x17) && decide (x17 < (x20.length : Int)) then (impl_packed_1.g (x20.getD x19.toNat 0) (x20.getD x17.toNat 0) x21 x22 x23 fun r24 =>
  bif !(decide (r24 < 0)) then rec (IntKind.i64.wrap (x19 - 1))
  else k x19)
  else none)
  else none)
 else k x19
noncomputable def l2 (x17 x18 : Int) (x20 x21 : List Int) (x22 : Int) (x23 : List (List Cl)) (k : Int → Option Res) : Nat → Int → Option Res
 | 0, _ => none
 | n + 1, x19 => l2s x17 x18 x20 x21 x22 x23 (fun x19 => l2 x17 x18 x20 x21 x22 x23 k n x19) k x19
noncomputable def o2 (x17 x18 : Int) (x20 x21 : List Int) (x22 : Int) (x23 : List (List Cl)) (y3 : Int) : St := ⟨mkT 178 [(0, one (.ow 0)), (1, one (.int .i64 x17)), (4, one (.fn 95 [0])), (12, one (.int .i64 x18)), (13, one (.int .i64 y3))], [(0, ⟨[.int .i64], .ints x20, true, 0⟩)], [(0, [.tr 2 2 [.int .i64] (.ints x21), .int .i64 x22, .tr 2 2 [.int .i64, .int .i64, .bool] (.cells x23)])]⟩
noncomputable def p2 (K : Res → Option Res) : List Lf → (St → Option Res) → Option Res
 | [.i x17, .i x18, .i x19, .q (.ints x20), .q (.ints x21), .i x22, .q (.cells x23)], k => l2 x17 x18 x20 x21 x22 x23 (fun y3 => k (o2 x17 x18 x20 x21 x22 x23 y3)) fuel x19
 | _, _ => none
noncomputable def s6 (x33 x34 x35 : Int) (x36 x37 : List Int) (x38 : Int) (x39 : List (List Cl)) : St := ⟨mkT 178 [(0, one (.ow 0)), (1, one (.int .i64 x33)), (4, one (.fn 95 [0])), (12, one (.int .i64 x34)), (13, one (.int .i64 x35))], [(0, ⟨[.int .i64], .ints x36, true, 0⟩)], [(0, [.tr 2 2 [.int .i64] (.ints x37), .int .i64 x38, .tr 2 2 [.int .i64, .int .i64, .bool] (.cells x39)])]⟩
noncomputable def l6s (x33 x35 : Int) (x36 x37 : List Int) (x38 : Int) (x39 : List (List Cl)) (rec : Int → Option Res) (k : Int → Option Res) (x34 : Int) : Option Res :=
 bif decide (x34 ≤ x35) then (bif decide (0 ≤ x34) && decide (x34 < (x36.length : Int)) then (bif decide (0 ≤ x33) && decide (x33 < (x36.length : Int)) then (impl_packed_1.g (x36.getD x34.toNat 0) (x36.getD x33.toNat 0) x37 x38 x39 fun r40 =>
  bif decide (r40 < 0) then rec (IntKind.i64.wrap (x34 + 1))
  else k x34)
  else none)
  else none)
 else k x34
noncomputable def l6 (x33 x35 : Int) (x36 x37 : List Int) (x38 : Int) (x39 : List (List Cl)) (k : Int → Option Res) : Nat → Int → Option Res
 | 0, _ => none
 | n + 1, x34 => l6s x33 x35 x36 x37 x38 x39 (fun x34 => l6 x33 x35 x36 x37 x38 x39 k n x34) k x34
noncomputable def o6 (x33 x35 : Int) (x36 x37 : List Int) (x38 : Int) (x39 : List (List Cl)) (y2 : Int) : St := ⟨mkT 178 [(0, one (.ow 0)), (1, one (.int .i64 x33)), (4, one (.fn 95 [0])), (12, one (.int .i64 y2)), (13, one (.int .i64 x35))], [(0, ⟨[.int .i64], .ints x36, true, 0⟩)], [(0, [.tr 2 2 [.int .i64] (.ints x37), .int .i64 x38, .tr 2 2 [.int .i64, .int .i64, .bool] (.cells x39)])]⟩
noncomputable def p6 (K : Res → Option Res) : List Lf → (St → Option Res) → Option Res
 | [.i x33, .i x34, .i x35, .q (.ints x36), .q (.ints x37), .i x38, .q (.cells x39)], k => l6 x33 x35 x36 x37 x38 x39 (fun y2 => k (o6 x33 x35 x36 x37 x38 x39 y2)) fuel x34
 | _, _ => none
noncomputable def s8 (x42 x43 x44 : Int) (x45 x46 : List Int) (x47 : Int) (x48 : List (List Cl)) : St := ⟨mkT 178 [(0, one (.ow 0)), (1, one (.int .i64 x42)), (4, one (.fn 95 [0])), (12, one (.int .i64 x43)), (13, one (.int .i64 x44))], [(0, ⟨[.int .i64], .ints x45, true, 0⟩)], [(0, [.tr 2 2 [.int .i64] (.ints x46), .int .i64 x47, .tr 2 2 [.int .i64, .int .i64, .bool] (.cells x48)])]⟩
noncomputable def l8s (x42 x43 : Int) (x45 x46 : List Int) (x47 : Int) (x48 : List (List Cl)) (rec : Int → Option Res) (k : Int → Option Res) (x44 : Int) : Option Res :=
 bif decide (x43 ≤ x44) then (bif decide (0 ≤ x44) && decide (x44 < (x45.length : Int)) then (bif decide (0 ≤ x42) && decide (x42 < (x45.length : Int)) then (impl_packed_1.g (x45.getD x44.toNat 0) (x45.getD x42.toNat 0) x46 x47 x48 fun r49 =>
  bif !(decide (r49 < 0)) then rec (IntKind.i64.wrap (x44 - 1))
  else k x44)
  else none)
  else none)
 else k x44
noncomputable def l8 (x42 x43 : Int) (x45 x46 : List Int) (x47 : Int) (x48 : List (List Cl)) (k : Int → Option Res) : Nat → Int → Option Res
 | 0, _ => none
 | n + 1, x44 => l8s x42 x43 x45 x46 x47 x48 (fun x44 => l8 x42 x43 x45 x46 x47 x48 k n x44) k x44
noncomputable def o8 (x42 x43 : Int) (x45 x46 : List Int) (x47 : Int) (x48 : List (List Cl)) (y3 : Int) : St := ⟨mkT 178 [(0, one (.ow 0)), (1, one (.int .i64 x42)), (4, one (.fn 95 [0])), (12, one (.int .i64 x43)), (13, one (.int .i64 y3))], [(0, ⟨[.int .i64], .ints x45, true, 0⟩)], [(0, [.tr 2 2 [.int .i64] (.ints x46), .int .i64 x47, .tr 2 2 [.int .i64, .int .i64, .bool] (.cells x48)])]⟩
noncomputable def p8 (K : Res → Option Res) : List Lf → (St → Option Res) → Option Res
 | [.i x42, .i x43, .i x44, .q (.ints x45), .q (.ints x46), .i x47, .q (.cells x48)], k => l8 x42 x43 x45 x46 x47 x48 (fun y3 => k (o8 x42 x43 x45 x46 x47 x48 y3)) fuel x44
 | _, _ => none
noncomputable def s4 (x26 x27 x28 : Int) (x29 x30 : List Int) (x31 : Int) (x32 : List (List Cl)) : St := ⟨mkT 178 [(0, one (.ow 0)), (1, one (.int .i64 x26)), (4, one (.fn 95 [0])), (12, one (.int .i64 x27)), (13, one (.int .i64 x28))], [(0, ⟨[.int .i64], .ints x29, true, 0⟩)], [(0, [.tr 2 2 [.int .i64] (.ints x30), .int .i64 x31, .tr 2 2 [.int .i64, .int .i64, .bool] (.cells x32)])]⟩
noncomputable def l4s (x26 : Int) (x30 : List Int) (x31 : Int) (x32 : List (List Cl)) (rec : Int → Int → List Int → Option Res) (k : Int → List Int → Option Res) (x27 x28 : Int) (x29 : List Int) : Option Res :=
 l6 x26 x28 x29 x30 x31 x32 (fun y41 =>
 l8 x26 y41 x29 x30 x31 x32 (fun y50 =>
 bif decide (y50 < y41) then k y50 x29
 else bif decide (0 ≤ y50) && decide (y50 < (x29.length : Int)) then (bif decide (0 ≤ y41) && decide (y41 < (x29.length : Int)) then (bif decide (0 ≤ y41) && decide (y41 < (x29.length : Int)) then (bif decide (0 ≤ y50) && decide (y50 < ((x29.set y41.toNat (x29.getD y50.toNat 0)).length : Int)) then rec (IntKind.i64.wrap (y41 + 1)) (IntKind.i64.wrap (y50 - 1)) ((x29.set y41.toNat (x29.getD y50.toNat 0)).set y50.toNat (x29.getD y41.toNat 0))
  else none)
  else none)
  else none)
 else none) fuel x28) fuel x27
noncomputable def l4 (x26 : Int) (x30 : List Int) (x31 : Int) (x32 : List (List Cl)) (k : Int → List Int → Option Res) : Nat → Int → Int → List Int → Option Res
 | 0, _, _, _ => none
 | n + 1, x27, x28, x29 => l4s x26 x30 x31 x32 (fun x27 x28 x29 => l4 x26 x30 x31 x32 k n x27 x28 x29) k x27 x28 x29
noncomputable def o4 (x26 : Int) (x30 : List Int) (x31 : Int) (x32 : List (List Cl)) (y2 : Int) (y3 : List Int) : St := ⟨mkT 178 [(0, one (.ow 0)), (1, one (.int .i64 x26)), (13, one (.int .i64 y2))], [(0, ⟨[.int .i64], .ints y3, true, 0⟩)], [(0, [.tr 2 2 [.int .i64] (.ints x30), .int .i64 x31, .tr 2 2 [.int .i64, .int .i64, .bool] (.cells x32)])]⟩
noncomputable def p4 (K : Res → Option Res) : List Lf → (St → Option Res) → Option Res
 | [.i x26, .i x27, .i x28, .q (.ints x29), .q (.ints x30), .i x31, .q (.cells x32)], k => l4 x26 x30 x31 x32 (fun y2 y3 => k (o4 x26 x30 x31 x32 y2 y3)) fuel x27 x28 x29
 | _, _ => none
noncomputable def os : List (FuncId × St × (List Lf → (Res → Option Res) → Option Res)) := [impl_packed_1.con]
noncomputable def X (K : Res → Option Res) : Ctx := { Γ := Γ0, orc := orcOf os, io := [], share := [], mvl := [], bun := [], cut := [], own := [], cin := [(0, ⟨[0, 1, 4, 12, 13], [(0, 0)], [0], [], [], []⟩), (2, ⟨[0, 1, 4, 12, 13], [(0, 0)], [0], [], [], []⟩), (6, ⟨[0, 1, 4, 12, 13], [(0, 0)], [0], [], [], []⟩), (8, ⟨[0, 1, 4, 12, 13], [(0, 0)], [0], [], [], []⟩), (4, ⟨[0, 1, 4, 12, 13], [(0, 0)], [0], [], [], []⟩)], cout := [(0, ⟨[0, 1, 4, 12, 13], [(0, 0)], [0], [], [], []⟩), (2, ⟨[0, 1, 4, 12, 13], [(0, 0)], [0], [], [], []⟩), (6, ⟨[0, 1, 4, 12, 13], [(0, 0)], [0], [], [], []⟩), (8, ⟨[0, 1, 4, 12, 13], [(0, 0)], [0], [], [], []⟩), (4, ⟨[0, 1, 13], [(0, 0)], [0], [], [], []⟩)], lp := lpOf [(0, s0 0 0 0 [] [] 0 [], p0 K), (2, s2 0 0 0 [] [] 0 [], p2 K), (6, s6 0 0 0 [] [] 0 [], p6 K), (8, s8 0 0 0 [] [] 0 [], p8 K), (4, s4 0 0 0 [] [] 0 [], p4 K)], kl := [], nk := true, eqs := eqs0, byt := byt0, fin := finK fi K }
noncomputable def b (a1 a2 a3 : Int) (a4 a5 : List Int) (a6 : Int) (a7 : List (List Cl)) (R : Int → Bool → List Int → List Int → Int → List (List Cl) → Option Res) : Option Res :=
 bif decide (0 ≤ a3) && decide (a3 < (a4.length : Int)) then (bif decide (0 ≤ a1) && decide (a1 < (a4.length : Int)) then (bif decide (0 ≤ a1) && decide (a1 < (a4.length : Int)) then (bif decide (0 ≤ a3) && decide (a3 < ((a4.set a1.toNat (a4.getD a3.toNat 0)).length : Int)) then (l0 a1 (IntKind.i64.wrap (a2 - 1)) ((a4.set a1.toNat (a4.getD a3.toNat 0)).set a3.toNat (a4.getD a1.toNat 0)) a5 a6 a7 (fun y16 =>
  l2 a1 y16 ((a4.set a1.toNat (a4.getD a3.toNat 0)).set a3.toNat (a4.getD a1.toNat 0)) a5 a6 a7 (fun y25 =>
  bif decide (y25 < y16) then (bif decide (0 ≤ a1) && decide (a1 < (((a4.set a1.toNat (a4.getD a3.toNat 0)).set a3.toNat (a4.getD a1.toNat 0)).length : Int)) then (bif decide (0 ≤ y25) && decide (y25 < (((a4.set a1.toNat (a4.getD a3.toNat 0)).set a3.toNat (a4.getD a1.toNat 0)).length : Int)) then (bif decide (0 ≤ y25) && decide (y25 < (((a4.set a1.toNat (a4.getD a3.toNat 0)).set a3.toNat (a4.getD a1.toNat 0)).length : Int)) then (bif decide (0 ≤ a1) && decide (a1 < ((((a4.set a1.toNat (a4.getD a3.toNat 0)).set a3.toNat (a4.getD a1.toNat 0)).set y25.toNat (((a4.set a1.toNat (a4.getD a3.toNat 0)).set a3.toNat (a4.getD a1.toNat 0)).getD a1.toNat 0)).length : Int)) then R y25 true ((((a4.set a1.toNat (a4.getD a3.toNat 0)).set a3.toNat (a4.getD a1.toNat 0)).set y25.toNat (((a4.set a1.toNat (a4.getD a3.toNat 0)).set a3.toNat (a4.getD a1.toNat 0)).getD a1.toNat 0)).set a1.toNat (((a4.set a1.toNat (a4.getD a3.toNat 0)).set a3.toNat (a4.getD a1.toNat 0)).getD y25.toNat 0)) a5 a6 a7
   else none)
   else none)
   else none)
   else none)
  else bif decide (0 ≤ y25) && decide (y25 < (((a4.set a1.toNat (a4.getD a3.toNat 0)).set a3.toNat (a4.getD a1.toNat 0)).length : Int)) then (bif decide (0 ≤ y16) && decide (y16 < (((a4.set a1.toNat (a4.getD a3.toNat 0)).set a3.toNat (a4.getD a1.toNat 0)).length : Int)) then (bif decide (0 ≤ y16) && decide (y16 < (((a4.set a1.toNat (a4.getD a3.toNat 0)).set a3.toNat (a4.getD a1.toNat 0)).length : Int)) then (bif decide (0 ≤ y25) && decide (y25 < ((((a4.set a1.toNat (a4.getD a3.toNat 0)).set a3.toNat (a4.getD a1.toNat 0)).set y16.toNat (((a4.set a1.toNat (a4.getD a3.toNat 0)).set a3.toNat (a4.getD a1.toNat 0)).getD y25.toNat 0)).length : Int)) then (l4 a1 a5 a6 a7 (fun y51 y52 =>
   bif decide (0 ≤ a1) && decide (a1 < (y52.length : Int)) then (bif decide (0 ≤ y51) && decide (y51 < (y52.length : Int)) then (bif decide (0 ≤ y51) && decide (y51 < (y52.length : Int)) then (bif decide (0 ≤ a1) && decide (a1 < ((y52.set y51.toNat (y52.getD a1.toNat 0)).length : Int)) then R y51 false ((y52.set y51.toNat (y52.getD a1.toNat 0)).set a1.toNat (y52.getD y51.toNat 0)) a5 a6 a7
    else none)
    else none)
    else none)
   else none) fuel (IntKind.i64.wrap (y16 + 1)) (IntKind.i64.wrap (y25 - 1)) ((((a4.set a1.toNat (a4.getD a3.toNat 0)).set a3.toNat (a4.getD a1.toNat 0)).set y16.toNat (((a4.set a1.toNat (a4.getD a3.toNat 0)).set a3.toNat (a4.getD a1.toNat 0)).getD y25.toNat 0)).set y25.toNat (((a4.set a1.toNat (a4.getD a3.toNat 0)).set a3.toNat (a4.getD a1.toNat 0)).getD y16.toNat 0)))
   else none)
   else none)
   else none)
  else none) fuel (IntKind.i64.wrap (a2 - 1))) fuel (IntKind.i64.wrap (a1 + 1)))
  else none)
  else none)
  else none)
 else none
theorem gx : ∃ x : Int → Int → Int → List Int → List Int → Int → List (List Cl) → (Int → Bool → List Int → List Int → Int → List (List Cl) → Option Res) → Option Res, x = b := ⟨_, rfl⟩
noncomputable def g : Int → Int → Int → List Int → List Int → Int → List (List Cl) → (Int → Bool → List Int → List Int → Int → List (List Cl) → Option Res) → Option Res := Classical.choose gx
theorem e : g = b := Classical.choose_spec gx
noncomputable def run : List Lf → (Res → Option Res) → Option Res
 | [.i a1, .i a2, .i a3, .q (.ints a4), .q (.ints a5), .i a6, .q (.cells a7)], K => g a1 a2 a3 a4 a5 a6 a7 (fun r1 r2 r3 r4 r5 r6 => K (m r1 r2 r3 r4 r5 r6))
 | _, _ => none
noncomputable def a (a1 a2 a3 : Int) (a4 a5 : List Int) (a6 : Int) (a7 : List (List Cl)) : St := argSt [one (.ow 0), one (.int .i64 a1), one (.int .i64 a2), one (.int .i64 a3), one (.fn 95 [0])] [⟨[.int .i64], .ints a4, true, 0⟩] [[.tr 2 2 [.int .i64] (.ints a5), .int .i64 a6, .tr 2 2 [.int .i64, .int .i64, .bool] (.cells a7)]]
noncomputable def con : FuncId × St × (List Lf → (Res → Option Res) → Option Res) := (138, a 0 0 0 [] [] 0 [], run)
theorem cx (K : Res → Option Res) : CtxOk Go.Proofs.Try.prog Γ0 byt0 eqs0 (X K) os := ⟨rfl, rfl, rfl, (fun p hp => by
 rcases List.mem_cons.1 hp with rfl | hp
 ·exact impl_packed_1.ok
 cases hp), rfl, rfl, rfl, rfl⟩
theorem t0 (K : Res → Option Res) (k : St → Option Res) (it : St → (St → Option Res) → Option Res) (x8 x9 x10 : Int) (x11 x12 : List Int) (x13 : Int) (x14 : List (List Cl)) : iterS (X K) 0 b0 it (s0 x8 x9 x10 x11 x12 x13 x14) k = l0s x8 x10 x11 x12 x13 x14 (fun x9 => it (s0 x8 x9 x10 x11 x12 x13 x14) k) (fun y2 => k (o0 x8 x10 x11 x12 x13 x14 y2)) x9 := by kernel_rfl
theorem i0 (K : Res → Option Res) (k : St → Option Res) (x8 x10 : Int) (x11 x12 : List Int) (x13 : Int) (x14 : List (List Cl)) : ∀ (n : Nat) (x9 : Int), iter (X K) 0 b0 n (s0 x8 x9 x10 x11 x12 x13 x14) k = l0 x8 x10 x11 x12 x13 x14 (fun y2 => k (o0 x8 x10 x11 x12 x13 x14 y2)) n x9
 | 0, _ => rfl
 | n + 1, x9 => by
  rw [iter_succ, t0, show (fun x9 => iter (X K) 0 b0 n (s0 x8 x9 x10 x11 x12 x13 x14) k) = (fun x9 => l0 x8 x10 x11 x12 x13 x14 (fun y2 => k (o0 x8 x10 x11 x12 x13 x14 y2)) n x9) from funext fun x9 => i0 K k x8 x10 x11 x12 x13 x14 n x9]; rfl
theorem v0 {K : Res → Option Res} {l : List Lf} {k : St → Option Res} {r : Res} (h : p0 K l k = some r) : ∃ x8 x9 x10 x11 x12 x13 x14, l = [.i x8, .i x9, .i x10, .q (.ints x11), .q (.ints x12), .i x13, .q (.cells x14)] ∧ l0 x8 x10 x11 x12 x13 x14 (fun y2 => k (o0 x8 x10 x11 x12 x13 x14 y2)) fuel x9 = some r := by
 unfold p0 at h; split at h
 ·exact ⟨_, _, _, _, _, _, _, rfl, h⟩
 ·cases h
theorem t2 (K : Res → Option Res) (k : St → Option Res) (it : St → (St → Option Res) → Option Res) (x17 x18 x19 : Int) (x20 x21 : List Int) (x22 : Int) (x23 : List (List Cl)) : iterS (X K) 2 b2 it (s2 x17 x18 x19 x20 x21 x22 x23) k = l2s x17 x18 x20 x21 x22 x23 (fun x19 => it (s2 x17 x18 x19 x20 x21 x22 x23) k) (fun y3 => k (o2 x17 x18 x20 x21 x22 x23 y3)) x19 := by kernel_rfl
theorem i2 (K : Res → Option Res) (k : St → Option Res) (x17 x18 : Int) (x20 x21 : List Int) (x22 : Int) (x23 : List (List Cl)) : ∀ (n : Nat) (x19 : Int), iter (X K) 2 b2 n (s2 x17 x18 x19 x20 x21 x22 x23) k = l2 x17 x18 x20 x21 x22 x23 (fun y3 => k (o2 x17 x18 x20 x21 x22 x23 y3)) n x19
 | 0, _ => rfl
 | n + 1, x19 => by
  rw [iter_succ, t2, show (fun x19 => iter (X K) 2 b2 n (s2 x17 x18 x19 x20 x21 x22 x23) k) = (fun x19 => l2 x17 x18 x20 x21 x22 x23 (fun y3 => k (o2 x17 x18 x20 x21 x22 x23 y3)) n x19) from funext fun x19 => i2 K k x17 x18 x20 x21 x22 x23 n x19]; rfl
theorem v2 {K : Res → Option Res} {l : List Lf} {k : St → Option Res} {r : Res} (h : p2 K l k = some r) : ∃ x17 x18 x19 x20 x21 x22 x23, l = [.i x17, .i x18, .i x19, .q (.ints x20), .q (.ints x21), .i x22, .q (.cells x23)] ∧ l2 x17 x18 x20 x21 x22 x23 (fun y3 => k (o2 x17 x18 x20 x21 x22 x23 y3)) fuel x19 = some r := by
 unfold p2 at h; split at h
 ·exact ⟨_, _, _, _, _, _, _, rfl, h⟩
 ·cases h
theorem t6 (K : Res → Option Res) (k : St → Option Res) (it : St → (St → Option Res) → Option Res) (x33 x34 x35 : Int) (x36 x37 : List Int) (x38 : Int) (x39 : List (List Cl)) : iterS (X K) 6 b6 it (s6 x33 x34 x35 x36 x37 x38 x39) k = l6s x33 x35 x36 x37 x38 x39 (fun x34 => it (s6 x33 x34 x35 x36 x37 x38 x39) k) (fun y2 => k (o6 x33 x35 x36 x37 x38 x39 y2)) x34 := by kernel_rfl
theorem i6 (K : Res → Option Res) (k : St → Option Res) (x33 x35 : Int) (x36 x37 : List Int) (x38 : Int) (x39 : List (List Cl)) : ∀ (n : Nat) (x34 : Int), iter (X K) 6 b6 n (s6 x33 x34 x35 x36 x37 x38 x39) k = l6 x33 x35 x36 x37 x38 x39 (fun y2 => k (o6 x33 x35 x36 x37 x38 x39 y2)) n x34
 | 0, _ => rfl
 | n + 1, x34 => by
  rw [iter_succ, t6, show (fun x34 => iter (X K) 6 b6 n (s6 x33 x34 x35 x36 x37 x38 x39) k) = (fun x34 => l6 x33 x35 x36 x37 x38 x39 (fun y2 => k (o6 x33 x35 x36 x37 x38 x39 y2)) n x34) from funext fun x34 => i6 K k x33 x35 x36 x37 x38 x39 n x34]; rfl
theorem v6 {K : Res → Option Res} {l : List Lf} {k : St → Option Res} {r : Res} (h : p6 K l k = some r) : ∃ x33 x34 x35 x36 x37 x38 x39, l = [.i x33, .i x34, .i x35, .q (.ints x36), .q (.ints x37), .i x38, .q (.cells x39)] ∧ l6 x33 x35 x36 x37 x38 x39 (fun y2 => k (o6 x33 x35 x36 x37 x38 x39 y2)) fuel x34 = some r := by
 unfold p6 at h; split at h
 ·exact ⟨_, _, _, _, _, _, _, rfl, h⟩
 ·cases h
theorem t8 (K : Res → Option Res) (k : St → Option Res) (it : St → (St → Option Res) → Option Res) (x42 x43 x44 : Int) (x45 x46 : List Int) (x47 : Int) (x48 : List (List Cl)) : iterS (X K) 8 b8 it (s8 x42 x43 x44 x45 x46 x47 x48) k = l8s x42 x43 x45 x46 x47 x48 (fun x44 => it (s8 x42 x43 x44 x45 x46 x47 x48) k) (fun y3 => k (o8 x42 x43 x45 x46 x47 x48 y3)) x44 := by kernel_rfl
theorem i8 (K : Res → Option Res) (k : St → Option Res) (x42 x43 : Int) (x45 x46 : List Int) (x47 : Int) (x48 : List (List Cl)) : ∀ (n : Nat) (x44 : Int), iter (X K) 8 b8 n (s8 x42 x43 x44 x45 x46 x47 x48) k = l8 x42 x43 x45 x46 x47 x48 (fun y3 => k (o8 x42 x43 x45 x46 x47 x48 y3)) n x44
 | 0, _ => rfl
 | n + 1, x44 => by
  rw [iter_succ, t8, show (fun x44 => iter (X K) 8 b8 n (s8 x42 x43 x44 x45 x46 x47 x48) k) = (fun x44 => l8 x42 x43 x45 x46 x47 x48 (fun y3 => k (o8 x42 x43 x45 x46 x47 x48 y3)) n x44) from funext fun x44 => i8 K k x42 x43 x45 x46 x47 x48 n x44]; rfl
theorem v8 {K : Res → Option Res} {l : List Lf} {k : St → Option Res} {r : Res} (h : p8 K l k = some r) : ∃ x42 x43 x44 x45 x46 x47 x48, l = [.i x42, .i x43, .i x44, .q (.ints x45), .q (.ints x46), .i x47, .q (.cells x48)] ∧ l8 x42 x43 x45 x46 x47 x48 (fun y3 => k (o8 x42 x43 x45 x46 x47 x48 y3)) fuel x44 = some r := by
 unfold p8 at h; split at h
 ·exact ⟨_, _, _, _, _, _, _, rfl, h⟩
 ·cases h
theorem t4 (K : Res → Option Res) (k : St → Option Res) (it : St → (St → Option Res) → Option Res) (x26 x27 x28 : Int) (x29 x30 : List Int) (x31 : Int) (x32 : List (List Cl)) : iterS (X K) 4 b4 it (s4 x26 x27 x28 x29 x30 x31 x32) k = l4s x26 x30 x31 x32 (fun x27 x28 x29 => it (s4 x26 x27 x28 x29 x30 x31 x32) k) (fun y2 y3 => k (o4 x26 x30 x31 x32 y2 y3)) x27 x28 x29 := by kernel_rfl
theorem i4 (K : Res → Option Res) (k : St → Option Res) (x26 : Int) (x30 : List Int) (x31 : Int) (x32 : List (List Cl)) : ∀ (n : Nat) (x27 x28 : Int) (x29 : List Int), iter (X K) 4 b4 n (s4 x26 x27 x28 x29 x30 x31 x32) k = l4 x26 x30 x31 x32 (fun y2 y3 => k (o4 x26 x30 x31 x32 y2 y3)) n x27 x28 x29
 | 0, _, _, _ => rfl
 | n + 1, x27, x28, x29 => by
  rw [iter_succ, t4, show (fun x27 x28 x29 => iter (X K) 4 b4 n (s4 x26 x27 x28 x29 x30 x31 x32) k) = (fun x27 x28 x29 => l4 x26 x30 x31 x32 (fun y2 y3 => k (o4 x26 x30 x31 x32 y2 y3)) n x27 x28 x29) from funext fun x27 => funext fun x28 => funext fun x29 => i4 K k x26 x30 x31 x32 n x27 x28 x29]; rfl
theorem v4 {K : Res → Option Res} {l : List Lf} {k : St → Option Res} {r : Res} (h : p4 K l k = some r) : ∃ x26 x27 x28 x29 x30 x31 x32, l = [.i x26, .i x27, .i x28, .q (.ints x29), .q (.ints x30), .i x31, .q (.cells x32)] ∧ l4 x26 x30 x31 x32 (fun y2 y3 => k (o4 x26 x30 x31 x32 y2 y3)) fuel x27 x28 x29 = some r := by
 unfold p4 at h; split at h
 ·exact ⟨_, _, _, _, _, _, _, rfl, h⟩
 ·cases h
theorem w8 (K : Res → Option Res) : LpSound Go.Proofs.Try.prog (X K) 8 b8 := lp_ok ((cx K).ok laid) (by rw [show loopsOf b8 = [] from by kernel_rfl]; intro p hp; cases hp) rfl fun p hp hid => by
 rcases List.mem_cons.1 hp with rfl | hp
 ·exact absurd hid (by simp)
 rcases List.mem_cons.1 hp with rfl | hp
 ·exact absurd hid (by simp)
 rcases List.mem_cons.1 hp with rfl | hp
 ·exact absurd hid (by simp)
 rcases List.mem_cons.1 hp with rfl | hp
 ·intro st k r h1 h2; obtain ⟨x42, x43, x44, x45, x46, x47, x48, e, h⟩ := v8 (K := K) h2; have := St.like_eq (y := s8 x42 x43 x44 x45 x46 x47 x48) h1 (by kernel_rfl) e; subst this; exact ⟨fuel, (i8 K k x42 x43 x45 x46 x47 x48 fuel x44).trans h⟩
 rcases List.mem_cons.1 hp with rfl | hp
 ·exact absurd hid (by simp)
 cases hp
theorem w6 (K : Res → Option Res) : LpSound Go.Proofs.Try.prog (X K) 6 b6 := lp_ok ((cx K).ok laid) (by rw [show loopsOf b6 = [] from by kernel_rfl]; intro p hp; cases hp) rfl fun p hp hid => by
 rcases List.mem_cons.1 hp with rfl | hp
 ·exact absurd hid (by simp)
 rcases List.mem_cons.1 hp with rfl | hp
 ·exact absurd hid (by simp)
 rcases List.mem_cons.1 hp with rfl | hp
 ·intro st k r h1 h2; obtain ⟨x33, x34, x35, x36, x37, x38, x39, e, h⟩ := v6 (K := K) h2; have := St.like_eq (y := s6 x33 x34 x35 x36 x37 x38 x39) h1 (by kernel_rfl) e; subst this; exact ⟨fuel, (i6 K k x33 x35 x36 x37 x38 x39 fuel x34).trans h⟩
 rcases List.mem_cons.1 hp with rfl | hp
 ·exact absurd hid (by simp)
 rcases List.mem_cons.1 hp with rfl | hp
 ·exact absurd hid (by simp)
 cases hp
theorem w4 (K : Res → Option Res) : LpSound Go.Proofs.Try.prog (X K) 4 b4 := lp_ok ((cx K).ok laid) (by
 rw [show loopsOf b4 = [(6, b6), (8, b8)] from by kernel_rfl]; intro p hp
 rcases List.mem_cons.1 hp with rfl | hp
 ·exact w6 K
 rcases List.mem_cons.1 hp with rfl | hp
 ·exact w8 K
 cases hp) rfl fun p hp hid => by
 rcases List.mem_cons.1 hp with rfl | hp
 ·exact absurd hid (by simp)
 rcases List.mem_cons.1 hp with rfl | hp
 ·exact absurd hid (by simp)
 rcases List.mem_cons.1 hp with rfl | hp
 ·exact absurd hid (by simp)
 rcases List.mem_cons.1 hp with rfl | hp
 ·exact absurd hid (by simp)
 rcases List.mem_cons.1 hp with rfl | hp
 ·intro st k r h1 h2; obtain ⟨x26, x27, x28, x29, x30, x31, x32, e, h⟩ := v4 (K := K) h2; have := St.like_eq (y := s4 x26 x27 x28 x29 x30 x31 x32) h1 (by kernel_rfl) e; subst this; exact ⟨fuel, (i4 K k x26 x30 x31 x32 fuel x27 x28 x29).trans h⟩
 cases hp
theorem w2 (K : Res → Option Res) : LpSound Go.Proofs.Try.prog (X K) 2 b2 := lp_ok ((cx K).ok laid) (by rw [show loopsOf b2 = [] from by kernel_rfl]; intro p hp; cases hp) rfl fun p hp hid => by
 rcases List.mem_cons.1 hp with rfl | hp
 ·exact absurd hid (by simp)
 rcases List.mem_cons.1 hp with rfl | hp
 ·intro st k r h1 h2; obtain ⟨x17, x18, x19, x20, x21, x22, x23, e, h⟩ := v2 (K := K) h2; have := St.like_eq (y := s2 x17 x18 x19 x20 x21 x22 x23) h1 (by kernel_rfl) e; subst this; exact ⟨fuel, (i2 K k x17 x18 x20 x21 x22 x23 fuel x19).trans h⟩
 rcases List.mem_cons.1 hp with rfl | hp
 ·exact absurd hid (by simp)
 rcases List.mem_cons.1 hp with rfl | hp
 ·exact absurd hid (by simp)
 rcases List.mem_cons.1 hp with rfl | hp
 ·exact absurd hid (by simp)
 cases hp
theorem w0 (K : Res → Option Res) : LpSound Go.Proofs.Try.prog (X K) 0 b0 := lp_ok ((cx K).ok laid) (by rw [show loopsOf b0 = [] from by kernel_rfl]; intro p hp; cases hp) rfl fun p hp hid => by
 rcases List.mem_cons.1 hp with rfl | hp
 ·intro st k r h1 h2; obtain ⟨x8, x9, x10, x11, x12, x13, x14, e, h⟩ := v0 (K := K) h2; have := St.like_eq (y := s0 x8 x9 x10 x11 x12 x13 x14) h1 (by kernel_rfl) e; subst this; exact ⟨fuel, (i0 K k x8 x10 x11 x12 x13 x14 fuel x9).trans h⟩
 rcases List.mem_cons.1 hp with rfl | hp
 ·exact absurd hid (by simp)
 rcases List.mem_cons.1 hp with rfl | hp
 ·exact absurd hid (by simp)
 rcases List.mem_cons.1 hp with rfl | hp
 ·exact absurd hid (by simp)
 rcases List.mem_cons.1 hp with rfl | hp
 ·exact absurd hid (by simp)
 cases hp
theorem tie (K : Res → Option Res) (a1 a2 a3 : Int) (a4 a5 : List Int) (a6 : Int) (a7 : List (List Cl)) : exec (X K) c (entry 178 [one (.ow 0), one (.int .i64 a1), one (.int .i64 a2), one (.int .i64 a3), one (.fn 95 [0])] [⟨[.int .i64], .ints a4, true, 0⟩] [[.tr 2 2 [.int .i64] (.ints a5), .int .i64 a6, .tr 2 2 [.int .i64, .int .i64, .bool] (.cells a7)]]) (endK (X K)) = g a1 a2 a3 a4 a5 a6 a7 (fun r1 r2 r3 r4 r5 r6 => K (m r1 r2 r3 r4 r5 r6)) := Eq.trans (b := b a1 a2 a3 a4 a5 a6 a7 (fun r1 r2 r3 r4 r5 r6 => K (m r1 r2 r3 r4 r5 r6))) (by kernel_rfl) (by rw [e])
theorem runv {l : List Lf} {K : Res → Option Res} {r : Res} (h : run l K = some r) : ∃ a1 a2 a3 a4 a5 a6 a7, l = [.i a1, .i a2, .i a3, .q (.ints a4), .q (.ints a5), .i a6, .q (.cells a7)] ∧ g a1 a2 a3 a4 a5 a6 a7 (fun r1 r2 r3 r4 r5 r6 => K (m r1 r2 r3 r4 r5 r6)) = some r := by
 unfold run at h; split at h
 ·exact ⟨_, _, _, _, _, _, _, rfl, h⟩
 ·cases h
theorem ok : Con Go.Proofs.Try.prog con := con_of (fn := Go.Proofs.Try.f138) (c := c) (Fi := fi) (X := X) (fun_of laid (by kernel_rfl) (by kernel_rfl) (by kernel_rfl) rfl (by kernel_rfl) (by kernel_rfl) cx (fun _ => rfl) (fun _ => rfl) (fun K => by
 rw [show loopsOf c = [(0, b0), (2, b2), (4, b4), (6, b6), (8, b8)] from by kernel_rfl]; intro p hp
 rcases List.mem_cons.1 hp with rfl | hp
 ·exact w0 K
 rcases List.mem_cons.1 hp with rfl | hp
 ·exact w2 K
 rcases List.mem_cons.1 hp with rfl | hp
 ·exact w4 K
 rcases List.mem_cons.1 hp with rfl | hp
 ·exact w6 K
 rcases List.mem_cons.1 hp with rfl | hp
 ·exact w8 K
 cases hp)) fun xs rows boxes K r hl hr => by
 obtain ⟨a1, a2, a3, a4, a5, a6, a7, e, h⟩ := runv hr
 have := St.like_eq (y := a a1 a2 a3 a4 a5 a6 a7) hl (by kernel_rfl) e
 obtain ⟨rfl, rfl, rfl⟩ := argSt_inj this
 exact (tie K a1 a2 a3 a4 a5 a6 a7).trans h
end slices_partitionCmpFunc_int
-- GROUP slices_pdqsortCmpFunc_int
namespace slices_pdqsortCmpFunc_int
noncomputable def c : Code := bodyOf Go.Proofs.Try.f125
noncomputable def fi : Fin := ⟨Γ0, [], [], [true], [([.sl [.int .i64] 8, .int .i64, .sl [.int .i64, .int .i64, .bool] 24], [0, 1, 0])], []⟩
noncomputable def m (r1 r2 : List Int) (r3 : Int) (r4 : List (List Cl)) : Res := ⟨[], [some ⟨[.int .i64], .ints r1, true, 0⟩], [], [[.tr 2 2 [.int .i64] (.ints r2), .int .i64 r3, .tr 2 2 [.int .i64, .int .i64, .bool] (.cells r4)]], []⟩
abbrev T : Type := Int → Int → Int → List Int → List Int → Int → List (List Cl) → (List Int → List Int → Int → List (List Cl) → Option Res) → Option Res
noncomputable def runz (h : T) : List Lf → (Res → Option Res) → Option Res
 | [.i a1, .i a2, .i a3, .q (.ints a4), .q (.ints a5), .i a6, .q (.cells a7)], K => h a1 a2 a3 a4 a5 a6 a7 (fun r1 r2 r3 r4 => K (m r1 r2 r3 r4))
 | _, _ => none
noncomputable def a (a1 a2 a3 : Int) (a4 a5 : List Int) (a6 : Int) (a7 : List (List Cl)) : St := argSt [one (.ow 0), one (.int .i64 a1), one (.int .i64 a2), one (.int .i64 a3), one (.fn 95 [0])] [⟨[.int .i64], .ints a4, true, 0⟩] [[.tr 2 2 [.int .i64] (.ints a5), .int .i64 a6, .tr 2 2 [.int .i64, .int .i64, .bool] (.cells a7)]]
noncomputable def conz (h : T) : FuncId × St × (List Lf → (Res → Option Res) → Option Res) := (125, a 0 0 0 [] [] 0 [], runz h)
end slices_pdqsortCmpFunc_int
abbrev Z_slices_pdqsortCmpFunc_int : Type := slices_pdqsortCmpFunc_int.T
def Gd_slices_pdqsortCmpFunc_int (z : Z_slices_pdqsortCmpFunc_int) : Prop := Con Go.Proofs.Try.prog (slices_pdqsortCmpFunc_int.conz z)
namespace slices_pdqsortCmpFunc_int
noncomputable def b0 : Code := codeAt c [1, 1, 0, 0]
noncomputable def s0 (x8 x9 x10 : Int) (x11 x12 : Bool) (x13 x14 : List Int) (x15 : Int) (x16 : List (List Cl)) : St := ⟨mkT 148 [(0, one (.ow 0)), (1, one (.int .i64 x8)), (2, one (.int .i64 x9)), (3, one (.int .i64 x10)), (4, one (.fn 95 [0])), (10, one (.bool x11)), (11, one (.bool x12))], [(0, ⟨[.int .i64], .ints x13, true, 0⟩)], [(0, [.tr 2 2 [.int .i64] (.ints x14), .int .i64 x15, .tr 2 2 [.int .i64, .int .i64, .bool] (.cells x16)])]⟩
noncomputable def j2 (z : Z_slices_pdqsortCmpFunc_int) (x8 x9 x40 : Int) (x52 x53 : List Int) (x54 : Int) (x55 : List (List Cl)) (x29 : Int) (x11 x12 : Bool) (rec : Int → Int → Int → Bool → Bool → List Int → List Int → Int → List (List Cl) → Option Res) (x57 : Bool) : Option Res :=
 bif x57 then (slices_partitionEqualCmpFunc_int.g x8 x9 x40 x52 x53 x54 x55 fun r58 r59 r60 r61 r62 =>
  rec r58 x9 x29 x11 x12 r59 r60 r61 r62)
 else (slices_partitionCmpFunc_int.g x8 x9 x40 x52 x53 x54 x55 fun r63 r64 r65 r66 r67 r68 =>
 bif decide (IntKind.i64.wrap (r63 - x8) < IntKind.i64.wrap (x9 - r63)) then (z x8 r63 x29 r65 r66 r67 r68 fun r69 r70 r71 r72 =>
  rec (IntKind.i64.wrap (r63 + 1)) x9 x29 (decide (IntKind.i64.wrap ((IntKind.i64.wrap (x9 - x8)).tdiv 8) ≤ IntKind.i64.wrap (r63 - x8))) r64 r69 r70 r71 r72)
 else (z (IntKind.i64.wrap (r63 + 1)) x9 x29 r65 r66 r67 r68 fun r73 r74 r75 r76 =>
 rec x8 r63 x29 (decide (IntKind.i64.wrap ((IntKind.i64.wrap (x9 - x8)).tdiv 8) ≤ IntKind.i64.wrap (x9 - r63))) r64 r73 r74 r75 r76))
noncomputable def j3 (z : Z_slices_pdqsortCmpFunc_int) (x8 x40 x9 x29 : Int) (x11 x12 : Bool) (rec : Int → Int → Int → Bool → Bool → List Int → List Int → Int → List (List Cl) → Option Res) (x52 x53 : List Int) (x54 : Int) (x55 : List (List Cl)) : Option Res :=
 bif decide (0 < x8) then (bif decide (0 ≤ IntKind.i64.wrap (x8 - 1)) && decide (IntKind.i64.wrap (x8 - 1) < (x52.length : Int)) then (bif decide (0 ≤ x40) && decide (x40 < (x52.length : Int)) then (impl_packed_1.g (x52.getD ((IntKind.i64.wrap (x8 - 1)).toNat) 0) (x52.getD x40.toNat 0) x53 x54 x55 fun r56 =>
  j2 z x8 x9 x40 x52 x53 x54 x55 x29 x11 x12 rec (!(decide (r56 < 0))))
  else none)
  else none)
 else j2 z x8 x9 x40 x52 x53 x54 x55 x29 x11 x12 rec false
noncomputable def j1 (z : Z_slices_pdqsortCmpFunc_int) (x8 x9 : Int) (x42 x43 : List Int) (x44 : Int) (x45 : List (List Cl)) (x40 x29 : Int) (x11 x12 : Bool) (rec : Int → Int → Int → Bool → Bool → List Int → List Int → Int → List (List Cl) → Option Res) (R : List Int → List Int → Int → List (List Cl) → Option Res) (x46 : Bool) : Option Res :=
 bif x46 then (slices_partialInsertionSortCmpFunc_int.g x8 x9 x42 x43 x44 x45 fun r47 r48 r49 r50 r51 =>
  bif r47 then R r48 r49 r50 r51
  else j3 z x8 x40 x9 x29 x11 x12 rec r48 r49 r50 r51)
 else j3 z x8 x40 x9 x29 x11 x12 rec x42 x43 x44 x45
noncomputable def j4 (z : Z_slices_pdqsortCmpFunc_int) (x11 x12 : Bool) (x8 x9 x29 : Int) (rec : Int → Int → Int → Bool → Bool → List Int → List Int → Int → List (List Cl) → Option Res) (R : List Int → List Int → Int → List (List Cl) → Option Res) (x40 x41 : Int) (x42 x43 : List Int) (x44 : Int) (x45 : List (List Cl)) : Option Res :=
 bif x11 then (bif x12 then j1 z x8 x9 x42 x43 x44 x45 x40 x29 x11 x12 rec R (x41 == 1)
  else j1 z x8 x9 x42 x43 x44 x45 x40 x29 x11 x12 rec R false)
 else j1 z x8 x9 x42 x43 x44 x45 x40 x29 x11 x12 rec R false
noncomputable def j5 (z : Z_slices_pdqsortCmpFunc_int) (x8 x9 : Int) (x11 x12 : Bool) (rec : Int → Int → Int → Bool → Bool → List Int → List Int → Int → List (List Cl) → Option Res) (R : List Int → List Int → Int → List (List Cl) → Option Res) (x29 : Int) (x30 x31 : List Int) (x32 : Int) (x33 : List (List Cl)) : Option Res :=
 slices_choosePivotCmpFunc_int.g x30 x8 x9 x31 x32 x33 fun r34 r35 =>
 bif (r35 == 2) then (slices_reverseRangeCmpFunc_int.g x8 x9 x30 x31 x32 x33 fun r36 r37 r38 r39 =>
  j4 z x11 x12 x8 x9 x29 rec R (IntKind.i64.wrap ((IntKind.i64.wrap (x9 - 1)) - (IntKind.i64.wrap (r34 - x8)))) 1 r36 r37 r38 r39)
 else j4 z x11 x12 x8 x9 x29 rec R r34 r35 x30 x31 x32 x33
noncomputable def l0s (z : Z_slices_pdqsortCmpFunc_int)  (rec : Int → Int → Int → Bool → Bool → List Int → List Int → Int → List (List Cl) → Option Res) (R : List Int → List Int → Int → List (List Cl) → Option Res) (x8 x9 x10 : Int) (x11 x12 : Bool) (x13 x14 : List Int) (x15 : Int) (x16 : List (List Cl)) : Option Res :=
 bif decide (IntKind.i64.wrap (x9 - x8) ≤ 12) then (slices_insertionSortCmpFunc_int.g x8 x9 x13 x14 x15 x16 fun r17 r18 r19 r20 =>
  R r17 r18 r19 r20)
 else bif (x10 == 0) then (slices_heapSortCmpFunc_int.g x8 x9 x13 x14 x15 x16 fun r21 r22 r23 r24 =>
  R r21 r22 r23 r24)
 else bif !x11 then (slices_breakPatternsCmpFunc_int.g x8 x9 x13 x14 x15 x16 fun r25 r26 r27 r28 =>
  j5 z x8 x9 x11 x12 rec R (IntKind.i64.wrap (x10 - 1)) r25 r26 r27 r28)
 else j5 z x8 x9 x11 x12 rec R x10 x13 x14 x15 x16
noncomputable def l0 (z : Z_slices_pdqsortCmpFunc_int)  (R : List Int → List Int → Int → List (List Cl) → Option Res) : Nat → Int → Int → Int → Bool → Bool → List Int → List Int → Int → List (List Cl) → Option Res
 | 0, _, _, _, _, _, _, _, _, _ => none
 | n + 1, x8, x9, x10, x11, x12, x13, x14, x15, x16 => l0s z (fun x8 x9 x10 x11 x12 x13 x14 x15 x16 => l0 z R n x8 x9 x10 x11 x12 x13 x14 x15 x16) R x8 x9 x10 x11 x12 x13 x14 x15 x16
noncomputable def p0 (z : Z_slices_pdqsortCmpFunc_int) (K : Res → Option Res) : List Lf → (St → Option Res) → Option Res
 | [.i x8, .i x9, .i x10, .b x11, .b x12, .q (.ints x13), .q (.ints x14), .i x15, .q (.cells x16)], k => l0 z (fun r1 r2 r3 r4 => K (m r1 r2 r3 r4)) fuel x8 x9 x10 x11 x12 x13 x14 x15 x16
 | _, _ => none
noncomputable def os (z : Z_slices_pdqsortCmpFunc_int) : List (FuncId × St × (List Lf → (Res → Option Res) → Option Res)) := [slices_insertionSortCmpFunc_int.con, slices_heapSortCmpFunc_int.con, slices_breakPatternsCmpFunc_int.con, slices_choosePivotCmpFunc_int.con, slices_reverseRangeCmpFunc_int.con, slices_partialInsertionSortCmpFunc_int.con, impl_packed_1.con, slices_partitionEqualCmpFunc_int.con, slices_partitionCmpFunc_int.con, slices_pdqsortCmpFunc_int.conz z]
noncomputable def X (z : Z_slices_pdqsortCmpFunc_int) (K : Res → Option Res) : Ctx := { Γ := Γ0, orc := orcOf (os z), io := [(131, [⟨true, 0, 1⟩, ⟨false, 0, 1⟩, ⟨false, 0, 1⟩, ⟨false, 0, 1⟩]), (132, [⟨true, 0, 1⟩, ⟨false, 0, 1⟩, ⟨false, 0, 1⟩, ⟨false, 0, 1⟩]), (133, [⟨true, 0, 1⟩, ⟨false, 0, 1⟩, ⟨false, 0, 1⟩, ⟨false, 0, 1⟩]), (135, [⟨true, 0, 1⟩, ⟨false, 0, 1⟩, ⟨false, 0, 1⟩, ⟨false, 0, 1⟩]), (136, [⟨true, 0, 1⟩, ⟨false, 0, 1⟩, ⟨false, 0, 1⟩, ⟨false, 0, 1⟩]), (137, [⟨true, 0, 1⟩, ⟨false, 0, 1⟩, ⟨false, 0, 1⟩, ⟨false, 0, 1⟩, ⟨false, 0, 1⟩]), (138, [⟨true, 0, 1⟩, ⟨false, 0, 1⟩, ⟨false, 0, 1⟩, ⟨false, 0, 1⟩, ⟨false, 0, 1⟩]), (125, [⟨true, 0, 1⟩, ⟨false, 0, 1⟩, ⟨false, 0, 1⟩, ⟨false, 0, 1⟩, ⟨false, 0, 1⟩])], share := [], mvl := [], bun := [], cut := [], own := [], cin := [(0, ⟨[0, 1, 2, 3, 4, 10, 11], [(0, 0)], [0], [], [], []⟩)], cout := [(0, ⟨[], [], [], [], [], []⟩)], lp := lpOf [(0, s0 0 0 0 false false [] [] 0 [], p0 z K)], kl := [], nk := true, eqs := eqs0, byt := byt0, fin := finK fi K }
noncomputable def g (z : Z_slices_pdqsortCmpFunc_int) (a1 a2 a3 : Int) (a4 a5 : List Int) (a6 : Int) (a7 : List (List Cl)) (R : List Int → List Int → Int → List (List Cl) → Option Res) : Option Res :=
 l0 z R fuel a1 a2 a3 true true a4 a5 a6 a7
theorem cx (z : Z_slices_pdqsortCmpFunc_int) (hz : Gd_slices_pdqsortCmpFunc_int z) (K : Res → Option Res) : CtxOk Go.Proofs.Try.prog Γ0 byt0 eqs0 (X z K) (os z) := ⟨rfl, rfl, rfl, (fun p hp => by
 rcases List.mem_cons.1 hp with rfl | hp
 ·exact slices_insertionSortCmpFunc_int.ok
 rcases List.mem_cons.1 hp with rfl | hp
 ·exact slices_heapSortCmpFunc_int.ok
 rcases List.mem_cons.1 hp with rfl | hp
 ·exact slices_breakPatternsCmpFunc_int.ok
 rcases List.mem_cons.1 hp with rfl | hp
 ·exact slices_choosePivotCmpFunc_int.ok
 rcases List.mem_cons.1 hp with rfl | hp
 ·exact slices_reverseRangeCmpFunc_int.ok
 rcases List.mem_cons.1 hp with rfl | hp
 ·exact slices_partialInsertionSortCmpFunc_int.ok
 rcases List.mem_cons.1 hp with rfl | hp
 ·exact impl_packed_1.ok
 rcases List.mem_cons.1 hp with rfl | hp
 ·exact slices_partitionEqualCmpFunc_int.ok
 rcases List.mem_cons.1 hp with rfl | hp
 ·exact slices_partitionCmpFunc_int.ok
 rcases List.mem_cons.1 hp with rfl | hp
 ·exact hz
 cases hp), rfl, rfl, rfl, rfl⟩
theorem t0 (z : Z_slices_pdqsortCmpFunc_int) (K : Res → Option Res) (k : St → Option Res) (it : St → (St → Option Res) → Option Res) (x8 x9 x10 : Int) (x11 x12 : Bool) (x13 x14 : List Int) (x15 : Int) (x16 : List (List Cl)) : iterS (X z K) 0 b0 it (s0 x8 x9 x10 x11 x12 x13 x14 x15 x16) k = l0s z (fun x8 x9 x10 x11 x12 x13 x14 x15 x16 => it (s0 x8 x9 x10 x11 x12 x13 x14 x15 x16) k) (fun r1 r2 r3 r4 => K (m r1 r2 r3 r4)) x8 x9 x10 x11 x12 x13 x14 x15 x16 := by kernel_rfl
theorem i0 (z : Z_slices_pdqsortCmpFunc_int) (K : Res → Option Res) (k : St → Option Res)  : ∀ (n : Nat) (x8 x9 x10 : Int) (x11 x12 : Bool) (x13 x14 : List Int) (x15 : Int) (x16 : List (List Cl)), iter (X z K) 0 b0 n (s0 x8 x9 x10 x11 x12 x13 x14 x15 x16) k = l0 z (fun r1 r2 r3 r4 => K (m r1 r2 r3 r4)) n x8 x9 x10 x11 x12 x13 x14 x15 x16
 | 0, _, _, _, _, _, _, _, _, _ => rfl
 | n + 1, x8, x9, x10, x11, x12, x13, x14, x15, x16 => by
  rw [iter_succ, t0 z, show (fun x8 x9 x10 x11 x12 x13 x14 x15 x16 => iter (X z K) 0 b0 n (s0 x8 x9 x10 x11 x12 x13 x14 x15 x16) k) = (fun x8 x9 x10 x11 x12 x13 x14 x15 x16 => l0 z (fun r1 r2 r3 r4 => K (m r1 r2 r3 r4)) n x8 x9 x10 x11 x12 x13 x14 x15 x16) from funext fun x8 => funext fun x9 => funext fun x10 => funext fun x11 => funext fun x12 => funext fun x13 => funext fun x14 => funext fun x15 => funext fun x16 => i0 z K k n x8 x9 x10 x11 x12 x13 x14 x15 x16]; rfl
theorem v0 (z : Z_slices_pdqsortCmpFunc_int) {K : Res → Option Res} {l : List Lf} {k : St → Option Res} {r : Res} (h : p0 z K l k = some r) : ∃ x8 x9 x10 x11 x12 x13 x14 x15 x16, l = [.i x8, .i x9, .i x10, .b x11, .b x12, .q (.ints x13), .q (.ints x14), .i x15, .q (.cells x16)] ∧ l0 z (fun r1 r2 r3 r4 => K (m r1 r2 r3 r4)) fuel x8 x9 x10 x11 x12 x13 x14 x15 x16 = some r := by
 unfold p0 at h; split at h
 ·exact ⟨_, _, _, _, _, _, _, _, _, rfl, h⟩
 ·cases h
theorem w0 (z : Z_slices_pdqsortCmpFunc_int) (hz : Gd_slices_pdqsortCmpFunc_int z) (K : Res → Option Res) : LpSound Go.Proofs.Try.prog (X z K) 0 b0 := lp_ok (((cx z hz) K).ok laid) (by rw [show loopsOf b0 = [] from by kernel_rfl]; intro p hp; cases hp) rfl fun p hp hid => by
 rcases List.mem_cons.1 hp with rfl | hp
 ·intro st k r h1 h2; obtain ⟨x8, x9, x10, x11, x12, x13, x14, x15, x16, e, h⟩ := v0 z (K := K) h2; have := St.like_eq (y := s0 x8 x9 x10 x11 x12 x13 x14 x15 x16) h1 (by kernel_rfl) e; subst this; exact ⟨fuel, (i0 z K k fuel x8 x9 x10 x11 x12 x13 x14 x15 x16).trans h⟩
 cases hp
theorem tie (z : Z_slices_pdqsortCmpFunc_int) (K : Res → Option Res) (a1 a2 a3 : Int) (a4 a5 : List Int) (a6 : Int) (a7 : List (List Cl)) : exec (X z K) c (entry 148 [one (.ow 0), one (.int .i64 a1), one (.int .i64 a2), one (.int .i64 a3), one (.fn 95 [0])] [⟨[.int .i64], .ints a4, true, 0⟩] [[.tr 2 2 [.int .i64] (.ints a5), .int .i64 a6, .tr 2 2 [.int .i64, .int .i64, .bool] (.cells a7)]]) (endK (X z K)) = (g z) a1 a2 a3 a4 a5 a6 a7 (fun r1 r2 r3 r4 => K (m r1 r2 r3 r4)) := by kernel_rfl
theorem runv (z : Z_slices_pdqsortCmpFunc_int) {l : List Lf} {K : Res → Option Res} {r : Res} (h : runz (g z) l K = some r) : ∃ a1 a2 a3 a4 a5 a6 a7, l = [.i a1, .i a2, .i a3, .q (.ints a4), .q (.ints a5), .i a6, .q (.cells a7)] ∧ (g z) a1 a2 a3 a4 a5 a6 a7 (fun r1 r2 r3 r4 => K (m r1 r2 r3 r4)) = some r := by
 unfold runz at h; split at h
 ·exact ⟨_, _, _, _, _, _, _, rfl, h⟩
 ·cases h
theorem ok (z : Z_slices_pdqsortCmpFunc_int) (hz : Gd_slices_pdqsortCmpFunc_int z) : Con Go.Proofs.Try.prog (conz (g z)) := con_of (fn := Go.Proofs.Try.f125) (c := c) (Fi := fi) (X := X z) (fun_of laid (by kernel_rfl) (by kernel_rfl) (by kernel_rfl) rfl (by kernel_rfl) (by kernel_rfl) (cx z hz) (fun _ => rfl) (fun _ => rfl) (fun K => by
 rw [show loopsOf c = [(0, b0)] from by kernel_rfl]; intro p hp
 rcases List.mem_cons.1 hp with rfl | hp
 ·exact w0 z hz K
 cases hp)) fun xs rows boxes K r hl hr => by
 obtain ⟨a1, a2, a3, a4, a5, a6, a7, e, h⟩ := runv z hr
 have := St.like_eq (y := a a1 a2 a3 a4 a5 a6 a7) hl (by kernel_rfl) e
 obtain ⟨rfl, rfl, rfl⟩ := argSt_inj this
 exact (tie z K a1 a2 a3 a4 a5 a6 a7).trans h
end slices_pdqsortCmpFunc_int
noncomputable def rec_slices_pdqsortCmpFunc_int : Nat → Z_slices_pdqsortCmpFunc_int
 | 0 => (fun _ _ _ _ _ _ _ _ => none)
 | n + 1 => slices_pdqsortCmpFunc_int.g (rec_slices_pdqsortCmpFunc_int n)
theorem good_slices_pdqsortCmpFunc_int : ∀ n, Gd_slices_pdqsortCmpFunc_int (rec_slices_pdqsortCmpFunc_int n)
 | 0 => con_none (fun l K => by show slices_pdqsortCmpFunc_int.runz (fun _ _ _ _ _ _ _ _ => none) l K = none; unfold slices_pdqsortCmpFunc_int.runz; split <;> rfl)
 | n + 1 => slices_pdqsortCmpFunc_int.ok _ (good_slices_pdqsortCmpFunc_int n)
namespace slices_pdqsortCmpFunc_int
noncomputable def gn (n : Nat) (a1 a2 a3 : Int) (a4 a5 : List Int) (a6 : Int) (a7 : List (List Cl)) (R : List Int → List Int → Int → List (List Cl) → Option Res) : Option Res := (rec_slices_pdqsortCmpFunc_int n) a1 a2 a3 a4 a5 a6 a7 R
theorem Gx : ∃ x : T, x = gn fuel := ⟨_, rfl⟩
noncomputable def G : T := Classical.choose Gx
theorem Ge : G = gn fuel := Classical.choose_spec Gx
theorem gn_succ (n : Nat) (a1 a2 a3 : Int) (a4 a5 : List Int) (a6 : Int) (a7 : List (List Cl)) (R : List Int → List Int → Int → List (List Cl) → Option Res) : gn (n + 1) a1 a2 a3 a4 a5 a6 a7 R = g (rec_slices_pdqsortCmpFunc_int n) a1 a2 a3 a4 a5 a6 a7 R := rfl
noncomputable def con : FuncId × St × (List Lf → (Res → Option Res) → Option Res) := conz G
theorem okG : Con Go.Proofs.Try.prog con := by
 unfold con; rw [Ge]; exact (good_slices_pdqsortCmpFunc_int fuel)
end slices_pdqsortCmpFunc_int
-- END GROUP
namespace slices_SortFunc_int_int
noncomputable def c : Code := bodyOf Go.Proofs.Try.f94
noncomputable def fi : Fin := ⟨Γ0, [], [], [true], [([.sl [.int .i64] 8, .int .i64, .sl [.int .i64, .int .i64, .bool] 24], [0, 1, 0])], []⟩
noncomputable def m (r1 r2 : List Int) (r3 : Int) (r4 : List (List Cl)) : Res := ⟨[], [some ⟨[.int .i64], .ints r1, true, 0⟩], [], [[.tr 2 2 [.int .i64] (.ints r2), .int .i64 r3, .tr 2 2 [.int .i64, .int .i64, .bool] (.cells r4)]], []⟩
noncomputable def os : List (FuncId × St × (List Lf → (Res → Option Res) → Option Res)) := [bits_Len.con, slices_pdqsortCmpFunc_int.con]
noncomputable def X (K : Res → Option Res) : Ctx := { Γ := Γ0, orc := orcOf os, io := [(125, [⟨true, 0, 1⟩, ⟨false, 0, 1⟩, ⟨false, 0, 1⟩, ⟨false, 0, 1⟩, ⟨false, 0, 1⟩])], share := [], mvl := [], bun := [], cut := [], own := [], cin := [], cout := [], lp := lpOf [], kl := [], nk := true, eqs := eqs0, byt := byt0, fin := finK fi K }
noncomputable def b (a1 a2 : List Int) (a3 : Int) (a4 : List (List Cl)) (R : List Int → List Int → Int → List (List Cl) → Option Res) : Option Res :=
 bits_Len.g (IntKind.u64.wrap (a1.length : Int)) fun r5 =>
 slices_pdqsortCmpFunc_int.G 0 (a1.length : Int) r5 a1 a2 a3 a4 fun r6 r7 r8 r9 =>
 R r6 r7 r8 r9
theorem gx : ∃ x : List Int → List Int → Int → List (List Cl) → (List Int → List Int → Int → List (List Cl) → Option Res) → Option Res, x = b := ⟨_, rfl⟩
noncomputable def g : List Int → List Int → Int → List (List Cl) → (List Int → List Int → Int → List (List Cl) → Option Res) → Option Res := Classical.choose gx
theorem e : g = b := Classical.choose_spec gx
noncomputable def run : List Lf → (Res → Option Res) → Option Res
 | [.q (.ints a1), .q (.ints a2), .i a3, .q (.cells a4)], K => g a1 a2 a3 a4 (fun r1 r2 r3 r4 => K (m r1 r2 r3 r4))
 | _, _ => none
noncomputable def a (a1 a2 : List Int) (a3 : Int) (a4 : List (List Cl)) : St := argSt [one (.ow 0), one (.fn 95 [0])] [⟨[.int .i64], .ints a1, true, 0⟩] [[.tr 2 2 [.int .i64] (.ints a2), .int .i64 a3, .tr 2 2 [.int .i64, .int .i64, .bool] (.cells a4)]]
noncomputable def con : FuncId × St × (List Lf → (Res → Option Res) → Option Res) := (94, a [] [] 0 [], run)
theorem cx (K : Res → Option Res) : CtxOk Go.Proofs.Try.prog Γ0 byt0 eqs0 (X K) os := ⟨rfl, rfl, rfl, (fun p hp => by
 rcases List.mem_cons.1 hp with rfl | hp
 ·exact bits_Len.ok
 rcases List.mem_cons.1 hp with rfl | hp
 ·exact slices_pdqsortCmpFunc_int.okG
 cases hp), rfl, rfl, rfl, rfl⟩
theorem tie (K : Res → Option Res) (a1 a2 : List Int) (a3 : Int) (a4 : List (List Cl)) : exec (X K) c (entry 14 [one (.ow 0), one (.fn 95 [0])] [⟨[.int .i64], .ints a1, true, 0⟩] [[.tr 2 2 [.int .i64] (.ints a2), .int .i64 a3, .tr 2 2 [.int .i64, .int .i64, .bool] (.cells a4)]]) (endK (X K)) = g a1 a2 a3 a4 (fun r1 r2 r3 r4 => K (m r1 r2 r3 r4)) := Eq.trans (b := b a1 a2 a3 a4 (fun r1 r2 r3 r4 => K (m r1 r2 r3 r4))) (by kernel_rfl) (by rw [e])
theorem runv {l : List Lf} {K : Res → Option Res} {r : Res} (h : run l K = some r) : ∃ a1 a2 a3 a4, l = [.q (.ints a1), .q (.ints a2), .i a3, .q (.cells a4)] ∧ g a1 a2 a3 a4 (fun r1 r2 r3 r4 => K (m r1 r2 r3 r4)) = some r := by
 unfold run at h; split at h
 ·exact ⟨_, _, _, _, rfl, h⟩
 ·cases h
theorem ok : Con Go.Proofs.Try.prog con := con_of (fn := Go.Proofs.Try.f94) (c := c) (Fi := fi) (X := X) (fun_of laid (by kernel_rfl) (by kernel_rfl) (by kernel_rfl) rfl (by kernel_rfl) (by kernel_rfl) cx (fun _ => rfl) (fun _ => rfl) (fun K => by
 rw [show loopsOf c = [] from by kernel_rfl]; intro p hp
 cases hp)) fun xs rows boxes K r hl hr => by
 obtain ⟨a1, a2, a3, a4, e, h⟩ := runv hr
 have := St.like_eq (y := a a1 a2 a3 a4) hl (by kernel_rfl) e
 obtain ⟨rfl, rfl, rfl⟩ := argSt_inj this
 exact (tie K a1 a2 a3 a4).trans h
end slices_SortFunc_int_int
namespace impl_packed
noncomputable def c : Code := bodyOf Go.Proofs.Try.f47
noncomputable def fi : Fin := ⟨Γ0, [(.cell 2 44, 44)], [[1, 1, 1]], [], [], []⟩
noncomputable def m (r1 : List Int) (r2 : Int) (r3 : List (List Cl)) : Res := ⟨[⟨true, [.ow 1000, .int .i64 r2, .ow 1001]⟩], [], [⟨[.int .i64], .ints r1, true, 0⟩, ⟨[.int .i64, .int .i64, .bool], .cells r3, true, 0⟩], [], []⟩
noncomputable def b0 : Code := codeAt c [1, 1, 0, 1, 0, 0]
noncomputable def b2 : Code := codeAt c [1, 1, 1, 1, 1, 0, 1, 0, 0]
noncomputable def s0 (x4 : List (List Cl)) (x5 x6 : Int) (x7 x8 : List Int) (x9 : Int) (x10 : List (List Cl)) (x11 : Int) : St := ⟨mkT 78 [(1, one (.bp 1000 0)), (2, one (.bp 1016 0)), (3, one (.ow 3056)), (11, one (.tr 2 2 [.int .i64, .int .i64, .bool] (.cells x4))), (12, one (.int .i64 x5)), (13, one (.int .i64 x6))], [(3056, ⟨[.int .i64], .ints x7, true, 0⟩)], [(1000, [.tr 2 2 [.int .i64] (.ints x8), .int .i64 x9, .tr 2 2 [.int .i64, .int .i64, .bool] (.cells x10)]), (1016, [.nil, .int .i64 x11, .nil])]⟩
noncomputable def l0s (x4 : List (List Cl)) (x5 : Int) (x8 : List Int) (x9 : Int) (x10 : List (List Cl)) (x11 : Int) (rec : Int → List Int → Option Res) (k : List Int → Option Res) (x6 : Int) (x7 : List Int) : Option Res :=
 bif decide (x6 < x5) then (bif decide (0 ≤ x6) && decide (x6 < (x4.length : Int)) then (bif ((x4.getD x6.toNat []).getD 2 (.i 0)).toB then (bif decide ((x7.length + 1) * 8 ≤ 140737488355328) then rec (IntKind.i64.wrap (x6 + 1)) (x7 ++ ([x6] : List Int))
  else none)
  else rec (IntKind.i64.wrap (x6 + 1)) x7)
  else none)
 else k x7
noncomputable def l0 (x4 : List (List Cl)) (x5 : Int) (x8 : List Int) (x9 : Int) (x10 : List (List Cl)) (x11 : Int) (k : List Int → Option Res) : Nat → Int → List Int → Option Res
 | 0, _, _ => none
 | n + 1, x6, x7 => l0s x4 x5 x8 x9 x10 x11 (fun x6 x7 => l0 x4 x5 x8 x9 x10 x11 k n x6 x7) k x6 x7
noncomputable def o0 (x4 : List (List Cl)) (x5 : Int) (x8 : List Int) (x9 : Int) (x10 : List (List Cl)) (x11 : Int) (y1 : List Int) : St := ⟨mkT 78 [(1, one (.bp 1000 0)), (2, one (.bp 1016 0)), (3, one (.ow 3056))], [(3056, ⟨[.int .i64], .ints y1, true, 0⟩)], [(1000, [.tr 2 2 [.int .i64] (.ints x8), .int .i64 x9, .tr 2 2 [.int .i64, .int .i64, .bool] (.cells x10)]), (1016, [.nil, .int .i64 x11, .nil])]⟩
noncomputable def p0 (K : Res → Option Res) : List Lf → (St → Option Res) → Option Res
 | [.q (.cells x4), .i x5, .i x6, .q (.ints x7), .q (.ints x8), .i x9, .q (.cells x10), .i x11], k => l0 x4 x5 x8 x9 x10 x11 (fun y1 => k (o0 x4 x5 x8 x9 x10 x11 y1)) fuel x6 x7
 | _, _ => none
noncomputable def s2 (x17 x18 : Int) (x19 x20 : List Int) (x21 : List (List Cl)) (x22 : List Int) (x23 : Int) (x24 : List (List Cl)) (x25 x26 : Int) : St := ⟨mkT 78 [(1, one (.bp 1000 0)), (2, one (.bp 1016 0)), (6, one (.bp 19560 0)), (36, one (.ow 3056)), (37, one (.int .i64 x17)), (38, one (.int .i64 x18))], [(3056, ⟨[.int .i64], .ints x19, true, 0⟩), (19480, ⟨[.int .i64], .ints x20, true, 0⟩), (19528, ⟨[.int .i64, .int .i64, .bool], .cells x21, true, 0⟩)], [(1000, [.tr 2 2 [.int .i64] (.ints x22), .int .i64 x23, .tr 2 2 [.int .i64, .int .i64, .bool] (.cells x24)]), (1016, [.nil, .int .i64 x25, .nil]), (19560, [.ow 19480, .int .i64 x26, .ow 19528])]⟩
noncomputable def l2s (x17 : Int) (x19 x22 : List Int) (x23 : Int) (x24 : List (List Cl)) (x25 : Int) (rec : Int → List Int → List (List Cl) → Int → Option Res) (k : List Int → List (List Cl) → Int → Option Res) (x18 : Int) (x20 : List Int) (x21 : List (List Cl)) (x26 : Int) : Option Res :=
 bif decide (x18 < x17) then (bif decide (0 ≤ x18) && decide (x18 < (x19.length : Int)) then (bif decide (0 ≤ x19.getD x18.toNat 0) && decide (x19.getD x18.toNat 0 < (x24.length : Int)) then (bif decide (0 ≤ x26) && decide (x26 ≤ (x20.length : Int)) then (bif decide (0 ≤ ((x24.getD ((x19.getD x18.toNat 0).toNat) []).getD 0 (.i 0)).toI) && decide (((x24.getD ((x19.getD x18.toNat 0).toNat) []).getD 0 (.i 0)).toI ≤ IntKind.i64.wrap ((((x24.getD ((x19.getD x18.toNat 0).toNat) []).getD 0 (.i 0)).toI) + (((x24.getD ((x19.getD x18.toNat 0).toNat) []).getD 1 (.i 0)).toI))) && decide (IntKind.i64.wrap ((((x24.getD ((x19.getD x18.toNat 0).toNat) []).getD 0 (.i 0)).toI) + (((x24.getD ((x19.getD x18.toNat 0).toNat) []).getD 1 (.i 0)).toI)) ≤ (x22.length : Int)) then (bif decide (((x22.drop ((((x24.getD ((x19.getD x18.toNat 0).toNat) []).getD 0 (.i 0)).toI).toNat)).take (((IntKind.i64.wrap ((((x24.getD ((x19.getD x18.toNat 0).toNat) []).getD 0 (.i 0)).toI) + (((x24.getD ((x19.getD x18.toNat 0).toNat) []).getD 1 (.i 0)).toI))).toNat) - ((((x24.getD ((x19.getD x18.toNat 0).toNat) []).getD 0 (.i 0)).toI).toNat))).length ≤ x20.length - x26.toNat) then (bif decide (0 ≤ x19.getD x18.toNat 0) && decide (x19.getD x18.toNat 0 < (x21.length : Int)) then rec (IntKind.i64.wrap (x18 + 1)) (overlay x20 x26.toNat ((x22.drop ((((x24.getD ((x19.getD x18.toNat 0).toNat) []).getD 0 (.i 0)).toI).toNat)).take (((IntKind.i64.wrap ((((x24.getD ((x19.getD x18.toNat 0).toNat) []).getD 0 (.i 0)).toI) + (((x24.getD ((x19.getD x18.toNat 0).toNat) []).getD 1 (.i 0)).toI))).toNat) - ((((x24.getD ((x19.getD x18.toNat 0).toNat) []).getD 0 (.i 0)).toI).toNat)))) (x21.set ((x19.getD x18.toNat 0).toNat) (splice (x21.getD ((x19.getD x18.toNat 0).toNat) []) 0 [.i x26])) (IntKind.i64.wrap (x26 + (((x24.getD ((x19.getD x18.toNat 0).toNat) []).getD 1 (.i 0)).toI)))
  else none)
  else bif decide (0 ≤ x19.getD x18.toNat 0) && decide (x19.getD x18.toNat 0 < (x21.length : Int)) then rec (IntKind.i64.wrap (x18 + 1)) (overlay x20 x26.toNat (((x22.drop ((((x24.getD ((x19.getD x18.toNat 0).toNat) []).getD 0 (.i 0)).toI).toNat)).take (((IntKind.i64.wrap ((((x24.getD ((x19.getD x18.toNat 0).toNat) []).getD 0 (.i 0)).toI) + (((x24.getD ((x19.getD x18.toNat 0).toNat) []).getD 1 (.i 0)).toI))).toNat) - ((((x24.getD ((x19.getD x18.toNat 0).toNat) []).getD 0 (.i 0)).toI).toNat))).take (x20.length - x26.toNat))) (x21.set ((x19.getD x18.toNat 0).toNat) (splice (x21.getD ((x19.getD x18.toNat 0).toNat) []) 0 [.i x26])) (IntKind.i64.wrap (x26 + (((x24.getD ((x19.getD x18.toNat 0).toNat) []).getD 1 (.i 0)).toI)))
  else none)
  else none)
  else none)
  else none)
  else none)
 else k x20 x21 x26
noncomputable def l2 (x17 : Int) (x19 x22 : List Int) (x23 : Int) (x24 : List (List Cl)) (x25 : Int) (k : List Int → List (List Cl) → Int → Option Res) : Nat → Int → List Int → List (List Cl) → Int → Option Res
 | 0, _, _, _, _ => none
 | n + 1, x18, x20, x21, x26 => l2s x17 x19 x22 x23 x24 x25 (fun x18 x20 x21 x26 => l2 x17 x19 x22 x23 x24 x25 k n x18 x20 x21 x26) k x18 x20 x21 x26
noncomputable def o2 (x17 : Int) (x19 x22 : List Int) (x23 : Int) (x24 : List (List Cl)) (x25 : Int) (y1 : List Int) (y2 : List (List Cl)) (y4 : Int) : St := ⟨mkT 78 [(2, one (.bp 1016 0)), (6, one (.bp 19560 0))], [(19480, ⟨[.int .i64], .ints y1, true, 0⟩), (19528, ⟨[.int .i64, .int .i64, .bool], .cells y2, true, 0⟩)], [(1016, [.nil, .int .i64 x25, .nil]), (19560, [.ow 19480, .int .i64 y4, .ow 19528])]⟩
noncomputable def p2 (K : Res → Option Res) : List Lf → (St → Option Res) → Option Res
 | [.i x17, .i x18, .q (.ints x19), .q (.ints x20), .q (.cells x21), .q (.ints x22), .i x23, .q (.cells x24), .i x25, .i x26], k => l2 x17 x19 x22 x23 x24 x25 (fun y1 y2 y4 => k (o2 x17 x19 x22 x23 x24 x25 y1 y2 y4)) fuel x18 x20 x21 x26
 | _, _ => none
noncomputable def os : List (FuncId × St × (List Lf → (Res → Option Res) → Option Res)) := [slices_SortFunc_int_int.con]
noncomputable def X (K : Res → Option Res) : Ctx := { Γ := Γ0, orc := orcOf os, io := [(94, [⟨true, 0, 1⟩, ⟨false, 0, 1⟩])], share := [], mvl := [], bun := [], cut := [], own := [(1, 0, 0, [.int .i64])], cin := [(0, ⟨[1, 2, 3, 11, 12, 13], [(3056, 3056), (13336, 3056)], [1000, 1016], [], [], []⟩), (2, ⟨[1, 2, 6, 36, 37, 38], [(3056, 3056), (19480, 19480), (19528, 19528)], [1000, 1016, 19560], [], [], []⟩)], cout := [(0, ⟨[1, 2, 3], [(3056, 3056)], [1000, 1016], [], [], []⟩), (2, ⟨[2, 6], [(19480, 19480), (19528, 19528)], [1016, 19560], [], [], []⟩)], lp := lpOf [(0, s0 [] 0 0 [] [] 0 [] 0, p0 K), (2, s2 0 0 [] [] [] [] 0 [] 0 0, p2 K)], kl := [], nk := true, eqs := eqs0, byt := byt0, fin := finK fi K }
noncomputable def b (a1 : List Int) (a2 : Int) (a3 : List (List Cl)) (R : List Int → Int → List (List Cl) → Option Res) : Option Res :=
 l0 a3 (a3.length : Int) a1 a2 a3 0 (fun y12 =>
 slices_SortFunc_int_int.g y12 a1 a2 a3 fun r13 r14 r15 r16 =>
 bif decide ((r14.length : Int) = (r14.length : Int)) && decide (0 ≤ (r14.length : Int)) && decide ((r14.length : Int) * 8 ≤ 140737488355328) then (bif decide (r16.length * 24 ≤ 140737488355328) then (l2 (r13.length : Int) r13 r14 r15 r16 0 (fun y27 y28 y29 =>
  R y27 y29 y28) fuel 0 (List.replicate ((r14.length : Int).toNat) 0) r16 0)
  else none)
 else none) fuel 0 ([] : List Int)
theorem gx : ∃ x : List Int → Int → List (List Cl) → (List Int → Int → List (List Cl) → Option Res) → Option Res, x = b := ⟨_, rfl⟩
noncomputable def g : List Int → Int → List (List Cl) → (List Int → Int → List (List Cl) → Option Res) → Option Res := Classical.choose gx
theorem e : g = b := Classical.choose_spec gx
noncomputable def run : List Lf → (Res → Option Res) → Option Res
 | [.q (.ints a1), .i a2, .q (.cells a3)], K => g a1 a2 a3 (fun r1 r2 r3 => K (m r1 r2 r3))
 | _, _ => none
noncomputable def a (a1 : List Int) (a2 : Int) (a3 : List (List Cl)) : St := argSt [.v ⟨true, [.tr 2 2 [.int .i64] (.ints a1), .int .i64 a2, .tr 2 2 [.int .i64, .int .i64, .bool] (.cells a3)]⟩] [] []
noncomputable def con : FuncId × St × (List Lf → (Res → Option Res) → Option Res) := (47, a [] 0 [], run)
theorem cx (K : Res → Option Res) : CtxOk Go.Proofs.Try.prog Γ0 byt0 eqs0 (X K) os := ⟨rfl, rfl, rfl, (fun p hp => by
 rcases List.mem_cons.1 hp with rfl | hp
 ·exact slices_SortFunc_int_int.ok
 cases hp), rfl, rfl, rfl, rfl⟩
theorem t0 (K : Res → Option Res) (k : St → Option Res) (it : St → (St → Option Res) → Option Res) (x4 : List (List Cl)) (x5 x6 : Int) (x7 x8 : List Int) (x9 : Int) (x10 : List (List Cl)) (x11 : Int) : iterS (X K) 0 b0 it (s0 x4 x5 x6 x7 x8 x9 x10 x11) k = l0s x4 x5 x8 x9 x10 x11 (fun x6 x7 => it (s0 x4 x5 x6 x7 x8 x9 x10 x11) k) (fun y1 => k (o0 x4 x5 x8 x9 x10 x11 y1)) x6 x7 := by kernel_rfl
theorem i0 (K : Res → Option Res) (k : St → Option Res) (x4 : List (List Cl)) (x5 : Int) (x8 : List Int) (x9 : Int) (x10 : List (List Cl)) (x11 : Int) : ∀ (n : Nat) (x6 : Int) (x7 : List Int), iter (X K) 0 b0 n (s0 x4 x5 x6 x7 x8 x9 x10 x11) k = l0 x4 x5 x8 x9 x10 x11 (fun y1 => k (o0 x4 x5 x8 x9 x10 x11 y1)) n x6 x7
 | 0, _, _ => rfl
 | n + 1, x6, x7 => by
  rw [iter_succ, t0, show (fun x6 x7 => iter (X K) 0 b0 n (s0 x4 x5 x6 x7 x8 x9 x10 x11) k) = (fun x6 x7 => l0 x4 x5 x8 x9 x10 x11 (fun y1 => k (o0 x4 x5 x8 x9 x10 x11 y1)) n x6 x7) from funext fun x6 => funext fun x7 => i0 K k x4 x5 x8 x9 x10 x11 n x6 x7]; rfl
theorem v0 {K : Res → Option Res} {l : List Lf} {k : St → Option Res} {r : Res} (h : p0 K l k = some r) : ∃ x4 x5 x6 x7 x8 x9 x10 x11, l = [.q (.cells x4), .i x5, .i x6, .q (.ints x7), .q (.ints x8), .i x9, .q (.cells x10), .i x11] ∧ l0 x4 x5 x8 x9 x10 x11 (fun y1 => k (o0 x4 x5 x8 x9 x10 x11 y1)) fuel x6 x7 = some r := by
 unfold p0 at h; split at h
 ·exact ⟨_, _, _, _, _, _, _, _, rfl, h⟩
 ·cases h
theorem t2 (K : Res → Option Res) (k : St → Option Res) (it : St → (St → Option Res) → Option Res) (x17 x18 : Int) (x19 x20 : List Int) (x21 : List (List Cl)) (x22 : List Int) (x23 : Int) (x24 : List (List Cl)) (x25 x26 : Int) : iterS (X K) 2 b2 it (s2 x17 x18 x19 x20 x21 x22 x23 x24 x25 x26) k = l2s x17 x19 x22 x23 x24 x25 (fun x18 x20 x21 x26 => it (s2 x17 x18 x19 x20 x21 x22 x23 x24 x25 x26) k) (fun y1 y2 y4 => k (o2 x17 x19 x22 x23 x24 x25 y1 y2 y4)) x18 x20 x21 x26 := by kernel_rfl
theorem i2 (K : Res → Option Res) (k : St → Option Res) (x17 : Int) (x19 x22 : List Int) (x23 : Int) (x24 : List (List Cl)) (x25 : Int) : ∀ (n : Nat) (x18 : Int) (x20 : List Int) (x21 : List (List Cl)) (x26 : Int), iter (X K) 2 b2 n (s2 x17 x18 x19 x20 x21 x22 x23 x24 x25 x26) k = l2 x17 x19 x22 x23 x24 x25 (fun y1 y2 y4 => k (o2 x17 x19 x22 x23 x24 x25 y1 y2 y4)) n x18 x20 x21 x26
 | 0, _, _, _, _ => rfl
 | n + 1, x18, x20, x21, x26 => by
  rw [iter_succ, t2, show (fun x18 x20 x21 x26 => iter (X K) 2 b2 n (s2 x17 x18 x19 x20 x21 x22 x23 x24 x25 x26) k) = (fun x18 x20 x21 x26 => l2 x17 x19 x22 x23 x24 x25 (fun y1 y2 y4 => k (o2 x17 x19 x22 x23 x24 x25 y1 y2 y4)) n x18 x20 x21 x26) from funext fun x18 => funext fun x20 => funext fun x21 => funext fun x26 => i2 K k x17 x19 x22 x23 x24 x25 n x18 x20 x21 x26]; rfl
theorem v2 {K : Res → Option Res} {l : List Lf} {k : St → Option Res} {r : Res} (h : p2 K l k = some r) : ∃ x17 x18 x19 x20 x21 x22 x23 x24 x25 x26, l = [.i x17, .i x18, .q (.ints x19), .q (.ints x20), .q (.cells x21), .q (.ints x22), .i x23, .q (.cells x24), .i x25, .i x26] ∧ l2 x17 x19 x22 x23 x24 x25 (fun y1 y2 y4 => k (o2 x17 x19 x22 x23 x24 x25 y1 y2 y4)) fuel x18 x20 x21 x26 = some r := by
 unfold p2 at h; split at h
 ·exact ⟨_, _, _, _, _, _, _, _, _, _, rfl, h⟩
 ·cases h
theorem w2 (K : Res → Option Res) : LpSound Go.Proofs.Try.prog (X K) 2 b2 := lp_ok ((cx K).ok laid) (by rw [show loopsOf b2 = [] from by kernel_rfl]; intro p hp; cases hp) rfl fun p hp hid => by
 rcases List.mem_cons.1 hp with rfl | hp
 ·exact absurd hid (by simp)
 rcases List.mem_cons.1 hp with rfl | hp
 ·intro st k r h1 h2; obtain ⟨x17, x18, x19, x20, x21, x22, x23, x24, x25, x26, e, h⟩ := v2 (K := K) h2; have := St.like_eq (y := s2 x17 x18 x19 x20 x21 x22 x23 x24 x25 x26) h1 (by kernel_rfl) e; subst this; exact ⟨fuel, (i2 K k x17 x19 x22 x23 x24 x25 fuel x18 x20 x21 x26).trans h⟩
 cases hp
theorem w0 (K : Res → Option Res) : LpSound Go.Proofs.Try.prog (X K) 0 b0 := lp_ok ((cx K).ok laid) (by rw [show loopsOf b0 = [] from by kernel_rfl]; intro p hp; cases hp) rfl fun p hp hid => by
 rcases List.mem_cons.1 hp with rfl | hp
 ·intro st k r h1 h2; obtain ⟨x4, x5, x6, x7, x8, x9, x10, x11, e, h⟩ := v0 (K := K) h2; have := St.like_eq (y := s0 x4 x5 x6 x7 x8 x9 x10 x11) h1 (by kernel_rfl) e; subst this; exact ⟨fuel, (i0 K k x4 x5 x8 x9 x10 x11 fuel x6 x7).trans h⟩
 rcases List.mem_cons.1 hp with rfl | hp
 ·exact absurd hid (by simp)
 cases hp
theorem tie (K : Res → Option Res) (a1 : List Int) (a2 : Int) (a3 : List (List Cl)) : exec (X K) c (entry 78 [.v ⟨true, [.tr 2 2 [.int .i64] (.ints a1), .int .i64 a2, .tr 2 2 [.int .i64, .int .i64, .bool] (.cells a3)]⟩] [] []) (endK (X K)) = g a1 a2 a3 (fun r1 r2 r3 => K (m r1 r2 r3)) := Eq.trans (b := b a1 a2 a3 (fun r1 r2 r3 => K (m r1 r2 r3))) (by kernel_rfl) (by rw [e])
theorem runv {l : List Lf} {K : Res → Option Res} {r : Res} (h : run l K = some r) : ∃ a1 a2 a3, l = [.q (.ints a1), .i a2, .q (.cells a3)] ∧ g a1 a2 a3 (fun r1 r2 r3 => K (m r1 r2 r3)) = some r := by
 unfold run at h; split at h
 ·exact ⟨_, _, _, rfl, h⟩
 ·cases h
theorem ok : Con Go.Proofs.Try.prog con := con_of (fn := Go.Proofs.Try.f47) (c := c) (Fi := fi) (X := X) (fun_of laid (by kernel_rfl) (by kernel_rfl) (by kernel_rfl) rfl (by kernel_rfl) (by kernel_rfl) cx (fun _ => rfl) (fun _ => rfl) (fun K => by
 rw [show loopsOf c = [(0, b0), (2, b2)] from by kernel_rfl]; intro p hp
 rcases List.mem_cons.1 hp with rfl | hp
 ·exact w0 K
 rcases List.mem_cons.1 hp with rfl | hp
 ·exact w2 K
 cases hp)) fun xs rows boxes K r hl hr => by
 obtain ⟨a1, a2, a3, e, h⟩ := runv hr
 have := St.like_eq (y := a a1 a2 a3) hl (by kernel_rfl) e
 obtain ⟨rfl, rfl, rfl⟩ := argSt_inj this
 exact (tie K a1 a2 a3).trans h
end impl_packed
namespace impl_HeapPut_1
noncomputable def c : Code := bodyOf Go.Proofs.Try.f49
noncomputable def fi : Fin := ⟨Γ0, [(.tmp 2, 4)], [[1]], [], [], []⟩
noncomputable def m (r1 : Bool) : Res := ⟨[⟨false, [.bool r1]⟩], [], [], [], []⟩
noncomputable def os : List (FuncId × St × (List Lf → (Res → Option Res) → Option Res)) := []
noncomputable def X (K : Res → Option Res) : Ctx := { Γ := Γ0, orc := orcOf os, io := [], share := [], mvl := [], bun := [], cut := [], own := [], cin := [], cout := [], lp := lpOf [], kl := [], nk := true, eqs := eqs0, byt := byt0, fin := finK fi K }
noncomputable def b (a1 a2 : Int) (a3 : Bool) (R : Bool → Option Res) : Option Res :=
 R (!a3)
theorem gx : ∃ x : Int → Int → Bool → (Bool → Option Res) → Option Res, x = b := ⟨_, rfl⟩
noncomputable def g : Int → Int → Bool → (Bool → Option Res) → Option Res := Classical.choose gx
theorem e : g = b := Classical.choose_spec gx
noncomputable def run : List Lf → (Res → Option Res) → Option Res
 | [.i a1, .i a2, .b a3], K => g a1 a2 a3 (fun r1 => K (m r1))
 | _, _ => none
noncomputable def a (a1 a2 : Int) (a3 : Bool) : St := argSt [.v ⟨true, [.int .i64 a1, .int .i64 a2, .bool a3]⟩] [] []
noncomputable def con : FuncId × St × (List Lf → (Res → Option Res) → Option Res) := (49, a 0 0 false, run)
theorem cx (K : Res → Option Res) : CtxOk Go.Proofs.Try.prog Γ0 byt0 eqs0 (X K) os := ⟨rfl, rfl, rfl, (fun p hp => by
 cases hp), rfl, rfl, rfl, rfl⟩
theorem tie (K : Res → Option Res) (a1 a2 : Int) (a3 : Bool) : exec (X K) c (entry 6 [.v ⟨true, [.int .i64 a1, .int .i64 a2, .bool a3]⟩] [] []) (endK (X K)) = g a1 a2 a3 (fun r1 => K (m r1)) := Eq.trans (b := b a1 a2 a3 (fun r1 => K (m r1))) (by kernel_rfl) (by rw [e])
theorem runv {l : List Lf} {K : Res → Option Res} {r : Res} (h : run l K = some r) : ∃ a1 a2 a3, l = [.i a1, .i a2, .b a3] ∧ g a1 a2 a3 (fun r1 => K (m r1)) = some r := by
 unfold run at h; split at h
 ·exact ⟨_, _, _, rfl, h⟩
 ·cases h
theorem ok : Con Go.Proofs.Try.prog con := con_of (fn := Go.Proofs.Try.f49) (c := c) (Fi := fi) (X := X) (fun_of laid (by kernel_rfl) (by kernel_rfl) (by kernel_rfl) rfl (by kernel_rfl) (by kernel_rfl) cx (fun _ => rfl) (fun _ => rfl) (fun K => by
 rw [show loopsOf c = [] from by kernel_rfl]; intro p hp
 cases hp)) fun xs rows boxes K r hl hr => by
 obtain ⟨a1, a2, a3, e, h⟩ := runv hr
 have := St.like_eq (y := a a1 a2 a3) hl (by kernel_rfl) e
 obtain ⟨rfl, rfl, rfl⟩ := argSt_inj this
 exact (tie K a1 a2 a3).trans h
end impl_HeapPut_1
namespace slices_IndexFunc_impl_Cell_impl_Cell
noncomputable def c : Code := bodyOf Go.Proofs.Try.f48
noncomputable def fi : Fin := ⟨Γ0, [(.tmp 4, 3)], [[1]], [], [], []⟩
noncomputable def m (r1 : Int) : Res := ⟨[⟨false, [.int .i64 r1]⟩], [], [], [], []⟩
noncomputable def b0 : Code := codeAt c [1, 0, 1, 0, 0]
noncomputable def s0 (x2 : List (List Cl)) (x3 x4 : Int) : St := ⟨mkT 19 [(0, one (.tr 0 1 [.int .i64, .int .i64, .bool] (.cells x2))), (1, one (.fn 49 [])), (7, one (.int .i64 x3)), (8, one (.int .i64 x4))], [], []⟩
noncomputable def l0s (x2 : List (List Cl)) (x3 : Int) (rec : Int → Option Res) (k : Option Res) (R : Int → Option Res) (x4 : Int) : Option Res :=
 bif decide (x4 < x3) then (bif decide (0 ≤ x4) && decide (x4 < (x2.length : Int)) then (impl_HeapPut_1.g (((x2.getD x4.toNat []).getD 0 (.i 0)).toI) (((x2.getD x4.toNat []).getD 1 (.i 0)).toI) (((x2.getD x4.toNat []).getD 2 (.i 0)).toB) fun r5 =>
  bif r5 then R x4
  else rec (IntKind.i64.wrap (x4 + 1)))
  else none)
 else k
noncomputable def l0 (x2 : List (List Cl)) (x3 : Int) (k : Option Res) (R : Int → Option Res) : Nat → Int → Option Res
 | 0, _ => none
 | n + 1, x4 => l0s x2 x3 (fun x4 => l0 x2 x3 k R n x4) k R x4
noncomputable def o0 (x2 : List (List Cl)) (x3 : Int) : St := ⟨mkT 19 [], [], []⟩
noncomputable def p0 (K : Res → Option Res) : List Lf → (St → Option Res) → Option Res
 | [.q (.cells x2), .i x3, .i x4], k => l0 x2 x3 (k (o0 x2 x3)) (fun r1 => K (m r1)) fuel x4
 | _, _ => none
noncomputable def os : List (FuncId × St × (List Lf → (Res → Option Res) → Option Res)) := [impl_HeapPut_1.con]
noncomputable def X (K : Res → Option Res) : Ctx := { Γ := Γ0, orc := orcOf os, io := [], share := [], mvl := [], bun := [], cut := [], own := [], cin := [(0, ⟨[0, 1, 7, 8], [], [], [], [], []⟩)], cout := [(0, ⟨[], [], [], [], [], []⟩)], lp := lpOf [(0, s0 [] 0 0, p0 K)], kl := [], nk := true, eqs := eqs0, byt := byt0, fin := finK fi K }
noncomputable def b (a1 : List (List Cl)) (R : Int → Option Res) : Option Res :=
 l0 a1 (a1.length : Int) (
 R (-1)) R fuel 0
theorem gx : ∃ x : List (List Cl) → (Int → Option Res) → Option Res, x = b := ⟨_, rfl⟩
noncomputable def g : List (List Cl) → (Int → Option Res) → Option Res := Classical.choose gx
theorem e : g = b := Classical.choose_spec gx
noncomputable def run : List Lf → (Res → Option Res) → Option Res
 | [.q (.cells a1)], K => g a1 (fun r1 => K (m r1))
 | _, _ => none
noncomputable def a (a1 : List (List Cl)) : St := argSt [one (.tr 0 1 [.int .i64, .int .i64, .bool] (.cells a1)), one (.fn 49 [])] [] []
noncomputable def con : FuncId × St × (List Lf → (Res → Option Res) → Option Res) := (48, a [], run)
theorem cx (K : Res → Option Res) : CtxOk Go.Proofs.Try.prog Γ0 byt0 eqs0 (X K) os := ⟨rfl, rfl, rfl, (fun p hp => by
 rcases List.mem_cons.1 hp with rfl | hp
 ·exact impl_HeapPut_1.ok
 cases hp), rfl, rfl, rfl, rfl⟩
theorem t0 (K : Res → Option Res) (k : St → Option Res) (it : St → (St → Option Res) → Option Res) (x2 : List (List Cl)) (x3 x4 : Int) : iterS (X K) 0 b0 it (s0 x2 x3 x4) k = l0s x2 x3 (fun x4 => it (s0 x2 x3 x4) k) (k (o0 x2 x3)) (fun r1 => K (m r1)) x4 := by kernel_rfl
theorem i0 (K : Res → Option Res) (k : St → Option Res) (x2 : List (List Cl)) (x3 : Int) : ∀ (n : Nat) (x4 : Int), iter (X K) 0 b0 n (s0 x2 x3 x4) k = l0 x2 x3 (k (o0 x2 x3)) (fun r1 => K (m r1)) n x4
 | 0, _ => rfl
 | n + 1, x4 => by
  rw [iter_succ, t0, show (fun x4 => iter (X K) 0 b0 n (s0 x2 x3 x4) k) = (fun x4 => l0 x2 x3 (k (o0 x2 x3)) (fun r1 => K (m r1)) n x4) from funext fun x4 => i0 K k x2 x3 n x4]; rfl
theorem v0 {K : Res → Option Res} {l : List Lf} {k : St → Option Res} {r : Res} (h : p0 K l k = some r) : ∃ x2 x3 x4, l = [.q (.cells x2), .i x3, .i x4] ∧ l0 x2 x3 (k (o0 x2 x3)) (fun r1 => K (m r1)) fuel x4 = some r := by
 unfold p0 at h; split at h
 ·exact ⟨_, _, _, rfl, h⟩
 ·cases h
theorem w0 (K : Res → Option Res) : LpSound Go.Proofs.Try.prog (X K) 0 b0 := lp_ok ((cx K).ok laid) (by rw [show loopsOf b0 = [] from by kernel_rfl]; intro p hp; cases hp) rfl fun p hp hid => by
 rcases List.mem_cons.1 hp with rfl | hp
 ·intro st k r h1 h2; obtain ⟨x2, x3, x4, e, h⟩ := v0 (K := K) h2; have := St.like_eq (y := s0 x2 x3 x4) h1 (by kernel_rfl) e; subst this; exact ⟨fuel, (i0 K k x2 x3 fuel x4).trans h⟩
 cases hp
theorem tie (K : Res → Option Res) (a1 : List (List Cl)) : exec (X K) c (entry 19 [one (.tr 0 1 [.int .i64, .int .i64, .bool] (.cells a1)), one (.fn 49 [])] [] []) (endK (X K)) = g a1 (fun r1 => K (m r1)) := Eq.trans (b := b a1 (fun r1 => K (m r1))) (by kernel_rfl) (by rw [e])
theorem runv {l : List Lf} {K : Res → Option Res} {r : Res} (h : run l K = some r) : ∃ a1, l = [.q (.cells a1)] ∧ g a1 (fun r1 => K (m r1)) = some r := by
 unfold run at h; split at h
 ·exact ⟨_, rfl, h⟩
 ·cases h
theorem ok : Con Go.Proofs.Try.prog con := con_of (fn := Go.Proofs.Try.f48) (c := c) (Fi := fi) (X := X) (fun_of laid (by kernel_rfl) (by kernel_rfl) (by kernel_rfl) rfl (by kernel_rfl) (by kernel_rfl) cx (fun _ => rfl) (fun _ => rfl) (fun K => by
 rw [show loopsOf c = [(0, b0)] from by kernel_rfl]; intro p hp
 rcases List.mem_cons.1 hp with rfl | hp
 ·exact w0 K
 cases hp)) fun xs rows boxes K r hl hr => by
 obtain ⟨a1, e, h⟩ := runv hr
 have := St.like_eq (y := a a1) hl (by kernel_rfl) e
 obtain ⟨rfl, rfl, rfl⟩ := argSt_inj this
 exact (tie K a1).trans h
end slices_IndexFunc_impl_Cell_impl_Cell
namespace impl_HeapPut
noncomputable def c : Code := bodyOf Go.Proofs.Try.f19
noncomputable def fi : Fin := ⟨Γ0, [(.cell 4 44, 44), (.tmp 5, 3), (.tmp 6, 4)], [[1, 1, 1], [1], [1]], [], [], []⟩
noncomputable def m (r1 : List Int) (r2 : Int) (r3 : List (List Cl)) (r4 : Int) (r5 : Bool) : Res := ⟨[⟨true, [.ow 1000, .int .i64 r2, .ow 1001]⟩, ⟨false, [.int .i64 r4]⟩, ⟨false, [.bool r5]⟩], [], [⟨[.int .i64], .ints r1, true, 0⟩, ⟨[.int .i64, .int .i64, .bool], .cells r3, true, 0⟩], [], []⟩
noncomputable def os : List (FuncId × St × (List Lf → (Res → Option Res) → Option Res)) := [impl_HeapOk.con, impl_ArrayOk.con, impl_copyHeap.con, impl_wordsOf.con, impl_packed.con, slices_IndexFunc_impl_Cell_impl_Cell.con]
noncomputable def X (K : Res → Option Res) : Ctx := { Γ := Γ0, orc := orcOf os, io := [(47, [⟨false, 2, 2⟩])], share := [], mvl := [], bun := [], cut := [], own := [], cin := [], cout := [], lp := lpOf [], kl := [], nk := true, eqs := eqs0, byt := byt0, fin := finK fi K }
noncomputable def b (a1 : List Int) (a2 : Int) (a3 : List (List Cl)) (a4 a5 : List Int) (R : List Int → Int → List (List Cl) → Int → Bool → Option Res) : Option Res :=
 impl_HeapOk.g a1 a2 a3 fun r6 =>
 bif !r6 then R ([] : List Int) 0 ([] : List (List Cl)) (-1) false
 else (impl_ArrayOk.g a4 a5 fun r7 =>
 bif !r7 then (impl_copyHeap.g a1 a2 a3 (
  R a1 a2 a3 (-1) false))
 else (impl_wordsOf.g a4 a5 fun r8 =>
 impl_copyHeap.g a1 a2 a3 (
 bif decide (IntKind.i64.wrap ((a1.length : Int) - a2) < (r8.length : Int)) then (impl_packed.g a1 a2 a3 fun r9 r10 r11 =>
  slices_IndexFunc_impl_Cell_impl_Cell.g r11 fun r12 =>
  bif decide (r12 < 0) then (bif decide ((r11.length + 1) * 24 ≤ 140737488355328) then (bif decide (IntKind.i64.wrap ((r9.length : Int) - r10) < (r8.length : Int)) then (impl_copyHeap.g a1 a2 a3 (
   R a1 a2 a3 (-1) false))
   else bif decide (200 ≤ (r11.length : Int)) then (impl_copyHeap.g a1 a2 a3 (
    R a1 a2 a3 (-1) false))
   else bif decide (0 ≤ r10) && decide (r10 ≤ (r9.length : Int)) then (bif decide (r8.length ≤ r9.length - r10.toNat) then (bif decide (0 ≤ (r11.length : Int)) && decide ((r11.length : Int) < ((r11 ++ ([[.i 0, .i 0, .b false]] : List (List Cl))).length : Int)) then R (overlay r9 r10.toNat r8) (IntKind.i64.wrap (r10 + (r8.length : Int))) ((r11 ++ ([[.i 0, .i 0, .b false]] : List (List Cl))).set ((r11.length : Int).toNat) [.i r10, .i (r8.length : Int), .b true]) (r11.length : Int) true
    else none)
    else bif decide (0 ≤ (r11.length : Int)) && decide ((r11.length : Int) < ((r11 ++ ([[.i 0, .i 0, .b false]] : List (List Cl))).length : Int)) then R (overlay r9 r10.toNat (r8.take (r9.length - r10.toNat))) (IntKind.i64.wrap (r10 + (r8.length : Int))) ((r11 ++ ([[.i 0, .i 0, .b false]] : List (List Cl))).set ((r11.length : Int).toNat) [.i r10, .i (r8.length : Int), .b true]) (r11.length : Int) true
    else none)
   else none)
   else none)
  else bif decide (IntKind.i64.wrap ((r9.length : Int) - r10) < (r8.length : Int)) then (impl_copyHeap.g a1 a2 a3 (
   R a1 a2 a3 (-1) false))
  else bif decide (200 ≤ r12) then (impl_copyHeap.g a1 a2 a3 (
   R a1 a2 a3 (-1) false))
  else bif decide (0 ≤ r10) && decide (r10 ≤ (r9.length : Int)) then (bif decide (r8.length ≤ r9.length - r10.toNat) then (bif decide (0 ≤ r12) && decide (r12 < (r11.length : Int)) then R (overlay r9 r10.toNat r8) (IntKind.i64.wrap (r10 + (r8.length : Int))) (r11.set r12.toNat [.i r10, .i (r8.length : Int), .b true]) r12 true
   else none)
   else bif decide (0 ≤ r12) && decide (r12 < (r11.length : Int)) then R (overlay r9 r10.toNat (r8.take (r9.length - r10.toNat))) (IntKind.i64.wrap (r10 + (r8.length : Int))) (r11.set r12.toNat [.i r10, .i (r8.length : Int), .b true]) r12 true
   else none)
  else none)
 else (slices_IndexFunc_impl_Cell_impl_Cell.g a3 fun r13 =>
 bif decide (r13 < 0) then (bif decide ((a3.length + 1) * 24 ≤ 140737488355328) then (bif decide (IntKind.i64.wrap ((a1.length : Int) - a2) < (r8.length : Int)) then (impl_copyHeap.g a1 a2 a3 (
  R a1 a2 a3 (-1) false))
  else bif decide (200 ≤ (a3.length : Int)) then (impl_copyHeap.g a1 a2 a3 (
   R a1 a2 a3 (-1) false))
  else bif decide (0 ≤ a2) && decide (a2 ≤ (a1.length : Int)) then (bif decide (r8.length ≤ a1.length - a2.toNat) then (bif decide (0 ≤ (a3.length : Int)) && decide ((a3.length : Int) < ((a3 ++ ([[.i 0, .i 0, .b false]] : List (List Cl))).length : Int)) then R (overlay a1 a2.toNat r8) (IntKind.i64.wrap (a2 + (r8.length : Int))) ((a3 ++ ([[.i 0, .i 0, .b false]] : List (List Cl))).set ((a3.length : Int).toNat) [.i a2, .i (r8.length : Int), .b true]) (a3.length : Int) true
   else none)
   else bif decide (0 ≤ (a3.length : Int)) && decide ((a3.length : Int) < ((a3 ++ ([[.i 0, .i 0, .b false]] : List (List Cl))).length : Int)) then R (overlay a1 a2.toNat (r8.take (a1.length - a2.toNat))) (IntKind.i64.wrap (a2 + (r8.length : Int))) ((a3 ++ ([[.i 0, .i 0, .b false]] : List (List Cl))).set ((a3.length : Int).toNat) [.i a2, .i (r8.length : Int), .b true]) (a3.length : Int) true
   else none)
  else none)
  else none)
 else bif decide (IntKind.i64.wrap ((a1.length : Int) - a2) < (r8.length : Int)) then (impl_copyHeap.g a1 a2 a3 (
  R a1 a2 a3 (-1) false))
 else bif decide (200 ≤ r13) then (impl_copyHeap.g a1 a2 a3 (
  R a1 a2 a3 (-1) false))
 else bif decide (0 ≤ a2) && decide (a2 ≤ (a1.length : Int)) then (bif decide (r8.length ≤ a1.length - a2.toNat) then (bif decide (0 ≤ r13) && decide (r13 < (a3.length : Int)) then R (overlay a1 a2.toNat r8) (IntKind.i64.wrap (a2 + (r8.length : Int))) (a3.set r13.toNat [.i a2, .i (r8.length : Int), .b true]) r13 true
  else none)
  else bif decide (0 ≤ r13) && decide (r13 < (a3.length : Int)) then R (overlay a1 a2.toNat (r8.take (a1.length - a2.toNat))) (IntKind.i64.wrap (a2 + (r8.length : Int))) (a3.set r13.toNat [.i a2, .i (r8.length : Int), .b true]) r13 true
  else none)
 else none))))
theorem gx : ∃ x : List Int → Int → List (List Cl) → List Int → List Int → (List Int → Int → List (List Cl) → Int → Bool → Option Res) → Option Res, x = b := ⟨_, rfl⟩
noncomputable def g : List Int → Int → List (List Cl) → List Int → List Int → (List Int → Int → List (List Cl) → Int → Bool → Option Res) → Option Res := Classical.choose gx
theorem e : g = b := Classical.choose_spec gx
noncomputable def run : List Lf → (Res → Option Res) → Option Res
 | [.q (.ints a1), .i a2, .q (.cells a3), .q (.ints a4), .q (.ints a5)], K => g a1 a2 a3 a4 a5 (fun r1 r2 r3 r4 r5 => K (m r1 r2 r3 r4 r5))
 | _, _ => none
noncomputable def a (a1 : List Int) (a2 : Int) (a3 : List (List Cl)) (a4 a5 : List Int) : St := argSt [.v ⟨true, [.tr 2 2 [.int .i64] (.ints a1), .int .i64 a2, .tr 2 2 [.int .i64, .int .i64, .bool] (.cells a3)]⟩, .v ⟨true, [.tr 0 1 [.int .i64] (.ints a4), .tr 0 1 [.int .i64] (.ints a5)]⟩] [] []
noncomputable def con : FuncId × St × (List Lf → (Res → Option Res) → Option Res) := (19, a [] 0 [] [] [], run)
theorem cx (K : Res → Option Res) : CtxOk Go.Proofs.Try.prog Γ0 byt0 eqs0 (X K) os := ⟨rfl, rfl, rfl, (fun p hp => by
 rcases List.mem_cons.1 hp with rfl | hp
 ·exact impl_HeapOk.ok
 rcases List.mem_cons.1 hp with rfl | hp
 ·exact impl_ArrayOk.ok
 rcases List.mem_cons.1 hp with rfl | hp
 ·exact impl_copyHeap.ok
 rcases List.mem_cons.1 hp with rfl | hp
 ·exact impl_wordsOf.ok
 rcases List.mem_cons.1 hp with rfl | hp
 ·exact impl_packed.ok
 rcases List.mem_cons.1 hp with rfl | hp
 ·exact slices_IndexFunc_impl_Cell_impl_Cell.ok
 cases hp), rfl, rfl, rfl, rfl⟩
theorem tie (K : Res → Option Res) (a1 : List Int) (a2 : Int) (a3 : List (List Cl)) (a4 a5 : List Int) : exec (X K) c (entry 87 [.v ⟨true, [.tr 2 2 [.int .i64] (.ints a1), .int .i64 a2, .tr 2 2 [.int .i64, .int .i64, .bool] (.cells a3)]⟩, .v ⟨true, [.tr 0 1 [.int .i64] (.ints a4), .tr 0 1 [.int .i64] (.ints a5)]⟩] [] []) (endK (X K)) = g a1 a2 a3 a4 a5 (fun r1 r2 r3 r4 r5 => K (m r1 r2 r3 r4 r5)) := Eq.trans (b := b a1 a2 a3 a4 a5 (fun r1 r2 r3 r4 r5 => K (m r1 r2 r3 r4 r5))) (by kernel_rfl) (by rw [e])
theorem runv {l : List Lf} {K : Res → Option Res} {r : Res} (h : run l K = some r) : ∃ a1 a2 a3 a4 a5, l = [.q (.ints a1), .i a2, .q (.cells a3), .q (.ints a4), .q (.ints a5)] ∧ g a1 a2 a3 a4 a5 (fun r1 r2 r3 r4 r5 => K (m r1 r2 r3 r4 r5)) = some r := by
 unfold run at h; split at h
 ·exact ⟨_, _, _, _, _, rfl, h⟩
 ·cases h
theorem ok : Con Go.Proofs.Try.prog con := con_of (fn := Go.Proofs.Try.f19) (c := c) (Fi := fi) (X := X) (fun_of laid (by kernel_rfl) (by kernel_rfl) (by kernel_rfl) rfl (by kernel_rfl) (by kernel_rfl) cx (fun _ => rfl) (fun _ => rfl) (fun K => by
 rw [show loopsOf c = [] from by kernel_rfl]; intro p hp
 cases hp)) fun xs rows boxes K r hl hr => by
 obtain ⟨a1, a2, a3, a4, a5, e, h⟩ := runv hr
 have := St.like_eq (y := a a1 a2 a3 a4 a5) hl (by kernel_rfl) e
 obtain ⟨rfl, rfl, rfl⟩ := argSt_inj this
 exact (tie K a1 a2 a3 a4 a5).trans h
end impl_HeapPut
namespace impl_liveAt
noncomputable def c : Code := bodyOf Go.Proofs.Try.f55
noncomputable def fi : Fin := ⟨Γ0, [(.tmp 4, 4)], [[1]], [], [], []⟩
noncomputable def m (r1 : Bool) : Res := ⟨[⟨false, [.bool r1]⟩], [], [], [], []⟩
noncomputable def os : List (FuncId × St × (List Lf → (Res → Option Res) → Option Res)) := [impl_HeapOk.con, impl_within.con]
noncomputable def X (K : Res → Option Res) : Ctx := { Γ := Γ0, orc := orcOf os, io := [], share := [], mvl := [], bun := [], cut := [], own := [], cin := [], cout := [], lp := lpOf [], kl := [], nk := true, eqs := eqs0, byt := byt0, fin := finK fi K }
noncomputable def b (a1 : List Int) (a2 : Int) (a3 : List (List Cl)) (a4 : Int) (R : Bool → Option Res) : Option Res :=
 impl_HeapOk.g a1 a2 a3 fun r5 =>
 bif r5 then (impl_within.g a4 0 (IntKind.i64.wrap ((a3.length : Int) - 1)) fun r6 =>
  bif r6 then (bif decide (0 ≤ a4) && decide (a4 < (a3.length : Int)) then R (((a3.getD a4.toNat []).getD 2 (.i 0)).toB)
   else none)
  else R false)
 else R false
theorem gx : ∃ x : List Int → Int → List (List Cl) → Int → (Bool → Option Res) → Option Res, x = b := ⟨_, rfl⟩
noncomputable def g : List Int → Int → List (List Cl) → Int → (Bool → Option Res) → Option Res := Classical.choose gx
theorem e : g = b := Classical.choose_spec gx
noncomputable def run : List Lf → (Res → Option Res) → Option Res
 | [.q (.ints a1), .i a2, .q (.cells a3), .i a4], K => g a1 a2 a3 a4 (fun r1 => K (m r1))
 | _, _ => none
noncomputable def a (a1 : List Int) (a2 : Int) (a3 : List (List Cl)) (a4 : Int) : St := argSt [.v ⟨true, [.tr 0 1 [.int .i64] (.ints a1), .int .i64 a2, .tr 0 1 [.int .i64, .int .i64, .bool] (.cells a3)]⟩, one (.int .i64 a4)] [] []
noncomputable def con : FuncId × St × (List Lf → (Res → Option Res) → Option Res) := (55, a [] 0 [] 0, run)
theorem cx (K : Res → Option Res) : CtxOk Go.Proofs.Try.prog Γ0 byt0 eqs0 (X K) os := ⟨rfl, rfl, rfl, (fun p hp => by
 rcases List.mem_cons.1 hp with rfl | hp
 ·exact impl_HeapOk.ok
 rcases List.mem_cons.1 hp with rfl | hp
 ·exact impl_within.ok
 cases hp), rfl, rfl, rfl, rfl⟩
theorem tie (K : Res → Option Res) (a1 : List Int) (a2 : Int) (a3 : List (List Cl)) (a4 : Int) : exec (X K) c (entry 23 [.v ⟨true, [.tr 0 1 [.int .i64] (.ints a1), .int .i64 a2, .tr 0 1 [.int .i64, .int .i64, .bool] (.cells a3)]⟩, one (.int .i64 a4)] [] []) (endK (X K)) = g a1 a2 a3 a4 (fun r1 => K (m r1)) := Eq.trans (b := b a1 a2 a3 a4 (fun r1 => K (m r1))) (by kernel_rfl) (by rw [e])
theorem runv {l : List Lf} {K : Res → Option Res} {r : Res} (h : run l K = some r) : ∃ a1 a2 a3 a4, l = [.q (.ints a1), .i a2, .q (.cells a3), .i a4] ∧ g a1 a2 a3 a4 (fun r1 => K (m r1)) = some r := by
 unfold run at h; split at h
 ·exact ⟨_, _, _, _, rfl, h⟩
 ·cases h
theorem ok : Con Go.Proofs.Try.prog con := con_of (fn := Go.Proofs.Try.f55) (c := c) (Fi := fi) (X := X) (fun_of laid (by kernel_rfl) (by kernel_rfl) (by kernel_rfl) rfl (by kernel_rfl) (by kernel_rfl) cx (fun _ => rfl) (fun _ => rfl) (fun K => by
 rw [show loopsOf c = [] from by kernel_rfl]; intro p hp
 cases hp)) fun xs rows boxes K r hl hr => by
 obtain ⟨a1, a2, a3, a4, e, h⟩ := runv hr
 have := St.like_eq (y := a a1 a2 a3 a4) hl (by kernel_rfl) e
 obtain ⟨rfl, rfl, rfl⟩ := argSt_inj this
 exact (tie K a1 a2 a3 a4).trans h
end impl_liveAt
namespace impl_copyArray
noncomputable def c : Code := bodyOf Go.Proofs.Try.f56
noncomputable def fi : Fin := ⟨Γ0, [(.cell 2 46, 46)], [[1, 1]], [], [], []⟩
noncomputable def m (a1 a2 : List Int) : Res := ⟨[⟨true, [.ow 1000, .ow 1001]⟩], [], [⟨[.int .i64], .ints a1, true, 0⟩, ⟨[.int .i64], .ints a2, true, 0⟩], [], []⟩
noncomputable def os : List (FuncId × St × (List Lf → (Res → Option Res) → Option Res)) := []
noncomputable def X (K : Res → Option Res) : Ctx := { Γ := Γ0, orc := orcOf os, io := [], share := [], mvl := [], bun := [], cut := [], own := [], cin := [], cout := [], lp := lpOf [], kl := [], nk := true, eqs := eqs0, byt := byt0, fin := finK fi K }
noncomputable def b (a1 a2 : List Int) (R : Option Res) : Option Res :=
 bif decide (a1.length * 8 ≤ 140737488355328) then (bif decide (a2.length * 8 ≤ 140737488355328) then R
  else none)
 else none
theorem gx : ∃ x : List Int → List Int → (Option Res) → Option Res, x = b := ⟨_, rfl⟩
noncomputable def g : List Int → List Int → (Option Res) → Option Res := Classical.choose gx
theorem e : g = b := Classical.choose_spec gx
noncomputable def run : List Lf → (Res → Option Res) → Option Res
 | [.q (.ints a1), .q (.ints a2)], K => g a1 a2 (K (m a1 a2))
 | _, _ => none
noncomputable def a (a1 a2 : List Int) : St := argSt [.v ⟨true, [.tr 0 1 [.int .i64] (.ints a1), .tr 0 1 [.int .i64] (.ints a2)]⟩] [] []
noncomputable def con : FuncId × St × (List Lf → (Res → Option Res) → Option Res) := (56, a [] [], run)
theorem cx (K : Res → Option Res) : CtxOk Go.Proofs.Try.prog Γ0 byt0 eqs0 (X K) os := ⟨rfl, rfl, rfl, (fun p hp => by
 cases hp), rfl, rfl, rfl, rfl⟩
theorem tie (K : Res → Option Res) (a1 a2 : List Int) : exec (X K) c (entry 10 [.v ⟨true, [.tr 0 1 [.int .i64] (.ints a1), .tr 0 1 [.int .i64] (.ints a2)]⟩] [] []) (endK (X K)) = g a1 a2 (K (m a1 a2)) := Eq.trans (b := b a1 a2 (K (m a1 a2))) (by kernel_rfl) (by rw [e])
theorem runv {l : List Lf} {K : Res → Option Res} {r : Res} (h : run l K = some r) : ∃ a1 a2, l = [.q (.ints a1), .q (.ints a2)] ∧ g a1 a2 (K (m a1 a2)) = some r := by
 unfold run at h; split at h
 ·exact ⟨_, _, rfl, h⟩
 ·cases h
theorem ok : Con Go.Proofs.Try.prog con := con_of (fn := Go.Proofs.Try.f56) (c := c) (Fi := fi) (X := X) (fun_of laid (by kernel_rfl) (by kernel_rfl) (by kernel_rfl) rfl (by kernel_rfl) (by kernel_rfl) cx (fun _ => rfl) (fun _ => rfl) (fun K => by
 rw [show loopsOf c = [] from by kernel_rfl]; intro p hp
 cases hp)) fun xs rows boxes K r hl hr => by
 obtain ⟨a1, a2, e, h⟩ := runv hr
 have := St.like_eq (y := a a1 a2) hl (by kernel_rfl) e
 obtain ⟨rfl, rfl, rfl⟩ := argSt_inj this
 exact (tie K a1 a2).trans h
end impl_copyArray
namespace impl_HeapGet
noncomputable def c : Code := bodyOf Go.Proofs.Try.f23
noncomputable def fi : Fin := ⟨Γ0, [(.cell 4 46, 46), (.tmp 5, 4)], [[1, 1], [1]], [], [], []⟩
noncomputable def m (r1 r2 : List Int) (r3 : Bool) : Res := ⟨[⟨true, [.ow 1000, .ow 1001]⟩, ⟨false, [.bool r3]⟩], [], [⟨[.int .i64], .ints r1, true, 0⟩, ⟨[.int .i64], .ints r2, true, 0⟩], [], []⟩
noncomputable def os : List (FuncId × St × (List Lf → (Res → Option Res) → Option Res)) := [impl_liveAt.con, impl_within.con, impl_copyArray.con, impl_ArrayOk.con]
noncomputable def X (K : Res → Option Res) : Ctx := { Γ := Γ0, orc := orcOf os, io := [], share := [], mvl := [], bun := [], cut := [], own := [], cin := [], cout := [], lp := lpOf [], kl := [], nk := true, eqs := eqs0, byt := byt0, fin := finK fi K }
noncomputable def b (a1 : List Int) (a2 : Int) (a3 : List (List Cl)) (a4 : Int) (R : List Int → List Int → Bool → Option Res) : Option Res :=
 impl_liveAt.g a1 a2 a3 a4 fun r5 =>
 bif !r5 then R ([] : List Int) ([] : List Int) false
 else bif decide (0 ≤ a4) && decide (a4 < (a3.length : Int)) then (bif decide (0 ≤ ((a3.getD a4.toNat []).getD 0 (.i 0)).toI) && decide (((a3.getD a4.toNat []).getD 0 (.i 0)).toI ≤ IntKind.i64.wrap ((((a3.getD a4.toNat []).getD 0 (.i 0)).toI) + (((a3.getD a4.toNat []).getD 1 (.i 0)).toI))) && decide (IntKind.i64.wrap ((((a3.getD a4.toNat []).getD 0 (.i 0)).toI) + (((a3.getD a4.toNat []).getD 1 (.i 0)).toI)) ≤ (a1.length : Int)) then (bif decide (0 < (((a1.drop ((((a3.getD a4.toNat []).getD 0 (.i 0)).toI).toNat)).take (((IntKind.i64.wrap ((((a3.getD a4.toNat []).getD 0 (.i 0)).toI) + (((a3.getD a4.toNat []).getD 1 (.i 0)).toI))).toNat) - ((((a3.getD a4.toNat []).getD 0 (.i 0)).toI).toNat))).length : Int)) then (impl_within.g (((a1.drop ((((a3.getD a4.toNat []).getD 0 (.i 0)).toI).toNat)).take (((IntKind.i64.wrap ((((a3.getD a4.toNat []).getD 0 (.i 0)).toI) + (((a3.getD a4.toNat []).getD 1 (.i 0)).toI))).toNat) - ((((a3.getD a4.toNat []).getD 0 (.i 0)).toI).toNat))).getD 0 0) 0 (minmax false 3 (IntKind.i64.wrap ((((a1.drop ((((a3.getD a4.toNat []).getD 0 (.i 0)).toI).toNat)).take (((IntKind.i64.wrap ((((a3.getD a4.toNat []).getD 0 (.i 0)).toI) + (((a3.getD a4.toNat []).getD 1 (.i 0)).toI))).toNat) - ((((a3.getD a4.toNat []).getD 0 (.i 0)).toI).toNat))).length : Int) - 1))) fun r6 =>
  bif !r6 then R ([] : List Int) ([] : List Int) false
  else bif decide (1 ≤ IntKind.i64.wrap (1 + (((a1.drop ((((a3.getD a4.toNat []).getD 0 (.i 0)).toI).toNat)).take (((IntKind.i64.wrap ((((a3.getD a4.toNat []).getD 0 (.i 0)).toI) + (((a3.getD a4.toNat []).getD 1 (.i 0)).toI))).toNat) - ((((a3.getD a4.toNat []).getD 0 (.i 0)).toI).toNat))).getD 0 0))) && decide (IntKind.i64.wrap (1 + (((a1.drop ((((a3.getD a4.toNat []).getD 0 (.i 0)).toI).toNat)).take (((IntKind.i64.wrap ((((a3.getD a4.toNat []).getD 0 (.i 0)).toI) + (((a3.getD a4.toNat []).getD 1 (.i 0)).toI))).toNat) - ((((a3.getD a4.toNat []).getD 0 (.i 0)).toI).toNat))).getD 0 0)) ≤ (((a1.drop ((((a3.getD a4.toNat []).getD 0 (.i 0)).toI).toNat)).take (((IntKind.i64.wrap ((((a3.getD a4.toNat []).getD 0 (.i 0)).toI) + (((a3.getD a4.toNat []).getD 1 (.i 0)).toI))).toNat) - ((((a3.getD a4.toNat []).getD 0 (.i 0)).toI).toNat))).length : Int)) then (bif decide (0 ≤ IntKind.i64.wrap (1 + (((a1.drop ((((a3.getD a4.toNat []).getD 0 (.i 0)).toI).toNat)).take (((IntKind.i64.wrap ((((a3.getD a4.toNat []).getD 0 (.i 0)).toI) + (((a3.getD a4.toNat []).getD 1 (.i 0)).toI))).toNat) - ((((a3.getD a4.toNat []).getD 0 (.i 0)).toI).toNat))).getD 0 0))) && decide (IntKind.i64.wrap (1 + (((a1.drop ((((a3.getD a4.toNat []).getD 0 (.i 0)).toI).toNat)).take (((IntKind.i64.wrap ((((a3.getD a4.toNat []).getD 0 (.i 0)).toI) + (((a3.getD a4.toNat []).getD 1 (.i 0)).toI))).toNat) - ((((a3.getD a4.toNat []).getD 0 (.i 0)).toI).toNat))).getD 0 0)) ≤ (((a1.drop ((((a3.getD a4.toNat []).getD 0 (.i 0)).toI).toNat)).take (((IntKind.i64.wrap ((((a3.getD a4.toNat []).getD 0 (.i 0)).toI) + (((a3.getD a4.toNat []).getD 1 (.i 0)).toI))).toNat) - ((((a3.getD a4.toNat []).getD 0 (.i 0)).toI).toNat))).length : Int)) then (impl_copyArray.g ((((a1.drop ((((a3.getD a4.toNat []).getD 0 (.i 0)).toI).toNat)).take (((IntKind.i64.wrap ((((a3.getD a4.toNat []).getD 0 (.i 0)).toI) + (((a3.getD a4.toNat []).getD 1 (.i 0)).toI))).toNat) - ((((a3.getD a4.toNat []).getD 0 (.i 0)).toI).toNat))).drop 1).take (((IntKind.i64.wrap (1 + (((a1.drop ((((a3.getD a4.toNat []).getD 0 (.i 0)).toI).toNat)).take (((IntKind.i64.wrap ((((a3.getD a4.toNat []).getD 0 (.i 0)).toI) + (((a3.getD a4.toNat []).getD 1 (.i 0)).toI))).toNat) - ((((a3.getD a4.toNat []).getD 0 (.i 0)).toI).toNat))).getD 0 0))).toNat) - 1)) (((a1.drop ((((a3.getD a4.toNat []).getD 0 (.i 0)).toI).toNat)).take (((IntKind.i64.wrap ((((a3.getD a4.toNat []).getD 0 (.i 0)).toI) + (((a3.getD a4.toNat []).getD 1 (.i 0)).toI))).toNat) - ((((a3.getD a4.toNat []).getD 0 (.i 0)).toI).toNat))).drop ((IntKind.i64.wrap (1 + (((a1.drop ((((a3.getD a4.toNat []).getD 0 (.i 0)).toI).toNat)).take (((IntKind.i64.wrap ((((a3.getD a4.toNat []).getD 0 (.i 0)).toI) + (((a3.getD a4.toNat []).getD 1 (.i 0)).toI))).toNat) - ((((a3.getD a4.toNat []).getD 0 (.i 0)).toI).toNat))).getD 0 0))).toNat)) (
   impl_ArrayOk.g ((((a1.drop ((((a3.getD a4.toNat []).getD 0 (.i 0)).toI).toNat)).take (((IntKind.i64.wrap ((((a3.getD a4.toNat []).getD 0 (.i 0)).toI) + (((a3.getD a4.toNat []).getD 1 (.i 0)).toI))).toNat) - ((((a3.getD a4.toNat []).getD 0 (.i 0)).toI).toNat))).drop 1).take (((IntKind.i64.wrap (1 + (((a1.drop ((((a3.getD a4.toNat []).getD 0 (.i 0)).toI).toNat)).take (((IntKind.i64.wrap ((((a3.getD a4.toNat []).getD 0 (.i 0)).toI) + (((a3.getD a4.toNat []).getD 1 (.i 0)).toI))).toNat) - ((((a3.getD a4.toNat []).getD 0 (.i 0)).toI).toNat))).getD 0 0))).toNat) - 1)) (((a1.drop ((((a3.getD a4.toNat []).getD 0 (.i 0)).toI).toNat)).take (((IntKind.i64.wrap ((((a3.getD a4.toNat []).getD 0 (.i 0)).toI) + (((a3.getD a4.toNat []).getD 1 (.i 0)).toI))).toNat) - ((((a3.getD a4.toNat []).getD 0 (.i 0)).toI).toNat))).drop ((IntKind.i64.wrap (1 + (((a1.drop ((((a3.getD a4.toNat []).getD 0 (.i 0)).toI).toNat)).take (((IntKind.i64.wrap ((((a3.getD a4.toNat []).getD 0 (.i 0)).toI) + (((a3.getD a4.toNat []).getD 1 (.i 0)).toI))).toNat) - ((((a3.getD a4.toNat []).getD 0 (.i 0)).toI).toNat))).getD 0 0))).toNat)) fun r7 =>
   bif !r7 then R ([] : List Int) ([] : List Int) false
   else R ((((a1.drop ((((a3.getD a4.toNat []).getD 0 (.i 0)).toI).toNat)).take (((IntKind.i64.wrap ((((a3.getD a4.toNat []).getD 0 (.i 0)).toI) + (((a3.getD a4.toNat []).getD 1 (.i 0)).toI))).toNat) - ((((a3.getD a4.toNat []).getD 0 (.i 0)).toI).toNat))).drop 1).take (((IntKind.i64.wrap (1 + (((a1.drop ((((a3.getD a4.toNat []).getD 0 (.i 0)).toI).toNat)).take (((IntKind.i64.wrap ((((a3.getD a4.toNat []).getD 0 (.i 0)).toI) + (((a3.getD a4.toNat []).getD 1 (.i 0)).toI))).toNat) - ((((a3.getD a4.toNat []).getD 0 (.i 0)).toI).toNat))).getD 0 0))).toNat) - 1)) (((a1.drop ((((a3.getD a4.toNat []).getD 0 (.i 0)).toI).toNat)).take (((IntKind.i64.wrap ((((a3.getD a4.toNat []).getD 0 (.i 0)).toI) + (((a3.getD a4.toNat []).getD 1 (.i 0)).toI))).toNat) - ((((a3.getD a4.toNat []).getD 0 (.i 0)).toI).toNat))).drop ((IntKind.i64.wrap (1 + (((a1.drop ((((a3.getD a4.toNat []).getD 0 (.i 0)).toI).toNat)).take (((IntKind.i64.wrap ((((a3.getD a4.toNat []).getD 0 (.i 0)).toI) + (((a3.getD a4.toNat []).getD 1 (.i 0)).toI))).toNat) - ((((a3.getD a4.toNat []).getD 0 (.i 0)).toI).toNat))).getD 0 0))).toNat)) true))
   else none)
  else none)
  else none)
  else none)
 else none
theorem gx : ∃ x : List Int → Int → List (List Cl) → Int → (List Int → List Int → Bool → Option Res) → Option Res, x = b := ⟨_, rfl⟩
noncomputable def g : List Int → Int → List (List Cl) → Int → (List Int → List Int → Bool → Option Res) → Option Res := Classical.choose gx
theorem e : g = b := Classical.choose_spec gx
noncomputable def run : List Lf → (Res → Option Res) → Option Res
 | [.q (.ints a1), .i a2, .q (.cells a3), .i a4], K => g a1 a2 a3 a4 (fun r1 r2 r3 => K (m r1 r2 r3))
 | _, _ => none
noncomputable def a (a1 : List Int) (a2 : Int) (a3 : List (List Cl)) (a4 : Int) : St := argSt [.v ⟨true, [.tr 0 1 [.int .i64] (.ints a1), .int .i64 a2, .tr 0 1 [.int .i64, .int .i64, .bool] (.cells a3)]⟩, one (.int .i64 a4)] [] []
noncomputable def con : FuncId × St × (List Lf → (Res → Option Res) → Option Res) := (23, a [] 0 [] 0, run)
theorem cx (K : Res → Option Res) : CtxOk Go.Proofs.Try.prog Γ0 byt0 eqs0 (X K) os := ⟨rfl, rfl, rfl, (fun p hp => by
 rcases List.mem_cons.1 hp with rfl | hp
 ·exact impl_liveAt.ok
 rcases List.mem_cons.1 hp with rfl | hp
 ·exact impl_within.ok
 rcases List.mem_cons.1 hp with rfl | hp
 ·exact impl_copyArray.ok
 rcases List.mem_cons.1 hp with rfl | hp
 ·exact impl_ArrayOk.ok
 cases hp), rfl, rfl, rfl, rfl⟩
theorem tie (K : Res → Option Res) (a1 : List Int) (a2 : Int) (a3 : List (List Cl)) (a4 : Int) : exec (X K) c (entry 56 [.v ⟨true, [.tr 0 1 [.int .i64] (.ints a1), .int .i64 a2, .tr 0 1 [.int .i64, .int .i64, .bool] (.cells a3)]⟩, one (.int .i64 a4)] [] []) (endK (X K)) = g a1 a2 a3 a4 (fun r1 r2 r3 => K (m r1 r2 r3)) := Eq.trans (b := b a1 a2 a3 a4 (fun r1 r2 r3 => K (m r1 r2 r3))) (by kernel_rfl) (by rw [e])
theorem runv {l : List Lf} {K : Res → Option Res} {r : Res} (h : run l K = some r) : ∃ a1 a2 a3 a4, l = [.q (.ints a1), .i a2, .q (.cells a3), .i a4] ∧ g a1 a2 a3 a4 (fun r1 r2 r3 => K (m r1 r2 r3)) = some r := by
 unfold run at h; split at h
 ·exact ⟨_, _, _, _, rfl, h⟩
 ·cases h
theorem ok : Con Go.Proofs.Try.prog con := con_of (fn := Go.Proofs.Try.f23) (c := c) (Fi := fi) (X := X) (fun_of laid (by kernel_rfl) (by kernel_rfl) (by kernel_rfl) rfl (by kernel_rfl) (by kernel_rfl) cx (fun _ => rfl) (fun _ => rfl) (fun K => by
 rw [show loopsOf c = [] from by kernel_rfl]; intro p hp
 cases hp)) fun xs rows boxes K r hl hr => by
 obtain ⟨a1, a2, a3, a4, e, h⟩ := runv hr
 have := St.like_eq (y := a a1 a2 a3 a4) hl (by kernel_rfl) e
 obtain ⟨rfl, rfl, rfl⟩ := argSt_inj this
 exact (tie K a1 a2 a3 a4).trans h
end impl_HeapGet
namespace impl_HeapPack
noncomputable def c : Code := bodyOf Go.Proofs.Try.f24
noncomputable def fi : Fin := ⟨Γ0, [(.cell 2 44, 44), (.tmp 3, 4)], [[1, 1, 1], [1]], [], [], []⟩
noncomputable def m (r1 : List Int) (r2 : Int) (r3 : List (List Cl)) (r4 : Bool) : Res := ⟨[⟨true, [.ow 1000, .int .i64 r2, .ow 1001]⟩, ⟨false, [.bool r4]⟩], [], [⟨[.int .i64], .ints r1, true, 0⟩, ⟨[.int .i64, .int .i64, .bool], .cells r3, true, 0⟩], [], []⟩
noncomputable def os : List (FuncId × St × (List Lf → (Res → Option Res) → Option Res)) := [impl_HeapOk.con, impl_packed.con]
noncomputable def X (K : Res → Option Res) : Ctx := { Γ := Γ0, orc := orcOf os, io := [(47, [⟨false, 2, 2⟩])], share := [], mvl := [], bun := [], cut := [], own := [], cin := [], cout := [], lp := lpOf [], kl := [], nk := true, eqs := eqs0, byt := byt0, fin := finK fi K }
noncomputable def b (a1 : List Int) (a2 : Int) (a3 : List (List Cl)) (R : List Int → Int → List (List Cl) → Bool → Option Res) : Option Res :=
 impl_HeapOk.g a1 a2 a3 fun r4 =>
 bif !r4 then R ([] : List Int) 0 ([] : List (List Cl)) false
 else (impl_packed.g a1 a2 a3 fun r5 r6 r7 =>
 R r5 r6 r7 true)
theorem gx : ∃ x : List Int → Int → List (List Cl) → (List Int → Int → List (List Cl) → Bool → Option Res) → Option Res, x = b := ⟨_, rfl⟩
noncomputable def g : List Int → Int → List (List Cl) → (List Int → Int → List (List Cl) → Bool → Option Res) → Option Res := Classical.choose gx
theorem e : g = b := Classical.choose_spec gx
noncomputable def run : List Lf → (Res → Option Res) → Option Res
 | [.q (.ints a1), .i a2, .q (.cells a3)], K => g a1 a2 a3 (fun r1 r2 r3 r4 => K (m r1 r2 r3 r4))
 | _, _ => none
noncomputable def a (a1 : List Int) (a2 : Int) (a3 : List (List Cl)) : St := argSt [.v ⟨true, [.tr 2 2 [.int .i64] (.ints a1), .int .i64 a2, .tr 2 2 [.int .i64, .int .i64, .bool] (.cells a3)]⟩] [] []
noncomputable def con : FuncId × St × (List Lf → (Res → Option Res) → Option Res) := (24, a [] 0 [], run)
theorem cx (K : Res → Option Res) : CtxOk Go.Proofs.Try.prog Γ0 byt0 eqs0 (X K) os := ⟨rfl, rfl, rfl, (fun p hp => by
 rcases List.mem_cons.1 hp with rfl | hp
 ·exact impl_HeapOk.ok
 rcases List.mem_cons.1 hp with rfl | hp
 ·exact impl_packed.ok
 cases hp), rfl, rfl, rfl, rfl⟩
theorem tie (K : Res → Option Res) (a1 : List Int) (a2 : Int) (a3 : List (List Cl)) : exec (X K) c (entry 10 [.v ⟨true, [.tr 2 2 [.int .i64] (.ints a1), .int .i64 a2, .tr 2 2 [.int .i64, .int .i64, .bool] (.cells a3)]⟩] [] []) (endK (X K)) = g a1 a2 a3 (fun r1 r2 r3 r4 => K (m r1 r2 r3 r4)) := Eq.trans (b := b a1 a2 a3 (fun r1 r2 r3 r4 => K (m r1 r2 r3 r4))) (by kernel_rfl) (by rw [e])
theorem runv {l : List Lf} {K : Res → Option Res} {r : Res} (h : run l K = some r) : ∃ a1 a2 a3, l = [.q (.ints a1), .i a2, .q (.cells a3)] ∧ g a1 a2 a3 (fun r1 r2 r3 r4 => K (m r1 r2 r3 r4)) = some r := by
 unfold run at h; split at h
 ·exact ⟨_, _, _, rfl, h⟩
 ·cases h
theorem ok : Con Go.Proofs.Try.prog con := con_of (fn := Go.Proofs.Try.f24) (c := c) (Fi := fi) (X := X) (fun_of laid (by kernel_rfl) (by kernel_rfl) (by kernel_rfl) rfl (by kernel_rfl) (by kernel_rfl) cx (fun _ => rfl) (fun _ => rfl) (fun K => by
 rw [show loopsOf c = [] from by kernel_rfl]; intro p hp
 cases hp)) fun xs rows boxes K r hl hr => by
 obtain ⟨a1, a2, a3, e, h⟩ := runv hr
 have := St.like_eq (y := a a1 a2 a3) hl (by kernel_rfl) e
 obtain ⟨rfl, rfl, rfl⟩ := argSt_inj this
 exact (tie K a1 a2 a3).trans h
end impl_HeapPack
namespace laws_sameInts
noncomputable def c : Code := bodyOf Go.Proofs.Try.f41
noncomputable def fi : Fin := ⟨Γ0, [(.tmp 4, 4)], [[1]], [], [], []⟩
noncomputable def m (r1 : Bool) : Res := ⟨[⟨false, [.bool r1]⟩], [], [], [], []⟩
noncomputable def b0 : Code := codeAt c [1, 1, 0, 1, 0, 0]
noncomputable def s0 (x3 x4 : List Int) (x5 : Int) : St := ⟨mkT 26 [(0, one (.tr 0 1 [.int .i64] (.ints x3))), (1, one (.tr 0 1 [.int .i64] (.ints x4))), (5, one (.int .i64 x5))], [], []⟩
noncomputable def l0s (x3 x4 : List Int) (rec : Int → Option Res) (k : Option Res) (R : Bool → Option Res) (x5 : Int) : Option Res :=
 bif decide (x5 < (x3.length : Int)) then (bif decide (0 ≤ x5) && decide (x5 < (x3.length : Int)) then (bif decide (0 ≤ x5) && decide (x5 < (x4.length : Int)) then (bif (x3.getD x5.toNat 0 != x4.getD x5.toNat 0) then R false
  else rec (IntKind.i64.wrap (x5 + 1)))
  else none)
  else none)
 else k
noncomputable def l0 (x3 x4 : List Int) (k : Option Res) (R : Bool → Option Res) : Nat → Int → Option Res
 | 0, _ => none
 | n + 1, x5 => l0s x3 x4 (fun x5 => l0 x3 x4 k R n x5) k R x5
noncomputable def o0 (x3 x4 : List Int) : St := ⟨mkT 26 [], [], []⟩
noncomputable def p0 (K : Res → Option Res) : List Lf → (St → Option Res) → Option Res
 | [.q (.ints x3), .q (.ints x4), .i x5], k => l0 x3 x4 (k (o0 x3 x4)) (fun r1 => K (m r1)) fuel x5
 | _, _ => none
noncomputable def os : List (FuncId × St × (List Lf → (Res → Option Res) → Option Res)) := []
noncomputable def X (K : Res → Option Res) : Ctx := { Γ := Γ0, orc := orcOf os, io := [], share := [], mvl := [], bun := [], cut := [], own := [], cin := [(0, ⟨[0, 1, 5], [], [], [], [], []⟩)], cout := [(0, ⟨[], [], [], [], [], []⟩)], lp := lpOf [(0, s0 [] [] 0, p0 K)], kl := [], nk := true, eqs := eqs0, byt := byt0, fin := finK fi K }
noncomputable def b (a1 a2 : List Int) (R : Bool → Option Res) : Option Res :=
 bif ((a1.length : Int) != (a2.length : Int)) then R false
 else (l0 a1 a2 (
 R true) R fuel 0)
theorem gx : ∃ x : List Int → List Int → (Bool → Option Res) → Option Res, x = b := ⟨_, rfl⟩
noncomputable def g : List Int → List Int → (Bool → Option Res) → Option Res := Classical.choose gx
theorem e : g = b := Classical.choose_spec gx
noncomputable def run : List Lf → (Res → Option Res) → Option Res
 | [.q (.ints a1), .q (.ints a2)], K => g a1 a2 (fun r1 => K (m r1))
 | _, _ => none
noncomputable def a (a1 a2 : List Int) : St := argSt [one (.tr 0 1 [.int .i64] (.ints a1)), one (.tr 0 1 [.int .i64] (.ints a2))] [] []
noncomputable def con : FuncId × St × (List Lf → (Res → Option Res) → Option Res) := (41, a [] [], run)
theorem cx (K : Res → Option Res) : CtxOk Go.Proofs.Try.prog Γ0 byt0 eqs0 (X K) os := ⟨rfl, rfl, rfl, (fun p hp => by
 cases hp), rfl, rfl, rfl, rfl⟩
theorem t0 (K : Res → Option Res) (k : St → Option Res) (it : St → (St → Option Res) → Option Res) (x3 x4 : List Int) (x5 : Int) : iterS (X K) 0 b0 it (s0 x3 x4 x5) k = l0s x3 x4 (fun x5 => it (s0 x3 x4 x5) k) (k (o0 x3 x4)) (fun r1 => K (m r1)) x5 := by kernel_rfl
theorem i0 (K : Res → Option Res) (k : St → Option Res) (x3 x4 : List Int) : ∀ (n : Nat) (x5 : Int), iter (X K) 0 b0 n (s0 x3 x4 x5) k = l0 x3 x4 (k (o0 x3 x4)) (fun r1 => K (m r1)) n x5
 | 0, _ => rfl
 | n + 1, x5 => by
  rw [iter_succ, t0, show (fun x5 => iter (X K) 0 b0 n (s0 x3 x4 x5) k) = (fun x5 => l0 x3 x4 (k (o0 x3 x4)) (fun r1 => K (m r1)) n x5) from funext fun x5 => i0 K k x3 x4 n x5]; rfl
theorem v0 {K : Res → Option Res} {l : List Lf} {k : St → Option Res} {r : Res} (h : p0 K l k = some r) : ∃ x3 x4 x5, l = [.q (.ints x3), .q (.ints x4), .i x5] ∧ l0 x3 x4 (k (o0 x3 x4)) (fun r1 => K (m r1)) fuel x5 = some r := by
 unfold p0 at h; split at h
 ·exact ⟨_, _, _, rfl, h⟩
 ·cases h
theorem w0 (K : Res → Option Res) : LpSound Go.Proofs.Try.prog (X K) 0 b0 := lp_ok ((cx K).ok laid) (by rw [show loopsOf b0 = [] from by kernel_rfl]; intro p hp; cases hp) rfl fun p hp hid => by
 rcases List.mem_cons.1 hp with rfl | hp
 ·intro st k r h1 h2; obtain ⟨x3, x4, x5, e, h⟩ := v0 (K := K) h2; have := St.like_eq (y := s0 x3 x4 x5) h1 (by kernel_rfl) e; subst this; exact ⟨fuel, (i0 K k x3 x4 fuel x5).trans h⟩
 cases hp
theorem tie (K : Res → Option Res) (a1 a2 : List Int) : exec (X K) c (entry 26 [one (.tr 0 1 [.int .i64] (.ints a1)), one (.tr 0 1 [.int .i64] (.ints a2))] [] []) (endK (X K)) = g a1 a2 (fun r1 => K (m r1)) := Eq.trans (b := b a1 a2 (fun r1 => K (m r1))) (by kernel_rfl) (by rw [e])
theorem runv {l : List Lf} {K : Res → Option Res} {r : Res} (h : run l K = some r) : ∃ a1 a2, l = [.q (.ints a1), .q (.ints a2)] ∧ g a1 a2 (fun r1 => K (m r1)) = some r := by
 unfold run at h; split at h
 ·exact ⟨_, _, rfl, h⟩
 ·cases h
theorem ok : Con Go.Proofs.Try.prog con := con_of (fn := Go.Proofs.Try.f41) (c := c) (Fi := fi) (X := X) (fun_of laid (by kernel_rfl) (by kernel_rfl) (by kernel_rfl) rfl (by kernel_rfl) (by kernel_rfl) cx (fun _ => rfl) (fun _ => rfl) (fun K => by
 rw [show loopsOf c = [(0, b0)] from by kernel_rfl]; intro p hp
 rcases List.mem_cons.1 hp with rfl | hp
 ·exact w0 K
 cases hp)) fun xs rows boxes K r hl hr => by
 obtain ⟨a1, a2, e, h⟩ := runv hr
 have := St.like_eq (y := a a1 a2) hl (by kernel_rfl) e
 obtain ⟨rfl, rfl, rfl⟩ := argSt_inj this
 exact (tie K a1 a2).trans h
end laws_sameInts
namespace laws_sameArray
noncomputable def c : Code := bodyOf Go.Proofs.Try.f25
noncomputable def fi : Fin := ⟨Γ0, [(.tmp 4, 4)], [[1]], [], [], []⟩
noncomputable def m (r1 : Bool) : Res := ⟨[⟨false, [.bool r1]⟩], [], [], [], []⟩
noncomputable def os : List (FuncId × St × (List Lf → (Res → Option Res) → Option Res)) := [laws_sameInts.con]
noncomputable def X (K : Res → Option Res) : Ctx := { Γ := Γ0, orc := orcOf os, io := [], share := [], mvl := [], bun := [], cut := [], own := [], cin := [], cout := [], lp := lpOf [], kl := [], nk := true, eqs := eqs0, byt := byt0, fin := finK fi K }
noncomputable def b (a1 a2 a3 a4 : List Int) (R : Bool → Option Res) : Option Res :=
 laws_sameInts.g a1 a3 fun r5 =>
 bif r5 then (laws_sameInts.g a2 a4 fun r6 =>
  R r6)
 else R false
theorem gx : ∃ x : List Int → List Int → List Int → List Int → (Bool → Option Res) → Option Res, x = b := ⟨_, rfl⟩
noncomputable def g : List Int → List Int → List Int → List Int → (Bool → Option Res) → Option Res := Classical.choose gx
theorem e : g = b := Classical.choose_spec gx
noncomputable def run : List Lf → (Res → Option Res) → Option Res
 | [.q (.ints a1), .q (.ints a2), .q (.ints a3), .q (.ints a4)], K => g a1 a2 a3 a4 (fun r1 => K (m r1))
 | _, _ => none
noncomputable def a (a1 a2 a3 a4 : List Int) : St := argSt [.v ⟨true, [.tr 0 1 [.int .i64] (.ints a1), .tr 0 1 [.int .i64] (.ints a2)]⟩, .v ⟨true, [.tr 0 1 [.int .i64] (.ints a3), .tr 0 1 [.int .i64] (.ints a4)]⟩] [] []
noncomputable def con : FuncId × St × (List Lf → (Res → Option Res) → Option Res) := (25, a [] [] [] [], run)
theorem cx (K : Res → Option Res) : CtxOk Go.Proofs.Try.prog Γ0 byt0 eqs0 (X K) os := ⟨rfl, rfl, rfl, (fun p hp => by
 rcases List.mem_cons.1 hp with rfl | hp
 ·exact laws_sameInts.ok
 cases hp), rfl, rfl, rfl, rfl⟩
theorem tie (K : Res → Option Res) (a1 a2 a3 a4 : List Int) : exec (X K) c (entry 17 [.v ⟨true, [.tr 0 1 [.int .i64] (.ints a1), .tr 0 1 [.int .i64] (.ints a2)]⟩, .v ⟨true, [.tr 0 1 [.int .i64] (.ints a3), .tr 0 1 [.int .i64] (.ints a4)]⟩] [] []) (endK (X K)) = g a1 a2 a3 a4 (fun r1 => K (m r1)) := Eq.trans (b := b a1 a2 a3 a4 (fun r1 => K (m r1))) (by kernel_rfl) (by rw [e])
theorem runv {l : List Lf} {K : Res → Option Res} {r : Res} (h : run l K = some r) : ∃ a1 a2 a3 a4, l = [.q (.ints a1), .q (.ints a2), .q (.ints a3), .q (.ints a4)] ∧ g a1 a2 a3 a4 (fun r1 => K (m r1)) = some r := by
 unfold run at h; split at h
 ·exact ⟨_, _, _, _, rfl, h⟩
 ·cases h
theorem ok : Con Go.Proofs.Try.prog con := con_of (fn := Go.Proofs.Try.f25) (c := c) (Fi := fi) (X := X) (fun_of laid (by kernel_rfl) (by kernel_rfl) (by kernel_rfl) rfl (by kernel_rfl) (by kernel_rfl) cx (fun _ => rfl) (fun _ => rfl) (fun K => by
 rw [show loopsOf c = [] from by kernel_rfl]; intro p hp
 cases hp)) fun xs rows boxes K r hl hr => by
 obtain ⟨a1, a2, a3, a4, e, h⟩ := runv hr
 have := St.like_eq (y := a a1 a2 a3 a4) hl (by kernel_rfl) e
 obtain ⟨rfl, rfl, rfl⟩ := argSt_inj this
 exact (tie K a1 a2 a3 a4).trans h
end laws_sameArray
namespace impl_HeapUsed
noncomputable def c : Code := bodyOf Go.Proofs.Try.f26
noncomputable def fi : Fin := ⟨Γ0, [(.tmp 2, 3)], [[1]], [], [], []⟩
noncomputable def m (r1 : Int) : Res := ⟨[⟨false, [.int .i64 r1]⟩], [], [], [], []⟩
noncomputable def b0 : Code := codeAt c [1, 1, 1, 0, 1, 0, 0]
noncomputable def s0 (x5 : Int) (x6 : List (List Cl)) (x7 x8 : Int) : St := ⟨mkT 22 [(3, one (.int .i64 x5)), (10, one (.tr 0 1 [.int .i64, .int .i64, .bool] (.cells x6))), (11, one (.int .i64 x7)), (12, one (.int .i64 x8))], [], []⟩
noncomputable def l0s (x6 : List (List Cl)) (x7 : Int) (rec : Int → Int → Option Res) (k : Int → Option Res) (x5 x8 : Int) : Option Res :=
 bif decide (x8 < x7) then (bif decide (0 ≤ x8) && decide (x8 < (x6.length : Int)) then rec (IntKind.i64.wrap (x5 + (((x6.getD x8.toNat []).getD 1 (.i 0)).toI))) (IntKind.i64.wrap (x8 + 1))
  else none)
 else k x5
noncomputable def l0 (x6 : List (List Cl)) (x7 : Int) (k : Int → Option Res) : Nat → Int → Int → Option Res
 | 0, _, _ => none
 | n + 1, x5, x8 => l0s x6 x7 (fun x5 x8 => l0 x6 x7 k n x5 x8) k x5 x8
noncomputable def o0 (x6 : List (List Cl)) (x7 y1 : Int) : St := ⟨mkT 22 [(3, one (.int .i64 y1))], [], []⟩
noncomputable def p0 (K : Res → Option Res) : List Lf → (St → Option Res) → Option Res
 | [.i x5, .q (.cells x6), .i x7, .i x8], k => l0 x6 x7 (fun y1 => k (o0 x6 x7 y1)) fuel x5 x8
 | _, _ => none
noncomputable def os : List (FuncId × St × (List Lf → (Res → Option Res) → Option Res)) := [impl_HeapOk.con]
noncomputable def X (K : Res → Option Res) : Ctx := { Γ := Γ0, orc := orcOf os, io := [], share := [], mvl := [], bun := [], cut := [], own := [], cin := [(0, ⟨[3, 10, 11, 12], [], [], [], [], []⟩)], cout := [(0, ⟨[3], [], [], [], [], []⟩)], lp := lpOf [(0, s0 0 [] 0 0, p0 K)], kl := [], nk := true, eqs := eqs0, byt := byt0, fin := finK fi K }
noncomputable def b (a1 : List Int) (a2 : Int) (a3 : List (List Cl)) (R : Int → Option Res) : Option Res :=
 impl_HeapOk.g a1 a2 a3 fun r4 =>
 bif !r4 then R (-1)
 else (l0 a3 (a3.length : Int) (fun y9 =>
 R y9) fuel 0 0)
theorem gx : ∃ x : List Int → Int → List (List Cl) → (Int → Option Res) → Option Res, x = b := ⟨_, rfl⟩
noncomputable def g : List Int → Int → List (List Cl) → (Int → Option Res) → Option Res := Classical.choose gx
theorem e : g = b := Classical.choose_spec gx
noncomputable def run : List Lf → (Res → Option Res) → Option Res
 | [.q (.ints a1), .i a2, .q (.cells a3)], K => g a1 a2 a3 (fun r1 => K (m r1))
 | _, _ => none
noncomputable def a (a1 : List Int) (a2 : Int) (a3 : List (List Cl)) : St := argSt [.v ⟨true, [.tr 0 1 [.int .i64] (.ints a1), .int .i64 a2, .tr 0 1 [.int .i64, .int .i64, .bool] (.cells a3)]⟩] [] []
noncomputable def con : FuncId × St × (List Lf → (Res → Option Res) → Option Res) := (26, a [] 0 [], run)
theorem cx (K : Res → Option Res) : CtxOk Go.Proofs.Try.prog Γ0 byt0 eqs0 (X K) os := ⟨rfl, rfl, rfl, (fun p hp => by
 rcases List.mem_cons.1 hp with rfl | hp
 ·exact impl_HeapOk.ok
 cases hp), rfl, rfl, rfl, rfl⟩
theorem t0 (K : Res → Option Res) (k : St → Option Res) (it : St → (St → Option Res) → Option Res) (x5 : Int) (x6 : List (List Cl)) (x7 x8 : Int) : iterS (X K) 0 b0 it (s0 x5 x6 x7 x8) k = l0s x6 x7 (fun x5 x8 => it (s0 x5 x6 x7 x8) k) (fun y1 => k (o0 x6 x7 y1)) x5 x8 := by kernel_rfl
theorem i0 (K : Res → Option Res) (k : St → Option Res) (x6 : List (List Cl)) (x7 : Int) : ∀ (n : Nat) (x5 x8 : Int), iter (X K) 0 b0 n (s0 x5 x6 x7 x8) k = l0 x6 x7 (fun y1 => k (o0 x6 x7 y1)) n x5 x8
 | 0, _, _ => rfl
 | n + 1, x5, x8 => by
  rw [iter_succ, t0, show (fun x5 x8 => iter (X K) 0 b0 n (s0 x5 x6 x7 x8) k) = (fun x5 x8 => l0 x6 x7 (fun y1 => k (o0 x6 x7 y1)) n x5 x8) from funext fun x5 => funext fun x8 => i0 K k x6 x7 n x5 x8]; rfl
theorem v0 {K : Res → Option Res} {l : List Lf} {k : St → Option Res} {r : Res} (h : p0 K l k = some r) : ∃ x5 x6 x7 x8, l = [.i x5, .q (.cells x6), .i x7, .i x8] ∧ l0 x6 x7 (fun y1 => k (o0 x6 x7 y1)) fuel x5 x8 = some r := by
 unfold p0 at h; split at h
 ·exact ⟨_, _, _, _, rfl, h⟩
 ·cases h
theorem w0 (K : Res → Option Res) : LpSound Go.Proofs.Try.prog (X K) 0 b0 := lp_ok ((cx K).ok laid) (by rw [show loopsOf b0 = [] from by kernel_rfl]; intro p hp; cases hp) rfl fun p hp hid => by
 rcases List.mem_cons.1 hp with rfl | hp
 ·intro st k r h1 h2; obtain ⟨x5, x6, x7, x8, e, h⟩ := v0 (K := K) h2; have := St.like_eq (y := s0 x5 x6 x7 x8) h1 (by kernel_rfl) e; subst this; exact ⟨fuel, (i0 K k x6 x7 fuel x5 x8).trans h⟩
 cases hp
theorem tie (K : Res → Option Res) (a1 : List Int) (a2 : Int) (a3 : List (List Cl)) : exec (X K) c (entry 22 [.v ⟨true, [.tr 0 1 [.int .i64] (.ints a1), .int .i64 a2, .tr 0 1 [.int .i64, .int .i64, .bool] (.cells a3)]⟩] [] []) (endK (X K)) = g a1 a2 a3 (fun r1 => K (m r1)) := Eq.trans (b := b a1 a2 a3 (fun r1 => K (m r1))) (by kernel_rfl) (by rw [e])
theorem runv {l : List Lf} {K : Res → Option Res} {r : Res} (h : run l K = some r) : ∃ a1 a2 a3, l = [.q (.ints a1), .i a2, .q (.cells a3)] ∧ g a1 a2 a3 (fun r1 => K (m r1)) = some r := by
 unfold run at h; split at h
 ·exact ⟨_, _, _, rfl, h⟩
 ·cases h
theorem ok : Con Go.Proofs.Try.prog con := con_of (fn := Go.Proofs.Try.f26) (c := c) (Fi := fi) (X := X) (fun_of laid (by kernel_rfl) (by kernel_rfl) (by kernel_rfl) rfl (by kernel_rfl) (by kernel_rfl) cx (fun _ => rfl) (fun _ => rfl) (fun K => by
 rw [show loopsOf c = [(0, b0)] from by kernel_rfl]; intro p hp
 rcases List.mem_cons.1 hp with rfl | hp
 ·exact w0 K
 cases hp)) fun xs rows boxes K r hl hr => by
 obtain ⟨a1, a2, a3, e, h⟩ := runv hr
 have := St.like_eq (y := a a1 a2 a3) hl (by kernel_rfl) e
 obtain ⟨rfl, rfl, rfl⟩ := argSt_inj this
 exact (tie K a1 a2 a3).trans h
end impl_HeapUsed
namespace spec_HeapGet
noncomputable def c : Code := bodyOf Go.Proofs.Try.f27
noncomputable def fi : Fin := ⟨Γ0, [(.cell 4 46, 46), (.tmp 5, 4)], [[1, 1], [1]], [], [], []⟩
noncomputable def m (r1 r2 : List Int) (r3 : Bool) : Res := ⟨[⟨true, [.ow 1000, .ow 1001]⟩, ⟨false, [.bool r3]⟩], [], [⟨[.int .i64], .ints r1, true, 0⟩, ⟨[.int .i64], .ints r2, true, 0⟩], [], []⟩
noncomputable def os : List (FuncId × St × (List Lf → (Res → Option Res) → Option Res)) := [spec_HeapOk.con, spec_l13Live.con, spec_l1In.con, spec_ArrayOk.con]
noncomputable def X (K : Res → Option Res) : Ctx := { Γ := Γ0, orc := orcOf os, io := [], share := [], mvl := [], bun := [], cut := [], own := [], cin := [], cout := [], lp := lpOf [], kl := [], nk := true, eqs := eqs0, byt := byt0, fin := finK fi K }
noncomputable def b (a1 : List Int) (a2 : Int) (a3 : List (List Cl)) (a4 : Int) (R : List Int → List Int → Bool → Option Res) : Option Res :=
 spec_HeapOk.g a1 a2 a3 fun r5 =>
 bif !r5 then R ([] : List Int) ([] : List Int) false
 else (spec_l13Live.g a1 a2 a3 a4 fun r6 =>
 bif !r6 then R ([] : List Int) ([] : List Int) false
 else bif decide (0 ≤ a4) && decide (a4 < (a3.length : Int)) then (bif decide (0 ≤ ((a3.getD a4.toNat []).getD 0 (.i 0)).toI) && decide (((a3.getD a4.toNat []).getD 0 (.i 0)).toI ≤ IntKind.i64.wrap ((((a3.getD a4.toNat []).getD 0 (.i 0)).toI) + (((a3.getD a4.toNat []).getD 1 (.i 0)).toI))) && decide (IntKind.i64.wrap ((((a3.getD a4.toNat []).getD 0 (.i 0)).toI) + (((a3.getD a4.toNat []).getD 1 (.i 0)).toI)) ≤ (a1.length : Int)) then (bif decide (0 < (((a1.drop ((((a3.getD a4.toNat []).getD 0 (.i 0)).toI).toNat)).take (((IntKind.i64.wrap ((((a3.getD a4.toNat []).getD 0 (.i 0)).toI) + (((a3.getD a4.toNat []).getD 1 (.i 0)).toI))).toNat) - ((((a3.getD a4.toNat []).getD 0 (.i 0)).toI).toNat))).length : Int)) then (spec_l1In.g (((a1.drop ((((a3.getD a4.toNat []).getD 0 (.i 0)).toI).toNat)).take (((IntKind.i64.wrap ((((a3.getD a4.toNat []).getD 0 (.i 0)).toI) + (((a3.getD a4.toNat []).getD 1 (.i 0)).toI))).toNat) - ((((a3.getD a4.toNat []).getD 0 (.i 0)).toI).toNat))).getD 0 0) 0 (IntKind.i64.wrap ((((a1.drop ((((a3.getD a4.toNat []).getD 0 (.i 0)).toI).toNat)).take (((IntKind.i64.wrap ((((a3.getD a4.toNat []).getD 0 (.i 0)).toI) + (((a3.getD a4.toNat []).getD 1 (.i 0)).toI))).toNat) - ((((a3.getD a4.toNat []).getD 0 (.i 0)).toI).toNat))).length : Int) - 1)) fun r7 =>
  bif !r7 then R ([] : List Int) ([] : List Int) false
  else bif decide (0 < (((a1.drop ((((a3.getD a4.toNat []).getD 0 (.i 0)).toI).toNat)).take (((IntKind.i64.wrap ((((a3.getD a4.toNat []).getD 0 (.i 0)).toI) + (((a3.getD a4.toNat []).getD 1 (.i 0)).toI))).toNat) - ((((a3.getD a4.toNat []).getD 0 (.i 0)).toI).toNat))).length : Int)) then (bif decide (1 ≤ IntKind.i64.wrap (1 + (((a1.drop ((((a3.getD a4.toNat []).getD 0 (.i 0)).toI).toNat)).take (((IntKind.i64.wrap ((((a3.getD a4.toNat []).getD 0 (.i 0)).toI) + (((a3.getD a4.toNat []).getD 1 (.i 0)).toI))).toNat) - ((((a3.getD a4.toNat []).getD 0 (.i 0)).toI).toNat))).getD 0 0))) && decide (IntKind.i64.wrap (1 + (((a1.drop ((((a3.getD a4.toNat []).getD 0 (.i 0)).toI).toNat)).take (((IntKind.i64.wrap ((((a3.getD a4.toNat []).getD 0 (.i 0)).toI) + (((a3.getD a4.toNat []).getD 1 (.i 0)).toI))).toNat) - ((((a3.getD a4.toNat []).getD 0 (.i 0)).toI).toNat))).getD 0 0)) ≤ (((a1.drop ((((a3.getD a4.toNat []).getD 0 (.i 0)).toI).toNat)).take (((IntKind.i64.wrap ((((a3.getD a4.toNat []).getD 0 (.i 0)).toI) + (((a3.getD a4.toNat []).getD 1 (.i 0)).toI))).toNat) - ((((a3.getD a4.toNat []).getD 0 (.i 0)).toI).toNat))).length : Int)) then (bif decide ((0 + ((((a1.drop ((((a3.getD a4.toNat []).getD 0 (.i 0)).toI).toNat)).take (((IntKind.i64.wrap ((((a3.getD a4.toNat []).getD 0 (.i 0)).toI) + (((a3.getD a4.toNat []).getD 1 (.i 0)).toI))).toNat) - ((((a3.getD a4.toNat []).getD 0 (.i 0)).toI).toNat))).drop 1).take (((IntKind.i64.wrap (1 + (((a1.drop ((((a3.getD a4.toNat []).getD 0 (.i 0)).toI).toNat)).take (((IntKind.i64.wrap ((((a3.getD a4.toNat []).getD 0 (.i 0)).toI) + (((a3.getD a4.toNat []).getD 1 (.i 0)).toI))).toNat) - ((((a3.getD a4.toNat []).getD 0 (.i 0)).toI).toNat))).getD 0 0))).toNat) - 1)).length) * 8 ≤ 140737488355328) then (bif decide (0 < (((a1.drop ((((a3.getD a4.toNat []).getD 0 (.i 0)).toI).toNat)).take (((IntKind.i64.wrap ((((a3.getD a4.toNat []).getD 0 (.i 0)).toI) + (((a3.getD a4.toNat []).getD 1 (.i 0)).toI))).toNat) - ((((a3.getD a4.toNat []).getD 0 (.i 0)).toI).toNat))).length : Int)) then (bif decide (0 ≤ IntKind.i64.wrap (1 + (((a1.drop ((((a3.getD a4.toNat []).getD 0 (.i 0)).toI).toNat)).take (((IntKind.i64.wrap ((((a3.getD a4.toNat []).getD 0 (.i 0)).toI) + (((a3.getD a4.toNat []).getD 1 (.i 0)).toI))).toNat) - ((((a3.getD a4.toNat []).getD 0 (.i 0)).toI).toNat))).getD 0 0))) && decide (IntKind.i64.wrap (1 + (((a1.drop ((((a3.getD a4.toNat []).getD 0 (.i 0)).toI).toNat)).take (((IntKind.i64.wrap ((((a3.getD a4.toNat []).getD 0 (.i 0)).toI) + (((a3.getD a4.toNat []).getD 1 (.i 0)).toI))).toNat) - ((((a3.getD a4.toNat []).getD 0 (.i 0)).toI).toNat))).getD 0 0)) ≤ (((a1.drop ((((a3.getD a4.toNat []).getD 0 (.i 0)).toI).toNat)).take (((IntKind.i64.wrap ((((a3.getD a4.toNat []).getD 0 (.i 0)).toI) + (((a3.getD a4.toNat []).getD 1 (.i 0)).toI))).toNat) - ((((a3.getD a4.toNat []).getD 0 (.i 0)).toI).toNat))).length : Int)) then (bif decide ((0 + (((a1.drop ((((a3.getD a4.toNat []).getD 0 (.i 0)).toI).toNat)).take (((IntKind.i64.wrap ((((a3.getD a4.toNat []).getD 0 (.i 0)).toI) + (((a3.getD a4.toNat []).getD 1 (.i 0)).toI))).toNat) - ((((a3.getD a4.toNat []).getD 0 (.i 0)).toI).toNat))).drop ((IntKind.i64.wrap (1 + (((a1.drop ((((a3.getD a4.toNat []).getD 0 (.i 0)).toI).toNat)).take (((IntKind.i64.wrap ((((a3.getD a4.toNat []).getD 0 (.i 0)).toI) + (((a3.getD a4.toNat []).getD 1 (.i 0)).toI))).toNat) - ((((a3.getD a4.toNat []).getD 0 (.i 0)).toI).toNat))).getD 0 0))).toNat)).length) * 8 ≤ 140737488355328) then (spec_ArrayOk.g (([] : List Int) ++ ((((a1.drop ((((a3.getD a4.toNat []).getD 0 (.i 0)).toI).toNat)).take (((IntKind.i64.wrap ((((a3.getD a4.toNat []).getD 0 (.i 0)).toI) + (((a3.getD a4.toNat []).getD 1 (.i 0)).toI))).toNat) - ((((a3.getD a4.toNat []).getD 0 (.i 0)).toI).toNat))).drop 1).take (((IntKind.i64.wrap (1 + (((a1.drop ((((a3.getD a4.toNat []).getD 0 (.i 0)).toI).toNat)).take (((IntKind.i64.wrap ((((a3.getD a4.toNat []).getD 0 (.i 0)).toI) + (((a3.getD a4.toNat []).getD 1 (.i 0)).toI))).toNat) - ((((a3.getD a4.toNat []).getD 0 (.i 0)).toI).toNat))).getD 0 0))).toNat) - 1))) (([] : List Int) ++ (((a1.drop ((((a3.getD a4.toNat []).getD 0 (.i 0)).toI).toNat)).take (((IntKind.i64.wrap ((((a3.getD a4.toNat []).getD 0 (.i 0)).toI) + (((a3.getD a4.toNat []).getD 1 (.i 0)).toI))).toNat) - ((((a3.getD a4.toNat []).getD 0 (.i 0)).toI).toNat))).drop ((IntKind.i64.wrap (1 + (((a1.drop ((((a3.getD a4.toNat []).getD 0 (.i 0)).toI).toNat)).take (((IntKind.i64.wrap ((((a3.getD a4.toNat []).getD 0 (.i 0)).toI) + (((a3.getD a4.toNat []).getD 1 (.i 0)).toI))).toNat) - ((((a3.getD a4.toNat []).getD 0 (.i 0)).toI).toNat))).getD 0 0))).toNat))) fun r8 =>
   bif !r8 then R ([] : List Int) ([] : List Int) false
   else R (([] : List Int) ++ ((((a1.drop ((((a3.getD a4.toNat []).getD 0 (.i 0)).toI).toNat)).take (((IntKind.i64.wrap ((((a3.getD a4.toNat []).getD 0 (.i 0)).toI) + (((a3.getD a4.toNat []).getD 1 (.i 0)).toI))).toNat) - ((((a3.getD a4.toNat []).getD 0 (.i 0)).toI).toNat))).drop 1).take (((IntKind.i64.wrap (1 + (((a1.drop ((((a3.getD a4.toNat []).getD 0 (.i 0)).toI).toNat)).take (((IntKind.i64.wrap ((((a3.getD a4.toNat []).getD 0 (.i 0)).toI) + (((a3.getD a4.toNat []).getD 1 (.i 0)).toI))).toNat) - ((((a3.getD a4.toNat []).getD 0 (.i 0)).toI).toNat))).getD 0 0))).toNat) - 1))) (([] : List Int) ++ (((a1.drop ((((a3.getD a4.toNat []).getD 0 (.i 0)).toI).toNat)).take (((IntKind.i64.wrap ((((a3.getD a4.toNat []).getD 0 (.i 0)).toI) + (((a3.getD a4.toNat []).getD 1 (.i 0)).toI))).toNat) - ((((a3.getD a4.toNat []).getD 0 (.i 0)).toI).toNat))).drop ((IntKind.i64.wrap (1 + (((a1.drop ((((a3.getD a4.toNat []).getD 0 (.i 0)).toI).toNat)).take (((IntKind.i64.wrap ((((a3.getD a4.toNat []).getD 0 (.i 0)).toI) + (((a3.getD a4.toNat []).getD 1 (.i 0)).toI))).toNat) - ((((a3.getD a4.toNat []).getD 0 (.i 0)).toI).toNat))).getD 0 0))).toNat))) true)
   else none)
   else none)
   else none)
   else none)
   else none)
  else none)
  else none)
  else none)
 else none)
theorem gx : ∃ x : List Int → Int → List (List Cl) → Int → (List Int → List Int → Bool → Option Res) → Option Res, x = b := ⟨_, rfl⟩
noncomputable def g : List Int → Int → List (List Cl) → Int → (List Int → List Int → Bool → Option Res) → Option Res := Classical.choose gx
theorem e : g = b := Classical.choose_spec gx
noncomputable def run : List Lf → (Res → Option Res) → Option Res
 | [.q (.ints a1), .i a2, .q (.cells a3), .i a4], K => g a1 a2 a3 a4 (fun r1 r2 r3 => K (m r1 r2 r3))
 | _, _ => none
noncomputable def a (a1 : List Int) (a2 : Int) (a3 : List (List Cl)) (a4 : Int) : St := argSt [.v ⟨true, [.tr 0 1 [.int .i64] (.ints a1), .int .i64 a2, .tr 0 1 [.int .i64, .int .i64, .bool] (.cells a3)]⟩, one (.int .i64 a4)] [] []
noncomputable def con : FuncId × St × (List Lf → (Res → Option Res) → Option Res) := (27, a [] 0 [] 0, run)
theorem cx (K : Res → Option Res) : CtxOk Go.Proofs.Try.prog Γ0 byt0 eqs0 (X K) os := ⟨rfl, rfl, rfl, (fun p hp => by
 rcases List.mem_cons.1 hp with rfl | hp
 ·exact spec_HeapOk.ok
 rcases List.mem_cons.1 hp with rfl | hp
 ·exact spec_l13Live.ok
 rcases List.mem_cons.1 hp with rfl | hp
 ·exact spec_l1In.ok
 rcases List.mem_cons.1 hp with rfl | hp
 ·exact spec_ArrayOk.ok
 cases hp), rfl, rfl, rfl, rfl⟩
theorem tie (K : Res → Option Res) (a1 : List Int) (a2 : Int) (a3 : List (List Cl)) (a4 : Int) : exec (X K) c (entry 65 [.v ⟨true, [.tr 0 1 [.int .i64] (.ints a1), .int .i64 a2, .tr 0 1 [.int .i64, .int .i64, .bool] (.cells a3)]⟩, one (.int .i64 a4)] [] []) (endK (X K)) = g a1 a2 a3 a4 (fun r1 r2 r3 => K (m r1 r2 r3)) := Eq.trans (b := b a1 a2 a3 a4 (fun r1 r2 r3 => K (m r1 r2 r3))) (by kernel_rfl) (by rw [e])
theorem runv {l : List Lf} {K : Res → Option Res} {r : Res} (h : run l K = some r) : ∃ a1 a2 a3 a4, l = [.q (.ints a1), .i a2, .q (.cells a3), .i a4] ∧ g a1 a2 a3 a4 (fun r1 r2 r3 => K (m r1 r2 r3)) = some r := by
 unfold run at h; split at h
 ·exact ⟨_, _, _, _, rfl, h⟩
 ·cases h
theorem ok : Con Go.Proofs.Try.prog con := con_of (fn := Go.Proofs.Try.f27) (c := c) (Fi := fi) (X := X) (fun_of laid (by kernel_rfl) (by kernel_rfl) (by kernel_rfl) rfl (by kernel_rfl) (by kernel_rfl) cx (fun _ => rfl) (fun _ => rfl) (fun K => by
 rw [show loopsOf c = [] from by kernel_rfl]; intro p hp
 cases hp)) fun xs rows boxes K r hl hr => by
 obtain ⟨a1, a2, a3, a4, e, h⟩ := runv hr
 have := St.like_eq (y := a a1 a2 a3 a4) hl (by kernel_rfl) e
 obtain ⟨rfl, rfl, rfl⟩ := argSt_inj this
 exact (tie K a1 a2 a3 a4).trans h
end spec_HeapGet
namespace laws_FnHeap
noncomputable def c : Code := bodyOf Go.Proofs.Try.f5
noncomputable def fi : Fin := ⟨Γ0, [(.tmp 2, 4)], [[1]], [], [], []⟩
noncomputable def m (r1 : Bool) : Res := ⟨[⟨false, [.bool r1]⟩], [], [], [], []⟩
noncomputable def b0 : Code := codeAt c [1, 1, 1, 1, 1, 1, 1, 1, 1, 1, 0, 1, 0, 0]
noncomputable def s0 (x31 : Int) (x32 : List Int) (x33 : List (List Cl)) (x34 : List Int) (x35 : List (List Cl)) (x36 : List Int) (x37 : List (List Cl)) (x38 x39 x40 : Int) : St := ⟨mkT 167 [(3, one (.bp 7224 0)), (5, one (.bp 9304 0)), (13, one (.bp 23608 0)), (15, one (.int .i64 x31))], [(7161, ⟨[.int .i64], .ints x32, true, 0⟩), (7162, ⟨[.int .i64, .int .i64, .bool], .cells x33, true, 0⟩), (9225, ⟨[.int .i64], .ints x34, true, 0⟩), (9226, ⟨[.int .i64, .int .i64, .bool], .cells x35, true, 0⟩), (23545, ⟨[.int .i64], .ints x36, true, 0⟩), (23546, ⟨[.int .i64, .int .i64, .bool], .cells x37, true, 0⟩)], [(7224, [.ow 7161, .int .i64 x38, .ow 7162]), (9304, [.ow 9225, .int .i64 x39, .ow 9226]), (23608, [.ow 23545, .int .i64 x40, .ow 23546])]⟩
noncomputable def l0s (x32 : List Int) (x33 : List (List Cl)) (x34 : List Int) (x35 : List (List Cl)) (x36 : List Int) (x37 : List (List Cl)) (x38 x39 x40 : Int) (rec : Int → Option Res) (k : Option Res) (R : Bool → Option Res) (x31 : Int) : Option Res :=
 bif decide (x31 < (x33.length : Int)) then (spec_HeapGet.g x32 x38 x33 x31 fun r41 r42 r43 =>
  impl_HeapGet.g x34 x39 x35 x31 fun r44 r45 r46 =>
  impl_HeapGet.g x36 x40 x37 x31 fun r47 r48 r49 =>
  bif r43 then (bif !r46 then R false
   else bif !r49 then R false
   else (laws_sameArray.g r41 r42 r44 r45 fun r50 =>
   bif !r50 then R false
   else (laws_sameArray.g r41 r42 r47 r48 fun r51 =>
   bif !r51 then R false
   else rec (IntKind.i64.wrap (x31 + 1)))))
  else rec (IntKind.i64.wrap (x31 + 1)))
 else k
noncomputable def l0 (x32 : List Int) (x33 : List (List Cl)) (x34 : List Int) (x35 : List (List Cl)) (x36 : List Int) (x37 : List (List Cl)) (x38 x39 x40 : Int) (k : Option Res) (R : Bool → Option Res) : Nat → Int → Option Res
 | 0, _ => none
 | n + 1, x31 => l0s x32 x33 x34 x35 x36 x37 x38 x39 x40 (fun x31 => l0 x32 x33 x34 x35 x36 x37 x38 x39 x40 k R n x31) k R x31
noncomputable def o0 (x32 : List Int) (x33 : List (List Cl)) (x34 : List Int) (x35 : List (List Cl)) (x36 : List Int) (x37 : List (List Cl)) (x38 x39 x40 : Int) : St := ⟨mkT 167 [], [], []⟩
noncomputable def p0 (K : Res → Option Res) : List Lf → (St → Option Res) → Option Res
 | [.i x31, .q (.ints x32), .q (.cells x33), .q (.ints x34), .q (.cells x35), .q (.ints x36), .q (.cells x37), .i x38, .i x39, .i x40], k => l0 x32 x33 x34 x35 x36 x37 x38 x39 x40 (k (o0 x32 x33 x34 x35 x36 x37 x38 x39 x40)) (fun r1 => K (m r1)) fuel x31
 | _, _ => none
noncomputable def os : List (FuncId × St × (List Lf → (Res → Option Res) → Option Res)) := [laws_big.con, spec_DrawHeapPut.con, impl_HeapPut.con, spec_HeapPut.con, impl_HeapOk.con, spec_HeapOk.con, impl_HeapGet.con, impl_HeapPack.con, laws_sameArray.con, impl_HeapUsed.con, spec_HeapGet.con]
noncomputable def X (K : Res → Option Res) : Ctx := { Γ := Γ0, orc := orcOf os, io := [(18, [⟨false, 2, 1⟩]), (19, [⟨false, 2, 2⟩, ⟨false, 0, 1⟩]), (24, [⟨false, 2, 2⟩])], share := [], mvl := [], bun := [], cut := [], own := [], cin := [(0, ⟨[3, 5, 13, 15], [(7161, 7161), (7162, 7162), (9225, 9225), (9226, 9226), (23545, 23545), (23546, 23546)], [7224, 9304, 23608], [], [], []⟩)], cout := [(0, ⟨[], [], [], [], [], []⟩)], lp := lpOf [(0, s0 0 [] [] [] [] [] [] 0 0 0, p0 K)], kl := [], nk := true, eqs := eqs0, byt := byt0, fin := finK fi K }
noncomputable def b (a1 : List Int) (R : Bool → Option Res) : Option Res :=
 laws_big.g a1 fun r2 =>
 bif r2 then R true
 else (spec_DrawHeapPut.g a1 fun r3 r4 r5 r6 r7 =>
 impl_HeapPut.g r3 r4 r5 r6 r7 fun r8 r9 r10 r11 r12 =>
 spec_HeapPut.g r3 r4 r5 r6 r7 fun r13 r14 r15 r16 r17 =>
 bif (r12 != r17) then R false
 else bif (r11 != r16) then R false
 else (impl_HeapOk.g r3 r4 r5 fun r18 =>
 spec_HeapOk.g r3 r4 r5 fun r19 =>
 bif (r18 != r19) then R false
 else bif !r12 then (bif (r11 == (-1)) then (bif ((r10.length : Int) == (r5.length : Int)) then R true
  else R ((r8.length : Int) == 0))
  else R false)
 else (impl_HeapGet.g r8 r9 r10 r11 fun r20 r21 r22 =>
 impl_HeapPack.g r8 r9 r10 fun r23 r24 r25 r26 =>
 bif !r22 then R false
 else bif !r26 then R false
 else (laws_sameArray.g r20 r21 r6 r7 fun r27 =>
 bif !r27 then R false
 else (impl_HeapOk.g r8 r9 r10 fun r28 =>
 bif !r28 then R false
 else (impl_HeapUsed.g r8 r9 r10 fun r29 =>
 impl_HeapUsed.g r3 r4 r5 fun r30 =>
 bif (r29 != IntKind.i64.wrap ((IntKind.i64.wrap ((IntKind.i64.wrap (r30 + 1)) + (r6.length : Int))) + (r7.length : Int))) then R false
 else (l0 r3 r5 r8 r10 r23 r25 r4 r9 r24 (
 R true) R fuel 0)))))))
theorem gx : ∃ x : List Int → (Bool → Option Res) → Option Res, x = b := ⟨_, rfl⟩
noncomputable def g : List Int → (Bool → Option Res) → Option Res := Classical.choose gx
theorem e : g = b := Classical.choose_spec gx
noncomputable def run : List Lf → (Res → Option Res) → Option Res
 | [.q (.ints a1)], K => g a1 (fun r1 => K (m r1))
 | _, _ => none
noncomputable def a (a1 : List Int) : St := argSt [one (.tr 2 1 [.int .u8] (.ints a1))] [] []
noncomputable def con : FuncId × St × (List Lf → (Res → Option Res) → Option Res) := (5, a [], run)
theorem cx (K : Res → Option Res) : CtxOk Go.Proofs.Try.prog Γ0 byt0 eqs0 (X K) os := ⟨rfl, rfl, rfl, (fun p hp => by
 rcases List.mem_cons.1 hp with rfl | hp
 ·exact laws_big.ok
 rcases List.mem_cons.1 hp with rfl | hp
 ·exact spec_DrawHeapPut.ok
 rcases List.mem_cons.1 hp with rfl | hp
 ·exact impl_HeapPut.ok
 rcases List.mem_cons.1 hp with rfl | hp
 ·exact spec_HeapPut.ok
 rcases List.mem_cons.1 hp with rfl | hp
 ·exact impl_HeapOk.ok
 rcases List.mem_cons.1 hp with rfl | hp
 ·exact spec_HeapOk.ok
 rcases List.mem_cons.1 hp with rfl | hp
 ·exact impl_HeapGet.ok
 rcases List.mem_cons.1 hp with rfl | hp
 ·exact impl_HeapPack.ok
 rcases List.mem_cons.1 hp with rfl | hp
 ·exact laws_sameArray.ok
 rcases List.mem_cons.1 hp with rfl | hp
 ·exact impl_HeapUsed.ok
 rcases List.mem_cons.1 hp with rfl | hp
 ·exact spec_HeapGet.ok
 cases hp), rfl, rfl, rfl, rfl⟩
theorem t0 (K : Res → Option Res) (k : St → Option Res) (it : St → (St → Option Res) → Option Res) (x31 : Int) (x32 : List Int) (x33 : List (List Cl)) (x34 : List Int) (x35 : List (List Cl)) (x36 : List Int) (x37 : List (List Cl)) (x38 x39 x40 : Int) : iterS (X K) 0 b0 it (s0 x31 x32 x33 x34 x35 x36 x37 x38 x39 x40) k = l0s x32 x33 x34 x35 x36 x37 x38 x39 x40 (fun x31 => it (s0 x31 x32 x33 x34 x35 x36 x37 x38 x39 x40) k) (k (o0 x32 x33 x34 x35 x36 x37 x38 x39 x40)) (fun r1 => K (m r1)) x31 := by kernel_rfl
theorem i0 (K : Res → Option Res) (k : St → Option Res) (x32 : List Int) (x33 : List (List Cl)) (x34 : List Int) (x35 : List (List Cl)) (x36 : List Int) (x37 : List (List Cl)) (x38 x39 x40 : Int) : ∀ (n : Nat) (x31 : Int), iter (X K) 0 b0 n (s0 x31 x32 x33 x34 x35 x36 x37 x38 x39 x40) k = l0 x32 x33 x34 x35 x36 x37 x38 x39 x40 (k (o0 x32 x33 x34 x35 x36 x37 x38 x39 x40)) (fun r1 => K (m r1)) n x31
 | 0, _ => rfl
 | n + 1, x31 => by
  rw [iter_succ, t0, show (fun x31 => iter (X K) 0 b0 n (s0 x31 x32 x33 x34 x35 x36 x37 x38 x39 x40) k) = (fun x31 => l0 x32 x33 x34 x35 x36 x37 x38 x39 x40 (k (o0 x32 x33 x34 x35 x36 x37 x38 x39 x40)) (fun r1 => K (m r1)) n x31) from funext fun x31 => i0 K k x32 x33 x34 x35 x36 x37 x38 x39 x40 n x31]; rfl
theorem v0 {K : Res → Option Res} {l : List Lf} {k : St → Option Res} {r : Res} (h : p0 K l k = some r) : ∃ x31 x32 x33 x34 x35 x36 x37 x38 x39 x40, l = [.i x31, .q (.ints x32), .q (.cells x33), .q (.ints x34), .q (.cells x35), .q (.ints x36), .q (.cells x37), .i x38, .i x39, .i x40] ∧ l0 x32 x33 x34 x35 x36 x37 x38 x39 x40 (k (o0 x32 x33 x34 x35 x36 x37 x38 x39 x40)) (fun r1 => K (m r1)) fuel x31 = some r := by
 unfold p0 at h; split at h
 ·exact ⟨_, _, _, _, _, _, _, _, _, _, rfl, h⟩
 ·cases h
theorem w0 (K : Res → Option Res) : LpSound Go.Proofs.Try.prog (X K) 0 b0 := lp_ok ((cx K).ok laid) (by rw [show loopsOf b0 = [] from by kernel_rfl]; intro p hp; cases hp) rfl fun p hp hid => by
 rcases List.mem_cons.1 hp with rfl | hp
 ·intro st k r h1 h2; obtain ⟨x31, x32, x33, x34, x35, x36, x37, x38, x39, x40, e, h⟩ := v0 (K := K) h2; have := St.like_eq (y := s0 x31 x32 x33 x34 x35 x36 x37 x38 x39 x40) h1 (by kernel_rfl) e; subst this; exact ⟨fuel, (i0 K k x32 x33 x34 x35 x36 x37 x38 x39 x40 fuel x31).trans h⟩
 cases hp
theorem tie (K : Res → Option Res) (a1 : List Int) : exec (X K) c (entry 167 [one (.tr 2 1 [.int .u8] (.ints a1))] [] []) (endK (X K)) = g a1 (fun r1 => K (m r1)) := Eq.trans (b := b a1 (fun r1 => K (m r1))) (by kernel_rfl) (by rw [e])
theorem runv {l : List Lf} {K : Res → Option Res} {r : Res} (h : run l K = some r) : ∃ a1, l = [.q (.ints a1)] ∧ g a1 (fun r1 => K (m r1)) = some r := by
 unfold run at h; split at h
 ·exact ⟨_, rfl, h⟩
 ·cases h
theorem ok : Con Go.Proofs.Try.prog con := con_of (fn := Go.Proofs.Try.f5) (c := c) (Fi := fi) (X := X) (fun_of laid (by kernel_rfl) (by kernel_rfl) (by kernel_rfl) rfl (by kernel_rfl) (by kernel_rfl) cx (fun _ => rfl) (fun _ => rfl) (fun K => by
 rw [show loopsOf c = [(0, b0)] from by kernel_rfl]; intro p hp
 rcases List.mem_cons.1 hp with rfl | hp
 ·exact w0 K
 cases hp)) fun xs rows boxes K r hl hr => by
 obtain ⟨a1, e, h⟩ := runv hr
 have := St.like_eq (y := a a1) hl (by kernel_rfl) e
 obtain ⟨rfl, rfl, rfl⟩ := argSt_inj this
 exact (tie K a1).trans h
end laws_FnHeap
end Go.Tv.F
