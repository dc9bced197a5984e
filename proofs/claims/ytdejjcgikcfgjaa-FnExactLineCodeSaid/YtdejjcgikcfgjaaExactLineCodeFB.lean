/- The law's functions, printed by a program of ours, each with its contract. They hold without condition. -/
import Derived.Test.YtdejjcgikcfgjaaExactLineCodeFA
set_option linter.unusedVariables false
set_option linter.unusedSectionVars false
set_option linter.unusedSimpArgs false
set_option linter.unnecessarySimpa false
set_option maxRecDepth 100000
set_option autoImplicit false
namespace Go.Tv.F
open Go Go.Tv
namespace spec_l9Behind
noncomputable def c : Code := bodyOf Go.Proofs.Try.f116
noncomputable def fi : Fin := ⟨Γ0, [], [], [false], [([.sl [.int .i64, .int .i64] 16, .int .i64, .sl [.int .i64, .int .i64, .int .i64, .int .i64, .int .i64, .int .i64, .ints .i64] 72], [0, 1, 1])], []⟩
noncomputable def m (r1 : List (List Cl)) (r2 : Int) (r3 : List (List Cl)) : Res := ⟨[], [none], [⟨[.int .i64, .int .i64, .int .i64, .int .i64, .int .i64, .int .i64, .ints .i64], .cells r3, false, 0, none⟩], [[.tr 2 2 [.int .i64, .int .i64] (.cells r1), .int .i64 r2, .ow 1000]], []⟩
noncomputable def b0 : Code := codeAt c [1, 1, 0, 0]
noncomputable def s0 (x5 : List (List Cl)) (x6 x7 : Int) (x8 x9 : List (List Cl)) (x10 : Int) : St := ⟨mkT 54 [(0, one (.bp 0 0)), (1, one (.tr 0 2 [.int .i64, .int .i64, .int .i64, .int .i64, .int .i64, .int .i64, .ints .i64] (.cells x5))), (4, one (.int .i64 x6)), (5, one (.int .i64 x7))], [(102401000, ⟨[.int .i64, .int .i64, .int .i64, .int .i64, .int .i64, .int .i64, .ints .i64], .cells x8, false, 0, none⟩)], [(0, [.tr 2 2 [.int .i64, .int .i64] (.cells x9), .int .i64 x10, .ow 102401000])]⟩
noncomputable def l0s (x5 : List (List Cl)) (x6 : Int) (x9 : List (List Cl)) (x10 : Int) (rec : Int → List (List Cl) → Option Res) (k : List (List Cl) → Option Res) (x7 : Int) (x8 : List (List Cl)) : Option Res :=
 bif decide (x7 < (x5.length : Int)) then (bif decide (0 ≤ x7) && decide (x7 < (x5.length : Int)) then (bif (((x5.getD x7.toNat []).getD 0 (.i 0)).toI == 5) then (bif decide ((x8.length + 1) * 72 ≤ 140737488355328) then rec (IntKind.i64.wrap (x7 + 1)) (x8 ++ ([[.i (((x5.getD x7.toNat []).getD 0 (.i 0)).toI), .i (IntKind.i64.wrap ((((x5.getD x7.toNat []).getD 1 (.i 0)).toI) + x6)), .i (IntKind.i64.wrap ((((x5.getD x7.toNat []).getD 2 (.i 0)).toI) + x6)), .i (((x5.getD x7.toNat []).getD 3 (.i 0)).toI), .i (((x5.getD x7.toNat []).getD 4 (.i 0)).toI), .i (((x5.getD x7.toNat []).getD 5 (.i 0)).toI), .l (((x5.getD x7.toNat []).getD 6 (.i 0)).toL)]] : List (List Cl)))
  else none)
  else bif (((x5.getD x7.toNat []).getD 0 (.i 0)).toI == 4) then (bif decide ((x8.length + 1) * 72 ≤ 140737488355328) then rec (IntKind.i64.wrap (x7 + 1)) (x8 ++ ([[.i (((x5.getD x7.toNat []).getD 0 (.i 0)).toI), .i (((x5.getD x7.toNat []).getD 1 (.i 0)).toI), .i (IntKind.i64.wrap ((((x5.getD x7.toNat []).getD 2 (.i 0)).toI) + x6)), .i (((x5.getD x7.toNat []).getD 3 (.i 0)).toI), .i (((x5.getD x7.toNat []).getD 4 (.i 0)).toI), .i (((x5.getD x7.toNat []).getD 5 (.i 0)).toI), .l (((x5.getD x7.toNat []).getD 6 (.i 0)).toL)]] : List (List Cl)))
   else none)
  else bif (((x5.getD x7.toNat []).getD 0 (.i 0)).toI == 3) then (bif decide ((x8.length + 1) * 72 ≤ 140737488355328) then rec (IntKind.i64.wrap (x7 + 1)) (x8 ++ ([[.i (((x5.getD x7.toNat []).getD 0 (.i 0)).toI), .i (((x5.getD x7.toNat []).getD 1 (.i 0)).toI), .i (IntKind.i64.wrap ((((x5.getD x7.toNat []).getD 2 (.i 0)).toI) + x6)), .i (((x5.getD x7.toNat []).getD 3 (.i 0)).toI), .i (((x5.getD x7.toNat []).getD 4 (.i 0)).toI), .i (((x5.getD x7.toNat []).getD 5 (.i 0)).toI), .l (((x5.getD x7.toNat []).getD 6 (.i 0)).toL)]] : List (List Cl)))
   else none)
  else bif decide ((x8.length + 1) * 72 ≤ 140737488355328) then rec (IntKind.i64.wrap (x7 + 1)) (x8 ++ ([[.i (((x5.getD x7.toNat []).getD 0 (.i 0)).toI), .i (((x5.getD x7.toNat []).getD 1 (.i 0)).toI), .i (((x5.getD x7.toNat []).getD 2 (.i 0)).toI), .i (((x5.getD x7.toNat []).getD 3 (.i 0)).toI), .i (((x5.getD x7.toNat []).getD 4 (.i 0)).toI), .i (((x5.getD x7.toNat []).getD 5 (.i 0)).toI), .l (((x5.getD x7.toNat []).getD 6 (.i 0)).toL)]] : List (List Cl)))
  else none)
  else none)
 else k x8
noncomputable def l0 (x5 : List (List Cl)) (x6 : Int) (x9 : List (List Cl)) (x10 : Int) (k : List (List Cl) → Option Res) : Nat → Int → List (List Cl) → Option Res
 | 0, _, _ => none
 | n + 1, x7, x8 => l0s x5 x6 x9 x10 (fun x7 x8 => l0 x5 x6 x9 x10 k n x7 x8) k x7 x8
noncomputable def o0 (x5 : List (List Cl)) (x6 : Int) (x9 : List (List Cl)) (x10 : Int) (y1 : List (List Cl)) : St := ⟨mkT 54 [], [(102401000, ⟨[.int .i64, .int .i64, .int .i64, .int .i64, .int .i64, .int .i64, .ints .i64], .cells y1, false, 0, none⟩)], [(0, [.tr 2 2 [.int .i64, .int .i64] (.cells x9), .int .i64 x10, .ow 102401000])]⟩
noncomputable def p0 (K : Res → Option Res) : List Lf → (St → Option Res) → Option Res
 | [.q (.cells x5), .i x6, .i x7, .q (.cells x8), .q (.cells x9), .i x10], k => l0 x5 x6 x9 x10 (fun y1 => k (o0 x5 x6 x9 x10 y1)) fuel x7 x8
 | _, _ => none
noncomputable def os : List (FuncId × St × (List Lf → (Res → Option Res) → Option Res)) := []
noncomputable def X (K : Res → Option Res) : Ctx := { Γ := Γ0, orc := orcOf os, io := [], share := [], opn := [], shr := [], bun := [], cut := [], own := [], cin := [(0, ⟨[0, 1, 4, 5], [(0, 102401000), (25688, 102401000)], [0], [102401000], [], []⟩)], cout := [(0, ⟨[], [(102401000, 102401000)], [0], [], [], []⟩)], lp := lpOf [(0, s0 [] 0 0 [] [] 0, p0 K)], kl := Env.kl, nk := true, eqs := eqs0, byt := byt0, fin := finK fi K }
noncomputable def b (a1 a2 a3 : List (List Cl)) (a4 : Int) (R : List (List Cl) → Int → List (List Cl) → Option Res) : Option Res :=
 l0 a1 (a2.length : Int) a3 a4 (fun y11 =>
 R a3 a4 y11) fuel 0 a2
theorem gx : ∃ x : List (List Cl) → List (List Cl) → List (List Cl) → Int → (List (List Cl) → Int → List (List Cl) → Option Res) → Option Res, x = b := ⟨_, rfl⟩
noncomputable def g : List (List Cl) → List (List Cl) → List (List Cl) → Int → (List (List Cl) → Int → List (List Cl) → Option Res) → Option Res := Classical.choose gx
theorem e : g = b := Classical.choose_spec gx
noncomputable def run : List Lf → (Res → Option Res) → Option Res
 | [.q (.cells a1), .q (.cells a2), .q (.cells a3), .i a4], K => g a1 a2 a3 a4 (fun r1 r2 r3 => K (m r1 r2 r3))
 | _, _ => none
noncomputable def a (a1 a2 a3 : List (List Cl)) (a4 : Int) : St := argSt [one (.bp 0 0), one (.tr 0 2 [.int .i64, .int .i64, .int .i64, .int .i64, .int .i64, .int .i64, .ints .i64] (.cells a1))] [⟨[.int .i64, .int .i64, .int .i64, .int .i64, .int .i64, .int .i64, .ints .i64], .cells a2, true, 0, none⟩] [[.tr 2 2 [.int .i64, .int .i64] (.cells a3), .int .i64 a4, .ow 0]]
noncomputable def con : FuncId × St × (List Lf → (Res → Option Res) → Option Res) := (116, a [] [] [] 0, run)
theorem cx (K : Res → Option Res) : CtxOk Go.Proofs.Try.prog Γ0 byt0 eqs0 (X K) os := ⟨rfl, rfl, rfl, (fun p hp => by
 cases hp), rfl, rfl, rfl⟩
theorem t0 (K : Res → Option Res) (k : St → Option Res) (it : St → (St → Option Res) → Option Res) (x5 : List (List Cl)) (x6 x7 : Int) (x8 x9 : List (List Cl)) (x10 : Int) : iterS (X K) 0 b0 it (s0 x5 x6 x7 x8 x9 x10) k = l0s x5 x6 x9 x10 (fun x7 x8 => it (s0 x5 x6 x7 x8 x9 x10) k) (fun y1 => k (o0 x5 x6 x9 x10 y1)) x7 x8 := by kernel_rfl
theorem i0 (K : Res → Option Res) (k : St → Option Res) (x5 : List (List Cl)) (x6 : Int) (x9 : List (List Cl)) (x10 : Int) : ∀ (n : Nat) (x7 : Int) (x8 : List (List Cl)), iter (X K) 0 b0 n (s0 x5 x6 x7 x8 x9 x10) k = l0 x5 x6 x9 x10 (fun y1 => k (o0 x5 x6 x9 x10 y1)) n x7 x8
 | 0, _, _ => rfl
 | n + 1, x7, x8 => by
  rw [iter_succ, t0, show (fun x7 x8 => iter (X K) 0 b0 n (s0 x5 x6 x7 x8 x9 x10) k) = (fun x7 x8 => l0 x5 x6 x9 x10 (fun y1 => k (o0 x5 x6 x9 x10 y1)) n x7 x8) from funext fun x7 => funext fun x8 => i0 K k x5 x6 x9 x10 n x7 x8]; rfl
theorem v0 {K : Res → Option Res} {l : List Lf} {k : St → Option Res} {r : Res} (h : p0 K l k = some r) : ∃ x5 x6 x7 x8 x9 x10, l = [.q (.cells x5), .i x6, .i x7, .q (.cells x8), .q (.cells x9), .i x10] ∧ l0 x5 x6 x9 x10 (fun y1 => k (o0 x5 x6 x9 x10 y1)) fuel x7 x8 = some r := by
 unfold p0 at h; split at h
 ·exact ⟨_, _, _, _, _, _, rfl, h⟩
 ·cases h
theorem w0 (K : Res → Option Res) : LpSound Go.Proofs.Try.prog (X K) 0 b0 := lp_ok ((cx K).ok laid) (by rw [show loopsOf b0 = [] from by kernel_rfl]; intro p hp; cases hp) rfl fun p hp hid => by
 rcases List.mem_cons.1 hp with rfl | hp
 ·intro st k r h1 h2; obtain ⟨x5, x6, x7, x8, x9, x10, e, h⟩ := v0 (K := K) h2; have := St.like_eq (y := s0 x5 x6 x7 x8 x9 x10) h1 (by kernel_rfl) e; subst this; exact ⟨fuel, (i0 K k x5 x6 x9 x10 fuel x7 x8).trans h⟩
 cases hp
theorem tie (K : Res → Option Res) (a1 a2 a3 : List (List Cl)) (a4 : Int) : exec (X K) c (entry 54 [one (.bp 0 0), one (.tr 0 2 [.int .i64, .int .i64, .int .i64, .int .i64, .int .i64, .int .i64, .ints .i64] (.cells a1))] [⟨[.int .i64, .int .i64, .int .i64, .int .i64, .int .i64, .int .i64, .ints .i64], .cells a2, true, 0, none⟩] [[.tr 2 2 [.int .i64, .int .i64] (.cells a3), .int .i64 a4, .ow 0]]) (endK (X K)) = g a1 a2 a3 a4 (fun r1 r2 r3 => K (m r1 r2 r3)) := Eq.trans (b := b a1 a2 a3 a4 (fun r1 r2 r3 => K (m r1 r2 r3))) (by kernel_rfl) (by rw [e])
theorem runv {l : List Lf} {K : Res → Option Res} {r : Res} (h : run l K = some r) : ∃ a1 a2 a3 a4, l = [.q (.cells a1), .q (.cells a2), .q (.cells a3), .i a4] ∧ g a1 a2 a3 a4 (fun r1 r2 r3 => K (m r1 r2 r3)) = some r := by
 unfold run at h; split at h
 ·exact ⟨_, _, _, _, rfl, h⟩
 ·cases h
theorem ok : Con Go.Proofs.Try.prog con := con_of (fn := Go.Proofs.Try.f116) (c := c) (Fi := fi) (X := X) (fun_of laid (by kernel_rfl) (by kernel_rfl) (by kernel_rfl) rfl (by kernel_rfl) (by kernel_rfl) cx (fun _ => rfl) (fun _ => rfl) (fun K => by
 rw [show loopsOf c = [(0, b0)] from by kernel_rfl]; intro p hp
 rcases List.mem_cons.1 hp with rfl | hp
 ·exact w0 K
 cases hp)) fun xs rows boxes K r hl hr => by
 obtain ⟨a1, a2, a3, a4, e, h⟩ := runv hr
 have := St.like_eq (y := a a1 a2 a3 a4) hl (by kernel_rfl) e
 obtain ⟨rfl, rfl, rfl⟩ := argSt_inj this
 exact (tie K a1 a2 a3 a4).trans h
end spec_l9Behind
namespace spec_FunTwo
noncomputable def c : Code := bodyOf Go.Proofs.Try.f74
noncomputable def fi : Fin := ⟨Γ0, [(.tmp 2, 4)], [[1]], [], [], []⟩
noncomputable def m (r1 : Bool) : Res := ⟨[⟨false, [.bool r1]⟩], [], [], [], []⟩
noncomputable def os : List (FuncId × St × (List Lf → (Res → Option Res) → Option Res)) := [spec_l1Sign2.con]
noncomputable def X (K : Res → Option Res) : Ctx := { Γ := Γ0, orc := orcOf os, io := [], share := [], opn := [], shr := [], bun := [], cut := [], own := [], cin := [], cout := [], lp := lpOf [], kl := Env.kl, nk := true, eqs := eqs0, byt := byt0, fin := finK fi K }
noncomputable def b (a1 a2 a3 : Int) (R : Bool → Option Res) : Option Res :=
 bif (a2 == 46) then (spec_l1Sign2.g a1 fun r4 =>
  bif r4 then (spec_l1Sign2.g a3 fun r5 =>
   R r5)
  else R false)
 else bif (a3 != 0) then R false
 else bif (a2 == 111) then (spec_l1Sign2.g a1 fun r6 =>
  R r6)
 else bif (a2 != 0) then R false
 else (spec_l1Sign2.g a1 fun r7 =>
 bif r7 then R true
 else bif (a1 == 35) then R true
 else bif (a1 == 44) then R true
 else bif (a1 == 116) then R true
 else bif (a1 == 100) then R true
 else bif (a1 == 114) then R true
 else bif (a1 == 64) then R true
 else bif (a1 == 63) then R true
 else bif (a1 == 36) then R true
 else R (a1 == 101))
theorem gx : ∃ x : Int → Int → Int → (Bool → Option Res) → Option Res, x = b := ⟨_, rfl⟩
noncomputable def g : Int → Int → Int → (Bool → Option Res) → Option Res := Classical.choose gx
theorem e : g = b := Classical.choose_spec gx
noncomputable def run : List Lf → (Res → Option Res) → Option Res
 | [.i a1, .i a2, .i a3], K => g a1 a2 a3 (fun r1 => K (m r1))
 | _, _ => none
noncomputable def a (a1 a2 a3 : Int) : St := argSt [.v ⟨true, [.int .i64 a1, .int .i64 a2, .int .i64 a3]⟩] [] []
noncomputable def con : FuncId × St × (List Lf → (Res → Option Res) → Option Res) := (74, a 0 0 0, run)
theorem cx (K : Res → Option Res) : CtxOk Go.Proofs.Try.prog Γ0 byt0 eqs0 (X K) os := ⟨rfl, rfl, rfl, (fun p hp => by
 rcases List.mem_cons.1 hp with rfl | hp
 ·exact spec_l1Sign2.ok
 cases hp), rfl, rfl, rfl⟩
theorem tie (K : Res → Option Res) (a1 a2 a3 : Int) : exec (X K) c (entry 77 [.v ⟨true, [.int .i64 a1, .int .i64 a2, .int .i64 a3]⟩] [] []) (endK (X K)) = g a1 a2 a3 (fun r1 => K (m r1)) := Eq.trans (b := b a1 a2 a3 (fun r1 => K (m r1))) (by kernel_rfl) (by rw [e])
theorem runv {l : List Lf} {K : Res → Option Res} {r : Res} (h : run l K = some r) : ∃ a1 a2 a3, l = [.i a1, .i a2, .i a3] ∧ g a1 a2 a3 (fun r1 => K (m r1)) = some r := by
 unfold run at h; split at h
 ·exact ⟨_, _, _, rfl, h⟩
 ·cases h
theorem ok : Con Go.Proofs.Try.prog con := con_of (fn := Go.Proofs.Try.f74) (c := c) (Fi := fi) (X := X) (fun_of laid (by kernel_rfl) (by kernel_rfl) (by kernel_rfl) rfl (by kernel_rfl) (by kernel_rfl) cx (fun _ => rfl) (fun _ => rfl) (fun K => by
 rw [show loopsOf c = [] from by kernel_rfl]; intro p hp
 cases hp)) fun xs rows boxes K r hl hr => by
 obtain ⟨a1, a2, a3, e, h⟩ := runv hr
 have := St.like_eq (y := a a1 a2 a3) hl (by kernel_rfl) e
 obtain ⟨rfl, rfl, rfl⟩ := argSt_inj this
 exact (tie K a1 a2 a3).trans h
end spec_FunTwo
namespace spec_l9Kind_L2
noncomputable def c : Code := bodyOf Go.Proofs.Try.f113
noncomputable def fi : Fin := ⟨Γ0, [(.tmp 4, 3)], [[1]], [true], [([.sl [.int .i64, .int .i64] 16, .int .i64, .sl [.int .i64, .int .i64, .int .i64, .int .i64, .int .i64, .int .i64, .ints .i64] 72], [0, 1, 2])], []⟩
noncomputable def m (a2 a3 : List (List Cl)) (a4 r1 : Int) : Res := ⟨[⟨false, [.int .i64 r1]⟩], [some ⟨[.int .i64, .int .i64, .int .i64, .int .i64, .int .i64, .int .i64, .ints .i64], .cells a2, false, 0, none⟩], [], [[.tr 2 2 [.int .i64, .int .i64] (.cells a3), .int .i64 a4, .ow 0]], []⟩
noncomputable def os : List (FuncId × St × (List Lf → (Res → Option Res) → Option Res)) := []
noncomputable def X (K : Res → Option Res) : Ctx := { Γ := Γ0, orc := orcOf os, io := [], share := [], opn := [], shr := [], bun := [], cut := [], own := [], cin := [], cout := [], lp := lpOf [], kl := Env.kl, nk := true, eqs := eqs0, byt := byt0, fin := finK fi K }
noncomputable def b (a1 : Int) (a2 a3 : List (List Cl)) (a4 : Int) (R : Int → Option Res) : Option Res :=
 bif decide ((a3.length : Int) ≤ IntKind.i64.wrap (a4 + a1)) then R 0
 else bif decide (0 ≤ IntKind.i64.wrap (a4 + a1)) && decide (IntKind.i64.wrap (a4 + a1) < (a3.length : Int)) then R (((a3.getD ((IntKind.i64.wrap (a4 + a1)).toNat) []).getD 0 (.i 0)).toI)
 else none
theorem gx : ∃ x : Int → List (List Cl) → List (List Cl) → Int → (Int → Option Res) → Option Res, x = b := ⟨_, rfl⟩
noncomputable def g : Int → List (List Cl) → List (List Cl) → Int → (Int → Option Res) → Option Res := Classical.choose gx
theorem e : g = b := Classical.choose_spec gx
noncomputable def run : List Lf → (Res → Option Res) → Option Res
 | [.i a1, .q (.cells a2), .q (.cells a3), .i a4], K => g a1 a2 a3 a4 (fun r1 => K (m a2 a3 a4 r1))
 | _, _ => none
noncomputable def a (a1 : Int) (a2 a3 : List (List Cl)) (a4 : Int) : St := argSt [one (.bp 0 0), one (.int .i64 a1)] [⟨[.int .i64, .int .i64, .int .i64, .int .i64, .int .i64, .int .i64, .ints .i64], .cells a2, false, 0, none⟩] [[.tr 2 2 [.int .i64, .int .i64] (.cells a3), .int .i64 a4, .ow 0]]
noncomputable def con : FuncId × St × (List Lf → (Res → Option Res) → Option Res) := (113, a 0 [] [] 0, run)
theorem cx (K : Res → Option Res) : CtxOk Go.Proofs.Try.prog Γ0 byt0 eqs0 (X K) os := ⟨rfl, rfl, rfl, (fun p hp => by
 cases hp), rfl, rfl, rfl⟩
theorem tie (K : Res → Option Res) (a1 : Int) (a2 a3 : List (List Cl)) (a4 : Int) : exec (X K) c (entry 30 [one (.bp 0 0), one (.int .i64 a1)] [⟨[.int .i64, .int .i64, .int .i64, .int .i64, .int .i64, .int .i64, .ints .i64], .cells a2, false, 0, none⟩] [[.tr 2 2 [.int .i64, .int .i64] (.cells a3), .int .i64 a4, .ow 0]]) (endK (X K)) = g a1 a2 a3 a4 (fun r1 => K (m a2 a3 a4 r1)) := Eq.trans (b := b a1 a2 a3 a4 (fun r1 => K (m a2 a3 a4 r1))) (by kernel_rfl) (by rw [e])
theorem runv {l : List Lf} {K : Res → Option Res} {r : Res} (h : run l K = some r) : ∃ a1 a2 a3 a4, l = [.i a1, .q (.cells a2), .q (.cells a3), .i a4] ∧ g a1 a2 a3 a4 (fun r1 => K (m a2 a3 a4 r1)) = some r := by
 unfold run at h; split at h
 ·exact ⟨_, _, _, _, rfl, h⟩
 ·cases h
theorem ok : Con Go.Proofs.Try.prog con := con_of (fn := Go.Proofs.Try.f113) (c := c) (Fi := fi) (X := X) (fun_of laid (by kernel_rfl) (by kernel_rfl) (by kernel_rfl) rfl (by kernel_rfl) (by kernel_rfl) cx (fun _ => rfl) (fun _ => rfl) (fun K => by
 rw [show loopsOf c = [] from by kernel_rfl]; intro p hp
 cases hp)) fun xs rows boxes K r hl hr => by
 obtain ⟨a1, a2, a3, a4, e, h⟩ := runv hr
 have := St.like_eq (y := a a1 a2 a3 a4) hl (by kernel_rfl) e
 obtain ⟨rfl, rfl, rfl⟩ := argSt_inj this
 exact (tie K a1 a2 a3 a4).trans h
end spec_l9Kind_L2
namespace spec_l9Behind_L2
noncomputable def c : Code := bodyOf Go.Proofs.Try.f116
noncomputable def fi : Fin := ⟨Γ0, [], [], [false], [([.sl [.int .i64, .int .i64] 16, .int .i64, .sl [.int .i64, .int .i64, .int .i64, .int .i64, .int .i64, .int .i64, .ints .i64] 72], [0, 1, 1])], []⟩
noncomputable def m (r1 : List (List Cl)) (r2 : Int) (r3 : List (List Cl)) : Res := ⟨[], [none], [⟨[.int .i64, .int .i64, .int .i64, .int .i64, .int .i64, .int .i64, .ints .i64], .cells r3, false, 0, none⟩], [[.tr 2 2 [.int .i64, .int .i64] (.cells r1), .int .i64 r2, .ow 1000]], []⟩
noncomputable def b0 : Code := codeAt c [1, 1, 0, 0]
noncomputable def s0 (x5 : List (List Cl)) (x6 x7 : Int) (x8 x9 : List (List Cl)) (x10 : Int) : St := ⟨mkT 54 [(0, one (.bp 0 0)), (1, one (.tr 0 2 [.int .i64, .int .i64, .int .i64, .int .i64, .int .i64, .int .i64, .ints .i64] (.cells x5))), (4, one (.int .i64 x6)), (5, one (.int .i64 x7))], [(102401000, ⟨[.int .i64, .int .i64, .int .i64, .int .i64, .int .i64, .int .i64, .ints .i64], .cells x8, false, 0, none⟩)], [(0, [.tr 2 2 [.int .i64, .int .i64] (.cells x9), .int .i64 x10, .ow 102401000])]⟩
noncomputable def l0s (x5 : List (List Cl)) (x6 : Int) (x9 : List (List Cl)) (x10 : Int) (rec : Int → List (List Cl) → Option Res) (k : List (List Cl) → Option Res) (x7 : Int) (x8 : List (List Cl)) : Option Res :=
 bif decide (x7 < (x5.length : Int)) then (bif decide (0 ≤ x7) && decide (x7 < (x5.length : Int)) then (bif (((x5.getD x7.toNat []).getD 0 (.i 0)).toI == 5) then (bif decide ((x8.length + 1) * 72 ≤ 140737488355328) then rec (IntKind.i64.wrap (x7 + 1)) (x8 ++ ([[.i (((x5.getD x7.toNat []).getD 0 (.i 0)).toI), .i (IntKind.i64.wrap ((((x5.getD x7.toNat []).getD 1 (.i 0)).toI) + x6)), .i (IntKind.i64.wrap ((((x5.getD x7.toNat []).getD 2 (.i 0)).toI) + x6)), .i (((x5.getD x7.toNat []).getD 3 (.i 0)).toI), .i (((x5.getD x7.toNat []).getD 4 (.i 0)).toI), .i (((x5.getD x7.toNat []).getD 5 (.i 0)).toI), .l (((x5.getD x7.toNat []).getD 6 (.i 0)).toL)]] : List (List Cl)))
  else none)
  else bif (((x5.getD x7.toNat []).getD 0 (.i 0)).toI == 4) then (bif decide ((x8.length + 1) * 72 ≤ 140737488355328) then rec (IntKind.i64.wrap (x7 + 1)) (x8 ++ ([[.i (((x5.getD x7.toNat []).getD 0 (.i 0)).toI), .i (((x5.getD x7.toNat []).getD 1 (.i 0)).toI), .i (IntKind.i64.wrap ((((x5.getD x7.toNat []).getD 2 (.i 0)).toI) + x6)), .i (((x5.getD x7.toNat []).getD 3 (.i 0)).toI), .i (((x5.getD x7.toNat []).getD 4 (.i 0)).toI), .i (((x5.getD x7.toNat []).getD 5 (.i 0)).toI), .l (((x5.getD x7.toNat []).getD 6 (.i 0)).toL)]] : List (List Cl)))
   else none)
  else bif (((x5.getD x7.toNat []).getD 0 (.i 0)).toI == 3) then (bif decide ((x8.length + 1) * 72 ≤ 140737488355328) then rec (IntKind.i64.wrap (x7 + 1)) (x8 ++ ([[.i (((x5.getD x7.toNat []).getD 0 (.i 0)).toI), .i (((x5.getD x7.toNat []).getD 1 (.i 0)).toI), .i (IntKind.i64.wrap ((((x5.getD x7.toNat []).getD 2 (.i 0)).toI) + x6)), .i (((x5.getD x7.toNat []).getD 3 (.i 0)).toI), .i (((x5.getD x7.toNat []).getD 4 (.i 0)).toI), .i (((x5.getD x7.toNat []).getD 5 (.i 0)).toI), .l (((x5.getD x7.toNat []).getD 6 (.i 0)).toL)]] : List (List Cl)))
   else none)
  else bif decide ((x8.length + 1) * 72 ≤ 140737488355328) then rec (IntKind.i64.wrap (x7 + 1)) (x8 ++ ([[.i (((x5.getD x7.toNat []).getD 0 (.i 0)).toI), .i (((x5.getD x7.toNat []).getD 1 (.i 0)).toI), .i (((x5.getD x7.toNat []).getD 2 (.i 0)).toI), .i (((x5.getD x7.toNat []).getD 3 (.i 0)).toI), .i (((x5.getD x7.toNat []).getD 4 (.i 0)).toI), .i (((x5.getD x7.toNat []).getD 5 (.i 0)).toI), .l (((x5.getD x7.toNat []).getD 6 (.i 0)).toL)]] : List (List Cl)))
  else none)
  else none)
 else k x8
noncomputable def l0 (x5 : List (List Cl)) (x6 : Int) (x9 : List (List Cl)) (x10 : Int) (k : List (List Cl) → Option Res) : Nat → Int → List (List Cl) → Option Res
 | 0, _, _ => none
 | n + 1, x7, x8 => l0s x5 x6 x9 x10 (fun x7 x8 => l0 x5 x6 x9 x10 k n x7 x8) k x7 x8
noncomputable def o0 (x5 : List (List Cl)) (x6 : Int) (x9 : List (List Cl)) (x10 : Int) (y1 : List (List Cl)) : St := ⟨mkT 54 [], [(102401000, ⟨[.int .i64, .int .i64, .int .i64, .int .i64, .int .i64, .int .i64, .ints .i64], .cells y1, false, 0, none⟩)], [(0, [.tr 2 2 [.int .i64, .int .i64] (.cells x9), .int .i64 x10, .ow 102401000])]⟩
noncomputable def p0 (K : Res → Option Res) : List Lf → (St → Option Res) → Option Res
 | [.q (.cells x5), .i x6, .i x7, .q (.cells x8), .q (.cells x9), .i x10], k => l0 x5 x6 x9 x10 (fun y1 => k (o0 x5 x6 x9 x10 y1)) fuel x7 x8
 | _, _ => none
noncomputable def os : List (FuncId × St × (List Lf → (Res → Option Res) → Option Res)) := []
noncomputable def X (K : Res → Option Res) : Ctx := { Γ := Γ0, orc := orcOf os, io := [], share := [], opn := [], shr := [], bun := [], cut := [], own := [], cin := [(0, ⟨[0, 1, 4, 5], [(0, 102401000), (25688, 102401000)], [0], [], [], []⟩)], cout := [(0, ⟨[], [(102401000, 102401000)], [0], [], [], []⟩)], lp := lpOf [(0, s0 [] 0 0 [] [] 0, p0 K)], kl := Env.kl, nk := true, eqs := eqs0, byt := byt0, fin := finK fi K }
noncomputable def b (a1 a2 a3 : List (List Cl)) (a4 : Int) (R : List (List Cl) → Int → List (List Cl) → Option Res) : Option Res :=
 l0 a1 (a2.length : Int) a3 a4 (fun y11 =>
 R a3 a4 y11) fuel 0 a2
theorem gx : ∃ x : List (List Cl) → List (List Cl) → List (List Cl) → Int → (List (List Cl) → Int → List (List Cl) → Option Res) → Option Res, x = b := ⟨_, rfl⟩
noncomputable def g : List (List Cl) → List (List Cl) → List (List Cl) → Int → (List (List Cl) → Int → List (List Cl) → Option Res) → Option Res := Classical.choose gx
theorem e : g = b := Classical.choose_spec gx
noncomputable def run : List Lf → (Res → Option Res) → Option Res
 | [.q (.cells a1), .q (.cells a2), .q (.cells a3), .i a4], K => g a1 a2 a3 a4 (fun r1 r2 r3 => K (m r1 r2 r3))
 | _, _ => none
noncomputable def a (a1 a2 a3 : List (List Cl)) (a4 : Int) : St := argSt [one (.bp 0 0), one (.tr 0 2 [.int .i64, .int .i64, .int .i64, .int .i64, .int .i64, .int .i64, .ints .i64] (.cells a1))] [⟨[.int .i64, .int .i64, .int .i64, .int .i64, .int .i64, .int .i64, .ints .i64], .cells a2, false, 0, none⟩] [[.tr 2 2 [.int .i64, .int .i64] (.cells a3), .int .i64 a4, .ow 0]]
noncomputable def con : FuncId × St × (List Lf → (Res → Option Res) → Option Res) := (116, a [] [] [] 0, run)
theorem cx (K : Res → Option Res) : CtxOk Go.Proofs.Try.prog Γ0 byt0 eqs0 (X K) os := ⟨rfl, rfl, rfl, (fun p hp => by
 cases hp), rfl, rfl, rfl⟩
theorem t0 (K : Res → Option Res) (k : St → Option Res) (it : St → (St → Option Res) → Option Res) (x5 : List (List Cl)) (x6 x7 : Int) (x8 x9 : List (List Cl)) (x10 : Int) : iterS (X K) 0 b0 it (s0 x5 x6 x7 x8 x9 x10) k = l0s x5 x6 x9 x10 (fun x7 x8 => it (s0 x5 x6 x7 x8 x9 x10) k) (fun y1 => k (o0 x5 x6 x9 x10 y1)) x7 x8 := by kernel_rfl
theorem i0 (K : Res → Option Res) (k : St → Option Res) (x5 : List (List Cl)) (x6 : Int) (x9 : List (List Cl)) (x10 : Int) : ∀ (n : Nat) (x7 : Int) (x8 : List (List Cl)), iter (X K) 0 b0 n (s0 x5 x6 x7 x8 x9 x10) k = l0 x5 x6 x9 x10 (fun y1 => k (o0 x5 x6 x9 x10 y1)) n x7 x8
 | 0, _, _ => rfl
 | n + 1, x7, x8 => by
  rw [iter_succ, t0, show (fun x7 x8 => iter (X K) 0 b0 n (s0 x5 x6 x7 x8 x9 x10) k) = (fun x7 x8 => l0 x5 x6 x9 x10 (fun y1 => k (o0 x5 x6 x9 x10 y1)) n x7 x8) from funext fun x7 => funext fun x8 => i0 K k x5 x6 x9 x10 n x7 x8]; rfl
theorem v0 {K : Res → Option Res} {l : List Lf} {k : St → Option Res} {r : Res} (h : p0 K l k = some r) : ∃ x5 x6 x7 x8 x9 x10, l = [.q (.cells x5), .i x6, .i x7, .q (.cells x8), .q (.cells x9), .i x10] ∧ l0 x5 x6 x9 x10 (fun y1 => k (o0 x5 x6 x9 x10 y1)) fuel x7 x8 = some r := by
 unfold p0 at h; split at h
 ·exact ⟨_, _, _, _, _, _, rfl, h⟩
 ·cases h
theorem w0 (K : Res → Option Res) : LpSound Go.Proofs.Try.prog (X K) 0 b0 := lp_ok ((cx K).ok laid) (by rw [show loopsOf b0 = [] from by kernel_rfl]; intro p hp; cases hp) rfl fun p hp hid => by
 rcases List.mem_cons.1 hp with rfl | hp
 ·intro st k r h1 h2; obtain ⟨x5, x6, x7, x8, x9, x10, e, h⟩ := v0 (K := K) h2; have := St.like_eq (y := s0 x5 x6 x7 x8 x9 x10) h1 (by kernel_rfl) e; subst this; exact ⟨fuel, (i0 K k x5 x6 x9 x10 fuel x7 x8).trans h⟩
 cases hp
theorem tie (K : Res → Option Res) (a1 a2 a3 : List (List Cl)) (a4 : Int) : exec (X K) c (entry 54 [one (.bp 0 0), one (.tr 0 2 [.int .i64, .int .i64, .int .i64, .int .i64, .int .i64, .int .i64, .ints .i64] (.cells a1))] [⟨[.int .i64, .int .i64, .int .i64, .int .i64, .int .i64, .int .i64, .ints .i64], .cells a2, false, 0, none⟩] [[.tr 2 2 [.int .i64, .int .i64] (.cells a3), .int .i64 a4, .ow 0]]) (endK (X K)) = g a1 a2 a3 a4 (fun r1 r2 r3 => K (m r1 r2 r3)) := Eq.trans (b := b a1 a2 a3 a4 (fun r1 r2 r3 => K (m r1 r2 r3))) (by kernel_rfl) (by rw [e])
theorem runv {l : List Lf} {K : Res → Option Res} {r : Res} (h : run l K = some r) : ∃ a1 a2 a3 a4, l = [.q (.cells a1), .q (.cells a2), .q (.cells a3), .i a4] ∧ g a1 a2 a3 a4 (fun r1 r2 r3 => K (m r1 r2 r3)) = some r := by
 unfold run at h; split at h
 ·exact ⟨_, _, _, _, rfl, h⟩
 ·cases h
theorem ok : Con Go.Proofs.Try.prog con := con_of (fn := Go.Proofs.Try.f116) (c := c) (Fi := fi) (X := X) (fun_of laid (by kernel_rfl) (by kernel_rfl) (by kernel_rfl) rfl (by kernel_rfl) (by kernel_rfl) cx (fun _ => rfl) (fun _ => rfl) (fun K => by
 rw [show loopsOf c = [(0, b0)] from by kernel_rfl]; intro p hp
 rcases List.mem_cons.1 hp with rfl | hp
 ·exact w0 K
 cases hp)) fun xs rows boxes K r hl hr => by
 obtain ⟨a1, a2, a3, a4, e, h⟩ := runv hr
 have := St.like_eq (y := a a1 a2 a3 a4) hl (by kernel_rfl) e
 obtain ⟨rfl, rfl, rfl⟩ := argSt_inj this
 exact (tie K a1 a2 a3 a4).trans h
end spec_l9Behind_L2
-- GROUP spec_l9Operand spec_l9Line
namespace spec_l9Operand
noncomputable def c : Code := bodyOf Go.Proofs.Try.f115
noncomputable def fi : Fin := ⟨Γ0, [(.tmp 2, 4)], [[1]], [false], [([.sl [.int .i64, .int .i64] 16, .int .i64, .sl [.int .i64, .int .i64, .int .i64, .int .i64, .int .i64, .int .i64, .ints .i64] 72], [0, 1, 11])], []⟩
noncomputable def m (r1 : Bool) (r2 : List (List Cl)) (r3 : Int) (r4 : List (List Cl)) : Res := ⟨[⟨false, [.bool r1]⟩], [none], [⟨[.int .i64, .int .i64, .int .i64, .int .i64, .int .i64, .int .i64, .ints .i64], .cells r4, false, 0, none⟩], [[.tr 2 2 [.int .i64, .int .i64] (.cells r2), .int .i64 r3, .ow 1000]], []⟩
abbrev T : Type := List (List Cl) → List (List Cl) → Int → (Bool → List (List Cl) → Int → List (List Cl) → Option Res) → Option Res
noncomputable def runz (h : T) : List Lf → (Res → Option Res) → Option Res
 | [.q (.cells a1), .q (.cells a2), .i a3], K => h a1 a2 a3 (fun r1 r2 r3 r4 => K (m r1 r2 r3 r4))
 | _, _ => none
noncomputable def a (a1 a2 : List (List Cl)) (a3 : Int) : St := argSt [one (.bp 0 0)] [⟨[.int .i64, .int .i64, .int .i64, .int .i64, .int .i64, .int .i64, .ints .i64], .cells a1, true, 0, none⟩] [[.tr 2 2 [.int .i64, .int .i64] (.cells a2), .int .i64 a3, .ow 0]]
noncomputable def conz (h : T) : FuncId × St × (List Lf → (Res → Option Res) → Option Res) := (115, a [] [] 0, runz h)
end spec_l9Operand
namespace spec_l9Line
noncomputable def c : Code := bodyOf Go.Proofs.Try.f79
noncomputable def fi : Fin := ⟨Γ0, [(.tmp 2, 4)], [[1]], [false], [([.sl [.int .i64, .int .i64] 16, .int .i64, .sl [.int .i64, .int .i64, .int .i64, .int .i64, .int .i64, .int .i64, .ints .i64] 72], [0, 1, 11])], []⟩
noncomputable def m (r1 : Bool) (r2 : List (List Cl)) (r3 : Int) (r4 : List (List Cl)) : Res := ⟨[⟨false, [.bool r1]⟩], [none], [⟨[.int .i64, .int .i64, .int .i64, .int .i64, .int .i64, .int .i64, .ints .i64], .cells r4, false, 0, none⟩], [[.tr 2 2 [.int .i64, .int .i64] (.cells r2), .int .i64 r3, .ow 1000]], []⟩
abbrev T : Type := List (List Cl) → List (List Cl) → Int → (Bool → List (List Cl) → Int → List (List Cl) → Option Res) → Option Res
noncomputable def runz (h : T) : List Lf → (Res → Option Res) → Option Res
 | [.q (.cells a1), .q (.cells a2), .i a3], K => h a1 a2 a3 (fun r1 r2 r3 r4 => K (m r1 r2 r3 r4))
 | _, _ => none
noncomputable def a (a1 a2 : List (List Cl)) (a3 : Int) : St := argSt [one (.bp 0 0)] [⟨[.int .i64, .int .i64, .int .i64, .int .i64, .int .i64, .int .i64, .ints .i64], .cells a1, true, 0, none⟩] [[.tr 2 2 [.int .i64, .int .i64] (.cells a2), .int .i64 a3, .ow 0]]
noncomputable def conz (h : T) : FuncId × St × (List Lf → (Res → Option Res) → Option Res) := (79, a [] [] 0, runz h)
end spec_l9Line
abbrev Z_spec_l9Operand : Type := spec_l9Operand.T × spec_l9Line.T
def Gd_spec_l9Operand (z : Z_spec_l9Operand) : Prop := Con Go.Proofs.Try.prog (spec_l9Operand.conz z.1) ∧ Con Go.Proofs.Try.prog (spec_l9Line.conz z.2)
namespace spec_l9Operand
noncomputable def b1 : Code := codeAt c [1, 0, 1, 0, 1, 0, 1, 0, 0, 0]
noncomputable def s1 (x5 : List (List Cl)) (x6 : List Int) (x7 : List (List Cl)) (x8 x9 x10 x11 x12 x13 x14 : Int) : St := ⟨mkT 103 [(0, one (.bp 0 0)), (3, one (.bp 7160 0))], [(0, ⟨[.int .i64, .int .i64, .int .i64, .int .i64, .int .i64, .int .i64, .ints .i64], .cells x5, true, 0, none⟩), (7158, ⟨[.int .i64], .ints x6, true, 0, none⟩)], [(0, [.tr 2 2 [.int .i64, .int .i64] (.cells x7), .int .i64 x8, .ow 0]), (7160, [.int .i64 x9, .int .i64 x10, .int .i64 x11, .int .i64 x12, .int .i64 x13, .int .i64 x14, .ow 7158])]⟩
noncomputable def l1s (x5 x7 : List (List Cl)) (x9 x10 x11 x12 x13 x14 : Int) (rec : List Int → Int → Option Res) (k : List Int → Int → Option Res) (x6 : List Int) (x8 : Int) : Option Res :=
 spec_l9Kind.g 0 x5 x7 x8 fun r15 =>
 bif (r15 == 1) then (bif decide (0 ≤ x8) && decide (x8 < (x7.length : Int)) then (bif decide ((x6.length + 1) * 8 ≤ 140737488355328) then rec (x6 ++ ([((x7.getD x8.toNat []).getD 1 (.i 0)).toI] : List Int)) (IntKind.i64.wrap (x8 + 1))
  else none)
  else none)
 else k x6 x8
noncomputable def l1 (x5 x7 : List (List Cl)) (x9 x10 x11 x12 x13 x14 : Int) (k : List Int → Int → Option Res) : Nat → List Int → Int → Option Res
 | 0, _, _ => none
 | n + 1, x6, x8 => l1s x5 x7 x9 x10 x11 x12 x13 x14 (fun x6 x8 => l1 x5 x7 x9 x10 x11 x12 x13 x14 k n x6 x8) k x6 x8
noncomputable def o1 (x5 x7 : List (List Cl)) (x9 x10 x11 x12 x13 x14 : Int) (y2 : List Int) (y4 : Int) : St := ⟨mkT 103 [(0, one (.bp 0 0)), (3, one (.bp 7160 0))], [(0, ⟨[.int .i64, .int .i64, .int .i64, .int .i64, .int .i64, .int .i64, .ints .i64], .cells x5, true, 0, none⟩), (7158, ⟨[.int .i64], .ints y2, true, 0, none⟩)], [(0, [.tr 2 2 [.int .i64, .int .i64] (.cells x7), .int .i64 y4, .ow 0]), (7160, [.int .i64 x9, .int .i64 x10, .int .i64 x11, .int .i64 x12, .int .i64 x13, .int .i64 x14, .ow 7158])]⟩
noncomputable def p1 (K : Res → Option Res) : List Lf → (St → Option Res) → Option Res
 | [.q (.cells x5), .q (.ints x6), .q (.cells x7), .i x8, .i x9, .i x10, .i x11, .i x12, .i x13, .i x14], k => l1 x5 x7 x9 x10 x11 x12 x13 x14 (fun y2 y4 => k (o1 x5 x7 x9 x10 x11 x12 x13 x14 y2 y4)) fuel x6 x8
 | _, _ => none
noncomputable def os (z : Z_spec_l9Operand) : List (FuncId × St × (List Lf → (Res → Option Res) → Option Res)) := [spec_l9Kind.con, spec_l9Line.conz z.2, spec_l9Kind_L2.con]
noncomputable def X (z : Z_spec_l9Operand) (K : Res → Option Res) : Ctx := { Γ := Γ0, orc := orcOf (os z), io := [], share := [], opn := [], shr := [], bun := [], cut := [], own := [(3, 0, 6, [.int .i64])], cin := [(1, ⟨[0, 3], [(0, 0), (7158, 7158), (11464, 7158)], [0, 7160], [], [], []⟩)], cout := [(1, ⟨[0, 3], [(0, 0), (7158, 7158)], [0, 7160], [], [], []⟩)], lp := lpOf [(1, s1 [] [] [] 0 0 0 0 0 0 0, p1 K)], kl := Env.kl, nk := true, eqs := eqs0, byt := byt0, fin := finK fi K }
noncomputable def g (z : Z_spec_l9Operand) (a1 a2 : List (List Cl)) (a3 : Int) (R : Bool → List (List Cl) → Int → List (List Cl) → Option Res) : Option Res :=
 spec_l9Kind.g 0 a1 a2 a3 fun r4 =>
 bif (r4 == 1) then (l1 a1 a2 1 0 0 0 0 0 (fun y16 y17 =>
  bif decide ((a1.length + 1) * 72 ≤ 140737488355328) then R true a2 y17 (a1 ++ ([[.i 1, .i 0, .i 0, .i 0, .i 0, .i 0, .l y16]] : List (List Cl)))
  else none) fuel ([] : List Int) a3)
 else bif (r4 == 2) then (bif decide (0 ≤ a3) && decide (a3 < (a2.length : Int)) then (bif decide ((a1.length + 1) * 72 ≤ 140737488355328) then R true a2 (IntKind.i64.wrap (a3 + 1)) (a1 ++ ([[.i 2, .i (((a2.getD a3.toNat []).getD 1 (.i 0)).toI), .i 0, .i 0, .i 0, .i 0, .l ([] : List Int)]] : List (List Cl)))
  else none)
  else none)
 else bif (r4 == 4) then (z.2 a1 a2 (IntKind.i64.wrap (a3 + 1)) fun r18 r19 r20 r21 =>
  bif !r18 then R false r19 r20 r21
  else (spec_l9Kind_L2.g 0 r21 r19 r20 fun r22 =>
  bif (r22 != 5) then R false r19 r20 r21
  else R true r19 (IntKind.i64.wrap (r20 + 1)) r21))
 else R false a2 a3 a1
theorem cx (z : Z_spec_l9Operand) (hz : Gd_spec_l9Operand z) (K : Res → Option Res) : CtxOk Go.Proofs.Try.prog Γ0 byt0 eqs0 (X z K) (os z) := ⟨rfl, rfl, rfl, (fun p hp => by
 rcases List.mem_cons.1 hp with rfl | hp
 ·exact spec_l9Kind.ok
 rcases List.mem_cons.1 hp with rfl | hp
 ·exact hz.2
 rcases List.mem_cons.1 hp with rfl | hp
 ·exact spec_l9Kind_L2.ok
 cases hp), rfl, rfl, rfl⟩
theorem t1 (z : Z_spec_l9Operand) (K : Res → Option Res) (k : St → Option Res) (it : St → (St → Option Res) → Option Res) (x5 : List (List Cl)) (x6 : List Int) (x7 : List (List Cl)) (x8 x9 x10 x11 x12 x13 x14 : Int) : iterS (X z K) 1 b1 it (s1 x5 x6 x7 x8 x9 x10 x11 x12 x13 x14) k = l1s x5 x7 x9 x10 x11 x12 x13 x14 (fun x6 x8 => it (s1 x5 x6 x7 x8 x9 x10 x11 x12 x13 x14) k) (fun y2 y4 => k (o1 x5 x7 x9 x10 x11 x12 x13 x14 y2 y4)) x6 x8 := by kernel_rfl
theorem i1 (z : Z_spec_l9Operand) (K : Res → Option Res) (k : St → Option Res) (x5 x7 : List (List Cl)) (x9 x10 x11 x12 x13 x14 : Int) : ∀ (n : Nat) (x6 : List Int) (x8 : Int), iter (X z K) 1 b1 n (s1 x5 x6 x7 x8 x9 x10 x11 x12 x13 x14) k = l1 x5 x7 x9 x10 x11 x12 x13 x14 (fun y2 y4 => k (o1 x5 x7 x9 x10 x11 x12 x13 x14 y2 y4)) n x6 x8
 | 0, _, _ => rfl
 | n + 1, x6, x8 => by
  rw [iter_succ, t1 z, show (fun x6 x8 => iter (X z K) 1 b1 n (s1 x5 x6 x7 x8 x9 x10 x11 x12 x13 x14) k) = (fun x6 x8 => l1 x5 x7 x9 x10 x11 x12 x13 x14 (fun y2 y4 => k (o1 x5 x7 x9 x10 x11 x12 x13 x14 y2 y4)) n x6 x8) from funext fun x6 => funext fun x8 => i1 z K k x5 x7 x9 x10 x11 x12 x13 x14 n x6 x8]; rfl
theorem v1 {K : Res → Option Res} {l : List Lf} {k : St → Option Res} {r : Res} (h : p1 K l k = some r) : ∃ x5 x6 x7 x8 x9 x10 x11 x12 x13 x14, l = [.q (.cells x5), .q (.ints x6), .q (.cells x7), .i x8, .i x9, .i x10, .i x11, .i x12, .i x13, .i x14] ∧ l1 x5 x7 x9 x10 x11 x12 x13 x14 (fun y2 y4 => k (o1 x5 x7 x9 x10 x11 x12 x13 x14 y2 y4)) fuel x6 x8 = some r := by
 unfold p1 at h; split at h
 ·exact ⟨_, _, _, _, _, _, _, _, _, _, rfl, h⟩
 ·cases h
theorem w1 (z : Z_spec_l9Operand) (hz : Gd_spec_l9Operand z) (K : Res → Option Res) : LpSound Go.Proofs.Try.prog (X z K) 1 b1 := lp_ok (((cx z hz) K).ok laid) (by rw [show loopsOf b1 = [] from by kernel_rfl]; intro p hp; cases hp) rfl fun p hp hid => by
 rcases List.mem_cons.1 hp with rfl | hp
 ·intro st k r h1 h2; obtain ⟨x5, x6, x7, x8, x9, x10, x11, x12, x13, x14, e, h⟩ := v1 (K := K) h2; have := St.like_eq (y := s1 x5 x6 x7 x8 x9 x10 x11 x12 x13 x14) h1 (by kernel_rfl) e; subst this; exact ⟨fuel, (i1 z K k x5 x7 x9 x10 x11 x12 x13 x14 fuel x6 x8).trans h⟩
 cases hp
theorem tie (z : Z_spec_l9Operand) (K : Res → Option Res) (a1 a2 : List (List Cl)) (a3 : Int) : exec (X z K) c (entry 103 [one (.bp 0 0)] [⟨[.int .i64, .int .i64, .int .i64, .int .i64, .int .i64, .int .i64, .ints .i64], .cells a1, true, 0, none⟩] [[.tr 2 2 [.int .i64, .int .i64] (.cells a2), .int .i64 a3, .ow 0]]) (endK (X z K)) = (g z) a1 a2 a3 (fun r1 r2 r3 r4 => K (m r1 r2 r3 r4)) := by kernel_rfl
theorem runv (z : Z_spec_l9Operand) {l : List Lf} {K : Res → Option Res} {r : Res} (h : runz (g z) l K = some r) : ∃ a1 a2 a3, l = [.q (.cells a1), .q (.cells a2), .i a3] ∧ (g z) a1 a2 a3 (fun r1 r2 r3 r4 => K (m r1 r2 r3 r4)) = some r := by
 unfold runz at h; split at h
 ·exact ⟨_, _, _, rfl, h⟩
 ·cases h
theorem ok (z : Z_spec_l9Operand) (hz : Gd_spec_l9Operand z) : Con Go.Proofs.Try.prog (conz (g z)) := con_of (fn := Go.Proofs.Try.f115) (c := c) (Fi := fi) (X := X z) (fun_of laid (by kernel_rfl) (by kernel_rfl) (by kernel_rfl) rfl (by kernel_rfl) (by kernel_rfl) (cx z hz) (fun _ => rfl) (fun _ => rfl) (fun K => by
 rw [show loopsOf c = [(1, b1)] from by kernel_rfl]; intro p hp
 rcases List.mem_cons.1 hp with rfl | hp
 ·exact w1 z hz K
 cases hp)) fun xs rows boxes K r hl hr => by
 obtain ⟨a1, a2, a3, e, h⟩ := runv z hr
 have := St.like_eq (y := a a1 a2 a3) hl (by kernel_rfl) e
 obtain ⟨rfl, rfl, rfl⟩ := argSt_inj this
 exact (tie z K a1 a2 a3).trans h
end spec_l9Operand
namespace spec_l9Line
noncomputable def os (z : Z_spec_l9Operand) : List (FuncId × St × (List Lf → (Res → Option Res) → Option Res)) := [spec_l9Kind.con, spec_l9Line.conz z.2, spec_l9Fun.con, spec_FunOne.con, spec_l9Operand.conz z.1, spec_l9Behind.con, spec_FunTwo.con, spec_l9Behind_L2.con]
noncomputable def X (z : Z_spec_l9Operand) (K : Res → Option Res) : Ctx := { Γ := Γ0, orc := orcOf (os z), io := [(116, [⟨false, 0, 1⟩, ⟨false, 0, 2⟩])], share := [], opn := [], shr := [], bun := [], cut := [], own := [(15, 8, 2, [.int .i64, .int .i64, .int .i64, .int .i64, .int .i64, .int .i64, .ints .i64])], cin := [], cout := [], lp := lpOf [], kl := Env.kl, nk := true, eqs := eqs0, byt := byt0, fin := finK fi K }
noncomputable def g (z : Z_spec_l9Operand) (a1 a2 : List (List Cl)) (a3 : Int) (R : Bool → List (List Cl) → Int → List (List Cl) → Option Res) : Option Res :=
 spec_l9Kind.g 0 a1 a2 a3 fun r4 =>
 bif (r4 == 2) then (spec_l9Kind.g 1 a1 a2 a3 fun r5 =>
  bif (r5 == 6) then (bif decide (0 ≤ a3) && decide (a3 < (a2.length : Int)) then (z.2 a1 a2 (IntKind.i64.wrap (a3 + 2)) fun r6 r7 r8 r9 =>
   bif !r6 then R false r7 r8 r9
   else bif decide ((r9.length + 1) * 72 ≤ 140737488355328) then R true r7 r8 (r9 ++ ([[.i 3, .i (((a2.getD a3.toNat []).getD 1 (.i 0)).toI), .i (IntKind.i64.wrap ((r9.length : Int) - 1)), .i 0, .i 0, .i 0, .l ([] : List Int)]] : List (List Cl)))
   else none)
   else none)
  else bif (r4 == 3) then (spec_l9Fun.g a1 a2 a3 fun r10 r11 r12 r13 r14 =>
   spec_FunOne.g r10 r11 r12 fun r15 =>
   bif !r15 then R false a2 r14 a1
   else (z.2 a1 a2 r14 fun r16 r17 r18 r19 =>
   bif !r16 then R false r17 r18 r19
   else bif decide ((r19.length + 1) * 72 ≤ 140737488355328) then R true r17 r18 (r19 ++ ([[.i 4, .i 0, .i (IntKind.i64.wrap ((r19.length : Int) - 1)), .i r10, .i r11, .i r12, .l ([] : List Int)]] : List (List Cl)))
   else none))
  else (z.1 ([] : List (List Cl)) a2 a3 fun r20 r21 r22 r23 =>
  bif !r20 then R false a2 a3 a1
  else (spec_l9Fun.g a1 a2 r22 fun r24 r25 r26 r27 r28 =>
  bif !r27 then (spec_l9Behind.g r23 a1 a2 r28 fun r29 r30 r31 =>
   R true r29 r30 r31)
  else (spec_FunTwo.g r24 r25 r26 fun r32 =>
  bif !r32 then R false a2 r28 a1
  else (z.2 a1 a2 r28 fun r33 r34 r35 r36 =>
  bif !r33 then R false r34 r35 r36
  else (spec_l9Behind_L2.g r23 r36 r34 r35 fun r37 r38 r39 =>
  bif decide ((r39.length + 1) * 72 ≤ 140737488355328) then R true r37 r38 (r39 ++ ([[.i 5, .i (IntKind.i64.wrap ((r39.length : Int) - 1)), .i (IntKind.i64.wrap ((r36.length : Int) - 1)), .i r24, .i r25, .i r26, .l ([] : List Int)]] : List (List Cl)))
  else none))))))
 else bif (r4 == 3) then (spec_l9Fun.g a1 a2 a3 fun r40 r41 r42 r43 r44 =>
  spec_FunOne.g r40 r41 r42 fun r45 =>
  bif !r45 then R false a2 r44 a1
  else (z.2 a1 a2 r44 fun r46 r47 r48 r49 =>
  bif !r46 then R false r47 r48 r49
  else bif decide ((r49.length + 1) * 72 ≤ 140737488355328) then R true r47 r48 (r49 ++ ([[.i 4, .i 0, .i (IntKind.i64.wrap ((r49.length : Int) - 1)), .i r40, .i r41, .i r42, .l ([] : List Int)]] : List (List Cl)))
  else none))
 else (z.1 ([] : List (List Cl)) a2 a3 fun r50 r51 r52 r53 =>
 bif !r50 then R false a2 a3 a1
 else (spec_l9Fun.g a1 a2 r52 fun r54 r55 r56 r57 r58 =>
 bif !r57 then (spec_l9Behind.g r53 a1 a2 r58 fun r59 r60 r61 =>
  R true r59 r60 r61)
 else (spec_FunTwo.g r54 r55 r56 fun r62 =>
 bif !r62 then R false a2 r58 a1
 else (z.2 a1 a2 r58 fun r63 r64 r65 r66 =>
 bif !r63 then R false r64 r65 r66
 else (spec_l9Behind_L2.g r53 r66 r64 r65 fun r67 r68 r69 =>
 bif decide ((r69.length + 1) * 72 ≤ 140737488355328) then R true r67 r68 (r69 ++ ([[.i 5, .i (IntKind.i64.wrap ((r69.length : Int) - 1)), .i (IntKind.i64.wrap ((r66.length : Int) - 1)), .i r54, .i r55, .i r56, .l ([] : List Int)]] : List (List Cl)))
 else none)))))
theorem cx (z : Z_spec_l9Operand) (hz : Gd_spec_l9Operand z) (K : Res → Option Res) : CtxOk Go.Proofs.Try.prog Γ0 byt0 eqs0 (X z K) (os z) := ⟨rfl, rfl, rfl, (fun p hp => by
 rcases List.mem_cons.1 hp with rfl | hp
 ·exact spec_l9Kind.ok
 rcases List.mem_cons.1 hp with rfl | hp
 ·exact hz.2
 rcases List.mem_cons.1 hp with rfl | hp
 ·exact spec_l9Fun.ok
 rcases List.mem_cons.1 hp with rfl | hp
 ·exact spec_FunOne.ok
 rcases List.mem_cons.1 hp with rfl | hp
 ·exact hz.1
 rcases List.mem_cons.1 hp with rfl | hp
 ·exact spec_l9Behind.ok
 rcases List.mem_cons.1 hp with rfl | hp
 ·exact spec_FunTwo.ok
 rcases List.mem_cons.1 hp with rfl | hp
 ·exact spec_l9Behind_L2.ok
 cases hp), rfl, rfl, rfl⟩
theorem tie (z : Z_spec_l9Operand) (K : Res → Option Res) (a1 a2 : List (List Cl)) (a3 : Int) : exec (X z K) c (entry 162 [one (.bp 0 0)] [⟨[.int .i64, .int .i64, .int .i64, .int .i64, .int .i64, .int .i64, .ints .i64], .cells a1, true, 0, none⟩] [[.tr 2 2 [.int .i64, .int .i64] (.cells a2), .int .i64 a3, .ow 0]]) (endK (X z K)) = (g z) a1 a2 a3 (fun r1 r2 r3 r4 => K (m r1 r2 r3 r4)) := by kernel_rfl
theorem runv (z : Z_spec_l9Operand) {l : List Lf} {K : Res → Option Res} {r : Res} (h : runz (g z) l K = some r) : ∃ a1 a2 a3, l = [.q (.cells a1), .q (.cells a2), .i a3] ∧ (g z) a1 a2 a3 (fun r1 r2 r3 r4 => K (m r1 r2 r3 r4)) = some r := by
 unfold runz at h; split at h
 ·exact ⟨_, _, _, rfl, h⟩
 ·cases h
theorem ok (z : Z_spec_l9Operand) (hz : Gd_spec_l9Operand z) : Con Go.Proofs.Try.prog (conz (g z)) := con_of (fn := Go.Proofs.Try.f79) (c := c) (Fi := fi) (X := X z) (fun_of laid (by kernel_rfl) (by kernel_rfl) (by kernel_rfl) rfl (by kernel_rfl) (by kernel_rfl) (cx z hz) (fun _ => rfl) (fun _ => rfl) (fun K => by
 rw [show loopsOf c = [] from by kernel_rfl]; intro p hp
 cases hp)) fun xs rows boxes K r hl hr => by
 obtain ⟨a1, a2, a3, e, h⟩ := runv z hr
 have := St.like_eq (y := a a1 a2 a3) hl (by kernel_rfl) e
 obtain ⟨rfl, rfl, rfl⟩ := argSt_inj this
 exact (tie z K a1 a2 a3).trans h
end spec_l9Line
noncomputable def rec_spec_l9Operand : Nat → Z_spec_l9Operand
 | 0 => ((fun _ _ _ _ => none), (fun _ _ _ _ => none))
 | n + 1 => (spec_l9Operand.g (rec_spec_l9Operand n), spec_l9Line.g (rec_spec_l9Operand n))
theorem good_spec_l9Operand : ∀ n, Gd_spec_l9Operand (rec_spec_l9Operand n)
 | 0 => ⟨con_none (fun l K => by show spec_l9Operand.runz (fun _ _ _ _ => none) l K = none; unfold spec_l9Operand.runz; split <;> rfl), con_none (fun l K => by show spec_l9Line.runz (fun _ _ _ _ => none) l K = none; unfold spec_l9Line.runz; split <;> rfl)⟩
 | n + 1 => ⟨spec_l9Operand.ok _ (good_spec_l9Operand n), spec_l9Line.ok _ (good_spec_l9Operand n)⟩
namespace spec_l9Operand
noncomputable def gn (n : Nat) (a1 a2 : List (List Cl)) (a3 : Int) (R : Bool → List (List Cl) → Int → List (List Cl) → Option Res) : Option Res := (rec_spec_l9Operand n).1 a1 a2 a3 R
theorem Gx : ∃ x : T, x = gn fuel := ⟨_, rfl⟩
noncomputable def G : T := Classical.choose Gx
theorem Ge : G = gn fuel := Classical.choose_spec Gx
theorem gn_succ (n : Nat) (a1 a2 : List (List Cl)) (a3 : Int) (R : Bool → List (List Cl) → Int → List (List Cl) → Option Res) : gn (n + 1) a1 a2 a3 R = g (rec_spec_l9Operand n) a1 a2 a3 R := rfl
noncomputable def con : FuncId × St × (List Lf → (Res → Option Res) → Option Res) := conz G
theorem okG : Con Go.Proofs.Try.prog con := by
 unfold con; rw [Ge]; exact (good_spec_l9Operand fuel).1
end spec_l9Operand
namespace spec_l9Line
noncomputable def gn (n : Nat) (a1 a2 : List (List Cl)) (a3 : Int) (R : Bool → List (List Cl) → Int → List (List Cl) → Option Res) : Option Res := (rec_spec_l9Operand n).2 a1 a2 a3 R
theorem Gx : ∃ x : T, x = gn fuel := ⟨_, rfl⟩
noncomputable def G : T := Classical.choose Gx
theorem Ge : G = gn fuel := Classical.choose_spec Gx
theorem gn_succ (n : Nat) (a1 a2 : List (List Cl)) (a3 : Int) (R : Bool → List (List Cl) → Int → List (List Cl) → Option Res) : gn (n + 1) a1 a2 a3 R = g (rec_spec_l9Operand n) a1 a2 a3 R := rfl
noncomputable def con : FuncId × St × (List Lf → (Res → Option Res) → Option Res) := conz G
theorem okG : Con Go.Proofs.Try.prog con := by
 unfold con; rw [Ge]; exact (good_spec_l9Operand fuel).2
end spec_l9Line
-- END GROUP
namespace spec_Parse
noncomputable def c : Code := bodyOf Go.Proofs.Try.f46
noncomputable def fi : Fin := ⟨Γ0, [(.cell 2 53, 53), (.tmp 3, 3)], [[9], [1]], [], [], []⟩
noncomputable def m (r1 : List (List Cl)) (r2 : Int) : Res := ⟨[⟨true, [.ow 1000]⟩, ⟨false, [.int .i64 r2]⟩], [], [⟨[.int .i64, .int .i64, .int .i64, .int .i64, .int .i64, .int .i64, .ints .i64], .cells r1, false, 0, none⟩], [], []⟩
noncomputable def os : List (FuncId × St × (List Lf → (Res → Option Res) → Option Res)) := [spec_l8Tokens.con, spec_l9Line.con]
noncomputable def X (K : Res → Option Res) : Ctx := { Γ := Γ0, orc := orcOf os, io := [], share := [], opn := [], shr := [], bun := [], cut := [], own := [(4, 1, 2, [.int .i64, .int .i64, .int .i64, .int .i64, .int .i64, .int .i64, .ints .i64])], cin := [], cout := [], lp := lpOf [], kl := Env.kl, nk := true, eqs := eqs0, byt := byt0, fin := finK fi K }
noncomputable def b (a1 : List (List Cl)) (R : List (List Cl) → Int → Option Res) : Option Res :=
 spec_l8Tokens.g a1 fun r2 =>
 bif !r2 then R ([] : List (List Cl)) 1
 else (spec_l9Line.G ([] : List (List Cl)) a1 0 fun r3 r4 r5 r6 =>
 bif !r3 then R ([] : List (List Cl)) 8
 else bif (r5 != (a1.length : Int)) then R ([] : List (List Cl)) 8
 else bif decide (60 < (r6.length : Int)) then R ([] : List (List Cl)) 6
 else R r6 0)
theorem gx : ∃ x : List (List Cl) → (List (List Cl) → Int → Option Res) → Option Res, x = b := ⟨_, rfl⟩
noncomputable def g : List (List Cl) → (List (List Cl) → Int → Option Res) → Option Res := Classical.choose gx
theorem e : g = b := Classical.choose_spec gx
noncomputable def run : List Lf → (Res → Option Res) → Option Res
 | [.q (.cells a1)], K => g a1 (fun r1 r2 => K (m r1 r2))
 | _, _ => none
noncomputable def a (a1 : List (List Cl)) : St := argSt [one (.tr 2 2 [.int .i64, .int .i64] (.cells a1))] [] []
noncomputable def con : FuncId × St × (List Lf → (Res → Option Res) → Option Res) := (46, a [], run)
theorem cx (K : Res → Option Res) : CtxOk Go.Proofs.Try.prog Γ0 byt0 eqs0 (X K) os := ⟨rfl, rfl, rfl, (fun p hp => by
 rcases List.mem_cons.1 hp with rfl | hp
 ·exact spec_l8Tokens.ok
 rcases List.mem_cons.1 hp with rfl | hp
 ·exact spec_l9Line.okG
 cases hp), rfl, rfl, rfl⟩
theorem tie (K : Res → Option Res) (a1 : List (List Cl)) : exec (X K) c (entry 41 [one (.tr 2 2 [.int .i64, .int .i64] (.cells a1))] [] []) (endK (X K)) = g a1 (fun r1 r2 => K (m r1 r2)) := Eq.trans (b := b a1 (fun r1 r2 => K (m r1 r2))) (by kernel_rfl) (by rw [e])
theorem runv {l : List Lf} {K : Res → Option Res} {r : Res} (h : run l K = some r) : ∃ a1, l = [.q (.cells a1)] ∧ g a1 (fun r1 r2 => K (m r1 r2)) = some r := by
 unfold run at h; split at h
 ·exact ⟨_, rfl, h⟩
 ·cases h
theorem ok : Con Go.Proofs.Try.prog con := con_of (fn := Go.Proofs.Try.f46) (c := c) (Fi := fi) (X := X) (fun_of laid (by kernel_rfl) (by kernel_rfl) (by kernel_rfl) rfl (by kernel_rfl) (by kernel_rfl) cx (fun _ => rfl) (fun _ => rfl) (fun K => by
 rw [show loopsOf c = [] from by kernel_rfl]; intro p hp
 cases hp)) fun xs rows boxes K r hl hr => by
 obtain ⟨a1, e, h⟩ := runv hr
 have := St.like_eq (y := a a1) hl (by kernel_rfl) e
 obtain ⟨rfl, rfl, rfl⟩ := argSt_inj this
 exact (tie K a1).trans h
end spec_Parse
namespace spec_l9Nums
noncomputable def c : Code := bodyOf Go.Proofs.Try.f72
noncomputable def fi : Fin := ⟨Γ0, [(.tmp 2, 4)], [[1]], [], [], []⟩
noncomputable def m (r1 : Bool) : Res := ⟨[⟨false, [.bool r1]⟩], [], [], [], []⟩
noncomputable def b0 : Code := codeAt c [1, 0, 1, 0, 0]
noncomputable def s0 (x2 : List Int) (x3 : Int) : St := ⟨mkT 19 [(0, one (.tr 0 1 [.int .i64] (.ints x2))), (3, one (.int .i64 x3))], [], []⟩
noncomputable def l0s (x2 : List Int) (rec : Int → Option Res) (k : Option Res) (R : Bool → Option Res) (x3 : Int) : Option Res :=
 bif decide (x3 < (x2.length : Int)) then (bif decide (0 ≤ x3) && decide (x3 < (x2.length : Int)) then (spec_NumOk.g (x2.getD x3.toNat 0) fun r4 =>
  bif !r4 then R false
  else rec (IntKind.i64.wrap (x3 + 1)))
  else none)
 else k
noncomputable def l0 (x2 : List Int) (k : Option Res) (R : Bool → Option Res) : Nat → Int → Option Res
 | 0, _ => none
 | n + 1, x3 => l0s x2 (fun x3 => l0 x2 k R n x3) k R x3
noncomputable def o0 (x2 : List Int) : St := ⟨mkT 19 [(0, one (.tr 0 1 [.int .i64] (.ints x2)))], [], []⟩
noncomputable def p0 (K : Res → Option Res) : List Lf → (St → Option Res) → Option Res
 | [.q (.ints x2), .i x3], k => l0 x2 (k (o0 x2)) (fun r1 => K (m r1)) fuel x3
 | _, _ => none
noncomputable def os : List (FuncId × St × (List Lf → (Res → Option Res) → Option Res)) := [spec_NumOk.con, spec_l1In.con]
noncomputable def X (K : Res → Option Res) : Ctx := { Γ := Γ0, orc := orcOf os, io := [], share := [], opn := [], shr := [], bun := [], cut := [], own := [], cin := [(0, ⟨[0, 3], [], [], [], [], []⟩)], cout := [(0, ⟨[0], [], [], [], [], []⟩)], lp := lpOf [(0, s0 [] 0, p0 K)], kl := Env.kl, nk := true, eqs := eqs0, byt := byt0, fin := finK fi K }
noncomputable def b (a1 : List Int) (R : Bool → Option Res) : Option Res :=
 l0 a1 (
 spec_l1In.g (a1.length : Int) 1 300 fun r5 =>
 R r5) R fuel 0
theorem gx : ∃ x : List Int → (Bool → Option Res) → Option Res, x = b := ⟨_, rfl⟩
noncomputable def g : List Int → (Bool → Option Res) → Option Res := Classical.choose gx
theorem e : g = b := Classical.choose_spec gx
noncomputable def run : List Lf → (Res → Option Res) → Option Res
 | [.q (.ints a1)], K => g a1 (fun r1 => K (m r1))
 | _, _ => none
noncomputable def a (a1 : List Int) : St := argSt [one (.tr 0 1 [.int .i64] (.ints a1))] [] []
noncomputable def con : FuncId × St × (List Lf → (Res → Option Res) → Option Res) := (72, a [], run)
theorem cx (K : Res → Option Res) : CtxOk Go.Proofs.Try.prog Γ0 byt0 eqs0 (X K) os := ⟨rfl, rfl, rfl, (fun p hp => by
 rcases List.mem_cons.1 hp with rfl | hp
 ·exact spec_NumOk.ok
 rcases List.mem_cons.1 hp with rfl | hp
 ·exact spec_l1In.ok
 cases hp), rfl, rfl, rfl⟩
theorem t0 (K : Res → Option Res) (k : St → Option Res) (it : St → (St → Option Res) → Option Res) (x2 : List Int) (x3 : Int) : iterS (X K) 0 b0 it (s0 x2 x3) k = l0s x2 (fun x3 => it (s0 x2 x3) k) (k (o0 x2)) (fun r1 => K (m r1)) x3 := by kernel_rfl
theorem i0 (K : Res → Option Res) (k : St → Option Res) (x2 : List Int) : ∀ (n : Nat) (x3 : Int), iter (X K) 0 b0 n (s0 x2 x3) k = l0 x2 (k (o0 x2)) (fun r1 => K (m r1)) n x3
 | 0, _ => rfl
 | n + 1, x3 => by
  rw [iter_succ, t0, show (fun x3 => iter (X K) 0 b0 n (s0 x2 x3) k) = (fun x3 => l0 x2 (k (o0 x2)) (fun r1 => K (m r1)) n x3) from funext fun x3 => i0 K k x2 n x3]; rfl
theorem v0 {K : Res → Option Res} {l : List Lf} {k : St → Option Res} {r : Res} (h : p0 K l k = some r) : ∃ x2 x3, l = [.q (.ints x2), .i x3] ∧ l0 x2 (k (o0 x2)) (fun r1 => K (m r1)) fuel x3 = some r := by
 unfold p0 at h; split at h
 ·exact ⟨_, _, rfl, h⟩
 ·cases h
theorem w0 (K : Res → Option Res) : LpSound Go.Proofs.Try.prog (X K) 0 b0 := lp_ok ((cx K).ok laid) (by rw [show loopsOf b0 = [] from by kernel_rfl]; intro p hp; cases hp) rfl fun p hp hid => by
 rcases List.mem_cons.1 hp with rfl | hp
 ·intro st k r h1 h2; obtain ⟨x2, x3, e, h⟩ := v0 (K := K) h2; have := St.like_eq (y := s0 x2 x3) h1 (by kernel_rfl) e; subst this; exact ⟨fuel, (i0 K k x2 fuel x3).trans h⟩
 cases hp
theorem tie (K : Res → Option Res) (a1 : List Int) : exec (X K) c (entry 19 [one (.tr 0 1 [.int .i64] (.ints a1))] [] []) (endK (X K)) = g a1 (fun r1 => K (m r1)) := Eq.trans (b := b a1 (fun r1 => K (m r1))) (by kernel_rfl) (by rw [e])
theorem runv {l : List Lf} {K : Res → Option Res} {r : Res} (h : run l K = some r) : ∃ a1, l = [.q (.ints a1)] ∧ g a1 (fun r1 => K (m r1)) = some r := by
 unfold run at h; split at h
 ·exact ⟨_, rfl, h⟩
 ·cases h
theorem ok : Con Go.Proofs.Try.prog con := con_of (fn := Go.Proofs.Try.f72) (c := c) (Fi := fi) (X := X) (fun_of laid (by kernel_rfl) (by kernel_rfl) (by kernel_rfl) rfl (by kernel_rfl) (by kernel_rfl) cx (fun _ => rfl) (fun _ => rfl) (fun K => by
 rw [show loopsOf c = [(0, b0)] from by kernel_rfl]; intro p hp
 rcases List.mem_cons.1 hp with rfl | hp
 ·exact w0 K
 cases hp)) fun xs rows boxes K r hl hr => by
 obtain ⟨a1, e, h⟩ := runv hr
 have := St.like_eq (y := a a1) hl (by kernel_rfl) e
 obtain ⟨rfl, rfl, rfl⟩ := argSt_inj this
 exact (tie K a1).trans h
end spec_l9Nums
namespace spec_l9Node
noncomputable def c : Code := bodyOf Go.Proofs.Try.f117
noncomputable def fi : Fin := ⟨Γ0, [(.tmp 6, 3), (.tmp 7, 4)], [[1], [1]], [], [], []⟩
noncomputable def m (r1 : Int) (r2 : Bool) : Res := ⟨[⟨false, [.int .i64 r1]⟩, ⟨false, [.bool r2]⟩], [], [], [], []⟩
noncomputable def os : List (FuncId × St × (List Lf → (Res → Option Res) → Option Res)) := [spec_l9Nums.con, spec_l1In.con, spec_FunOne.con, spec_FunTwo.con]
noncomputable def X (K : Res → Option Res) : Ctx := { Γ := Γ0, orc := orcOf os, io := [], share := [], opn := [], shr := [], bun := [], cut := [], own := [], cin := [], cout := [], lp := lpOf [], kl := Env.kl, nk := true, eqs := eqs0, byt := byt0, fin := finK fi K }
noncomputable def b (a1 a2 a3 a4 a5 a6 : Int) (a7 : List Int) (a8 : Int) (a9 : List Int) (R : Int → Bool → Option Res) : Option Res :=
 bif (a1 == 1) then (bif (a2 == 0) then (bif (a3 == 0) then (bif ((a4 == 0) && ((a5 == 0) && ((a6 == 0) && true))) then (spec_l9Nums.g a7 fun r10 =>
  R 1 r10)
  else R 1 false)
  else R 1 false)
  else R 1 false)
 else bif (a1 == 2) then (spec_l1In.g a2 0 25 fun r11 =>
  bif r11 then (bif (a3 == 0) then (bif ((a4 == 0) && ((a5 == 0) && ((a6 == 0) && true))) then R 1 ((a7.length : Int) == 0)
   else R 1 false)
   else R 1 false)
  else R 1 false)
 else bif (a1 == 3) then (bif decide (a8 < 1) then R 0 false
  else bif (a3 != IntKind.i64.wrap (a8 - 1)) then R 0 false
  else bif decide (0 ≤ IntKind.i64.wrap (a8 - 1)) && decide (IntKind.i64.wrap (a8 - 1) < (a9.length : Int)) then (spec_l1In.g a2 0 25 fun r12 =>
   bif r12 then (bif ((a4 == 0) && ((a5 == 0) && ((a6 == 0) && true))) then R (IntKind.i64.wrap ((a9.getD ((IntKind.i64.wrap (a8 - 1)).toNat) 0) + 1)) ((a7.length : Int) == 0)
    else R (IntKind.i64.wrap ((a9.getD ((IntKind.i64.wrap (a8 - 1)).toNat) 0) + 1)) false)
   else R (IntKind.i64.wrap ((a9.getD ((IntKind.i64.wrap (a8 - 1)).toNat) 0) + 1)) false)
  else none)
 else bif (a1 == 4) then (bif decide (a8 < 1) then R 0 false
  else bif (a3 != IntKind.i64.wrap (a8 - 1)) then R 0 false
  else bif decide (0 ≤ IntKind.i64.wrap (a8 - 1)) && decide (IntKind.i64.wrap (a8 - 1) < (a9.length : Int)) then (bif (a2 == 0) then (spec_FunOne.g a4 a5 a6 fun r13 =>
   bif r13 then R (IntKind.i64.wrap ((a9.getD ((IntKind.i64.wrap (a8 - 1)).toNat) 0) + 1)) ((a7.length : Int) == 0)
   else R (IntKind.i64.wrap ((a9.getD ((IntKind.i64.wrap (a8 - 1)).toNat) 0) + 1)) false)
   else R (IntKind.i64.wrap ((a9.getD ((IntKind.i64.wrap (a8 - 1)).toNat) 0) + 1)) false)
  else none)
 else bif (a1 == 5) then (bif decide (a8 < 2) then R 0 false
  else bif (a2 != IntKind.i64.wrap (a8 - 1)) then R 0 false
  else bif decide (0 ≤ IntKind.i64.wrap (a8 - 1)) && decide (IntKind.i64.wrap (a8 - 1) < (a9.length : Int)) then (bif (a3 != IntKind.i64.wrap ((IntKind.i64.wrap (a8 - 1)) - (a9.getD ((IntKind.i64.wrap (a8 - 1)).toNat) 0))) then R 0 false
   else bif decide (a3 < 0) then R 0 false
   else bif decide (0 ≤ a2) && decide (a2 < (a9.length : Int)) then (bif decide (0 ≤ a3) && decide (a3 < (a9.length : Int)) then (spec_FunTwo.g a4 a5 a6 fun r14 =>
    bif r14 then R (IntKind.i64.wrap ((IntKind.i64.wrap ((a9.getD a2.toNat 0) + (a9.getD a3.toNat 0))) + 1)) ((a7.length : Int) == 0)
    else R (IntKind.i64.wrap ((IntKind.i64.wrap ((a9.getD a2.toNat 0) + (a9.getD a3.toNat 0))) + 1)) false)
    else none)
   else none)
  else none)
 else R 0 false
theorem gx : ∃ x : Int → Int → Int → Int → Int → Int → List Int → Int → List Int → (Int → Bool → Option Res) → Option Res, x = b := ⟨_, rfl⟩
noncomputable def g : Int → Int → Int → Int → Int → Int → List Int → Int → List Int → (Int → Bool → Option Res) → Option Res := Classical.choose gx
theorem e : g = b := Classical.choose_spec gx
noncomputable def run : List Lf → (Res → Option Res) → Option Res
 | [.i a1, .i a2, .i a3, .i a4, .i a5, .i a6, .q (.ints a7), .i a8, .q (.ints a9)], K => g a1 a2 a3 a4 a5 a6 a7 a8 a9 (fun r1 r2 => K (m r1 r2))
 | _, _ => none
noncomputable def a (a1 a2 a3 a4 a5 a6 : Int) (a7 : List Int) (a8 : Int) (a9 : List Int) : St := argSt [.v ⟨true, [.int .i64 a1, .int .i64 a2, .int .i64 a3, .int .i64 a4, .int .i64 a5, .int .i64 a6, .tr 0 1 [.int .i64] (.ints a7)]⟩, one (.int .i64 a8), one (.tr 0 1 [.int .i64] (.ints a9))] [] []
noncomputable def con : FuncId × St × (List Lf → (Res → Option Res) → Option Res) := (117, a 0 0 0 0 0 0 [] 0 [], run)
theorem cx (K : Res → Option Res) : CtxOk Go.Proofs.Try.prog Γ0 byt0 eqs0 (X K) os := ⟨rfl, rfl, rfl, (fun p hp => by
 rcases List.mem_cons.1 hp with rfl | hp
 ·exact spec_l9Nums.ok
 rcases List.mem_cons.1 hp with rfl | hp
 ·exact spec_l1In.ok
 rcases List.mem_cons.1 hp with rfl | hp
 ·exact spec_FunOne.ok
 rcases List.mem_cons.1 hp with rfl | hp
 ·exact spec_FunTwo.ok
 cases hp), rfl, rfl, rfl⟩
theorem tie (K : Res → Option Res) (a1 a2 a3 a4 a5 a6 : Int) (a7 : List Int) (a8 : Int) (a9 : List Int) : exec (X K) c (entry 168 [.v ⟨true, [.int .i64 a1, .int .i64 a2, .int .i64 a3, .int .i64 a4, .int .i64 a5, .int .i64 a6, .tr 0 1 [.int .i64] (.ints a7)]⟩, one (.int .i64 a8), one (.tr 0 1 [.int .i64] (.ints a9))] [] []) (endK (X K)) = g a1 a2 a3 a4 a5 a6 a7 a8 a9 (fun r1 r2 => K (m r1 r2)) := Eq.trans (b := b a1 a2 a3 a4 a5 a6 a7 a8 a9 (fun r1 r2 => K (m r1 r2))) (by kernel_rfl) (by rw [e])
theorem runv {l : List Lf} {K : Res → Option Res} {r : Res} (h : run l K = some r) : ∃ a1 a2 a3 a4 a5 a6 a7 a8 a9, l = [.i a1, .i a2, .i a3, .i a4, .i a5, .i a6, .q (.ints a7), .i a8, .q (.ints a9)] ∧ g a1 a2 a3 a4 a5 a6 a7 a8 a9 (fun r1 r2 => K (m r1 r2)) = some r := by
 unfold run at h; split at h
 ·exact ⟨_, _, _, _, _, _, _, _, _, rfl, h⟩
 ·cases h
theorem ok : Con Go.Proofs.Try.prog con := con_of (fn := Go.Proofs.Try.f117) (c := c) (Fi := fi) (X := X) (fun_of laid (by kernel_rfl) (by kernel_rfl) (by kernel_rfl) rfl (by kernel_rfl) (by kernel_rfl) cx (fun _ => rfl) (fun _ => rfl) (fun K => by
 rw [show loopsOf c = [] from by kernel_rfl]; intro p hp
 cases hp)) fun xs rows boxes K r hl hr => by
 obtain ⟨a1, a2, a3, a4, a5, a6, a7, a8, a9, e, h⟩ := runv hr
 have := St.like_eq (y := a a1 a2 a3 a4 a5 a6 a7 a8 a9) hl (by kernel_rfl) e
 obtain ⟨rfl, rfl, rfl⟩ := argSt_inj this
 exact (tie K a1 a2 a3 a4 a5 a6 a7 a8 a9).trans h
end spec_l9Node
namespace spec_TreeOk
noncomputable def c : Code := bodyOf Go.Proofs.Try.f80
noncomputable def fi : Fin := ⟨Γ0, [(.tmp 2, 4)], [[1]], [], [], []⟩
noncomputable def m (r1 : Bool) : Res := ⟨[⟨false, [.bool r1]⟩], [], [], [], []⟩
noncomputable def b0 : Code := codeAt c [1, 1, 1, 1, 0, 1, 0, 0]
noncomputable def s0 (x3 x4 : Int) (x5 : List Int) (x6 : List (List Cl)) : St := ⟨mkT 44 [(1, one (.bp 1000 0)), (3, one (.int .i64 x3)), (4, one (.ow 9192)), (5, one (.int .i64 x4))], [(9192, ⟨[.int .i64], .ints x5, true, 0, none⟩)], [(1000, [.tr 0 1 [.int .i64, .int .i64, .int .i64, .int .i64, .int .i64, .int .i64, .ints .i64] (.cells x6)])]⟩
noncomputable def l0s (x3 : Int) (x6 : List (List Cl)) (rec : Int → List Int → Option Res) (k : List Int → Option Res) (R : Bool → Option Res) (x4 : Int) (x5 : List Int) : Option Res :=
 bif decide (x4 < x3) then (bif decide (0 ≤ x4) && decide (x4 < (x6.length : Int)) then (spec_l9Node.g (((x6.getD x4.toNat []).getD 0 (.i 0)).toI) (((x6.getD x4.toNat []).getD 1 (.i 0)).toI) (((x6.getD x4.toNat []).getD 2 (.i 0)).toI) (((x6.getD x4.toNat []).getD 3 (.i 0)).toI) (((x6.getD x4.toNat []).getD 4 (.i 0)).toI) (((x6.getD x4.toNat []).getD 5 (.i 0)).toI) (((x6.getD x4.toNat []).getD 6 (.i 0)).toL) x4 x5 fun r7 r8 =>
  bif !r8 then R false
  else bif decide ((x5.length + 1) * 8 ≤ 140737488355328) then rec (IntKind.i64.wrap (x4 + 1)) (x5 ++ ([r7] : List Int))
  else none)
  else none)
 else k x5
noncomputable def l0 (x3 : Int) (x6 : List (List Cl)) (k : List Int → Option Res) (R : Bool → Option Res) : Nat → Int → List Int → Option Res
 | 0, _, _ => none
 | n + 1, x4, x5 => l0s x3 x6 (fun x4 x5 => l0 x3 x6 k R n x4 x5) k R x4 x5
noncomputable def o0 (x3 : Int) (x6 : List (List Cl)) (y2 : List Int) : St := ⟨mkT 44 [(3, one (.int .i64 x3)), (4, one (.ow 9192))], [(9192, ⟨[.int .i64], .ints y2, true, 0, none⟩)], []⟩
noncomputable def p0 (K : Res → Option Res) : List Lf → (St → Option Res) → Option Res
 | [.i x3, .i x4, .q (.ints x5), .q (.cells x6)], k => l0 x3 x6 (fun y2 => k (o0 x3 x6 y2)) (fun r1 => K (m r1)) fuel x4 x5
 | _, _ => none
noncomputable def os : List (FuncId × St × (List Lf → (Res → Option Res) → Option Res)) := [spec_l1In.con, spec_l9Node.con]
noncomputable def X (K : Res → Option Res) : Ctx := { Γ := Γ0, orc := orcOf os, io := [], share := [], opn := [], shr := [], bun := [], cut := [], own := [], cin := [(0, ⟨[1, 3, 4, 5], [(9192, 9192), (23576, 9192)], [1000], [], [], []⟩)], cout := [(0, ⟨[3, 4], [(9192, 9192)], [], [], [], []⟩)], lp := lpOf [(0, s0 0 0 [] [], p0 K)], kl := Env.kl, nk := true, eqs := eqs0, byt := byt0, fin := finK fi K }
noncomputable def b (a1 : List (List Cl)) (R : Bool → Option Res) : Option Res :=
 spec_l1In.g (a1.length : Int) 1 60 fun r2 =>
 bif !r2 then R false
 else (l0 (a1.length : Int) a1 (fun y9 =>
 bif decide (0 ≤ IntKind.i64.wrap ((a1.length : Int) - 1)) && decide (IntKind.i64.wrap ((a1.length : Int) - 1) < (y9.length : Int)) then R (y9.getD ((IntKind.i64.wrap ((a1.length : Int) - 1)).toNat) 0 == (a1.length : Int))
 else none) R fuel 0 ([] : List Int))
theorem gx : ∃ x : List (List Cl) → (Bool → Option Res) → Option Res, x = b := ⟨_, rfl⟩
noncomputable def g : List (List Cl) → (Bool → Option Res) → Option Res := Classical.choose gx
theorem e : g = b := Classical.choose_spec gx
noncomputable def run : List Lf → (Res → Option Res) → Option Res
 | [.q (.cells a1)], K => g a1 (fun r1 => K (m r1))
 | _, _ => none
noncomputable def a (a1 : List (List Cl)) : St := argSt [.v ⟨true, [.tr 0 1 [.int .i64, .int .i64, .int .i64, .int .i64, .int .i64, .int .i64, .ints .i64] (.cells a1)]⟩] [] []
noncomputable def con : FuncId × St × (List Lf → (Res → Option Res) → Option Res) := (80, a [], run)
theorem cx (K : Res → Option Res) : CtxOk Go.Proofs.Try.prog Γ0 byt0 eqs0 (X K) os := ⟨rfl, rfl, rfl, (fun p hp => by
 rcases List.mem_cons.1 hp with rfl | hp
 ·exact spec_l1In.ok
 rcases List.mem_cons.1 hp with rfl | hp
 ·exact spec_l9Node.ok
 cases hp), rfl, rfl, rfl⟩
theorem t0 (K : Res → Option Res) (k : St → Option Res) (it : St → (St → Option Res) → Option Res) (x3 x4 : Int) (x5 : List Int) (x6 : List (List Cl)) : iterS (X K) 0 b0 it (s0 x3 x4 x5 x6) k = l0s x3 x6 (fun x4 x5 => it (s0 x3 x4 x5 x6) k) (fun y2 => k (o0 x3 x6 y2)) (fun r1 => K (m r1)) x4 x5 := by kernel_rfl
theorem i0 (K : Res → Option Res) (k : St → Option Res) (x3 : Int) (x6 : List (List Cl)) : ∀ (n : Nat) (x4 : Int) (x5 : List Int), iter (X K) 0 b0 n (s0 x3 x4 x5 x6) k = l0 x3 x6 (fun y2 => k (o0 x3 x6 y2)) (fun r1 => K (m r1)) n x4 x5
 | 0, _, _ => rfl
 | n + 1, x4, x5 => by
  rw [iter_succ, t0, show (fun x4 x5 => iter (X K) 0 b0 n (s0 x3 x4 x5 x6) k) = (fun x4 x5 => l0 x3 x6 (fun y2 => k (o0 x3 x6 y2)) (fun r1 => K (m r1)) n x4 x5) from funext fun x4 => funext fun x5 => i0 K k x3 x6 n x4 x5]; rfl
theorem v0 {K : Res → Option Res} {l : List Lf} {k : St → Option Res} {r : Res} (h : p0 K l k = some r) : ∃ x3 x4 x5 x6, l = [.i x3, .i x4, .q (.ints x5), .q (.cells x6)] ∧ l0 x3 x6 (fun y2 => k (o0 x3 x6 y2)) (fun r1 => K (m r1)) fuel x4 x5 = some r := by
 unfold p0 at h; split at h
 ·exact ⟨_, _, _, _, rfl, h⟩
 ·cases h
theorem w0 (K : Res → Option Res) : LpSound Go.Proofs.Try.prog (X K) 0 b0 := lp_ok ((cx K).ok laid) (by rw [show loopsOf b0 = [] from by kernel_rfl]; intro p hp; cases hp) rfl fun p hp hid => by
 rcases List.mem_cons.1 hp with rfl | hp
 ·intro st k r h1 h2; obtain ⟨x3, x4, x5, x6, e, h⟩ := v0 (K := K) h2; have := St.like_eq (y := s0 x3 x4 x5 x6) h1 (by kernel_rfl) e; subst this; exact ⟨fuel, (i0 K k x3 x6 fuel x4 x5).trans h⟩
 cases hp
theorem tie (K : Res → Option Res) (a1 : List (List Cl)) : exec (X K) c (entry 44 [.v ⟨true, [.tr 0 1 [.int .i64, .int .i64, .int .i64, .int .i64, .int .i64, .int .i64, .ints .i64] (.cells a1)]⟩] [] []) (endK (X K)) = g a1 (fun r1 => K (m r1)) := Eq.trans (b := b a1 (fun r1 => K (m r1))) (by kernel_rfl) (by rw [e])
theorem runv {l : List Lf} {K : Res → Option Res} {r : Res} (h : run l K = some r) : ∃ a1, l = [.q (.cells a1)] ∧ g a1 (fun r1 => K (m r1)) = some r := by
 unfold run at h; split at h
 ·exact ⟨_, rfl, h⟩
 ·cases h
theorem ok : Con Go.Proofs.Try.prog con := con_of (fn := Go.Proofs.Try.f80) (c := c) (Fi := fi) (X := X) (fun_of laid (by kernel_rfl) (by kernel_rfl) (by kernel_rfl) rfl (by kernel_rfl) (by kernel_rfl) cx (fun _ => rfl) (fun _ => rfl) (fun K => by
 rw [show loopsOf c = [(0, b0)] from by kernel_rfl]; intro p hp
 rcases List.mem_cons.1 hp with rfl | hp
 ·exact w0 K
 cases hp)) fun xs rows boxes K r hl hr => by
 obtain ⟨a1, e, h⟩ := runv hr
 have := St.like_eq (y := a a1) hl (by kernel_rfl) e
 obtain ⟨rfl, rfl, rfl⟩ := argSt_inj this
 exact (tie K a1).trans h
end spec_TreeOk
namespace spec_Compile
noncomputable def c : Code := bodyOf Go.Proofs.Try.f47
noncomputable def fi : Fin := ⟨Γ0, [(.tmp 2, 26), (.tmp 3, 4)], [[1], [1]], [], [], []⟩
noncomputable def m (r1 : List (List Cl)) (r2 : Bool) : Res := ⟨[⟨false, [.ow 1000]⟩, ⟨false, [.bool r2]⟩], [], [⟨[.int .i64, .int .i64, .int .i64, .int .i64, .int .i64, .ints .i64], .cells r1, true, 0, none⟩], [], []⟩
noncomputable def b0 : Code := codeAt c [1, 1, 1, 0, 1, 0, 0]
noncomputable def s0 (x3 : Int) (x4 x5 : List (List Cl)) : St := ⟨mkT 69 [(1, one (.bp 1000 0)), (4, one (.ow 3048)), (5, one (.int .i64 x3))], [(3048, ⟨[.int .i64, .int .i64, .int .i64, .int .i64, .int .i64, .ints .i64], .cells x4, true, 0, none⟩)], [(1000, [.tr 0 1 [.int .i64, .int .i64, .int .i64, .int .i64, .int .i64, .int .i64, .ints .i64] (.cells x5)])]⟩
noncomputable def l0s (x5 : List (List Cl)) (rec : Int → List (List Cl) → Option Res) (k : List (List Cl) → Option Res) (x3 : Int) (x4 : List (List Cl)) : Option Res :=
 bif decide (x3 < (x5.length : Int)) then (bif decide (0 ≤ x3) && decide (x3 < (x5.length : Int)) then (bif (((x5.getD x3.toNat []).getD 0 (.i 0)).toI == 1) then (bif decide ((0 + (((x5.getD x3.toNat []).getD 6 (.i 0)).toL).length) * 8 ≤ 140737488355328) then (bif decide ((x4.length + 1) * 64 ≤ 140737488355328) then rec (IntKind.i64.wrap (x3 + 1)) (x4 ++ ([[.i 1, .i 0, .i 0, .i 0, .i 0, .l (([] : List Int) ++ (((x5.getD x3.toNat []).getD 6 (.i 0)).toL))]] : List (List Cl)))
  else none)
  else none)
  else bif (((x5.getD x3.toNat []).getD 0 (.i 0)).toI == 2) then (bif decide ((x4.length + 1) * 64 ≤ 140737488355328) then rec (IntKind.i64.wrap (x3 + 1)) (x4 ++ ([[.i 2, .i (((x5.getD x3.toNat []).getD 1 (.i 0)).toI), .i 0, .i 0, .i 0, .l ([] : List Int)]] : List (List Cl)))
   else none)
  else bif (((x5.getD x3.toNat []).getD 0 (.i 0)).toI == 3) then (bif decide ((x4.length + 1) * 64 ≤ 140737488355328) then rec (IntKind.i64.wrap (x3 + 1)) (x4 ++ ([[.i 3, .i (((x5.getD x3.toNat []).getD 1 (.i 0)).toI), .i 0, .i 0, .i 0, .l ([] : List Int)]] : List (List Cl)))
   else none)
  else bif (((x5.getD x3.toNat []).getD 0 (.i 0)).toI == 4) then (bif decide ((x4.length + 1) * 64 ≤ 140737488355328) then rec (IntKind.i64.wrap (x3 + 1)) (x4 ++ ([[.i 4, .i 0, .i (((x5.getD x3.toNat []).getD 3 (.i 0)).toI), .i (((x5.getD x3.toNat []).getD 4 (.i 0)).toI), .i (((x5.getD x3.toNat []).getD 5 (.i 0)).toI), .l ([] : List Int)]] : List (List Cl)))
   else none)
  else bif (((x5.getD x3.toNat []).getD 0 (.i 0)).toI == 5) then (bif decide ((x4.length + 1) * 64 ≤ 140737488355328) then rec (IntKind.i64.wrap (x3 + 1)) (x4 ++ ([[.i 5, .i 0, .i (((x5.getD x3.toNat []).getD 3 (.i 0)).toI), .i (((x5.getD x3.toNat []).getD 4 (.i 0)).toI), .i (((x5.getD x3.toNat []).getD 5 (.i 0)).toI), .l ([] : List Int)]] : List (List Cl)))
   else none)
  else rec (IntKind.i64.wrap (x3 + 1)) x4)
  else none)
 else k x4
noncomputable def l0 (x5 : List (List Cl)) (k : List (List Cl) → Option Res) : Nat → Int → List (List Cl) → Option Res
 | 0, _, _ => none
 | n + 1, x3, x4 => l0s x5 (fun x3 x4 => l0 x5 k n x3 x4) k x3 x4
noncomputable def o0 (x5 y1 : List (List Cl)) : St := ⟨mkT 69 [(4, one (.ow 3048))], [(3048, ⟨[.int .i64, .int .i64, .int .i64, .int .i64, .int .i64, .ints .i64], .cells y1, true, 0, none⟩)], []⟩
noncomputable def p0 (K : Res → Option Res) : List Lf → (St → Option Res) → Option Res
 | [.i x3, .q (.cells x4), .q (.cells x5)], k => l0 x5 (fun y1 => k (o0 x5 y1)) fuel x3 x4
 | _, _ => none
noncomputable def os : List (FuncId × St × (List Lf → (Res → Option Res) → Option Res)) := [spec_TreeOk.con]
noncomputable def X (K : Res → Option Res) : Ctx := { Γ := Γ0, orc := orcOf os, io := [], share := [], opn := [], shr := [], bun := [], cut := [], own := [], cin := [(0, ⟨[1, 4, 5], [(3048, 3048), (21592, 3048), (25656, 3048), (29752, 3048), (33848, 3048), (37944, 3048)], [1000], [], [], []⟩)], cout := [(0, ⟨[4], [(3048, 3048)], [], [], [], []⟩)], lp := lpOf [(0, s0 0 [] [], p0 K)], kl := Env.kl, nk := true, eqs := eqs0, byt := byt0, fin := finK fi K }
noncomputable def b (a1 : List (List Cl)) (R : List (List Cl) → Bool → Option Res) : Option Res :=
 spec_TreeOk.g a1 fun r2 =>
 bif !r2 then R ([] : List (List Cl)) false
 else (l0 a1 (fun y6 =>
 R y6 true) fuel 0 ([] : List (List Cl)))
theorem gx : ∃ x : List (List Cl) → (List (List Cl) → Bool → Option Res) → Option Res, x = b := ⟨_, rfl⟩
noncomputable def g : List (List Cl) → (List (List Cl) → Bool → Option Res) → Option Res := Classical.choose gx
theorem e : g = b := Classical.choose_spec gx
noncomputable def run : List Lf → (Res → Option Res) → Option Res
 | [.q (.cells a1)], K => g a1 (fun r1 r2 => K (m r1 r2))
 | _, _ => none
noncomputable def a (a1 : List (List Cl)) : St := argSt [.v ⟨true, [.tr 0 1 [.int .i64, .int .i64, .int .i64, .int .i64, .int .i64, .int .i64, .ints .i64] (.cells a1)]⟩] [] []
noncomputable def con : FuncId × St × (List Lf → (Res → Option Res) → Option Res) := (47, a [], run)
theorem cx (K : Res → Option Res) : CtxOk Go.Proofs.Try.prog Γ0 byt0 eqs0 (X K) os := ⟨rfl, rfl, rfl, (fun p hp => by
 rcases List.mem_cons.1 hp with rfl | hp
 ·exact spec_TreeOk.ok
 cases hp), rfl, rfl, rfl⟩
theorem t0 (K : Res → Option Res) (k : St → Option Res) (it : St → (St → Option Res) → Option Res) (x3 : Int) (x4 x5 : List (List Cl)) : iterS (X K) 0 b0 it (s0 x3 x4 x5) k = l0s x5 (fun x3 x4 => it (s0 x3 x4 x5) k) (fun y1 => k (o0 x5 y1)) x3 x4 := by kernel_rfl
theorem i0 (K : Res → Option Res) (k : St → Option Res) (x5 : List (List Cl)) : ∀ (n : Nat) (x3 : Int) (x4 : List (List Cl)), iter (X K) 0 b0 n (s0 x3 x4 x5) k = l0 x5 (fun y1 => k (o0 x5 y1)) n x3 x4
 | 0, _, _ => rfl
 | n + 1, x3, x4 => by
  rw [iter_succ, t0, show (fun x3 x4 => iter (X K) 0 b0 n (s0 x3 x4 x5) k) = (fun x3 x4 => l0 x5 (fun y1 => k (o0 x5 y1)) n x3 x4) from funext fun x3 => funext fun x4 => i0 K k x5 n x3 x4]; rfl
theorem v0 {K : Res → Option Res} {l : List Lf} {k : St → Option Res} {r : Res} (h : p0 K l k = some r) : ∃ x3 x4 x5, l = [.i x3, .q (.cells x4), .q (.cells x5)] ∧ l0 x5 (fun y1 => k (o0 x5 y1)) fuel x3 x4 = some r := by
 unfold p0 at h; split at h
 ·exact ⟨_, _, _, rfl, h⟩
 ·cases h
theorem w0 (K : Res → Option Res) : LpSound Go.Proofs.Try.prog (X K) 0 b0 := lp_ok ((cx K).ok laid) (by rw [show loopsOf b0 = [] from by kernel_rfl]; intro p hp; cases hp) rfl fun p hp hid => by
 rcases List.mem_cons.1 hp with rfl | hp
 ·intro st k r h1 h2; obtain ⟨x3, x4, x5, e, h⟩ := v0 (K := K) h2; have := St.like_eq (y := s0 x3 x4 x5) h1 (by kernel_rfl) e; subst this; exact ⟨fuel, (i0 K k x5 fuel x3 x4).trans h⟩
 cases hp
theorem tie (K : Res → Option Res) (a1 : List (List Cl)) : exec (X K) c (entry 69 [.v ⟨true, [.tr 0 1 [.int .i64, .int .i64, .int .i64, .int .i64, .int .i64, .int .i64, .ints .i64] (.cells a1)]⟩] [] []) (endK (X K)) = g a1 (fun r1 r2 => K (m r1 r2)) := Eq.trans (b := b a1 (fun r1 r2 => K (m r1 r2))) (by kernel_rfl) (by rw [e])
theorem runv {l : List Lf} {K : Res → Option Res} {r : Res} (h : run l K = some r) : ∃ a1, l = [.q (.cells a1)] ∧ g a1 (fun r1 r2 => K (m r1 r2)) = some r := by
 unfold run at h; split at h
 ·exact ⟨_, rfl, h⟩
 ·cases h
theorem ok : Con Go.Proofs.Try.prog con := con_of (fn := Go.Proofs.Try.f47) (c := c) (Fi := fi) (X := X) (fun_of laid (by kernel_rfl) (by kernel_rfl) (by kernel_rfl) rfl (by kernel_rfl) (by kernel_rfl) cx (fun _ => rfl) (fun _ => rfl) (fun K => by
 rw [show loopsOf c = [(0, b0)] from by kernel_rfl]; intro p hp
 rcases List.mem_cons.1 hp with rfl | hp
 ·exact w0 K
 cases hp)) fun xs rows boxes K r hl hr => by
 obtain ⟨a1, e, h⟩ := runv hr
 have := St.like_eq (y := a a1) hl (by kernel_rfl) e
 obtain ⟨rfl, rfl, rfl⟩ := argSt_inj this
 exact (tie K a1).trans h
end spec_Compile
namespace spec_LineCode
noncomputable def c : Code := bodyOf Go.Proofs.Try.f20
noncomputable def fi : Fin := ⟨Γ0, [(.tmp 2, 26), (.tmp 3, 3)], [[1], [1]], [], [], []⟩
noncomputable def m (r1 : List (List Cl)) (r2 : Int) : Res := ⟨[⟨false, [.ow 1000]⟩, ⟨false, [.int .i64 r2]⟩], [], [⟨[.int .i64, .int .i64, .int .i64, .int .i64, .int .i64, .ints .i64], .cells r1, true, 0, none⟩], [], []⟩
noncomputable def os : List (FuncId × St × (List Lf → (Res → Option Res) → Option Res)) := [spec_Lex.con, spec_Parse.con, spec_Compile.con]
noncomputable def X (K : Res → Option Res) : Ctx := { Γ := Γ0, orc := orcOf os, io := [(46, [⟨false, 2, 2⟩])], share := [], opn := [], shr := [], bun := [], cut := [], own := [], cin := [], cout := [], lp := lpOf [], kl := Env.kl, nk := true, eqs := eqs0, byt := byt0, fin := finK fi K }
noncomputable def b (a1 : ByteArray) (R : List (List Cl) → Int → Option Res) : Option Res :=
 spec_Lex.g a1 fun r2 r3 r4 =>
 bif (r3 != 0) then R ([] : List (List Cl)) r3
 else (spec_Parse.g r2 fun r5 r6 =>
 bif (r6 != 0) then R ([] : List (List Cl)) r6
 else (spec_Compile.g r5 fun r7 r8 =>
 R r7 0))
theorem gx : ∃ x : ByteArray → (List (List Cl) → Int → Option Res) → Option Res, x = b := ⟨_, rfl⟩
noncomputable def g : ByteArray → (List (List Cl) → Int → Option Res) → Option Res := Classical.choose gx
theorem e : g = b := Classical.choose_spec gx
noncomputable def run : List Lf → (Res → Option Res) → Option Res
 | [.s a1], K => g a1 (fun r1 r2 => K (m r1 r2))
 | _, _ => none
noncomputable def a (a1 : ByteArray) : St := argSt [one (.str a1)] [] []
noncomputable def con : FuncId × St × (List Lf → (Res → Option Res) → Option Res) := (20, a ByteArray.empty, run)
theorem cx (K : Res → Option Res) : CtxOk Go.Proofs.Try.prog Γ0 byt0 eqs0 (X K) os := ⟨rfl, rfl, rfl, (fun p hp => by
 rcases List.mem_cons.1 hp with rfl | hp
 ·exact spec_Lex.ok
 rcases List.mem_cons.1 hp with rfl | hp
 ·exact spec_Parse.ok
 rcases List.mem_cons.1 hp with rfl | hp
 ·exact spec_Compile.ok
 cases hp), rfl, rfl, rfl⟩
theorem tie (K : Res → Option Res) (a1 : ByteArray) : exec (X K) c (entry 36 [one (.str a1)] [] []) (endK (X K)) = g a1 (fun r1 r2 => K (m r1 r2)) := Eq.trans (b := b a1 (fun r1 r2 => K (m r1 r2))) (by kernel_rfl) (by rw [e])
theorem runv {l : List Lf} {K : Res → Option Res} {r : Res} (h : run l K = some r) : ∃ a1, l = [.s a1] ∧ g a1 (fun r1 r2 => K (m r1 r2)) = some r := by
 unfold run at h; split at h
 ·exact ⟨_, rfl, h⟩
 ·cases h
theorem ok : Con Go.Proofs.Try.prog con := con_of (fn := Go.Proofs.Try.f20) (c := c) (Fi := fi) (X := X) (fun_of laid (by kernel_rfl) (by kernel_rfl) (by kernel_rfl) rfl (by kernel_rfl) (by kernel_rfl) cx (fun _ => rfl) (fun _ => rfl) (fun K => by
 rw [show loopsOf c = [] from by kernel_rfl]; intro p hp
 cases hp)) fun xs rows boxes K r hl hr => by
 obtain ⟨a1, e, h⟩ := runv hr
 have := St.like_eq (y := a a1) hl (by kernel_rfl) e
 obtain ⟨rfl, rfl, rfl⟩ := argSt_inj this
 exact (tie K a1).trans h
end spec_LineCode
namespace laws_eqFun
noncomputable def c : Code := bodyOf Go.Proofs.Try.f62
noncomputable def fi : Fin := ⟨Γ0, [(.tmp 4, 4)], [[1]], [], [], []⟩
noncomputable def m (r1 : Bool) : Res := ⟨[⟨false, [.bool r1]⟩], [], [], [], []⟩
noncomputable def os : List (FuncId × St × (List Lf → (Res → Option Res) → Option Res)) := []
noncomputable def X (K : Res → Option Res) : Ctx := { Γ := Γ0, orc := orcOf os, io := [], share := [], opn := [], shr := [], bun := [], cut := [], own := [], cin := [], cout := [], lp := lpOf [], kl := Env.kl, nk := true, eqs := eqs0, byt := byt0, fin := finK fi K }
noncomputable def b (a1 a2 a3 a4 a5 a6 : Int) (R : Bool → Option Res) : Option Res :=
 bif (a1 != a4) then R false
 else bif (a2 != a5) then R false
 else bif (a3 != a6) then R false
 else R true
theorem gx : ∃ x : Int → Int → Int → Int → Int → Int → (Bool → Option Res) → Option Res, x = b := ⟨_, rfl⟩
noncomputable def g : Int → Int → Int → Int → Int → Int → (Bool → Option Res) → Option Res := Classical.choose gx
theorem e : g = b := Classical.choose_spec gx
noncomputable def run : List Lf → (Res → Option Res) → Option Res
 | [.i a1, .i a2, .i a3, .i a4, .i a5, .i a6], K => g a1 a2 a3 a4 a5 a6 (fun r1 => K (m r1))
 | _, _ => none
noncomputable def a (a1 a2 a3 a4 a5 a6 : Int) : St := argSt [.v ⟨true, [.int .i64 a1, .int .i64 a2, .int .i64 a3]⟩, .v ⟨true, [.int .i64 a4, .int .i64 a5, .int .i64 a6]⟩] [] []
noncomputable def con : FuncId × St × (List Lf → (Res → Option Res) → Option Res) := (62, a 0 0 0 0 0 0, run)
theorem cx (K : Res → Option Res) : CtxOk Go.Proofs.Try.prog Γ0 byt0 eqs0 (X K) os := ⟨rfl, rfl, rfl, (fun p hp => by
 cases hp), rfl, rfl, rfl⟩
theorem tie (K : Res → Option Res) (a1 a2 a3 a4 a5 a6 : Int) : exec (X K) c (entry 20 [.v ⟨true, [.int .i64 a1, .int .i64 a2, .int .i64 a3]⟩, .v ⟨true, [.int .i64 a4, .int .i64 a5, .int .i64 a6]⟩] [] []) (endK (X K)) = g a1 a2 a3 a4 a5 a6 (fun r1 => K (m r1)) := Eq.trans (b := b a1 a2 a3 a4 a5 a6 (fun r1 => K (m r1))) (by kernel_rfl) (by rw [e])
theorem runv {l : List Lf} {K : Res → Option Res} {r : Res} (h : run l K = some r) : ∃ a1 a2 a3 a4 a5 a6, l = [.i a1, .i a2, .i a3, .i a4, .i a5, .i a6] ∧ g a1 a2 a3 a4 a5 a6 (fun r1 => K (m r1)) = some r := by
 unfold run at h; split at h
 ·exact ⟨_, _, _, _, _, _, rfl, h⟩
 ·cases h
theorem ok : Con Go.Proofs.Try.prog con := con_of (fn := Go.Proofs.Try.f62) (c := c) (Fi := fi) (X := X) (fun_of laid (by kernel_rfl) (by kernel_rfl) (by kernel_rfl) rfl (by kernel_rfl) (by kernel_rfl) cx (fun _ => rfl) (fun _ => rfl) (fun K => by
 rw [show loopsOf c = [] from by kernel_rfl]; intro p hp
 cases hp)) fun xs rows boxes K r hl hr => by
 obtain ⟨a1, a2, a3, a4, a5, a6, e, h⟩ := runv hr
 have := St.like_eq (y := a a1 a2 a3 a4 a5 a6) hl (by kernel_rfl) e
 obtain ⟨rfl, rfl, rfl⟩ := argSt_inj this
 exact (tie K a1 a2 a3 a4 a5 a6).trans h
end laws_eqFun
namespace laws_eqIntS
noncomputable def c : Code := bodyOf Go.Proofs.Try.f63
noncomputable def fi : Fin := ⟨Γ0, [(.tmp 4, 4)], [[1]], [], [], []⟩
noncomputable def m (r1 : Bool) : Res := ⟨[⟨false, [.bool r1]⟩], [], [], [], []⟩
noncomputable def b0 : Code := codeAt c [1, 1, 0, 1, 0, 0]
noncomputable def s0 (x3 x4 : List Int) (x5 : Int) : St := ⟨mkT 26 [(0, one (.tr 0 1 [.int .i64] (.ints x3))), (1, one (.tr 0 1 [.int .i64] (.ints x4))), (5, one (.int .i64 x5))], [], []⟩
noncomputable def l0s (x3 x4 : List Int) (rec : Int → Option Res) (k : Option Res) (R : Bool → Option Res) (x5 : Int) : Option Res :=
 bif decide (x5 < (x3.length : Int)) then (bif decide (0 ≤ x5) && decide (x5 < (x3.length : Int)) then (bif decide (0 ≤ x5) && decide (x5 < (x4.length : Int)) then (bif (x3.getD x5.toNat 0 != x4.getD x5.toNat 0) then R false
  else rec (IntKind.i64.wrap (x5 + 1)))
  else none)
  else none)
 else k
noncomputable def l0 (x3 x4 : List Int) (k : Option Res) (R : Bool → Option Res) : Nat → Int → Option Res
 | 0, _ => none
 | n + 1, x5 => l0s x3 x4 (fun x5 => l0 x3 x4 k R n x5) k R x5
noncomputable def o0 (x3 x4 : List Int) : St := ⟨mkT 26 [], [], []⟩
noncomputable def p0 (K : Res → Option Res) : List Lf → (St → Option Res) → Option Res
 | [.q (.ints x3), .q (.ints x4), .i x5], k => l0 x3 x4 (k (o0 x3 x4)) (fun r1 => K (m r1)) fuel x5
 | _, _ => none
noncomputable def os : List (FuncId × St × (List Lf → (Res → Option Res) → Option Res)) := []
noncomputable def X (K : Res → Option Res) : Ctx := { Γ := Γ0, orc := orcOf os, io := [], share := [], opn := [], shr := [], bun := [], cut := [], own := [], cin := [(0, ⟨[0, 1, 5], [], [], [], [], []⟩)], cout := [(0, ⟨[], [], [], [], [], []⟩)], lp := lpOf [(0, s0 [] [] 0, p0 K)], kl := Env.kl, nk := true, eqs := eqs0, byt := byt0, fin := finK fi K }
noncomputable def b (a1 a2 : List Int) (R : Bool → Option Res) : Option Res :=
 bif ((a1.length : Int) != (a2.length : Int)) then R false
 else (l0 a1 a2 (
 R true) R fuel 0)
theorem gx : ∃ x : List Int → List Int → (Bool → Option Res) → Option Res, x = b := ⟨_, rfl⟩
noncomputable def g : List Int → List Int → (Bool → Option Res) → Option Res := Classical.choose gx
theorem e : g = b := Classical.choose_spec gx
noncomputable def run : List Lf → (Res → Option Res) → Option Res
 | [.q (.ints a1), .q (.ints a2)], K => g a1 a2 (fun r1 => K (m r1))
 | _, _ => none
noncomputable def a (a1 a2 : List Int) : St := argSt [one (.tr 0 1 [.int .i64] (.ints a1)), one (.tr 0 1 [.int .i64] (.ints a2))] [] []
noncomputable def con : FuncId × St × (List Lf → (Res → Option Res) → Option Res) := (63, a [] [], run)
theorem cx (K : Res → Option Res) : CtxOk Go.Proofs.Try.prog Γ0 byt0 eqs0 (X K) os := ⟨rfl, rfl, rfl, (fun p hp => by
 cases hp), rfl, rfl, rfl⟩
theorem t0 (K : Res → Option Res) (k : St → Option Res) (it : St → (St → Option Res) → Option Res) (x3 x4 : List Int) (x5 : Int) : iterS (X K) 0 b0 it (s0 x3 x4 x5) k = l0s x3 x4 (fun x5 => it (s0 x3 x4 x5) k) (k (o0 x3 x4)) (fun r1 => K (m r1)) x5 := by kernel_rfl
theorem i0 (K : Res → Option Res) (k : St → Option Res) (x3 x4 : List Int) : ∀ (n : Nat) (x5 : Int), iter (X K) 0 b0 n (s0 x3 x4 x5) k = l0 x3 x4 (k (o0 x3 x4)) (fun r1 => K (m r1)) n x5
 | 0, _ => rfl
 | n + 1, x5 => by
  rw [iter_succ, t0, show (fun x5 => iter (X K) 0 b0 n (s0 x3 x4 x5) k) = (fun x5 => l0 x3 x4 (k (o0 x3 x4)) (fun r1 => K (m r1)) n x5) from funext fun x5 => i0 K k x3 x4 n x5]; rfl
theorem v0 {K : Res → Option Res} {l : List Lf} {k : St → Option Res} {r : Res} (h : p0 K l k = some r) : ∃ x3 x4 x5, l = [.q (.ints x3), .q (.ints x4), .i x5] ∧ l0 x3 x4 (k (o0 x3 x4)) (fun r1 => K (m r1)) fuel x5 = some r := by
 unfold p0 at h; split at h
 ·exact ⟨_, _, _, rfl, h⟩
 ·cases h
theorem w0 (K : Res → Option Res) : LpSound Go.Proofs.Try.prog (X K) 0 b0 := lp_ok ((cx K).ok laid) (by rw [show loopsOf b0 = [] from by kernel_rfl]; intro p hp; cases hp) rfl fun p hp hid => by
 rcases List.mem_cons.1 hp with rfl | hp
 ·intro st k r h1 h2; obtain ⟨x3, x4, x5, e, h⟩ := v0 (K := K) h2; have := St.like_eq (y := s0 x3 x4 x5) h1 (by kernel_rfl) e; subst this; exact ⟨fuel, (i0 K k x3 x4 fuel x5).trans h⟩
 cases hp
theorem tie (K : Res → Option Res) (a1 a2 : List Int) : exec (X K) c (entry 26 [one (.tr 0 1 [.int .i64] (.ints a1)), one (.tr 0 1 [.int .i64] (.ints a2))] [] []) (endK (X K)) = g a1 a2 (fun r1 => K (m r1)) := Eq.trans (b := b a1 a2 (fun r1 => K (m r1))) (by kernel_rfl) (by rw [e])
theorem runv {l : List Lf} {K : Res → Option Res} {r : Res} (h : run l K = some r) : ∃ a1 a2, l = [.q (.ints a1), .q (.ints a2)] ∧ g a1 a2 (fun r1 => K (m r1)) = some r := by
 unfold run at h; split at h
 ·exact ⟨_, _, rfl, h⟩
 ·cases h
theorem ok : Con Go.Proofs.Try.prog con := con_of (fn := Go.Proofs.Try.f63) (c := c) (Fi := fi) (X := X) (fun_of laid (by kernel_rfl) (by kernel_rfl) (by kernel_rfl) rfl (by kernel_rfl) (by kernel_rfl) cx (fun _ => rfl) (fun _ => rfl) (fun K => by
 rw [show loopsOf c = [(0, b0)] from by kernel_rfl]; intro p hp
 rcases List.mem_cons.1 hp with rfl | hp
 ·exact w0 K
 cases hp)) fun xs rows boxes K r hl hr => by
 obtain ⟨a1, a2, e, h⟩ := runv hr
 have := St.like_eq (y := a a1 a2) hl (by kernel_rfl) e
 obtain ⟨rfl, rfl, rfl⟩ := argSt_inj this
 exact (tie K a1 a2).trans h
end laws_eqIntS
namespace laws_eqInstr
noncomputable def c : Code := bodyOf Go.Proofs.Try.f33
noncomputable def fi : Fin := ⟨Γ0, [(.tmp 4, 4)], [[1]], [], [], []⟩
noncomputable def m (r1 : Bool) : Res := ⟨[⟨false, [.bool r1]⟩], [], [], [], []⟩
noncomputable def os : List (FuncId × St × (List Lf → (Res → Option Res) → Option Res)) := [laws_eqFun.con, laws_eqIntS.con]
noncomputable def X (K : Res → Option Res) : Ctx := { Γ := Γ0, orc := orcOf os, io := [], share := [], opn := [], shr := [], bun := [], cut := [], own := [], cin := [], cout := [], lp := lpOf [], kl := Env.kl, nk := true, eqs := eqs0, byt := byt0, fin := finK fi K }
noncomputable def b (a1 a2 a3 a4 a5 : Int) (a6 : List Int) (a7 a8 a9 a10 a11 : Int) (a12 : List Int) (R : Bool → Option Res) : Option Res :=
 bif (a1 != a7) then R false
 else bif (a2 != a8) then R false
 else (laws_eqFun.g a3 a4 a5 a9 a10 a11 fun r13 =>
 bif !r13 then R false
 else (laws_eqIntS.g a6 a12 fun r14 =>
 bif !r14 then R false
 else R true))
theorem gx : ∃ x : Int → Int → Int → Int → Int → List Int → Int → Int → Int → Int → Int → List Int → (Bool → Option Res) → Option Res, x = b := ⟨_, rfl⟩
noncomputable def g : Int → Int → Int → Int → Int → List Int → Int → Int → Int → Int → Int → List Int → (Bool → Option Res) → Option Res := Classical.choose gx
theorem e : g = b := Classical.choose_spec gx
noncomputable def run : List Lf → (Res → Option Res) → Option Res
 | [.i a1, .i a2, .i a3, .i a4, .i a5, .q (.ints a6), .i a7, .i a8, .i a9, .i a10, .i a11, .q (.ints a12)], K => g a1 a2 a3 a4 a5 a6 a7 a8 a9 a10 a11 a12 (fun r1 => K (m r1))
 | _, _ => none
noncomputable def a (a1 a2 a3 a4 a5 : Int) (a6 : List Int) (a7 a8 a9 a10 a11 : Int) (a12 : List Int) : St := argSt [.v ⟨true, [.int .i64 a1, .int .i64 a2, .int .i64 a3, .int .i64 a4, .int .i64 a5, .tr 0 1 [.int .i64] (.ints a6)]⟩, .v ⟨true, [.int .i64 a7, .int .i64 a8, .int .i64 a9, .int .i64 a10, .int .i64 a11, .tr 0 1 [.int .i64] (.ints a12)]⟩] [] []
noncomputable def con : FuncId × St × (List Lf → (Res → Option Res) → Option Res) := (33, a 0 0 0 0 0 [] 0 0 0 0 0 [], run)
theorem cx (K : Res → Option Res) : CtxOk Go.Proofs.Try.prog Γ0 byt0 eqs0 (X K) os := ⟨rfl, rfl, rfl, (fun p hp => by
 rcases List.mem_cons.1 hp with rfl | hp
 ·exact laws_eqFun.ok
 rcases List.mem_cons.1 hp with rfl | hp
 ·exact laws_eqIntS.ok
 cases hp), rfl, rfl, rfl⟩
theorem tie (K : Res → Option Res) (a1 a2 a3 a4 a5 : Int) (a6 : List Int) (a7 a8 a9 a10 a11 : Int) (a12 : List Int) : exec (X K) c (entry 27 [.v ⟨true, [.int .i64 a1, .int .i64 a2, .int .i64 a3, .int .i64 a4, .int .i64 a5, .tr 0 1 [.int .i64] (.ints a6)]⟩, .v ⟨true, [.int .i64 a7, .int .i64 a8, .int .i64 a9, .int .i64 a10, .int .i64 a11, .tr 0 1 [.int .i64] (.ints a12)]⟩] [] []) (endK (X K)) = g a1 a2 a3 a4 a5 a6 a7 a8 a9 a10 a11 a12 (fun r1 => K (m r1)) := Eq.trans (b := b a1 a2 a3 a4 a5 a6 a7 a8 a9 a10 a11 a12 (fun r1 => K (m r1))) (by kernel_rfl) (by rw [e])
theorem runv {l : List Lf} {K : Res → Option Res} {r : Res} (h : run l K = some r) : ∃ a1 a2 a3 a4 a5 a6 a7 a8 a9 a10 a11 a12, l = [.i a1, .i a2, .i a3, .i a4, .i a5, .q (.ints a6), .i a7, .i a8, .i a9, .i a10, .i a11, .q (.ints a12)] ∧ g a1 a2 a3 a4 a5 a6 a7 a8 a9 a10 a11 a12 (fun r1 => K (m r1)) = some r := by
 unfold run at h; split at h
 ·exact ⟨_, _, _, _, _, _, _, _, _, _, _, _, rfl, h⟩
 ·cases h
theorem ok : Con Go.Proofs.Try.prog con := con_of (fn := Go.Proofs.Try.f33) (c := c) (Fi := fi) (X := X) (fun_of laid (by kernel_rfl) (by kernel_rfl) (by kernel_rfl) rfl (by kernel_rfl) (by kernel_rfl) cx (fun _ => rfl) (fun _ => rfl) (fun K => by
 rw [show loopsOf c = [] from by kernel_rfl]; intro p hp
 cases hp)) fun xs rows boxes K r hl hr => by
 obtain ⟨a1, a2, a3, a4, a5, a6, a7, a8, a9, a10, a11, a12, e, h⟩ := runv hr
 have := St.like_eq (y := a a1 a2 a3 a4 a5 a6 a7 a8 a9 a10 a11 a12) hl (by kernel_rfl) e
 obtain ⟨rfl, rfl, rfl⟩ := argSt_inj this
 exact (tie K a1 a2 a3 a4 a5 a6 a7 a8 a9 a10 a11 a12).trans h
end laws_eqInstr
namespace laws_eqInstrS
noncomputable def c : Code := bodyOf Go.Proofs.Try.f12
noncomputable def fi : Fin := ⟨Γ0, [(.tmp 4, 4)], [[1]], [], [], []⟩
noncomputable def m (r1 : Bool) : Res := ⟨[⟨false, [.bool r1]⟩], [], [], [], []⟩
noncomputable def b0 : Code := codeAt c [1, 1, 0, 1, 0, 0]
noncomputable def s0 (x3 x4 : List (List Cl)) (x5 : Int) : St := ⟨mkT 27 [(0, one (.tr 0 1 [.int .i64, .int .i64, .int .i64, .int .i64, .int .i64, .ints .i64] (.cells x3))), (1, one (.tr 0 1 [.int .i64, .int .i64, .int .i64, .int .i64, .int .i64, .ints .i64] (.cells x4))), (5, one (.int .i64 x5))], [], []⟩
noncomputable def l0s (x3 x4 : List (List Cl)) (rec : Int → Option Res) (k : Option Res) (R : Bool → Option Res) (x5 : Int) : Option Res :=
 bif decide (x5 < (x3.length : Int)) then (bif decide (0 ≤ x5) && decide (x5 < (x3.length : Int)) then (bif decide (0 ≤ x5) && decide (x5 < (x4.length : Int)) then (laws_eqInstr.g (((x3.getD x5.toNat []).getD 0 (.i 0)).toI) (((x3.getD x5.toNat []).getD 1 (.i 0)).toI) (((x3.getD x5.toNat []).getD 2 (.i 0)).toI) (((x3.getD x5.toNat []).getD 3 (.i 0)).toI) (((x3.getD x5.toNat []).getD 4 (.i 0)).toI) (((x3.getD x5.toNat []).getD 5 (.i 0)).toL) (((x4.getD x5.toNat []).getD 0 (.i 0)).toI) (((x4.getD x5.toNat []).getD 1 (.i 0)).toI) (((x4.getD x5.toNat []).getD 2 (.i 0)).toI) (((x4.getD x5.toNat []).getD 3 (.i 0)).toI) (((x4.getD x5.toNat []).getD 4 (.i 0)).toI) (((x4.getD x5.toNat []).getD 5 (.i 0)).toL) fun r6 =>
  bif !r6 then R false
  else rec (IntKind.i64.wrap (x5 + 1)))
  else none)
  else none)
 else k
noncomputable def l0 (x3 x4 : List (List Cl)) (k : Option Res) (R : Bool → Option Res) : Nat → Int → Option Res
 | 0, _ => none
 | n + 1, x5 => l0s x3 x4 (fun x5 => l0 x3 x4 k R n x5) k R x5
noncomputable def o0 (x3 x4 : List (List Cl)) : St := ⟨mkT 27 [], [], []⟩
noncomputable def p0 (K : Res → Option Res) : List Lf → (St → Option Res) → Option Res
 | [.q (.cells x3), .q (.cells x4), .i x5], k => l0 x3 x4 (k (o0 x3 x4)) (fun r1 => K (m r1)) fuel x5
 | _, _ => none
noncomputable def os : List (FuncId × St × (List Lf → (Res → Option Res) → Option Res)) := [laws_eqInstr.con]
noncomputable def X (K : Res → Option Res) : Ctx := { Γ := Γ0, orc := orcOf os, io := [], share := [], opn := [], shr := [], bun := [], cut := [], own := [], cin := [(0, ⟨[0, 1, 5], [], [], [], [], []⟩)], cout := [(0, ⟨[], [], [], [], [], []⟩)], lp := lpOf [(0, s0 [] [] 0, p0 K)], kl := Env.kl, nk := true, eqs := eqs0, byt := byt0, fin := finK fi K }
noncomputable def b (a1 a2 : List (List Cl)) (R : Bool → Option Res) : Option Res :=
 bif ((a1.length : Int) != (a2.length : Int)) then R false
 else (l0 a1 a2 (
 R true) R fuel 0)
theorem gx : ∃ x : List (List Cl) → List (List Cl) → (Bool → Option Res) → Option Res, x = b := ⟨_, rfl⟩
noncomputable def g : List (List Cl) → List (List Cl) → (Bool → Option Res) → Option Res := Classical.choose gx
theorem e : g = b := Classical.choose_spec gx
noncomputable def run : List Lf → (Res → Option Res) → Option Res
 | [.q (.cells a1), .q (.cells a2)], K => g a1 a2 (fun r1 => K (m r1))
 | _, _ => none
noncomputable def a (a1 a2 : List (List Cl)) : St := argSt [one (.tr 0 1 [.int .i64, .int .i64, .int .i64, .int .i64, .int .i64, .ints .i64] (.cells a1)), one (.tr 0 1 [.int .i64, .int .i64, .int .i64, .int .i64, .int .i64, .ints .i64] (.cells a2))] [] []
noncomputable def con : FuncId × St × (List Lf → (Res → Option Res) → Option Res) := (12, a [] [], run)
theorem cx (K : Res → Option Res) : CtxOk Go.Proofs.Try.prog Γ0 byt0 eqs0 (X K) os := ⟨rfl, rfl, rfl, (fun p hp => by
 rcases List.mem_cons.1 hp with rfl | hp
 ·exact laws_eqInstr.ok
 cases hp), rfl, rfl, rfl⟩
theorem t0 (K : Res → Option Res) (k : St → Option Res) (it : St → (St → Option Res) → Option Res) (x3 x4 : List (List Cl)) (x5 : Int) : iterS (X K) 0 b0 it (s0 x3 x4 x5) k = l0s x3 x4 (fun x5 => it (s0 x3 x4 x5) k) (k (o0 x3 x4)) (fun r1 => K (m r1)) x5 := by kernel_rfl
theorem i0 (K : Res → Option Res) (k : St → Option Res) (x3 x4 : List (List Cl)) : ∀ (n : Nat) (x5 : Int), iter (X K) 0 b0 n (s0 x3 x4 x5) k = l0 x3 x4 (k (o0 x3 x4)) (fun r1 => K (m r1)) n x5
 | 0, _ => rfl
 | n + 1, x5 => by
  rw [iter_succ, t0, show (fun x5 => iter (X K) 0 b0 n (s0 x3 x4 x5) k) = (fun x5 => l0 x3 x4 (k (o0 x3 x4)) (fun r1 => K (m r1)) n x5) from funext fun x5 => i0 K k x3 x4 n x5]; rfl
theorem v0 {K : Res → Option Res} {l : List Lf} {k : St → Option Res} {r : Res} (h : p0 K l k = some r) : ∃ x3 x4 x5, l = [.q (.cells x3), .q (.cells x4), .i x5] ∧ l0 x3 x4 (k (o0 x3 x4)) (fun r1 => K (m r1)) fuel x5 = some r := by
 unfold p0 at h; split at h
 ·exact ⟨_, _, _, rfl, h⟩
 ·cases h
theorem w0 (K : Res → Option Res) : LpSound Go.Proofs.Try.prog (X K) 0 b0 := lp_ok ((cx K).ok laid) (by rw [show loopsOf b0 = [] from by kernel_rfl]; intro p hp; cases hp) rfl fun p hp hid => by
 rcases List.mem_cons.1 hp with rfl | hp
 ·intro st k r h1 h2; obtain ⟨x3, x4, x5, e, h⟩ := v0 (K := K) h2; have := St.like_eq (y := s0 x3 x4 x5) h1 (by kernel_rfl) e; subst this; exact ⟨fuel, (i0 K k x3 x4 fuel x5).trans h⟩
 cases hp
theorem tie (K : Res → Option Res) (a1 a2 : List (List Cl)) : exec (X K) c (entry 27 [one (.tr 0 1 [.int .i64, .int .i64, .int .i64, .int .i64, .int .i64, .ints .i64] (.cells a1)), one (.tr 0 1 [.int .i64, .int .i64, .int .i64, .int .i64, .int .i64, .ints .i64] (.cells a2))] [] []) (endK (X K)) = g a1 a2 (fun r1 => K (m r1)) := Eq.trans (b := b a1 a2 (fun r1 => K (m r1))) (by kernel_rfl) (by rw [e])
theorem runv {l : List Lf} {K : Res → Option Res} {r : Res} (h : run l K = some r) : ∃ a1 a2, l = [.q (.cells a1), .q (.cells a2)] ∧ g a1 a2 (fun r1 => K (m r1)) = some r := by
 unfold run at h; split at h
 ·exact ⟨_, _, rfl, h⟩
 ·cases h
theorem ok : Con Go.Proofs.Try.prog con := con_of (fn := Go.Proofs.Try.f12) (c := c) (Fi := fi) (X := X) (fun_of laid (by kernel_rfl) (by kernel_rfl) (by kernel_rfl) rfl (by kernel_rfl) (by kernel_rfl) cx (fun _ => rfl) (fun _ => rfl) (fun K => by
 rw [show loopsOf c = [(0, b0)] from by kernel_rfl]; intro p hp
 rcases List.mem_cons.1 hp with rfl | hp
 ·exact w0 K
 cases hp)) fun xs rows boxes K r hl hr => by
 obtain ⟨a1, a2, e, h⟩ := runv hr
 have := St.like_eq (y := a a1 a2) hl (by kernel_rfl) e
 obtain ⟨rfl, rfl, rfl⟩ := argSt_inj this
 exact (tie K a1 a2).trans h
end laws_eqInstrS
namespace laws_markIntS
noncomputable def c : Code := bodyOf Go.Proofs.Try.f34
noncomputable def fi : Fin := ⟨Γ0, [(.tmp 4, 3)], [[1]], [true], [], []⟩
noncomputable def m (r1 : Int) (r2 : List Int) : Res := ⟨[⟨false, [.int .i64 r1]⟩], [some ⟨[.int .i64], .ints r2, true, 0, none⟩], [], [], []⟩
noncomputable def b0 : Code := codeAt c [1, 0, 1, 0, 0]
noncomputable def s0 (x3 x4 : Int) (x5 : List Int) : St := ⟨mkT 19 [(0, one (.ow 0)), (1, one (.int .i64 x3)), (5, one (.int .i64 x4))], [(0, ⟨[.int .i64], .ints x5, true, 0, none⟩)], []⟩
noncomputable def l0s  (rec : Int → Int → List Int → Option Res) (k : Int → List Int → Option Res) (x3 x4 : Int) (x5 : List Int) : Option Res :=
 bif decide (x4 < (x5.length : Int)) then (bif decide (0 ≤ x4) && decide (x4 < (x5.length : Int)) then rec (IntKind.i64.wrap (x3 + 1)) (IntKind.i64.wrap (x4 + 1)) (x5.set x4.toNat x3)
  else none)
 else k x3 x5
noncomputable def l0  (k : Int → List Int → Option Res) : Nat → Int → Int → List Int → Option Res
 | 0, _, _, _ => none
 | n + 1, x3, x4, x5 => l0s (fun x3 x4 x5 => l0 k n x3 x4 x5) k x3 x4 x5
noncomputable def o0 (y1 : Int) (y2 : List Int) : St := ⟨mkT 19 [(1, one (.int .i64 y1))], [(0, ⟨[.int .i64], .ints y2, true, 0, none⟩)], []⟩
noncomputable def p0 (K : Res → Option Res) : List Lf → (St → Option Res) → Option Res
 | [.i x3, .i x4, .q (.ints x5)], k => l0 (fun y1 y2 => k (o0 y1 y2)) fuel x3 x4 x5
 | _, _ => none
noncomputable def os : List (FuncId × St × (List Lf → (Res → Option Res) → Option Res)) := []
noncomputable def X (K : Res → Option Res) : Ctx := { Γ := Γ0, orc := orcOf os, io := [], share := [], opn := [], shr := [], bun := [], cut := [], own := [], cin := [(0, ⟨[0, 1, 5], [(0, 0)], [], [], [], []⟩)], cout := [(0, ⟨[1], [(0, 0)], [], [], [], []⟩)], lp := lpOf [(0, s0 0 0 [], p0 K)], kl := Env.kl, nk := true, eqs := eqs0, byt := byt0, fin := finK fi K }
noncomputable def b (a1 : Int) (a2 : List Int) (R : Int → List Int → Option Res) : Option Res :=
 l0 (fun y6 y7 =>
 R y6 y7) fuel a1 0 a2
theorem gx : ∃ x : Int → List Int → (Int → List Int → Option Res) → Option Res, x = b := ⟨_, rfl⟩
noncomputable def g : Int → List Int → (Int → List Int → Option Res) → Option Res := Classical.choose gx
theorem e : g = b := Classical.choose_spec gx
noncomputable def run : List Lf → (Res → Option Res) → Option Res
 | [.i a1, .q (.ints a2)], K => g a1 a2 (fun r1 r2 => K (m r1 r2))
 | _, _ => none
noncomputable def a (a1 : Int) (a2 : List Int) : St := argSt [one (.ow 0), one (.int .i64 a1)] [⟨[.int .i64], .ints a2, true, 0, none⟩] []
noncomputable def con : FuncId × St × (List Lf → (Res → Option Res) → Option Res) := (34, a 0 [], run)
theorem cx (K : Res → Option Res) : CtxOk Go.Proofs.Try.prog Γ0 byt0 eqs0 (X K) os := ⟨rfl, rfl, rfl, (fun p hp => by
 cases hp), rfl, rfl, rfl⟩
theorem t0 (K : Res → Option Res) (k : St → Option Res) (it : St → (St → Option Res) → Option Res) (x3 x4 : Int) (x5 : List Int) : iterS (X K) 0 b0 it (s0 x3 x4 x5) k = l0s (fun x3 x4 x5 => it (s0 x3 x4 x5) k) (fun y1 y2 => k (o0 y1 y2)) x3 x4 x5 := by kernel_rfl
theorem i0 (K : Res → Option Res) (k : St → Option Res)  : ∀ (n : Nat) (x3 x4 : Int) (x5 : List Int), iter (X K) 0 b0 n (s0 x3 x4 x5) k = l0 (fun y1 y2 => k (o0 y1 y2)) n x3 x4 x5
 | 0, _, _, _ => rfl
 | n + 1, x3, x4, x5 => by
  rw [iter_succ, t0, show (fun x3 x4 x5 => iter (X K) 0 b0 n (s0 x3 x4 x5) k) = (fun x3 x4 x5 => l0 (fun y1 y2 => k (o0 y1 y2)) n x3 x4 x5) from funext fun x3 => funext fun x4 => funext fun x5 => i0 K k n x3 x4 x5]; rfl
theorem v0 {K : Res → Option Res} {l : List Lf} {k : St → Option Res} {r : Res} (h : p0 K l k = some r) : ∃ x3 x4 x5, l = [.i x3, .i x4, .q (.ints x5)] ∧ l0 (fun y1 y2 => k (o0 y1 y2)) fuel x3 x4 x5 = some r := by
 unfold p0 at h; split at h
 ·exact ⟨_, _, _, rfl, h⟩
 ·cases h
theorem w0 (K : Res → Option Res) : LpSound Go.Proofs.Try.prog (X K) 0 b0 := lp_ok ((cx K).ok laid) (by rw [show loopsOf b0 = [] from by kernel_rfl]; intro p hp; cases hp) rfl fun p hp hid => by
 rcases List.mem_cons.1 hp with rfl | hp
 ·intro st k r h1 h2; obtain ⟨x3, x4, x5, e, h⟩ := v0 (K := K) h2; have := St.like_eq (y := s0 x3 x4 x5) h1 (by kernel_rfl) e; subst this; exact ⟨fuel, (i0 K k fuel x3 x4 x5).trans h⟩
 cases hp
theorem tie (K : Res → Option Res) (a1 : Int) (a2 : List Int) : exec (X K) c (entry 19 [one (.ow 0), one (.int .i64 a1)] [⟨[.int .i64], .ints a2, true, 0, none⟩] []) (endK (X K)) = g a1 a2 (fun r1 r2 => K (m r1 r2)) := Eq.trans (b := b a1 a2 (fun r1 r2 => K (m r1 r2))) (by kernel_rfl) (by rw [e])
theorem runv {l : List Lf} {K : Res → Option Res} {r : Res} (h : run l K = some r) : ∃ a1 a2, l = [.i a1, .q (.ints a2)] ∧ g a1 a2 (fun r1 r2 => K (m r1 r2)) = some r := by
 unfold run at h; split at h
 ·exact ⟨_, _, rfl, h⟩
 ·cases h
theorem ok : Con Go.Proofs.Try.prog con := con_of (fn := Go.Proofs.Try.f34) (c := c) (Fi := fi) (X := X) (fun_of laid (by kernel_rfl) (by kernel_rfl) (by kernel_rfl) rfl (by kernel_rfl) (by kernel_rfl) cx (fun _ => rfl) (fun _ => rfl) (fun K => by
 rw [show loopsOf c = [(0, b0)] from by kernel_rfl]; intro p hp
 rcases List.mem_cons.1 hp with rfl | hp
 ·exact w0 K
 cases hp)) fun xs rows boxes K r hl hr => by
 obtain ⟨a1, a2, e, h⟩ := runv hr
 have := St.like_eq (y := a a1 a2) hl (by kernel_rfl) e
 obtain ⟨rfl, rfl, rfl⟩ := argSt_inj this
 exact (tie K a1 a2).trans h
end laws_markIntS
namespace laws_markInstrS
noncomputable def c : Code := bodyOf Go.Proofs.Try.f13
noncomputable def fi : Fin := ⟨Γ0, [(.tmp 4, 3)], [[1]], [true], [], []⟩
noncomputable def m (r1 : Int) (r2 : List (List Cl)) : Res := ⟨[⟨false, [.int .i64 r1]⟩], [some ⟨[.int .i64, .int .i64, .int .i64, .int .i64, .int .i64, .ints .i64], .cells r2, true, 0, none⟩], [], [], []⟩
noncomputable def b0 : Code := codeAt c [1, 0, 1, 0, 0]
noncomputable def s0 (x3 x4 : Int) (x5 : List (List Cl)) : St := ⟨mkT 58 [(0, one (.ow 0)), (1, one (.int .i64 x3)), (5, one (.int .i64 x4))], [(0, ⟨[.int .i64, .int .i64, .int .i64, .int .i64, .int .i64, .ints .i64], .cells x5, true, 0, none⟩)], []⟩
noncomputable def l0s  (rec : Int → Int → List (List Cl) → Option Res) (k : Int → List (List Cl) → Option Res) (x3 x4 : Int) (x5 : List (List Cl)) : Option Res :=
 bif decide (x4 < (x5.length : Int)) then (bif decide (0 ≤ x4) && decide (x4 < (x5.length : Int)) then (bif decide (0 ≤ x4) && decide (x4 < ((x5.set x4.toNat (splice (x5.getD x4.toNat []) 0 [.i x3])).length : Int)) then (bif decide (0 ≤ x4) && decide (x4 < (((x5.set x4.toNat (splice (x5.getD x4.toNat []) 0 [.i x3])).set x4.toNat (splice ((x5.set x4.toNat (splice (x5.getD x4.toNat []) 0 [.i x3])).getD x4.toNat []) 1 [.i (IntKind.i64.wrap (x3 + 1))])).length : Int)) then (bif decide (0 ≤ x4) && decide (x4 < ((((x5.set x4.toNat (splice (x5.getD x4.toNat []) 0 [.i x3])).set x4.toNat (splice ((x5.set x4.toNat (splice (x5.getD x4.toNat []) 0 [.i x3])).getD x4.toNat []) 1 [.i (IntKind.i64.wrap (x3 + 1))])).set x4.toNat (splice (((x5.set x4.toNat (splice (x5.getD x4.toNat []) 0 [.i x3])).set x4.toNat (splice ((x5.set x4.toNat (splice (x5.getD x4.toNat []) 0 [.i x3])).getD x4.toNat []) 1 [.i (IntKind.i64.wrap (x3 + 1))])).getD x4.toNat []) 2 [.i (IntKind.i64.wrap ((IntKind.i64.wrap (x3 + 1)) + 1))])).length : Int)) then (bif decide (0 ≤ x4) && decide (x4 < (((((x5.set x4.toNat (splice (x5.getD x4.toNat []) 0 [.i x3])).set x4.toNat (splice ((x5.set x4.toNat (splice (x5.getD x4.toNat []) 0 [.i x3])).getD x4.toNat []) 1 [.i (IntKind.i64.wrap (x3 + 1))])).set x4.toNat (splice (((x5.set x4.toNat (splice (x5.getD x4.toNat []) 0 [.i x3])).set x4.toNat (splice ((x5.set x4.toNat (splice (x5.getD x4.toNat []) 0 [.i x3])).getD x4.toNat []) 1 [.i (IntKind.i64.wrap (x3 + 1))])).getD x4.toNat []) 2 [.i (IntKind.i64.wrap ((IntKind.i64.wrap (x3 + 1)) + 1))])).set x4.toNat (splice ((((x5.set x4.toNat (splice (x5.getD x4.toNat []) 0 [.i x3])).set x4.toNat (splice ((x5.set x4.toNat (splice (x5.getD x4.toNat []) 0 [.i x3])).getD x4.toNat []) 1 [.i (IntKind.i64.wrap (x3 + 1))])).set x4.toNat (splice (((x5.set x4.toNat (splice (x5.getD x4.toNat []) 0 [.i x3])).set x4.toNat (splice ((x5.set x4.toNat (splice (x5.getD x4.toNat []) 0 [.i x3])).getD x4.toNat []) 1 [.i (IntKind.i64.wrap (x3 + 1))])).getD x4.toNat []) 2 [.i (IntKind.i64.wrap ((IntKind.i64.wrap (x3 + 1)) + 1))])).getD x4.toNat []) 3 [.i (IntKind.i64.wrap ((IntKind.i64.wrap ((IntKind.i64.wrap (x3 + 1)) + 1)) + 1))])).length : Int)) then (bif decide (0 ≤ x4) && decide (x4 < ((((((x5.set x4.toNat (splice (x5.getD x4.toNat []) 0 [.i x3])).set x4.toNat (splice ((x5.set x4.toNat (splice (x5.getD x4.toNat []) 0 [.i x3])).getD x4.toNat []) 1 [.i (IntKind.i64.wrap (x3 + 1))])).set x4.toNat (splice (((x5.set x4.toNat (splice (x5.getD x4.toNat []) 0 [.i x3])).set x4.toNat (splice ((x5.set x4.toNat (splice (x5.getD x4.toNat []) 0 [.i x3])).getD x4.toNat []) 1 [.i (IntKind.i64.wrap (x3 + 1))])).getD x4.toNat []) 2 [.i (IntKind.i64.wrap ((IntKind.i64.wrap (x3 + 1)) + 1))])).set x4.toNat (splice ((((x5.set x4.toNat (splice (x5.getD x4.toNat []) 0 [.i x3])).set x4.toNat (splice ((x5.set x4.toNat (splice (x5.getD x4.toNat []) 0 [.i x3])).getD x4.toNat []) 1 [.i (IntKind.i64.wrap (x3 + 1))])).set x4.toNat (splice (((x5.set x4.toNat (splice (x5.getD x4.toNat []) 0 [.i x3])).set x4.toNat (splice ((x5.set x4.toNat (splice (x5.getD x4.toNat []) 0 [.i x3])).getD x4.toNat []) 1 [.i (IntKind.i64.wrap (x3 + 1))])).getD x4.toNat []) 2 [.i (IntKind.i64.wrap ((IntKind.i64.wrap (x3 + 1)) + 1))])).getD x4.toNat []) 3 [.i (IntKind.i64.wrap ((IntKind.i64.wrap ((IntKind.i64.wrap (x3 + 1)) + 1)) + 1))])).set x4.toNat (splice (((((x5.set x4.toNat (splice (x5.getD x4.toNat []) 0 [.i x3])).set x4.toNat (splice ((x5.set x4.toNat (splice (x5.getD x4.toNat []) 0 [.i x3])).getD x4.toNat []) 1 [.i (IntKind.i64.wrap (x3 + 1))])).set x4.toNat (splice (((x5.set x4.toNat (splice (x5.getD x4.toNat []) 0 [.i x3])).set x4.toNat (splice ((x5.set x4.toNat (splice (x5.getD x4.toNat []) 0 [.i x3])).getD x4.toNat []) 1 [.i (IntKind.i64.wrap (x3 + 1))])).getD x4.toNat []) 2 [.i (IntKind.i64.wrap ((IntKind.i64.wrap (x3 + 1)) + 1))])).set x4.toNat (splice ((((x5.set x4.toNat (splice (x5.getD x4.toNat []) 0 [.i x3])).set x4.toNat (splice ((x5.set x4.toNat (splice (x5.getD x4.toNat []) 0 [.i x3])).getD x4.toNat []) 1 [.i (IntKind.i64.wrap (x3 + 1))])).set x4.toNat (splice (((x5.set x4.toNat (splice (x5.getD x4.toNat []) 0 [.i x3])).set x4.toNat (splice ((x5.set x4.toNat (splice (x5.getD x4.toNat []) 0 [.i x3])).getD x4.toNat []) 1 [.i (IntKind.i64.wrap (x3 + 1))])).getD x4.toNat []) 2 [.i (IntKind.i64.wrap ((IntKind.i64.wrap (x3 + 1)) + 1))])).getD x4.toNat []) 3 [.i (IntKind.i64.wrap ((IntKind.i64.wrap ((IntKind.i64.wrap (x3 + 1)) + 1)) + 1))])).getD x4.toNat []) 4 [.i (IntKind.i64.wrap ((IntKind.i64.wrap ((IntKind.i64.wrap ((IntKind.i64.wrap (x3 + 1)) + 1)) + 1)) + 1))])).length : Int)) then (bif decide (0 ≤ x4) && decide (x4 < ((((((x5.set x4.toNat (splice (x5.getD x4.toNat []) 0 [.i x3])).set x4.toNat (splice ((x5.set x4.toNat (splice (x5.getD x4.toNat []) 0 [.i x3])).getD x4.toNat []) 1 [.i (IntKind.i64.wrap (x3 + 1))])).set x4.toNat (splice (((x5.set x4.toNat (splice (x5.getD x4.toNat []) 0 [.i x3])).set x4.toNat (splice ((x5.set x4.toNat (splice (x5.getD x4.toNat []) 0 [.i x3])).getD x4.toNat []) 1 [.i (IntKind.i64.wrap (x3 + 1))])).getD x4.toNat []) 2 [.i (IntKind.i64.wrap ((IntKind.i64.wrap (x3 + 1)) + 1))])).set x4.toNat (splice ((((x5.set x4.toNat (splice (x5.getD x4.toNat []) 0 [.i x3])).set x4.toNat (splice ((x5.set x4.toNat (splice (x5.getD x4.toNat []) 0 [.i x3])).getD x4.toNat []) 1 [.i (IntKind.i64.wrap (x3 + 1))])).set x4.toNat (splice (((x5.set x4.toNat (splice (x5.getD x4.toNat []) 0 [.i x3])).set x4.toNat (splice ((x5.set x4.toNat (splice (x5.getD x4.toNat []) 0 [.i x3])).getD x4.toNat []) 1 [.i (IntKind.i64.wrap (x3 + 1))])).getD x4.toNat []) 2 [.i (IntKind.i64.wrap ((IntKind.i64.wrap (x3 + 1)) + 1))])).getD x4.toNat []) 3 [.i (IntKind.i64.wrap ((IntKind.i64.wrap ((IntKind.i64.wrap (x3 + 1)) + 1)) + 1))])).set x4.toNat (splice (((((x5.set x4.toNat (splice (x5.getD x4.toNat []) 0 [.i x3])).set x4.toNat (splice ((x5.set x4.toNat (splice (x5.getD x4.toNat []) 0 [.i x3])).getD x4.toNat []) 1 [.i (IntKind.i64.wrap (x3 + 1))])).set x4.toNat (splice (((x5.set x4.toNat (splice (x5.getD x4.toNat []) 0 [.i x3])).set x4.toNat (splice ((x5.set x4.toNat (splice (x5.getD x4.toNat []) 0 [.i x3])).getD x4.toNat []) 1 [.i (IntKind.i64.wrap (x3 + 1))])).getD x4.toNat []) 2 [.i (IntKind.i64.wrap ((IntKind.i64.wrap (x3 + 1)) + 1))])).set x4.toNat (splice ((((x5.set x4.toNat (splice (x5.getD x4.toNat []) 0 [.i x3])).set x4.toNat (splice ((x5.set x4.toNat (splice (x5.getD x4.toNat []) 0 [.i x3])).getD x4.toNat []) 1 [.i (IntKind.i64.wrap (x3 + 1))])).set x4.toNat (splice (((x5.set x4.toNat (splice (x5.getD x4.toNat []) 0 [.i x3])).set x4.toNat (splice ((x5.set x4.toNat (splice (x5.getD x4.toNat []) 0 [.i x3])).getD x4.toNat []) 1 [.i (IntKind.i64.wrap (x3 + 1))])).getD x4.toNat []) 2 [.i (IntKind.i64.wrap ((IntKind.i64.wrap (x3 + 1)) + 1))])).getD x4.toNat []) 3 [.i (IntKind.i64.wrap ((IntKind.i64.wrap ((IntKind.i64.wrap (x3 + 1)) + 1)) + 1))])).getD x4.toNat []) 4 [.i (IntKind.i64.wrap ((IntKind.i64.wrap ((IntKind.i64.wrap ((IntKind.i64.wrap (x3 + 1)) + 1)) + 1)) + 1))])).length : Int)) then (bif decide (x4.toNat = x4.toNat) then (laws_markIntS.g (IntKind.i64.wrap ((IntKind.i64.wrap ((IntKind.i64.wrap ((IntKind.i64.wrap ((IntKind.i64.wrap (x3 + 1)) + 1)) + 1)) + 1)) + 1)) ((((((((x5.set x4.toNat (splice (x5.getD x4.toNat []) 0 [.i x3])).set x4.toNat (splice ((x5.set x4.toNat (splice (x5.getD x4.toNat []) 0 [.i x3])).getD x4.toNat []) 1 [.i (IntKind.i64.wrap (x3 + 1))])).set x4.toNat (splice (((x5.set x4.toNat (splice (x5.getD x4.toNat []) 0 [.i x3])).set x4.toNat (splice ((x5.set x4.toNat (splice (x5.getD x4.toNat []) 0 [.i x3])).getD x4.toNat []) 1 [.i (IntKind.i64.wrap (x3 + 1))])).getD x4.toNat []) 2 [.i (IntKind.i64.wrap ((IntKind.i64.wrap (x3 + 1)) + 1))])).set x4.toNat (splice ((((x5.set x4.toNat (splice (x5.getD x4.toNat []) 0 [.i x3])).set x4.toNat (splice ((x5.set x4.toNat (splice (x5.getD x4.toNat []) 0 [.i x3])).getD x4.toNat []) 1 [.i (IntKind.i64.wrap (x3 + 1))])).set x4.toNat (splice (((x5.set x4.toNat (splice (x5.getD x4.toNat []) 0 [.i x3])).set x4.toNat (splice ((x5.set x4.toNat (splice (x5.getD x4.toNat []) 0 [.i x3])).getD x4.toNat []) 1 [.i (IntKind.i64.wrap (x3 + 1))])).getD x4.toNat []) 2 [.i (IntKind.i64.wrap ((IntKind.i64.wrap (x3 + 1)) + 1))])).getD x4.toNat []) 3 [.i (IntKind.i64.wrap ((IntKind.i64.wrap ((IntKind.i64.wrap (x3 + 1)) + 1)) + 1))])).set x4.toNat (splice (((((x5.set x4.toNat (splice (x5.getD x4.toNat []) 0 [.i x3])).set x4.toNat (splice ((x5.set x4.toNat (splice (x5.getD x4.toNat []) 0 [.i x3])).getD x4.toNat []) 1 [.i (IntKind.i64.wrap (x3 + 1))])).set x4.toNat (splice (((x5.set x4.toNat (splice (x5.getD x4.toNat []) 0 [.i x3])).set x4.toNat (splice ((x5.set x4.toNat (splice (x5.getD x4.toNat []) 0 [.i x3])).getD x4.toNat []) 1 [.i (IntKind.i64.wrap (x3 + 1))])).getD x4.toNat []) 2 [.i (IntKind.i64.wrap ((IntKind.i64.wrap (x3 + 1)) + 1))])).set x4.toNat (splice ((((x5.set x4.toNat (splice (x5.getD x4.toNat []) 0 [.i x3])).set x4.toNat (splice ((x5.set x4.toNat (splice (x5.getD x4.toNat []) 0 [.i x3])).getD x4.toNat []) 1 [.i (IntKind.i64.wrap (x3 + 1))])).set x4.toNat (splice (((x5.set x4.toNat (splice (x5.getD x4.toNat []) 0 [.i x3])).set x4.toNat (splice ((x5.set x4.toNat (splice (x5.getD x4.toNat []) 0 [.i x3])).getD x4.toNat []) 1 [.i (IntKind.i64.wrap (x3 + 1))])).getD x4.toNat []) 2 [.i (IntKind.i64.wrap ((IntKind.i64.wrap (x3 + 1)) + 1))])).getD x4.toNat []) 3 [.i (IntKind.i64.wrap ((IntKind.i64.wrap ((IntKind.i64.wrap (x3 + 1)) + 1)) + 1))])).getD x4.toNat []) 4 [.i (IntKind.i64.wrap ((IntKind.i64.wrap ((IntKind.i64.wrap ((IntKind.i64.wrap (x3 + 1)) + 1)) + 1)) + 1))])).getD x4.toNat []).getD 5 (.i 0)).toL) fun r6 r7 =>
  rec r6 (IntKind.i64.wrap (x4 + 1)) ((((((x5.set x4.toNat (splice (x5.getD x4.toNat []) 0 [.i x3])).set x4.toNat (splice ((x5.set x4.toNat (splice (x5.getD x4.toNat []) 0 [.i x3])).getD x4.toNat []) 1 [.i (IntKind.i64.wrap (x3 + 1))])).set x4.toNat (splice (((x5.set x4.toNat (splice (x5.getD x4.toNat []) 0 [.i x3])).set x4.toNat (splice ((x5.set x4.toNat (splice (x5.getD x4.toNat []) 0 [.i x3])).getD x4.toNat []) 1 [.i (IntKind.i64.wrap (x3 + 1))])).getD x4.toNat []) 2 [.i (IntKind.i64.wrap ((IntKind.i64.wrap (x3 + 1)) + 1))])).set x4.toNat (splice ((((x5.set x4.toNat (splice (x5.getD x4.toNat []) 0 [.i x3])).set x4.toNat (splice ((x5.set x4.toNat (splice (x5.getD x4.toNat []) 0 [.i x3])).getD x4.toNat []) 1 [.i (IntKind.i64.wrap (x3 + 1))])).set x4.toNat (splice (((x5.set x4.toNat (splice (x5.getD x4.toNat []) 0 [.i x3])).set x4.toNat (splice ((x5.set x4.toNat (splice (x5.getD x4.toNat []) 0 [.i x3])).getD x4.toNat []) 1 [.i (IntKind.i64.wrap (x3 + 1))])).getD x4.toNat []) 2 [.i (IntKind.i64.wrap ((IntKind.i64.wrap (x3 + 1)) + 1))])).getD x4.toNat []) 3 [.i (IntKind.i64.wrap ((IntKind.i64.wrap ((IntKind.i64.wrap (x3 + 1)) + 1)) + 1))])).set x4.toNat (splice (((((x5.set x4.toNat (splice (x5.getD x4.toNat []) 0 [.i x3])).set x4.toNat (splice ((x5.set x4.toNat (splice (x5.getD x4.toNat []) 0 [.i x3])).getD x4.toNat []) 1 [.i (IntKind.i64.wrap (x3 + 1))])).set x4.toNat (splice (((x5.set x4.toNat (splice (x5.getD x4.toNat []) 0 [.i x3])).set x4.toNat (splice ((x5.set x4.toNat (splice (x5.getD x4.toNat []) 0 [.i x3])).getD x4.toNat []) 1 [.i (IntKind.i64.wrap (x3 + 1))])).getD x4.toNat []) 2 [.i (IntKind.i64.wrap ((IntKind.i64.wrap (x3 + 1)) + 1))])).set x4.toNat (splice ((((x5.set x4.toNat (splice (x5.getD x4.toNat []) 0 [.i x3])).set x4.toNat (splice ((x5.set x4.toNat (splice (x5.getD x4.toNat []) 0 [.i x3])).getD x4.toNat []) 1 [.i (IntKind.i64.wrap (x3 + 1))])).set x4.toNat (splice (((x5.set x4.toNat (splice (x5.getD x4.toNat []) 0 [.i x3])).set x4.toNat (splice ((x5.set x4.toNat (splice (x5.getD x4.toNat []) 0 [.i x3])).getD x4.toNat []) 1 [.i (IntKind.i64.wrap (x3 + 1))])).getD x4.toNat []) 2 [.i (IntKind.i64.wrap ((IntKind.i64.wrap (x3 + 1)) + 1))])).getD x4.toNat []) 3 [.i (IntKind.i64.wrap ((IntKind.i64.wrap ((IntKind.i64.wrap (x3 + 1)) + 1)) + 1))])).getD x4.toNat []) 4 [.i (IntKind.i64.wrap ((IntKind.i64.wrap ((IntKind.i64.wrap ((IntKind.i64.wrap (x3 + 1)) + 1)) + 1)) + 1))])).set x4.toNat (splice ((((((x5.set x4.toNat (splice (x5.getD x4.toNat []) 0 [.i x3])).set x4.toNat (splice ((x5.set x4.toNat (splice (x5.getD x4.toNat []) 0 [.i x3])).getD x4.toNat []) 1 [.i (IntKind.i64.wrap (x3 + 1))])).set x4.toNat (splice (((x5.set x4.toNat (splice (x5.getD x4.toNat []) 0 [.i x3])).set x4.toNat (splice ((x5.set x4.toNat (splice (x5.getD x4.toNat []) 0 [.i x3])).getD x4.toNat []) 1 [.i (IntKind.i64.wrap (x3 + 1))])).getD x4.toNat []) 2 [.i (IntKind.i64.wrap ((IntKind.i64.wrap (x3 + 1)) + 1))])).set x4.toNat (splice ((((x5.set x4.toNat (splice (x5.getD x4.toNat []) 0 [.i x3])).set x4.toNat (splice ((x5.set x4.toNat (splice (x5.getD x4.toNat []) 0 [.i x3])).getD x4.toNat []) 1 [.i (IntKind.i64.wrap (x3 + 1))])).set x4.toNat (splice (((x5.set x4.toNat (splice (x5.getD x4.toNat []) 0 [.i x3])).set x4.toNat (splice ((x5.set x4.toNat (splice (x5.getD x4.toNat []) 0 [.i x3])).getD x4.toNat []) 1 [.i (IntKind.i64.wrap (x3 + 1))])).getD x4.toNat []) 2 [.i (IntKind.i64.wrap ((IntKind.i64.wrap (x3 + 1)) + 1))])).getD x4.toNat []) 3 [.i (IntKind.i64.wrap ((IntKind.i64.wrap ((IntKind.i64.wrap (x3 + 1)) + 1)) + 1))])).set x4.toNat (splice (((((x5.set x4.toNat (splice (x5.getD x4.toNat []) 0 [.i x3])).set x4.toNat (splice ((x5.set x4.toNat (splice (x5.getD x4.toNat []) 0 [.i x3])).getD x4.toNat []) 1 [.i (IntKind.i64.wrap (x3 + 1))])).set x4.toNat (splice (((x5.set x4.toNat (splice (x5.getD x4.toNat []) 0 [.i x3])).set x4.toNat (splice ((x5.set x4.toNat (splice (x5.getD x4.toNat []) 0 [.i x3])).getD x4.toNat []) 1 [.i (IntKind.i64.wrap (x3 + 1))])).getD x4.toNat []) 2 [.i (IntKind.i64.wrap ((IntKind.i64.wrap (x3 + 1)) + 1))])).set x4.toNat (splice ((((x5.set x4.toNat (splice (x5.getD x4.toNat []) 0 [.i x3])).set x4.toNat (splice ((x5.set x4.toNat (splice (x5.getD x4.toNat []) 0 [.i x3])).getD x4.toNat []) 1 [.i (IntKind.i64.wrap (x3 + 1))])).set x4.toNat (splice (((x5.set x4.toNat (splice (x5.getD x4.toNat []) 0 [.i x3])).set x4.toNat (splice ((x5.set x4.toNat (splice (x5.getD x4.toNat []) 0 [.i x3])).getD x4.toNat []) 1 [.i (IntKind.i64.wrap (x3 + 1))])).getD x4.toNat []) 2 [.i (IntKind.i64.wrap ((IntKind.i64.wrap (x3 + 1)) + 1))])).getD x4.toNat []) 3 [.i (IntKind.i64.wrap ((IntKind.i64.wrap ((IntKind.i64.wrap (x3 + 1)) + 1)) + 1))])).getD x4.toNat []) 4 [.i (IntKind.i64.wrap ((IntKind.i64.wrap ((IntKind.i64.wrap ((IntKind.i64.wrap (x3 + 1)) + 1)) + 1)) + 1))])).getD x4.toNat []) 5 [.l r7])))
  else none)
  else none)
  else none)
  else none)
  else none)
  else none)
  else none)
  else none)
 else k x3 x5
noncomputable def l0  (k : Int → List (List Cl) → Option Res) : Nat → Int → Int → List (List Cl) → Option Res
 | 0, _, _, _ => none
 | n + 1, x3, x4, x5 => l0s (fun x3 x4 x5 => l0 k n x3 x4 x5) k x3 x4 x5
noncomputable def o0 (y1 : Int) (y2 : List (List Cl)) : St := ⟨mkT 58 [(1, one (.int .i64 y1))], [(0, ⟨[.int .i64, .int .i64, .int .i64, .int .i64, .int .i64, .ints .i64], .cells y2, true, 0, none⟩)], []⟩
noncomputable def p0 (K : Res → Option Res) : List Lf → (St → Option Res) → Option Res
 | [.i x3, .i x4, .q (.cells x5)], k => l0 (fun y1 y2 => k (o0 y1 y2)) fuel x3 x4 x5
 | _, _ => none
noncomputable def os : List (FuncId × St × (List Lf → (Res → Option Res) → Option Res)) := [laws_markIntS.con]
noncomputable def X (K : Res → Option Res) : Ctx := { Γ := Γ0, orc := orcOf os, io := [(34, [⟨true, 0, 1⟩, ⟨false, 0, 1⟩])], share := [], opn := [(14, 0, 5, 5)], shr := [], bun := [], cut := [], own := [], cin := [(0, ⟨[0, 1, 5], [(0, 0)], [], [], [], []⟩)], cout := [(0, ⟨[1], [(0, 0)], [], [], [], []⟩)], lp := lpOf [(0, s0 0 0 [], p0 K)], kl := Env.kl, nk := false, eqs := eqs0, byt := byt0, fin := finK fi K }
noncomputable def b (a1 : Int) (a2 : List (List Cl)) (R : Int → List (List Cl) → Option Res) : Option Res :=
 l0 (fun y8 y9 =>
 R y8 y9) fuel a1 0 a2
theorem gx : ∃ x : Int → List (List Cl) → (Int → List (List Cl) → Option Res) → Option Res, x = b := ⟨_, rfl⟩
noncomputable def g : Int → List (List Cl) → (Int → List (List Cl) → Option Res) → Option Res := Classical.choose gx
theorem e : g = b := Classical.choose_spec gx
noncomputable def run : List Lf → (Res → Option Res) → Option Res
 | [.i a1, .q (.cells a2)], K => g a1 a2 (fun r1 r2 => K (m r1 r2))
 | _, _ => none
noncomputable def a (a1 : Int) (a2 : List (List Cl)) : St := argSt [one (.ow 0), one (.int .i64 a1)] [⟨[.int .i64, .int .i64, .int .i64, .int .i64, .int .i64, .ints .i64], .cells a2, true, 0, none⟩] []
noncomputable def con : FuncId × St × (List Lf → (Res → Option Res) → Option Res) := (13, a 0 [], run)
theorem cx (K : Res → Option Res) : CtxOk Go.Proofs.Try.prog Γ0 byt0 eqs0 (X K) os := ⟨rfl, rfl, rfl, (fun p hp => by
 rcases List.mem_cons.1 hp with rfl | hp
 ·exact laws_markIntS.ok
 cases hp), rfl, rfl, rfl⟩
theorem t0 (K : Res → Option Res) (k : St → Option Res) (it : St → (St → Option Res) → Option Res) (x3 x4 : Int) (x5 : List (List Cl)) : iterS (X K) 0 b0 it (s0 x3 x4 x5) k = l0s (fun x3 x4 x5 => it (s0 x3 x4 x5) k) (fun y1 y2 => k (o0 y1 y2)) x3 x4 x5 := by kernel_rfl
theorem i0 (K : Res → Option Res) (k : St → Option Res)  : ∀ (n : Nat) (x3 x4 : Int) (x5 : List (List Cl)), iter (X K) 0 b0 n (s0 x3 x4 x5) k = l0 (fun y1 y2 => k (o0 y1 y2)) n x3 x4 x5
 | 0, _, _, _ => rfl
 | n + 1, x3, x4, x5 => by
  rw [iter_succ, t0, show (fun x3 x4 x5 => iter (X K) 0 b0 n (s0 x3 x4 x5) k) = (fun x3 x4 x5 => l0 (fun y1 y2 => k (o0 y1 y2)) n x3 x4 x5) from funext fun x3 => funext fun x4 => funext fun x5 => i0 K k n x3 x4 x5]; rfl
theorem v0 {K : Res → Option Res} {l : List Lf} {k : St → Option Res} {r : Res} (h : p0 K l k = some r) : ∃ x3 x4 x5, l = [.i x3, .i x4, .q (.cells x5)] ∧ l0 (fun y1 y2 => k (o0 y1 y2)) fuel x3 x4 x5 = some r := by
 unfold p0 at h; split at h
 ·exact ⟨_, _, _, rfl, h⟩
 ·cases h
theorem w0 (K : Res → Option Res) : LpSound Go.Proofs.Try.prog (X K) 0 b0 := lp_ok ((cx K).ok laid) (by rw [show loopsOf b0 = [] from by kernel_rfl]; intro p hp; cases hp) rfl fun p hp hid => by
 rcases List.mem_cons.1 hp with rfl | hp
 ·intro st k r h1 h2; obtain ⟨x3, x4, x5, e, h⟩ := v0 (K := K) h2; have := St.like_eq (y := s0 x3 x4 x5) h1 (by kernel_rfl) e; subst this; exact ⟨fuel, (i0 K k fuel x3 x4 x5).trans h⟩
 cases hp
theorem tie (K : Res → Option Res) (a1 : Int) (a2 : List (List Cl)) : exec (X K) c (entry 58 [one (.ow 0), one (.int .i64 a1)] [⟨[.int .i64, .int .i64, .int .i64, .int .i64, .int .i64, .ints .i64], .cells a2, true, 0, none⟩] []) (endK (X K)) = g a1 a2 (fun r1 r2 => K (m r1 r2)) := Eq.trans (b := b a1 a2 (fun r1 r2 => K (m r1 r2))) (by kernel_rfl) (by rw [e])
theorem runv {l : List Lf} {K : Res → Option Res} {r : Res} (h : run l K = some r) : ∃ a1 a2, l = [.i a1, .q (.cells a2)] ∧ g a1 a2 (fun r1 r2 => K (m r1 r2)) = some r := by
 unfold run at h; split at h
 ·exact ⟨_, _, rfl, h⟩
 ·cases h
theorem ok : Con Go.Proofs.Try.prog con := con_of (fn := Go.Proofs.Try.f13) (c := c) (Fi := fi) (X := X) (fun_of laid (by kernel_rfl) (by kernel_rfl) (by kernel_rfl) rfl (by kernel_rfl) (by kernel_rfl) cx (fun _ => rfl) (fun _ => rfl) (fun K => by
 rw [show loopsOf c = [(0, b0)] from by kernel_rfl]; intro p hp
 rcases List.mem_cons.1 hp with rfl | hp
 ·exact w0 K
 cases hp)) fun xs rows boxes K r hl hr => by
 obtain ⟨a1, a2, e, h⟩ := runv hr
 have := St.like_eq (y := a a1 a2) hl (by kernel_rfl) e
 obtain ⟨rfl, rfl, rfl⟩ := argSt_inj this
 exact (tie K a1 a2).trans h
end laws_markInstrS
namespace laws_heldIntS
noncomputable def c : Code := bodyOf Go.Proofs.Try.f48
noncomputable def fi : Fin := ⟨Γ0, [(.tmp 4, 3)], [[1]], [], [], []⟩
noncomputable def m (r1 : Int) : Res := ⟨[⟨false, [.int .i64 r1]⟩], [], [], [], []⟩
noncomputable def b0 : Code := codeAt c [1, 0, 1, 0, 0]
noncomputable def s0 (x3 : List Int) (x4 x5 : Int) : St := ⟨mkT 21 [(0, one (.tr 0 1 [.int .i64] (.ints x3))), (1, one (.int .i64 x4)), (5, one (.int .i64 x5))], [], []⟩
noncomputable def l0s (x3 : List Int) (rec : Int → Int → Option Res) (k : Int → Option Res) (R : Int → Option Res) (x4 x5 : Int) : Option Res :=
 bif decide (x5 < (x3.length : Int)) then (bif decide (0 ≤ x5) && decide (x5 < (x3.length : Int)) then (bif (x3.getD x5.toNat 0 != x4) then R (-1)
  else rec (IntKind.i64.wrap (x4 + 1)) (IntKind.i64.wrap (x5 + 1)))
  else none)
 else k x4
noncomputable def l0 (x3 : List Int) (k : Int → Option Res) (R : Int → Option Res) : Nat → Int → Int → Option Res
 | 0, _, _ => none
 | n + 1, x4, x5 => l0s x3 (fun x4 x5 => l0 x3 k R n x4 x5) k R x4 x5
noncomputable def o0 (x3 : List Int) (y1 : Int) : St := ⟨mkT 21 [(1, one (.int .i64 y1))], [], []⟩
noncomputable def p0 (K : Res → Option Res) : List Lf → (St → Option Res) → Option Res
 | [.q (.ints x3), .i x4, .i x5], k => l0 x3 (fun y1 => k (o0 x3 y1)) (fun r1 => K (m r1)) fuel x4 x5
 | _, _ => none
noncomputable def os : List (FuncId × St × (List Lf → (Res → Option Res) → Option Res)) := []
noncomputable def X (K : Res → Option Res) : Ctx := { Γ := Γ0, orc := orcOf os, io := [], share := [], opn := [], shr := [], bun := [], cut := [], own := [], cin := [(0, ⟨[0, 1, 5], [], [], [], [], []⟩)], cout := [(0, ⟨[1], [], [], [], [], []⟩)], lp := lpOf [(0, s0 [] 0 0, p0 K)], kl := Env.kl, nk := true, eqs := eqs0, byt := byt0, fin := finK fi K }
noncomputable def b (a1 : List Int) (a2 : Int) (R : Int → Option Res) : Option Res :=
 l0 a1 (fun y6 =>
 R y6) R fuel a2 0
theorem gx : ∃ x : List Int → Int → (Int → Option Res) → Option Res, x = b := ⟨_, rfl⟩
noncomputable def g : List Int → Int → (Int → Option Res) → Option Res := Classical.choose gx
theorem e : g = b := Classical.choose_spec gx
noncomputable def run : List Lf → (Res → Option Res) → Option Res
 | [.q (.ints a1), .i a2], K => g a1 a2 (fun r1 => K (m r1))
 | _, _ => none
noncomputable def a (a1 : List Int) (a2 : Int) : St := argSt [one (.tr 0 1 [.int .i64] (.ints a1)), one (.int .i64 a2)] [] []
noncomputable def con : FuncId × St × (List Lf → (Res → Option Res) → Option Res) := (48, a [] 0, run)
theorem cx (K : Res → Option Res) : CtxOk Go.Proofs.Try.prog Γ0 byt0 eqs0 (X K) os := ⟨rfl, rfl, rfl, (fun p hp => by
 cases hp), rfl, rfl, rfl⟩
theorem t0 (K : Res → Option Res) (k : St → Option Res) (it : St → (St → Option Res) → Option Res) (x3 : List Int) (x4 x5 : Int) : iterS (X K) 0 b0 it (s0 x3 x4 x5) k = l0s x3 (fun x4 x5 => it (s0 x3 x4 x5) k) (fun y1 => k (o0 x3 y1)) (fun r1 => K (m r1)) x4 x5 := by kernel_rfl
theorem i0 (K : Res → Option Res) (k : St → Option Res) (x3 : List Int) : ∀ (n : Nat) (x4 x5 : Int), iter (X K) 0 b0 n (s0 x3 x4 x5) k = l0 x3 (fun y1 => k (o0 x3 y1)) (fun r1 => K (m r1)) n x4 x5
 | 0, _, _ => rfl
 | n + 1, x4, x5 => by
  rw [iter_succ, t0, show (fun x4 x5 => iter (X K) 0 b0 n (s0 x3 x4 x5) k) = (fun x4 x5 => l0 x3 (fun y1 => k (o0 x3 y1)) (fun r1 => K (m r1)) n x4 x5) from funext fun x4 => funext fun x5 => i0 K k x3 n x4 x5]; rfl
theorem v0 {K : Res → Option Res} {l : List Lf} {k : St → Option Res} {r : Res} (h : p0 K l k = some r) : ∃ x3 x4 x5, l = [.q (.ints x3), .i x4, .i x5] ∧ l0 x3 (fun y1 => k (o0 x3 y1)) (fun r1 => K (m r1)) fuel x4 x5 = some r := by
 unfold p0 at h; split at h
 ·exact ⟨_, _, _, rfl, h⟩
 ·cases h
theorem w0 (K : Res → Option Res) : LpSound Go.Proofs.Try.prog (X K) 0 b0 := lp_ok ((cx K).ok laid) (by rw [show loopsOf b0 = [] from by kernel_rfl]; intro p hp; cases hp) rfl fun p hp hid => by
 rcases List.mem_cons.1 hp with rfl | hp
 ·intro st k r h1 h2; obtain ⟨x3, x4, x5, e, h⟩ := v0 (K := K) h2; have := St.like_eq (y := s0 x3 x4 x5) h1 (by kernel_rfl) e; subst this; exact ⟨fuel, (i0 K k x3 fuel x4 x5).trans h⟩
 cases hp
theorem tie (K : Res → Option Res) (a1 : List Int) (a2 : Int) : exec (X K) c (entry 21 [one (.tr 0 1 [.int .i64] (.ints a1)), one (.int .i64 a2)] [] []) (endK (X K)) = g a1 a2 (fun r1 => K (m r1)) := Eq.trans (b := b a1 a2 (fun r1 => K (m r1))) (by kernel_rfl) (by rw [e])
theorem runv {l : List Lf} {K : Res → Option Res} {r : Res} (h : run l K = some r) : ∃ a1 a2, l = [.q (.ints a1), .i a2] ∧ g a1 a2 (fun r1 => K (m r1)) = some r := by
 unfold run at h; split at h
 ·exact ⟨_, _, rfl, h⟩
 ·cases h
theorem ok : Con Go.Proofs.Try.prog con := con_of (fn := Go.Proofs.Try.f48) (c := c) (Fi := fi) (X := X) (fun_of laid (by kernel_rfl) (by kernel_rfl) (by kernel_rfl) rfl (by kernel_rfl) (by kernel_rfl) cx (fun _ => rfl) (fun _ => rfl) (fun K => by
 rw [show loopsOf c = [(0, b0)] from by kernel_rfl]; intro p hp
 rcases List.mem_cons.1 hp with rfl | hp
 ·exact w0 K
 cases hp)) fun xs rows boxes K r hl hr => by
 obtain ⟨a1, a2, e, h⟩ := runv hr
 have := St.like_eq (y := a a1 a2) hl (by kernel_rfl) e
 obtain ⟨rfl, rfl, rfl⟩ := argSt_inj this
 exact (tie K a1 a2).trans h
end laws_heldIntS
namespace laws_heldInstrS
noncomputable def c : Code := bodyOf Go.Proofs.Try.f22
noncomputable def fi : Fin := ⟨Γ0, [(.tmp 4, 3)], [[1]], [], [], []⟩
noncomputable def m (r1 : Int) : Res := ⟨[⟨false, [.int .i64 r1]⟩], [], [], [], []⟩
noncomputable def b0 : Code := codeAt c [1, 0, 1, 0, 0]
noncomputable def s0 (x3 : List (List Cl)) (x4 x5 : Int) : St := ⟨mkT 70 [(0, one (.tr 0 1 [.int .i64, .int .i64, .int .i64, .int .i64, .int .i64, .ints .i64] (.cells x3))), (1, one (.int .i64 x4)), (5, one (.int .i64 x5))], [], []⟩
noncomputable def l0s (x3 : List (List Cl)) (rec : Int → Int → Option Res) (k : Int → Option Res) (R : Int → Option Res) (x4 x5 : Int) : Option Res :=
 bif decide (x5 < (x3.length : Int)) then (bif decide (0 ≤ x5) && decide (x5 < (x3.length : Int)) then (bif (((x3.getD x5.toNat []).getD 0 (.i 0)).toI != x4) then R (-1)
  else bif decide (0 ≤ x5) && decide (x5 < (x3.length : Int)) then (bif (((x3.getD x5.toNat []).getD 1 (.i 0)).toI != IntKind.i64.wrap (x4 + 1)) then R (-1)
   else bif decide (0 ≤ x5) && decide (x5 < (x3.length : Int)) then (bif (((x3.getD x5.toNat []).getD 2 (.i 0)).toI != IntKind.i64.wrap ((IntKind.i64.wrap (x4 + 1)) + 1)) then R (-1)
    else bif decide (0 ≤ x5) && decide (x5 < (x3.length : Int)) then (bif (((x3.getD x5.toNat []).getD 3 (.i 0)).toI != IntKind.i64.wrap ((IntKind.i64.wrap ((IntKind.i64.wrap (x4 + 1)) + 1)) + 1)) then R (-1)
     else bif decide (0 ≤ x5) && decide (x5 < (x3.length : Int)) then (bif (((x3.getD x5.toNat []).getD 4 (.i 0)).toI != IntKind.i64.wrap ((IntKind.i64.wrap ((IntKind.i64.wrap ((IntKind.i64.wrap (x4 + 1)) + 1)) + 1)) + 1)) then R (-1)
      else bif decide (0 ≤ x5) && decide (x5 < (x3.length : Int)) then (laws_heldIntS.g (((x3.getD x5.toNat []).getD 5 (.i 0)).toL) (IntKind.i64.wrap ((IntKind.i64.wrap ((IntKind.i64.wrap ((IntKind.i64.wrap ((IntKind.i64.wrap (x4 + 1)) + 1)) + 1)) + 1)) + 1)) fun r6 =>
       bif decide (r6 < 0) then R (-1)
       else rec r6 (IntKind.i64.wrap (x5 + 1)))
      else none)
     else none)
    else none)
   else none)
  else none)
  else none)
 else k x4
noncomputable def l0 (x3 : List (List Cl)) (k : Int → Option Res) (R : Int → Option Res) : Nat → Int → Int → Option Res
 | 0, _, _ => none
 | n + 1, x4, x5 => l0s x3 (fun x4 x5 => l0 x3 k R n x4 x5) k R x4 x5
noncomputable def o0 (x3 : List (List Cl)) (y1 : Int) : St := ⟨mkT 70 [(1, one (.int .i64 y1))], [], []⟩
noncomputable def p0 (K : Res → Option Res) : List Lf → (St → Option Res) → Option Res
 | [.q (.cells x3), .i x4, .i x5], k => l0 x3 (fun y1 => k (o0 x3 y1)) (fun r1 => K (m r1)) fuel x4 x5
 | _, _ => none
noncomputable def os : List (FuncId × St × (List Lf → (Res → Option Res) → Option Res)) := [laws_heldIntS.con]
noncomputable def X (K : Res → Option Res) : Ctx := { Γ := Γ0, orc := orcOf os, io := [], share := [], opn := [], shr := [], bun := [], cut := [], own := [], cin := [(0, ⟨[0, 1, 5], [], [], [], [], []⟩)], cout := [(0, ⟨[1], [], [], [], [], []⟩)], lp := lpOf [(0, s0 [] 0 0, p0 K)], kl := Env.kl, nk := true, eqs := eqs0, byt := byt0, fin := finK fi K }
noncomputable def b (a1 : List (List Cl)) (a2 : Int) (R : Int → Option Res) : Option Res :=
 l0 a1 (fun y7 =>
 R y7) R fuel a2 0
theorem gx : ∃ x : List (List Cl) → Int → (Int → Option Res) → Option Res, x = b := ⟨_, rfl⟩
noncomputable def g : List (List Cl) → Int → (Int → Option Res) → Option Res := Classical.choose gx
theorem e : g = b := Classical.choose_spec gx
noncomputable def run : List Lf → (Res → Option Res) → Option Res
 | [.q (.cells a1), .i a2], K => g a1 a2 (fun r1 => K (m r1))
 | _, _ => none
noncomputable def a (a1 : List (List Cl)) (a2 : Int) : St := argSt [one (.tr 0 1 [.int .i64, .int .i64, .int .i64, .int .i64, .int .i64, .ints .i64] (.cells a1)), one (.int .i64 a2)] [] []
noncomputable def con : FuncId × St × (List Lf → (Res → Option Res) → Option Res) := (22, a [] 0, run)
theorem cx (K : Res → Option Res) : CtxOk Go.Proofs.Try.prog Γ0 byt0 eqs0 (X K) os := ⟨rfl, rfl, rfl, (fun p hp => by
 rcases List.mem_cons.1 hp with rfl | hp
 ·exact laws_heldIntS.ok
 cases hp), rfl, rfl, rfl⟩
theorem t0 (K : Res → Option Res) (k : St → Option Res) (it : St → (St → Option Res) → Option Res) (x3 : List (List Cl)) (x4 x5 : Int) : iterS (X K) 0 b0 it (s0 x3 x4 x5) k = l0s x3 (fun x4 x5 => it (s0 x3 x4 x5) k) (fun y1 => k (o0 x3 y1)) (fun r1 => K (m r1)) x4 x5 := by kernel_rfl
theorem i0 (K : Res → Option Res) (k : St → Option Res) (x3 : List (List Cl)) : ∀ (n : Nat) (x4 x5 : Int), iter (X K) 0 b0 n (s0 x3 x4 x5) k = l0 x3 (fun y1 => k (o0 x3 y1)) (fun r1 => K (m r1)) n x4 x5
 | 0, _, _ => rfl
 | n + 1, x4, x5 => by
  rw [iter_succ, t0, show (fun x4 x5 => iter (X K) 0 b0 n (s0 x3 x4 x5) k) = (fun x4 x5 => l0 x3 (fun y1 => k (o0 x3 y1)) (fun r1 => K (m r1)) n x4 x5) from funext fun x4 => funext fun x5 => i0 K k x3 n x4 x5]; rfl
theorem v0 {K : Res → Option Res} {l : List Lf} {k : St → Option Res} {r : Res} (h : p0 K l k = some r) : ∃ x3 x4 x5, l = [.q (.cells x3), .i x4, .i x5] ∧ l0 x3 (fun y1 => k (o0 x3 y1)) (fun r1 => K (m r1)) fuel x4 x5 = some r := by
 unfold p0 at h; split at h
 ·exact ⟨_, _, _, rfl, h⟩
 ·cases h
theorem w0 (K : Res → Option Res) : LpSound Go.Proofs.Try.prog (X K) 0 b0 := lp_ok ((cx K).ok laid) (by rw [show loopsOf b0 = [] from by kernel_rfl]; intro p hp; cases hp) rfl fun p hp hid => by
 rcases List.mem_cons.1 hp with rfl | hp
 ·intro st k r h1 h2; obtain ⟨x3, x4, x5, e, h⟩ := v0 (K := K) h2; have := St.like_eq (y := s0 x3 x4 x5) h1 (by kernel_rfl) e; subst this; exact ⟨fuel, (i0 K k x3 fuel x4 x5).trans h⟩
 cases hp
theorem tie (K : Res → Option Res) (a1 : List (List Cl)) (a2 : Int) : exec (X K) c (entry 70 [one (.tr 0 1 [.int .i64, .int .i64, .int .i64, .int .i64, .int .i64, .ints .i64] (.cells a1)), one (.int .i64 a2)] [] []) (endK (X K)) = g a1 a2 (fun r1 => K (m r1)) := Eq.trans (b := b a1 a2 (fun r1 => K (m r1))) (by kernel_rfl) (by rw [e])
theorem runv {l : List Lf} {K : Res → Option Res} {r : Res} (h : run l K = some r) : ∃ a1 a2, l = [.q (.cells a1), .i a2] ∧ g a1 a2 (fun r1 => K (m r1)) = some r := by
 unfold run at h; split at h
 ·exact ⟨_, _, rfl, h⟩
 ·cases h
theorem ok : Con Go.Proofs.Try.prog con := con_of (fn := Go.Proofs.Try.f22) (c := c) (Fi := fi) (X := X) (fun_of laid (by kernel_rfl) (by kernel_rfl) (by kernel_rfl) rfl (by kernel_rfl) (by kernel_rfl) cx (fun _ => rfl) (fun _ => rfl) (fun K => by
 rw [show loopsOf c = [(0, b0)] from by kernel_rfl]; intro p hp
 rcases List.mem_cons.1 hp with rfl | hp
 ·exact w0 K
 cases hp)) fun xs rows boxes K r hl hr => by
 obtain ⟨a1, a2, e, h⟩ := runv hr
 have := St.like_eq (y := a a1 a2) hl (by kernel_rfl) e
 obtain ⟨rfl, rfl, rfl⟩ := argSt_inj this
 exact (tie K a1 a2).trans h
end laws_heldInstrS
namespace laws_FnExactLineCode
noncomputable def c : Code := bodyOf Go.Proofs.Try.f5
noncomputable def fi : Fin := ⟨Γ0, [(.tmp 2, 4)], [[1]], [], [], []⟩
noncomputable def m (r1 : Bool) : Res := ⟨[⟨false, [.bool r1]⟩], [], [], [], []⟩
noncomputable def os : List (FuncId × St × (List Lf → (Res → Option Res) → Option Res)) := [spec_LineCode.con, impl_LineCode.con, laws_eqInstrS.con, laws_markInstrS.con, laws_heldInstrS.con]
noncomputable def X (K : Res → Option Res) : Ctx := { Γ := Γ0, orc := orcOf os, io := [(13, [⟨true, 0, 1⟩, ⟨false, 0, 1⟩])], share := [], opn := [], shr := [], bun := [], cut := [], own := [], cin := [], cout := [], lp := lpOf [], kl := Env.kl, nk := false, eqs := eqs0, byt := byt0, fin := finK fi K }
noncomputable def b (a1 : ByteArray) (R : Bool → Option Res) : Option Res :=
 bif decide (1048576 < (a1.size : Int)) then R true
 else (spec_LineCode.g a1 fun r2 r3 =>
 impl_LineCode.g a1 fun r4 r5 =>
 laws_eqInstrS.g r4 r2 fun r6 =>
 bif !r6 then R false
 else bif (r5 != r3) then R false
 else (laws_markInstrS.g 1 r4 fun r7 r8 =>
 laws_heldInstrS.g r8 1 fun r9 =>
 bif decide (r9 < 0) then R false
 else bif (r9 != r7) then R false
 else (impl_LineCode.g a1 fun r10 r11 =>
 laws_eqInstrS.g r10 r2 fun r12 =>
 bif !r12 then R false
 else bif (r11 != r3) then R false
 else (laws_heldInstrS.g r8 1 fun r13 =>
 bif decide (r13 < 0) then R false
 else bif (r13 != r7) then R false
 else R true))))
theorem gx : ∃ x : ByteArray → (Bool → Option Res) → Option Res, x = b := ⟨_, rfl⟩
noncomputable def g : ByteArray → (Bool → Option Res) → Option Res := Classical.choose gx
theorem e : g = b := Classical.choose_spec gx
noncomputable def run : List Lf → (Res → Option Res) → Option Res
 | [.s a1], K => g a1 (fun r1 => K (m r1))
 | _, _ => none
noncomputable def a (a1 : ByteArray) : St := argSt [one (.str a1)] [] []
noncomputable def con : FuncId × St × (List Lf → (Res → Option Res) → Option Res) := (5, a ByteArray.empty, run)
theorem cx (K : Res → Option Res) : CtxOk Go.Proofs.Try.prog Γ0 byt0 eqs0 (X K) os := ⟨rfl, rfl, rfl, (fun p hp => by
 rcases List.mem_cons.1 hp with rfl | hp
 ·exact spec_LineCode.ok
 rcases List.mem_cons.1 hp with rfl | hp
 ·exact impl_LineCode.ok
 rcases List.mem_cons.1 hp with rfl | hp
 ·exact laws_eqInstrS.ok
 rcases List.mem_cons.1 hp with rfl | hp
 ·exact laws_markInstrS.ok
 rcases List.mem_cons.1 hp with rfl | hp
 ·exact laws_heldInstrS.ok
 cases hp), rfl, rfl, rfl⟩
theorem tie (K : Res → Option Res) (a1 : ByteArray) : exec (X K) c (entry 66 [one (.str a1)] [] []) (endK (X K)) = g a1 (fun r1 => K (m r1)) := Eq.trans (b := b a1 (fun r1 => K (m r1))) (by kernel_rfl) (by rw [e])
theorem runv {l : List Lf} {K : Res → Option Res} {r : Res} (h : run l K = some r) : ∃ a1, l = [.s a1] ∧ g a1 (fun r1 => K (m r1)) = some r := by
 unfold run at h; split at h
 ·exact ⟨_, rfl, h⟩
 ·cases h
theorem ok : Con Go.Proofs.Try.prog con := con_of (fn := Go.Proofs.Try.f5) (c := c) (Fi := fi) (X := X) (fun_of laid (by kernel_rfl) (by kernel_rfl) (by kernel_rfl) rfl (by kernel_rfl) (by kernel_rfl) cx (fun _ => rfl) (fun _ => rfl) (fun K => by
 rw [show loopsOf c = [] from by kernel_rfl]; intro p hp
 cases hp)) fun xs rows boxes K r hl hr => by
 obtain ⟨a1, e, h⟩ := runv hr
 have := St.like_eq (y := a a1) hl (by kernel_rfl) e
 obtain ⟨rfl, rfl, rfl⟩ := argSt_inj this
 exact (tie K a1).trans h
end laws_FnExactLineCode
end Go.Tv.F
