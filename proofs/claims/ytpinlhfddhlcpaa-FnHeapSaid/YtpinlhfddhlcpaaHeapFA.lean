/- The law's functions, printed by a program of ours, each with its contract. They hold without condition. -/
import Derived.Test.YtpinlhfddhlcpaaProg
import Derived.Test.YtpinlhfddhlcpaaTvC
set_option linter.unusedVariables false
set_option linter.unusedSectionVars false
set_option linter.unusedSimpArgs false
set_option linter.unnecessarySimpa false
set_option maxRecDepth 100000
set_option autoImplicit false
namespace Go.Tv.F
open Go Go.Tv
instance envI : Env := envT
noncomputable def Γ0 : List (Nat × TI) := [(3, ⟨false, [.int .i64], []⟩),
 (4, ⟨false, [.bool], []⟩),
 (5, ⟨false, [.int .u8], []⟩),
 (9, ⟨false, [.str], []⟩),
 (24, ⟨false, [.sl [.int .i64, .int .i64, .int .i64, .int .i64, .int .i64, .int .i64, .ints .i64] 72], []⟩),
 (26, ⟨true, [.sl [.int .i64, .int .i64, .int .i64, .int .i64, .int .i64, .int .i64, .ints .i64] 72], [(0, 1, false)]⟩),
 (29, ⟨false, [.sl [.int .i64, .int .i64] 16], []⟩),
 (36, ⟨false, [.sl [.int .u8] 1], []⟩),
 (40, ⟨true, [.int .i64, .int .i64], [(0, 1, false), (1, 1, false)]⟩),
 (41, ⟨false, [.sl [.int .i64] 8], []⟩),
 (42, ⟨false, [.sl [.int .i64, .int .i64, .bool] 24], []⟩),
 (44, ⟨true, [.sl [.int .i64] 8, .int .i64, .sl [.int .i64, .int .i64, .bool] 24], [(0, 1, false), (1, 1, false), (2, 1, false)]⟩),
 (46, ⟨true, [.sl [.int .i64] 8, .sl [.int .i64] 8], [(0, 1, false), (1, 1, false)]⟩),
 (59, ⟨false, [.ptr], []⟩),
 (61, ⟨true, [.sl [.int .i64, .int .i64] 16, .int .i64, .sl [.int .i64, .int .i64, .int .i64, .int .i64, .int .i64, .int .i64, .ints .i64] 72], [(0, 1, false), (1, 1, false), (2, 1, false)]⟩),
 (65, ⟨false, [.ptr], []⟩),
 (67, ⟨true, [.sl [.int .i64, .int .i64] 16, .int .i64, .sl [.int .i64, .int .i64, .int .i64, .int .i64, .int .i64, .int .i64, .ints .i64] 72, .bool], [(0, 1, false), (1, 1, false), (2, 1, false), (3, 1, false)]⟩),
 (72, ⟨false, [.ptr], []⟩),
 (79, ⟨true, [.int .i64, .int .i64, .int .i64], [(0, 1, false), (1, 1, false), (2, 1, false)]⟩),
 (81, ⟨true, [.int .i64, .int .i64, .int .i64, .int .i64, .int .i64, .int .i64, .sl [.int .i64] 8], [(0, 1, false), (1, 1, false), (2, 1, false), (3, 3, true), (6, 1, false)]⟩),
 (90, ⟨true, [.int .i64, .int .i64, .bool], [(0, 1, false), (1, 1, false), (2, 1, false)]⟩),
 (91, ⟨false, [.fn], []⟩),
 (93, ⟨false, [.sl [.bool] 1], []⟩),
 (96, ⟨false, [.fn], []⟩),
 (108, ⟨false, [.fn], []⟩),
 (112, ⟨true, [.sl [.int .u8] 1, .int .i64, .int .i64], [(0, 1, false), (1, 1, false), (2, 1, false)]⟩),
 (116, ⟨false, [.fn], []⟩),
 (120, ⟨false, [.sl [.str] 16], []⟩),
 (131, ⟨false, [.int .u64], []⟩),
 (137, ⟨false, [.sl [.ints .i64] 24], []⟩),
 (145, ⟨false, [.int .i64], []⟩),
 (154, ⟨false, [.int .u64], []⟩),
 (155, ⟨false, [.int .u64], []⟩),
 (159, ⟨false, [.ptr], []⟩)]
noncomputable def byt0 : List TypeId := [36]
noncomputable def eqs0 : List TypeId := [40, 79, 90]
theorem laid : Laid Go.Proofs.Try.prog Γ0 byt0 eqs0 := ⟨by kernel_rfl, by kernel_rfl, by kernel_rfl, by kernel_rfl⟩
namespace laws_big
noncomputable def c : Code := bodyOf Go.Proofs.Try.f15
noncomputable def fi : Fin := ⟨Γ0, [(.tmp 2, 4)], [[1]], [], [], []⟩
noncomputable def m (r1 : Bool) : Res := ⟨[⟨false, [.bool r1]⟩], [], [], [], []⟩
noncomputable def os : List (FuncId × St × (List Lf → (Res → Option Res) → Option Res)) := []
noncomputable def X (K : Res → Option Res) : Ctx := { Γ := Γ0, orc := orcOf os, io := [], share := [], mvl := [], bun := [], cut := [], own := [], cin := [], cout := [], lp := lpOf [], kl := [], nk := true, eqs := eqs0, byt := byt0, fin := finK fi K }
noncomputable def b (a1 : List Int) (R : Bool → Option Res) : Option Res :=
 R (decide (1048576 < (a1.length : Int)))
theorem gx : ∃ x : List Int → (Bool → Option Res) → Option Res, x = b := ⟨_, rfl⟩
noncomputable def g : List Int → (Bool → Option Res) → Option Res := Classical.choose gx
theorem e : g = b := Classical.choose_spec gx
noncomputable def run : List Lf → (Res → Option Res) → Option Res
 | [.q (.ints a1)], K => g a1 (fun r1 => K (m r1))
 | _, _ => none
noncomputable def a (a1 : List Int) : St := argSt [one (.tr 0 1 [.int .u8] (.ints a1))] [] []
noncomputable def con : FuncId × St × (List Lf → (Res → Option Res) → Option Res) := (15, a [], run)
theorem cx (K : Res → Option Res) : CtxOk Go.Proofs.Try.prog Γ0 byt0 eqs0 (X K) os := ⟨rfl, rfl, rfl, (fun p hp => by
 cases hp), rfl, rfl, rfl, rfl⟩
theorem tie (K : Res → Option Res) (a1 : List Int) : exec (X K) c (entry 6 [one (.tr 0 1 [.int .u8] (.ints a1))] [] []) (endK (X K)) = g a1 (fun r1 => K (m r1)) := Eq.trans (b := b a1 (fun r1 => K (m r1))) (by kernel_rfl) (by rw [e])
theorem runv {l : List Lf} {K : Res → Option Res} {r : Res} (h : run l K = some r) : ∃ a1, l = [.q (.ints a1)] ∧ g a1 (fun r1 => K (m r1)) = some r := by
 unfold run at h; split at h
 ·exact ⟨_, rfl, h⟩
 ·cases h
theorem ok : Con Go.Proofs.Try.prog con := con_of (fn := Go.Proofs.Try.f15) (c := c) (Fi := fi) (X := X) (fun_of laid (by kernel_rfl) (by kernel_rfl) (by kernel_rfl) rfl (by kernel_rfl) (by kernel_rfl) cx (fun _ => rfl) (fun _ => rfl) (fun K => by
 rw [show loopsOf c = [] from by kernel_rfl]; intro p hp
 cases hp)) fun xs rows boxes K r hl hr => by
 obtain ⟨a1, e, h⟩ := runv hr
 have := St.like_eq (y := a a1) hl (by kernel_rfl) e
 obtain ⟨rfl, rfl, rfl⟩ := argSt_inj this
 exact (tie K a1).trans h
end laws_big
namespace spec_l1New
noncomputable def c : Code := bodyOf Go.Proofs.Try.f37
noncomputable def fi : Fin := ⟨Γ0, [(.tmp 2, 72)], [[1]], [], [], [(2, [.sl [.int .u8] 1, .int .i64, .int .i64], [0, 1, 1])]⟩
noncomputable def m (r1 : List Int) (r2 r3 : Int) : Res := ⟨[⟨false, [.bp 1000 0]⟩], [], [], [], [[.tr 2 2 [.int .u8] (.ints r1), .int .i64 r2, .int .i64 r3]]⟩
noncomputable def b0 : Code := codeAt c [1, 1, 0, 1, 0, 0]
noncomputable def s0 (x2 : List Int) (x3 x4 : Int) : St := ⟨mkT 32 [(0, one (.tr 2 1 [.int .u8] (.ints x2))), (3, one (.int .i64 x3)), (4, one (.int .i64 x4))], [], []⟩
noncomputable def l0s (x2 : List Int) (rec : Int → Int → Option Res) (k : Int → Option Res) (x3 x4 : Int) : Option Res :=
 bif decide (x4 < (x2.length : Int)) then (bif decide (x4 < 4000) then (bif decide (0 ≤ x4) && decide (x4 < (x2.length : Int)) then rec (arith.bits .and .i64 (IntKind.i64.wrap ((IntKind.i64.wrap ((IntKind.i64.wrap (x3 * 131)) + (IntKind.i64.wrap (x2.getD x4.toNat 0)))) + 7)) 1073741823) (IntKind.i64.wrap (x4 + 1))
  else none)
  else k x3)
 else k x3
noncomputable def l0 (x2 : List Int) (k : Int → Option Res) : Nat → Int → Int → Option Res
 | 0, _, _ => none
 | n + 1, x3, x4 => l0s x2 (fun x3 x4 => l0 x2 k n x3 x4) k x3 x4
noncomputable def o0 (x2 : List Int) (y2 : Int) : St := ⟨mkT 32 [(0, one (.tr 2 1 [.int .u8] (.ints x2))), (3, one (.int .i64 y2))], [], []⟩
noncomputable def p0 (K : Res → Option Res) : List Lf → (St → Option Res) → Option Res
 | [.q (.ints x2), .i x3, .i x4], k => l0 x2 (fun y2 => k (o0 x2 y2)) fuel x3 x4
 | _, _ => none
noncomputable def os : List (FuncId × St × (List Lf → (Res → Option Res) → Option Res)) := []
noncomputable def X (K : Res → Option Res) : Ctx := { Γ := Γ0, orc := orcOf os, io := [], share := [], mvl := [], bun := [], cut := [], own := [], cin := [(0, ⟨[0, 3, 4], [], [], [], [], []⟩)], cout := [(0, ⟨[0, 3], [], [], [], [], []⟩)], lp := lpOf [(0, s0 [] 0 0, p0 K)], kl := [], nk := true, eqs := eqs0, byt := byt0, fin := finK fi K }
noncomputable def b (a1 : List Int) (R : List Int → Int → Int → Option Res) : Option Res :=
 l0 a1 (fun y5 =>
 R a1 0 y5) fuel (IntKind.i64.wrap (18218 + (a1.length : Int))) 0
theorem gx : ∃ x : List Int → (List Int → Int → Int → Option Res) → Option Res, x = b := ⟨_, rfl⟩
noncomputable def g : List Int → (List Int → Int → Int → Option Res) → Option Res := Classical.choose gx
theorem e : g = b := Classical.choose_spec gx
noncomputable def run : List Lf → (Res → Option Res) → Option Res
 | [.q (.ints a1)], K => g a1 (fun r1 r2 r3 => K (m r1 r2 r3))
 | _, _ => none
noncomputable def a (a1 : List Int) : St := argSt [one (.tr 2 1 [.int .u8] (.ints a1))] [] []
noncomputable def con : FuncId × St × (List Lf → (Res → Option Res) → Option Res) := (37, a [], run)
theorem cx (K : Res → Option Res) : CtxOk Go.Proofs.Try.prog Γ0 byt0 eqs0 (X K) os := ⟨rfl, rfl, rfl, (fun p hp => by
 cases hp), rfl, rfl, rfl, rfl⟩
theorem t0 (K : Res → Option Res) (k : St → Option Res) (it : St → (St → Option Res) → Option Res) (x2 : List Int) (x3 x4 : Int) : iterS (X K) 0 b0 it (s0 x2 x3 x4) k = l0s x2 (fun x3 x4 => it (s0 x2 x3 x4) k) (fun y2 => k (o0 x2 y2)) x3 x4 := by kernel_rfl
theorem i0 (K : Res → Option Res) (k : St → Option Res) (x2 : List Int) : ∀ (n : Nat) (x3 x4 : Int), iter (X K) 0 b0 n (s0 x2 x3 x4) k = l0 x2 (fun y2 => k (o0 x2 y2)) n x3 x4
 | 0, _, _ => rfl
 | n + 1, x3, x4 => by
  rw [iter_succ, t0, show (fun x3 x4 => iter (X K) 0 b0 n (s0 x2 x3 x4) k) = (fun x3 x4 => l0 x2 (fun y2 => k (o0 x2 y2)) n x3 x4) from funext fun x3 => funext fun x4 => i0 K k x2 n x3 x4]; rfl
theorem v0 {K : Res → Option Res} {l : List Lf} {k : St → Option Res} {r : Res} (h : p0 K l k = some r) : ∃ x2 x3 x4, l = [.q (.ints x2), .i x3, .i x4] ∧ l0 x2 (fun y2 => k (o0 x2 y2)) fuel x3 x4 = some r := by
 unfold p0 at h; split at h
 ·exact ⟨_, _, _, rfl, h⟩
 ·cases h
theorem w0 (K : Res → Option Res) : LpSound Go.Proofs.Try.prog (X K) 0 b0 := lp_ok ((cx K).ok laid) (by rw [show loopsOf b0 = [] from by kernel_rfl]; intro p hp; cases hp) rfl fun p hp hid => by
 rcases List.mem_cons.1 hp with rfl | hp
 ·intro st k r h1 h2; obtain ⟨x2, x3, x4, e, h⟩ := v0 (K := K) h2; have := St.like_eq (y := s0 x2 x3 x4) h1 (by kernel_rfl) e; subst this; exact ⟨fuel, (i0 K k x2 fuel x3 x4).trans h⟩
 cases hp
theorem tie (K : Res → Option Res) (a1 : List Int) : exec (X K) c (entry 32 [one (.tr 2 1 [.int .u8] (.ints a1))] [] []) (endK (X K)) = g a1 (fun r1 r2 r3 => K (m r1 r2 r3)) := Eq.trans (b := b a1 (fun r1 r2 r3 => K (m r1 r2 r3))) (by kernel_rfl) (by rw [e])
theorem runv {l : List Lf} {K : Res → Option Res} {r : Res} (h : run l K = some r) : ∃ a1, l = [.q (.ints a1)] ∧ g a1 (fun r1 r2 r3 => K (m r1 r2 r3)) = some r := by
 unfold run at h; split at h
 ·exact ⟨_, rfl, h⟩
 ·cases h
theorem ok : Con Go.Proofs.Try.prog con := con_of (fn := Go.Proofs.Try.f37) (c := c) (Fi := fi) (X := X) (fun_of laid (by kernel_rfl) (by kernel_rfl) (by kernel_rfl) rfl (by kernel_rfl) (by kernel_rfl) cx (fun _ => rfl) (fun _ => rfl) (fun K => by
 rw [show loopsOf c = [(0, b0)] from by kernel_rfl]; intro p hp
 rcases List.mem_cons.1 hp with rfl | hp
 ·exact w0 K
 cases hp)) fun xs rows boxes K r hl hr => by
 obtain ⟨a1, e, h⟩ := runv hr
 have := St.like_eq (y := a a1) hl (by kernel_rfl) e
 obtain ⟨rfl, rfl, rfl⟩ := argSt_inj this
 exact (tie K a1).trans h
end spec_l1New
namespace spec_l1Byte
noncomputable def c : Code := bodyOf Go.Proofs.Try.f84
noncomputable def fi : Fin := ⟨Γ0, [(.tmp 2, 3)], [[1]], [], [([.sl [.int .u8] 1, .int .i64, .int .i64], [0, 1, 1])], []⟩
noncomputable def m (a1 : List Int) (r1 r3 r4 : Int) : Res := ⟨[⟨false, [.int .i64 r1]⟩], [], [], [[.tr 2 2 [.int .u8] (.ints a1), .int .i64 r3, .int .i64 r4]], []⟩
noncomputable def os : List (FuncId × St × (List Lf → (Res → Option Res) → Option Res)) := []
noncomputable def X (K : Res → Option Res) : Ctx := { Γ := Γ0, orc := orcOf os, io := [], share := [], mvl := [], bun := [], cut := [], own := [], cin := [], cout := [], lp := lpOf [], kl := [], nk := true, eqs := eqs0, byt := byt0, fin := finK fi K }
noncomputable def b (a1 : List Int) (a2 a3 : Int) (R : Int → Int → Int → Option Res) : Option Res :=
 bif decide (a2 < (a1.length : Int)) then (bif decide (0 ≤ a2) && decide (a2 < (a1.length : Int)) then R (arith.bits .and .i64 (IntKind.i64.wrap ((arith.bits .and .i64 (arith.bits .xor .i64 ((IntKind.i64.wrap ((IntKind.i64.wrap (a3 * 6364136223846793005)) + 1442695040888963407)).fdiv (2 ^ 33)) ((IntKind.i64.wrap ((IntKind.i64.wrap (a3 * 6364136223846793005)) + 1442695040888963407)).fdiv (2 ^ 45))) 255) + (IntKind.i64.wrap (a1.getD a2.toNat 0)))) 255) (IntKind.i64.wrap (a2 + 1)) (IntKind.i64.wrap ((IntKind.i64.wrap (a3 * 6364136223846793005)) + 1442695040888963407))
  else none)
 else R (arith.bits .and .i64 (arith.bits .xor .i64 ((IntKind.i64.wrap ((IntKind.i64.wrap (a3 * 6364136223846793005)) + 1442695040888963407)).fdiv (2 ^ 33)) ((IntKind.i64.wrap ((IntKind.i64.wrap (a3 * 6364136223846793005)) + 1442695040888963407)).fdiv (2 ^ 45))) 255) a2 (IntKind.i64.wrap ((IntKind.i64.wrap (a3 * 6364136223846793005)) + 1442695040888963407))
theorem gx : ∃ x : List Int → Int → Int → (Int → Int → Int → Option Res) → Option Res, x = b := ⟨_, rfl⟩
noncomputable def g : List Int → Int → Int → (Int → Int → Int → Option Res) → Option Res := Classical.choose gx
theorem e : g = b := Classical.choose_spec gx
noncomputable def run : List Lf → (Res → Option Res) → Option Res
 | [.q (.ints a1), .i a2, .i a3], K => g a1 a2 a3 (fun r1 r3 r4 => K (m a1 r1 r3 r4))
 | _, _ => none
noncomputable def a (a1 : List Int) (a2 a3 : Int) : St := argSt [one (.bp 0 0)] [] [[.tr 2 2 [.int .u8] (.ints a1), .int .i64 a2, .int .i64 a3]]
noncomputable def con : FuncId × St × (List Lf → (Res → Option Res) → Option Res) := (84, a [] 0 0, run)
theorem cx (K : Res → Option Res) : CtxOk Go.Proofs.Try.prog Γ0 byt0 eqs0 (X K) os := ⟨rfl, rfl, rfl, (fun p hp => by
 cases hp), rfl, rfl, rfl, rfl⟩
theorem tie (K : Res → Option Res) (a1 : List Int) (a2 a3 : Int) : exec (X K) c (entry 58 [one (.bp 0 0)] [] [[.tr 2 2 [.int .u8] (.ints a1), .int .i64 a2, .int .i64 a3]]) (endK (X K)) = g a1 a2 a3 (fun r1 r3 r4 => K (m a1 r1 r3 r4)) := Eq.trans (b := b a1 a2 a3 (fun r1 r3 r4 => K (m a1 r1 r3 r4))) (by kernel_rfl) (by rw [e])
theorem runv {l : List Lf} {K : Res → Option Res} {r : Res} (h : run l K = some r) : ∃ a1 a2 a3, l = [.q (.ints a1), .i a2, .i a3] ∧ g a1 a2 a3 (fun r1 r3 r4 => K (m a1 r1 r3 r4)) = some r := by
 unfold run at h; split at h
 ·exact ⟨_, _, _, rfl, h⟩
 ·cases h
theorem ok : Con Go.Proofs.Try.prog con := con_of (fn := Go.Proofs.Try.f84) (c := c) (Fi := fi) (X := X) (fun_of laid (by kernel_rfl) (by kernel_rfl) (by kernel_rfl) rfl (by kernel_rfl) (by kernel_rfl) cx (fun _ => rfl) (fun _ => rfl) (fun K => by
 rw [show loopsOf c = [] from by kernel_rfl]; intro p hp
 cases hp)) fun xs rows boxes K r hl hr => by
 obtain ⟨a1, a2, a3, e, h⟩ := runv hr
 have := St.like_eq (y := a a1 a2 a3) hl (by kernel_rfl) e
 obtain ⟨rfl, rfl, rfl⟩ := argSt_inj this
 exact (tie K a1 a2 a3).trans h
end spec_l1Byte
namespace spec_l1Below
noncomputable def c : Code := bodyOf Go.Proofs.Try.f40
noncomputable def fi : Fin := ⟨Γ0, [(.tmp 4, 3)], [[1]], [], [([.sl [.int .u8] 1, .int .i64, .int .i64], [0, 1, 1])], []⟩
noncomputable def m (a2 : List Int) (r1 r3 r4 : Int) : Res := ⟨[⟨false, [.int .i64 r1]⟩], [], [], [[.tr 2 2 [.int .u8] (.ints a2), .int .i64 r3, .int .i64 r4]], []⟩
noncomputable def os : List (FuncId × St × (List Lf → (Res → Option Res) → Option Res)) := [spec_l1Byte.con]
noncomputable def X (K : Res → Option Res) : Ctx := { Γ := Γ0, orc := orcOf os, io := [], share := [], mvl := [], bun := [], cut := [], own := [], cin := [], cout := [], lp := lpOf [], kl := [], nk := true, eqs := eqs0, byt := byt0, fin := finK fi K }
noncomputable def b (a1 : Int) (a2 : List Int) (a3 a4 : Int) (R : Int → Int → Int → Option Res) : Option Res :=
 bif decide (a1 ≤ 0) then R 0 a3 a4
 else bif decide (a1 ≤ 256) then (spec_l1Byte.g a2 a3 a4 fun r5 r6 r7 =>
  bif decide (a1 = 0) then none
  else R (r5.tmod a1) r6 r7)
 else (spec_l1Byte.g a2 a3 a4 fun r8 r9 r10 =>
 spec_l1Byte.g a2 r9 r10 fun r11 r12 r13 =>
 spec_l1Byte.g a2 r12 r13 fun r14 r15 r16 =>
 spec_l1Byte.g a2 r15 r16 fun r17 r18 r19 =>
 bif decide (a1 = 0) then none
 else R ((IntKind.i64.wrap ((IntKind.i64.wrap ((IntKind.i64.wrap ((IntKind.i64.wrap (r8 * 16777216)) + (IntKind.i64.wrap (r11 * 65536)))) + (IntKind.i64.wrap (r14 * 256)))) + r17)).tmod a1) r18 r19)
theorem gx : ∃ x : Int → List Int → Int → Int → (Int → Int → Int → Option Res) → Option Res, x = b := ⟨_, rfl⟩
noncomputable def g : Int → List Int → Int → Int → (Int → Int → Int → Option Res) → Option Res := Classical.choose gx
theorem e : g = b := Classical.choose_spec gx
noncomputable def run : List Lf → (Res → Option Res) → Option Res
 | [.i a1, .q (.ints a2), .i a3, .i a4], K => g a1 a2 a3 a4 (fun r1 r3 r4 => K (m a2 r1 r3 r4))
 | _, _ => none
noncomputable def a (a1 : Int) (a2 : List Int) (a3 a4 : Int) : St := argSt [one (.bp 0 0), one (.int .i64 a1)] [] [[.tr 2 2 [.int .u8] (.ints a2), .int .i64 a3, .int .i64 a4]]
noncomputable def con : FuncId × St × (List Lf → (Res → Option Res) → Option Res) := (40, a 0 [] 0 0, run)
theorem cx (K : Res → Option Res) : CtxOk Go.Proofs.Try.prog Γ0 byt0 eqs0 (X K) os := ⟨rfl, rfl, rfl, (fun p hp => by
 rcases List.mem_cons.1 hp with rfl | hp
 ·exact spec_l1Byte.ok
 cases hp), rfl, rfl, rfl, rfl⟩
theorem tie (K : Res → Option Res) (a1 : Int) (a2 : List Int) (a3 a4 : Int) : exec (X K) c (entry 37 [one (.bp 0 0), one (.int .i64 a1)] [] [[.tr 2 2 [.int .u8] (.ints a2), .int .i64 a3, .int .i64 a4]]) (endK (X K)) = g a1 a2 a3 a4 (fun r1 r3 r4 => K (m a2 r1 r3 r4)) := Eq.trans (b := b a1 a2 a3 a4 (fun r1 r3 r4 => K (m a2 r1 r3 r4))) (by kernel_rfl) (by rw [e])
theorem runv {l : List Lf} {K : Res → Option Res} {r : Res} (h : run l K = some r) : ∃ a1 a2 a3 a4, l = [.i a1, .q (.ints a2), .i a3, .i a4] ∧ g a1 a2 a3 a4 (fun r1 r3 r4 => K (m a2 r1 r3 r4)) = some r := by
 unfold run at h; split at h
 ·exact ⟨_, _, _, _, rfl, h⟩
 ·cases h
theorem ok : Con Go.Proofs.Try.prog con := con_of (fn := Go.Proofs.Try.f40) (c := c) (Fi := fi) (X := X) (fun_of laid (by kernel_rfl) (by kernel_rfl) (by kernel_rfl) rfl (by kernel_rfl) (by kernel_rfl) cx (fun _ => rfl) (fun _ => rfl) (fun K => by
 rw [show loopsOf c = [] from by kernel_rfl]; intro p hp
 cases hp)) fun xs rows boxes K r hl hr => by
 obtain ⟨a1, a2, a3, a4, e, h⟩ := runv hr
 have := St.like_eq (y := a a1 a2 a3 a4) hl (by kernel_rfl) e
 obtain ⟨rfl, rfl, rfl⟩ := argSt_inj this
 exact (tie K a1 a2 a3 a4).trans h
end spec_l1Below
namespace spec_l1PickInt
noncomputable def c : Code := bodyOf Go.Proofs.Try.f116
noncomputable def fi : Fin := ⟨Γ0, [(.tmp 4, 3)], [[1]], [], [([.sl [.int .u8] 1, .int .i64, .int .i64], [0, 1, 1])], []⟩
noncomputable def m (a2 : List Int) (r1 r3 r4 : Int) : Res := ⟨[⟨false, [.int .i64 r1]⟩], [], [], [[.tr 2 2 [.int .u8] (.ints a2), .int .i64 r3, .int .i64 r4]], []⟩
noncomputable def os : List (FuncId × St × (List Lf → (Res → Option Res) → Option Res)) := [spec_l1Below.con]
noncomputable def X (K : Res → Option Res) : Ctx := { Γ := Γ0, orc := orcOf os, io := [], share := [], mvl := [], bun := [], cut := [], own := [], cin := [], cout := [], lp := lpOf [], kl := [], nk := true, eqs := eqs0, byt := byt0, fin := finK fi K }
noncomputable def b (a1 a2 : List Int) (a3 a4 : Int) (R : Int → Int → Int → Option Res) : Option Res :=
 spec_l1Below.g (a1.length : Int) a2 a3 a4 fun r5 r6 r7 =>
 bif decide (0 ≤ r5) && decide (r5 < (a1.length : Int)) then R (a1.getD r5.toNat 0) r6 r7
 else none
theorem gx : ∃ x : List Int → List Int → Int → Int → (Int → Int → Int → Option Res) → Option Res, x = b := ⟨_, rfl⟩
noncomputable def g : List Int → List Int → Int → Int → (Int → Int → Int → Option Res) → Option Res := Classical.choose gx
theorem e : g = b := Classical.choose_spec gx
noncomputable def run : List Lf → (Res → Option Res) → Option Res
 | [.q (.ints a1), .q (.ints a2), .i a3, .i a4], K => g a1 a2 a3 a4 (fun r1 r3 r4 => K (m a2 r1 r3 r4))
 | _, _ => none
noncomputable def a (a1 a2 : List Int) (a3 a4 : Int) : St := argSt [one (.bp 0 0), one (.tr 0 1 [.int .i64] (.ints a1))] [] [[.tr 2 2 [.int .u8] (.ints a2), .int .i64 a3, .int .i64 a4]]
noncomputable def con : FuncId × St × (List Lf → (Res → Option Res) → Option Res) := (116, a [] [] 0 0, run)
theorem cx (K : Res → Option Res) : CtxOk Go.Proofs.Try.prog Γ0 byt0 eqs0 (X K) os := ⟨rfl, rfl, rfl, (fun p hp => by
 rcases List.mem_cons.1 hp with rfl | hp
 ·exact spec_l1Below.ok
 cases hp), rfl, rfl, rfl, rfl⟩
theorem tie (K : Res → Option Res) (a1 a2 : List Int) (a3 a4 : Int) : exec (X K) c (entry 12 [one (.bp 0 0), one (.tr 0 1 [.int .i64] (.ints a1))] [] [[.tr 2 2 [.int .u8] (.ints a2), .int .i64 a3, .int .i64 a4]]) (endK (X K)) = g a1 a2 a3 a4 (fun r1 r3 r4 => K (m a2 r1 r3 r4)) := Eq.trans (b := b a1 a2 a3 a4 (fun r1 r3 r4 => K (m a2 r1 r3 r4))) (by kernel_rfl) (by rw [e])
theorem runv {l : List Lf} {K : Res → Option Res} {r : Res} (h : run l K = some r) : ∃ a1 a2 a3 a4, l = [.q (.ints a1), .q (.ints a2), .i a3, .i a4] ∧ g a1 a2 a3 a4 (fun r1 r3 r4 => K (m a2 r1 r3 r4)) = some r := by
 unfold run at h; split at h
 ·exact ⟨_, _, _, _, rfl, h⟩
 ·cases h
theorem ok : Con Go.Proofs.Try.prog con := con_of (fn := Go.Proofs.Try.f116) (c := c) (Fi := fi) (X := X) (fun_of laid (by kernel_rfl) (by kernel_rfl) (by kernel_rfl) rfl (by kernel_rfl) (by kernel_rfl) cx (fun _ => rfl) (fun _ => rfl) (fun K => by
 rw [show loopsOf c = [] from by kernel_rfl]; intro p hp
 cases hp)) fun xs rows boxes K r hl hr => by
 obtain ⟨a1, a2, a3, a4, e, h⟩ := runv hr
 have := St.like_eq (y := a a1 a2 a3 a4) hl (by kernel_rfl) e
 obtain ⟨rfl, rfl, rfl⟩ := argSt_inj this
 exact (tie K a1 a2 a3 a4).trans h
end spec_l1PickInt
namespace spec_l1In
noncomputable def c : Code := bodyOf Go.Proofs.Try.f54
noncomputable def fi : Fin := ⟨Γ0, [(.tmp 6, 4)], [[1]], [], [], []⟩
noncomputable def m (r1 : Bool) : Res := ⟨[⟨false, [.bool r1]⟩], [], [], [], []⟩
noncomputable def os : List (FuncId × St × (List Lf → (Res → Option Res) → Option Res)) := []
noncomputable def X (K : Res → Option Res) : Ctx := { Γ := Γ0, orc := orcOf os, io := [], share := [], mvl := [], bun := [], cut := [], own := [], cin := [], cout := [], lp := lpOf [], kl := [], nk := true, eqs := eqs0, byt := byt0, fin := finK fi K }
noncomputable def b (a1 a2 a3 : Int) (R : Bool → Option Res) : Option Res :=
 bif decide (a2 ≤ a1) then R (decide (a1 ≤ a3))
 else R false
theorem gx : ∃ x : Int → Int → Int → (Bool → Option Res) → Option Res, x = b := ⟨_, rfl⟩
noncomputable def g : Int → Int → Int → (Bool → Option Res) → Option Res := Classical.choose gx
theorem e : g = b := Classical.choose_spec gx
noncomputable def run : List Lf → (Res → Option Res) → Option Res
 | [.i a1, .i a2, .i a3], K => g a1 a2 a3 (fun r1 => K (m r1))
 | _, _ => none
noncomputable def a (a1 a2 a3 : Int) : St := argSt [one (.int .i64 a1), one (.int .i64 a2), one (.int .i64 a3)] [] []
noncomputable def con : FuncId × St × (List Lf → (Res → Option Res) → Option Res) := (54, a 0 0 0, run)
theorem cx (K : Res → Option Res) : CtxOk Go.Proofs.Try.prog Γ0 byt0 eqs0 (X K) os := ⟨rfl, rfl, rfl, (fun p hp => by
 cases hp), rfl, rfl, rfl, rfl⟩
theorem tie (K : Res → Option Res) (a1 a2 a3 : Int) : exec (X K) c (entry 15 [one (.int .i64 a1), one (.int .i64 a2), one (.int .i64 a3)] [] []) (endK (X K)) = g a1 a2 a3 (fun r1 => K (m r1)) := Eq.trans (b := b a1 a2 a3 (fun r1 => K (m r1))) (by kernel_rfl) (by rw [e])
theorem runv {l : List Lf} {K : Res → Option Res} {r : Res} (h : run l K = some r) : ∃ a1 a2 a3, l = [.i a1, .i a2, .i a3] ∧ g a1 a2 a3 (fun r1 => K (m r1)) = some r := by
 unfold run at h; split at h
 ·exact ⟨_, _, _, rfl, h⟩
 ·cases h
theorem ok : Con Go.Proofs.Try.prog con := con_of (fn := Go.Proofs.Try.f54) (c := c) (Fi := fi) (X := X) (fun_of laid (by kernel_rfl) (by kernel_rfl) (by kernel_rfl) rfl (by kernel_rfl) (by kernel_rfl) cx (fun _ => rfl) (fun _ => rfl) (fun K => by
 rw [show loopsOf c = [] from by kernel_rfl]; intro p hp
 cases hp)) fun xs rows boxes K r hl hr => by
 obtain ⟨a1, a2, a3, e, h⟩ := runv hr
 have := St.like_eq (y := a a1 a2 a3) hl (by kernel_rfl) e
 obtain ⟨rfl, rfl, rfl⟩ := argSt_inj this
 exact (tie K a1 a2 a3).trans h
end spec_l1In
namespace spec_HeapNew
noncomputable def c : Code := bodyOf Go.Proofs.Try.f115
noncomputable def fi : Fin := ⟨Γ0, [(.cell 2 44, 44), (.tmp 3, 4)], [[1, 1, 1], [1]], [], [], []⟩
noncomputable def m (r1 : List Int) (r2 : Int) (r3 : List (List Cl)) (r4 : Bool) : Res := ⟨[⟨true, [.ow 1000, .int .i64 r2, .ow 1001]⟩, ⟨false, [.bool r4]⟩], [], [⟨[.int .i64], .ints r1, true, 0⟩, ⟨[.int .i64, .int .i64, .bool], .cells r3, true, 0⟩], [], []⟩
noncomputable def os : List (FuncId × St × (List Lf → (Res → Option Res) → Option Res)) := [spec_l1In.con]
noncomputable def X (K : Res → Option Res) : Ctx := { Γ := Γ0, orc := orcOf os, io := [], share := [], mvl := [], bun := [], cut := [], own := [], cin := [], cout := [], lp := lpOf [], kl := [], nk := true, eqs := eqs0, byt := byt0, fin := finK fi K }
noncomputable def b (a1 : Int) (R : List Int → Int → List (List Cl) → Bool → Option Res) : Option Res :=
 spec_l1In.g a1 0 6000 fun r2 =>
 bif !r2 then R ([] : List Int) 0 ([] : List (List Cl)) false
 else bif decide (a1 = a1) && decide (0 ≤ a1) && decide (a1 * 8 ≤ 140737488355328) then R (List.replicate a1.toNat 0) 0 ([] : List (List Cl)) true
 else none
theorem gx : ∃ x : Int → (List Int → Int → List (List Cl) → Bool → Option Res) → Option Res, x = b := ⟨_, rfl⟩
noncomputable def g : Int → (List Int → Int → List (List Cl) → Bool → Option Res) → Option Res := Classical.choose gx
theorem e : g = b := Classical.choose_spec gx
noncomputable def run : List Lf → (Res → Option Res) → Option Res
 | [.i a1], K => g a1 (fun r1 r2 r3 r4 => K (m r1 r2 r3 r4))
 | _, _ => none
noncomputable def a (a1 : Int) : St := argSt [one (.int .i64 a1)] [] []
noncomputable def con : FuncId × St × (List Lf → (Res → Option Res) → Option Res) := (115, a 0, run)
theorem cx (K : Res → Option Res) : CtxOk Go.Proofs.Try.prog Γ0 byt0 eqs0 (X K) os := ⟨rfl, rfl, rfl, (fun p hp => by
 rcases List.mem_cons.1 hp with rfl | hp
 ·exact spec_l1In.ok
 cases hp), rfl, rfl, rfl, rfl⟩
theorem tie (K : Res → Option Res) (a1 : Int) : exec (X K) c (entry 11 [one (.int .i64 a1)] [] []) (endK (X K)) = g a1 (fun r1 r2 r3 r4 => K (m r1 r2 r3 r4)) := Eq.trans (b := b a1 (fun r1 r2 r3 r4 => K (m r1 r2 r3 r4))) (by kernel_rfl) (by rw [e])
theorem runv {l : List Lf} {K : Res → Option Res} {r : Res} (h : run l K = some r) : ∃ a1, l = [.i a1] ∧ g a1 (fun r1 r2 r3 r4 => K (m r1 r2 r3 r4)) = some r := by
 unfold run at h; split at h
 ·exact ⟨_, rfl, h⟩
 ·cases h
theorem ok : Con Go.Proofs.Try.prog con := con_of (fn := Go.Proofs.Try.f115) (c := c) (Fi := fi) (X := X) (fun_of laid (by kernel_rfl) (by kernel_rfl) (by kernel_rfl) rfl (by kernel_rfl) (by kernel_rfl) cx (fun _ => rfl) (fun _ => rfl) (fun K => by
 rw [show loopsOf c = [] from by kernel_rfl]; intro p hp
 cases hp)) fun xs rows boxes K r hl hr => by
 obtain ⟨a1, e, h⟩ := runv hr
 have := St.like_eq (y := a a1) hl (by kernel_rfl) e
 obtain ⟨rfl, rfl, rfl⟩ := argSt_inj this
 exact (tie K a1).trans h
end spec_HeapNew
namespace spec_l2DrawRight
noncomputable def c : Code := bodyOf Go.Proofs.Try.f121
noncomputable def fi : Fin := ⟨Γ0, [(.tmp 2, 41)], [[1]], [], [([.sl [.int .u8] 1, .int .i64, .int .i64], [0, 1, 1])], []⟩
noncomputable def m (a1 r1 : List Int) (r3 r4 : Int) : Res := ⟨[⟨false, [.ow 1000]⟩], [], [⟨[.int .i64], .ints r1, true, 0⟩], [[.tr 2 2 [.int .u8] (.ints a1), .int .i64 r3, .int .i64 r4]], []⟩
noncomputable def os : List (FuncId × St × (List Lf → (Res → Option Res) → Option Res)) := [spec_l1Below.con]
noncomputable def X (K : Res → Option Res) : Ctx := { Γ := Γ0, orc := orcOf os, io := [], share := [], mvl := [], bun := [], cut := [], own := [], cin := [], cout := [], lp := lpOf [], kl := [], nk := true, eqs := eqs0, byt := byt0, fin := finK fi K }
noncomputable def b (a1 : List Int) (a2 a3 : Int) (R : List Int → Int → Int → Option Res) : Option Res :=
 spec_l1Below.g 5 a1 a2 a3 fun r4 r5 r6 =>
 bif (r4 == 0) then R ([] : List Int) r5 r6
 else bif (r4 == 1) then (spec_l1Below.g 6 a1 r5 r6 fun r7 r8 r9 =>
  R ([r7] : List Int) r8 r9)
 else bif (r4 == 2) then (spec_l1Below.g 6 a1 r5 r6 fun r10 r11 r12 =>
  R ([r10] : List Int) r11 r12)
 else bif (r4 == 3) then (spec_l1Below.g 4 a1 r5 r6 fun r13 r14 r15 =>
  spec_l1Below.g 3 a1 r14 r15 fun r16 r17 r18 =>
  R ([r13, IntKind.i64.wrap (1 + r16)] : List Int) r17 r18)
 else (spec_l1Below.g 3 a1 r5 r6 fun r19 r20 r21 =>
 spec_l1Below.g 2 a1 r20 r21 fun r22 r23 r24 =>
 spec_l1Below.g 4 a1 r23 r24 fun r25 r26 r27 =>
 R ([IntKind.i64.wrap (1 + r19), IntKind.i64.wrap (1 + r22), r25] : List Int) r26 r27)
theorem gx : ∃ x : List Int → Int → Int → (List Int → Int → Int → Option Res) → Option Res, x = b := ⟨_, rfl⟩
noncomputable def g : List Int → Int → Int → (List Int → Int → Int → Option Res) → Option Res := Classical.choose gx
theorem e : g = b := Classical.choose_spec gx
noncomputable def run : List Lf → (Res → Option Res) → Option Res
 | [.q (.ints a1), .i a2, .i a3], K => g a1 a2 a3 (fun r1 r3 r4 => K (m a1 r1 r3 r4))
 | _, _ => none
noncomputable def a (a1 : List Int) (a2 a3 : Int) : St := argSt [one (.bp 0 0)] [] [[.tr 2 2 [.int .u8] (.ints a1), .int .i64 a2, .int .i64 a3]]
noncomputable def con : FuncId × St × (List Lf → (Res → Option Res) → Option Res) := (121, a [] 0 0, run)
theorem cx (K : Res → Option Res) : CtxOk Go.Proofs.Try.prog Γ0 byt0 eqs0 (X K) os := ⟨rfl, rfl, rfl, (fun p hp => by
 rcases List.mem_cons.1 hp with rfl | hp
 ·exact spec_l1Below.ok
 cases hp), rfl, rfl, rfl, rfl⟩
theorem tie (K : Res → Option Res) (a1 : List Int) (a2 a3 : Int) : exec (X K) c (entry 31 [one (.bp 0 0)] [] [[.tr 2 2 [.int .u8] (.ints a1), .int .i64 a2, .int .i64 a3]]) (endK (X K)) = g a1 a2 a3 (fun r1 r3 r4 => K (m a1 r1 r3 r4)) := Eq.trans (b := b a1 a2 a3 (fun r1 r3 r4 => K (m a1 r1 r3 r4))) (by kernel_rfl) (by rw [e])
theorem runv {l : List Lf} {K : Res → Option Res} {r : Res} (h : run l K = some r) : ∃ a1 a2 a3, l = [.q (.ints a1), .i a2, .i a3] ∧ g a1 a2 a3 (fun r1 r3 r4 => K (m a1 r1 r3 r4)) = some r := by
 unfold run at h; split at h
 ·exact ⟨_, _, _, rfl, h⟩
 ·cases h
theorem ok : Con Go.Proofs.Try.prog con := con_of (fn := Go.Proofs.Try.f121) (c := c) (Fi := fi) (X := X) (fun_of laid (by kernel_rfl) (by kernel_rfl) (by kernel_rfl) rfl (by kernel_rfl) (by kernel_rfl) cx (fun _ => rfl) (fun _ => rfl) (fun K => by
 rw [show loopsOf c = [] from by kernel_rfl]; intro p hp
 cases hp)) fun xs rows boxes K r hl hr => by
 obtain ⟨a1, a2, a3, e, h⟩ := runv hr
 have := St.like_eq (y := a a1 a2 a3) hl (by kernel_rfl) e
 obtain ⟨rfl, rfl, rfl⟩ := argSt_inj this
 exact (tie K a1 a2 a3).trans h
end spec_l2DrawRight
namespace spec_SizeOf
noncomputable def c : Code := bodyOf Go.Proofs.Try.f97
noncomputable def fi : Fin := ⟨Γ0, [(.tmp 2, 3)], [[1]], [], [], []⟩
noncomputable def m (r1 : Int) : Res := ⟨[⟨false, [.int .i64 r1]⟩], [], [], [], []⟩
noncomputable def b0 : Code := codeAt c [1, 1, 1, 0, 1, 0, 0]
noncomputable def b2 : Code := codeAt c [1, 1, 1, 1, 1, 0, 1, 0, 0]
noncomputable def s0 (x2 : List Int) (x3 : Bool) (x4 : Int) : St := ⟨mkT 49 [(0, one (.tr 0 1 [.int .i64] (.ints x2))), (3, one (.bool x3)), (4, one (.int .i64 x4))], [], []⟩
noncomputable def l0s (x2 : List Int) (rec : Bool → Int → Option Res) (k : Bool → Option Res) (R : Int → Option Res) (x3 : Bool) (x4 : Int) : Option Res :=
 bif decide (x4 < (x2.length : Int)) then (bif decide (0 ≤ x4) && decide (x4 < (x2.length : Int)) then (spec_l1In.g (x2.getD x4.toNat 0) 0 300 fun r5 =>
  bif !r5 then R (-1)
  else bif x3 then rec true (IntKind.i64.wrap (x4 + 1))
  else bif decide (0 ≤ x4) && decide (x4 < (x2.length : Int)) then rec (x2.getD x4.toNat 0 == 0) (IntKind.i64.wrap (x4 + 1))
  else none)
  else none)
 else k x3
noncomputable def l0 (x2 : List Int) (k : Bool → Option Res) (R : Int → Option Res) : Nat → Bool → Int → Option Res
 | 0, _, _ => none
 | n + 1, x3, x4 => l0s x2 (fun x3 x4 => l0 x2 k R n x3 x4) k R x3 x4
noncomputable def o0 (x2 : List Int) (y2 : Bool) : St := ⟨mkT 49 [(0, one (.tr 0 1 [.int .i64] (.ints x2))), (3, one (.bool y2))], [], []⟩
noncomputable def p0 (K : Res → Option Res) : List Lf → (St → Option Res) → Option Res
 | [.q (.ints x2), .b x3, .i x4], k => l0 x2 (fun y2 => k (o0 x2 y2)) (fun r1 => K (m r1)) fuel x3 x4
 | _, _ => none
noncomputable def s2 (x7 : List Int) (x8 : Bool) (x9 x10 : Int) : St := ⟨mkT 49 [(0, one (.tr 0 1 [.int .i64] (.ints x7))), (3, one (.bool x8)), (5, one (.int .i64 x9)), (6, one (.int .i64 x10))], [], []⟩
noncomputable def l2s (x7 : List Int) (x8 : Bool) (rec : Int → Int → Option Res) (k : Int → Option Res) (x9 x10 : Int) : Option Res :=
 bif decide (x10 < (x7.length : Int)) then (bif decide (0 ≤ x10) && decide (x10 < (x7.length : Int)) then rec (IntKind.i64.wrap (x9 * (x7.getD x10.toNat 0))) (IntKind.i64.wrap (x10 + 1))
  else none)
 else k x9
noncomputable def l2 (x7 : List Int) (x8 : Bool) (k : Int → Option Res) : Nat → Int → Int → Option Res
 | 0, _, _ => none
 | n + 1, x9, x10 => l2s x7 x8 (fun x9 x10 => l2 x7 x8 k n x9 x10) k x9 x10
noncomputable def o2 (x7 : List Int) (x8 : Bool) (y2 : Int) : St := ⟨mkT 49 [(3, one (.bool x8)), (5, one (.int .i64 y2))], [], []⟩
noncomputable def p2 (K : Res → Option Res) : List Lf → (St → Option Res) → Option Res
 | [.q (.ints x7), .b x8, .i x9, .i x10], k => l2 x7 x8 (fun y2 => k (o2 x7 x8 y2)) fuel x9 x10
 | _, _ => none
noncomputable def os : List (FuncId × St × (List Lf → (Res → Option Res) → Option Res)) := [spec_l1In.con]
noncomputable def X (K : Res → Option Res) : Ctx := { Γ := Γ0, orc := orcOf os, io := [], share := [], mvl := [], bun := [], cut := [], own := [], cin := [(0, ⟨[0, 3, 4], [], [], [], [], []⟩), (2, ⟨[0, 3, 5, 6], [], [], [], [], []⟩)], cout := [(0, ⟨[0, 3], [], [], [], [], []⟩), (2, ⟨[3, 5], [], [], [], [], []⟩)], lp := lpOf [(0, s0 [] false 0, p0 K), (2, s2 [] false 0 0, p2 K)], kl := [], nk := true, eqs := eqs0, byt := byt0, fin := finK fi K }
noncomputable def b (a1 : List Int) (R : Int → Option Res) : Option Res :=
 bif decide (3 < (a1.length : Int)) then R (-1)
 else (l0 a1 (fun y6 =>
 l2 a1 y6 (fun y11 =>
 bif decide (300 < y11) then (bif !y6 then R (-1)
  else R y11)
 else R y11) fuel 1 0) R fuel false 0)
theorem gx : ∃ x : List Int → (Int → Option Res) → Option Res, x = b := ⟨_, rfl⟩
noncomputable def g : List Int → (Int → Option Res) → Option Res := Classical.choose gx
theorem e : g = b := Classical.choose_spec gx
noncomputable def run : List Lf → (Res → Option Res) → Option Res
 | [.q (.ints a1)], K => g a1 (fun r1 => K (m r1))
 | _, _ => none
noncomputable def a (a1 : List Int) : St := argSt [one (.tr 0 1 [.int .i64] (.ints a1))] [] []
noncomputable def con : FuncId × St × (List Lf → (Res → Option Res) → Option Res) := (97, a [], run)
theorem cx (K : Res → Option Res) : CtxOk Go.Proofs.Try.prog Γ0 byt0 eqs0 (X K) os := ⟨rfl, rfl, rfl, (fun p hp => by
 rcases List.mem_cons.1 hp with rfl | hp
 ·exact spec_l1In.ok
 cases hp), rfl, rfl, rfl, rfl⟩
theorem t0 (K : Res → Option Res) (k : St → Option Res) (it : St → (St → Option Res) → Option Res) (x2 : List Int) (x3 : Bool) (x4 : Int) : iterS (X K) 0 b0 it (s0 x2 x3 x4) k = l0s x2 (fun x3 x4 => it (s0 x2 x3 x4) k) (fun y2 => k (o0 x2 y2)) (fun r1 => K (m r1)) x3 x4 := by kernel_rfl
theorem i0 (K : Res → Option Res) (k : St → Option Res) (x2 : List Int) : ∀ (n : Nat) (x3 : Bool) (x4 : Int), iter (X K) 0 b0 n (s0 x2 x3 x4) k = l0 x2 (fun y2 => k (o0 x2 y2)) (fun r1 => K (m r1)) n x3 x4
 | 0, _, _ => rfl
 | n + 1, x3, x4 => by
  rw [iter_succ, t0, show (fun x3 x4 => iter (X K) 0 b0 n (s0 x2 x3 x4) k) = (fun x3 x4 => l0 x2 (fun y2 => k (o0 x2 y2)) (fun r1 => K (m r1)) n x3 x4) from funext fun x3 => funext fun x4 => i0 K k x2 n x3 x4]; rfl
theorem v0 {K : Res → Option Res} {l : List Lf} {k : St → Option Res} {r : Res} (h : p0 K l k = some r) : ∃ x2 x3 x4, l = [.q (.ints x2), .b x3, .i x4] ∧ l0 x2 (fun y2 => k (o0 x2 y2)) (fun r1 => K (m r1)) fuel x3 x4 = some r := by
 unfold p0 at h; split at h
 ·exact ⟨_, _, _, rfl, h⟩
 ·cases h
theorem t2 (K : Res → Option Res) (k : St → Option Res) (it : St → (St → Option Res) → Option Res) (x7 : List Int) (x8 : Bool) (x9 x10 : Int) : iterS (X K) 2 b2 it (s2 x7 x8 x9 x10) k = l2s x7 x8 (fun x9 x10 => it (s2 x7 x8 x9 x10) k) (fun y2 => k (o2 x7 x8 y2)) x9 x10 := by kernel_rfl
theorem i2 (K : Res → Option Res) (k : St → Option Res) (x7 : List Int) (x8 : Bool) : ∀ (n : Nat) (x9 x10 : Int), iter (X K) 2 b2 n (s2 x7 x8 x9 x10) k = l2 x7 x8 (fun y2 => k (o2 x7 x8 y2)) n x9 x10
 | 0, _, _ => rfl
 | n + 1, x9, x10 => by
  rw [iter_succ, t2, show (fun x9 x10 => iter (X K) 2 b2 n (s2 x7 x8 x9 x10) k) = (fun x9 x10 => l2 x7 x8 (fun y2 => k (o2 x7 x8 y2)) n x9 x10) from funext fun x9 => funext fun x10 => i2 K k x7 x8 n x9 x10]; rfl
theorem v2 {K : Res → Option Res} {l : List Lf} {k : St → Option Res} {r : Res} (h : p2 K l k = some r) : ∃ x7 x8 x9 x10, l = [.q (.ints x7), .b x8, .i x9, .i x10] ∧ l2 x7 x8 (fun y2 => k (o2 x7 x8 y2)) fuel x9 x10 = some r := by
 unfold p2 at h; split at h
 ·exact ⟨_, _, _, _, rfl, h⟩
 ·cases h
theorem w2 (K : Res → Option Res) : LpSound Go.Proofs.Try.prog (X K) 2 b2 := lp_ok ((cx K).ok laid) (by rw [show loopsOf b2 = [] from by kernel_rfl]; intro p hp; cases hp) rfl fun p hp hid => by
 rcases List.mem_cons.1 hp with rfl | hp
 ·exact absurd hid (by simp)
 rcases List.mem_cons.1 hp with rfl | hp
 ·intro st k r h1 h2; obtain ⟨x7, x8, x9, x10, e, h⟩ := v2 (K := K) h2; have := St.like_eq (y := s2 x7 x8 x9 x10) h1 (by kernel_rfl) e; subst this; exact ⟨fuel, (i2 K k x7 x8 fuel x9 x10).trans h⟩
 cases hp
theorem w0 (K : Res → Option Res) : LpSound Go.Proofs.Try.prog (X K) 0 b0 := lp_ok ((cx K).ok laid) (by rw [show loopsOf b0 = [] from by kernel_rfl]; intro p hp; cases hp) rfl fun p hp hid => by
 rcases List.mem_cons.1 hp with rfl | hp
 ·intro st k r h1 h2; obtain ⟨x2, x3, x4, e, h⟩ := v0 (K := K) h2; have := St.like_eq (y := s0 x2 x3 x4) h1 (by kernel_rfl) e; subst this; exact ⟨fuel, (i0 K k x2 fuel x3 x4).trans h⟩
 rcases List.mem_cons.1 hp with rfl | hp
 ·exact absurd hid (by simp)
 cases hp
theorem tie (K : Res → Option Res) (a1 : List Int) : exec (X K) c (entry 49 [one (.tr 0 1 [.int .i64] (.ints a1))] [] []) (endK (X K)) = g a1 (fun r1 => K (m r1)) := Eq.trans (b := b a1 (fun r1 => K (m r1))) (by kernel_rfl) (by rw [e])
theorem runv {l : List Lf} {K : Res → Option Res} {r : Res} (h : run l K = some r) : ∃ a1, l = [.q (.ints a1)] ∧ g a1 (fun r1 => K (m r1)) = some r := by
 unfold run at h; split at h
 ·exact ⟨_, rfl, h⟩
 ·cases h
theorem ok : Con Go.Proofs.Try.prog con := con_of (fn := Go.Proofs.Try.f97) (c := c) (Fi := fi) (X := X) (fun_of laid (by kernel_rfl) (by kernel_rfl) (by kernel_rfl) rfl (by kernel_rfl) (by kernel_rfl) cx (fun _ => rfl) (fun _ => rfl) (fun K => by
 rw [show loopsOf c = [(0, b0), (2, b2)] from by kernel_rfl]; intro p hp
 rcases List.mem_cons.1 hp with rfl | hp
 ·exact w0 K
 rcases List.mem_cons.1 hp with rfl | hp
 ·exact w2 K
 cases hp)) fun xs rows boxes K r hl hr => by
 obtain ⟨a1, e, h⟩ := runv hr
 have := St.like_eq (y := a a1) hl (by kernel_rfl) e
 obtain ⟨rfl, rfl, rfl⟩ := argSt_inj this
 exact (tie K a1).trans h
end spec_SizeOf
namespace spec_l1Once
noncomputable def c : Code := bodyOf Go.Proofs.Try.f82
noncomputable def fi : Fin := ⟨Γ0, [(.tmp 4, 4)], [[1]], [], [([.sl [.int .u8] 1, .int .i64, .int .i64], [0, 1, 1])], []⟩
noncomputable def m (a2 : List Int) (r1 : Bool) (r3 r4 : Int) : Res := ⟨[⟨false, [.bool r1]⟩], [], [], [[.tr 2 2 [.int .u8] (.ints a2), .int .i64 r3, .int .i64 r4]], []⟩
noncomputable def os : List (FuncId × St × (List Lf → (Res → Option Res) → Option Res)) := [spec_l1Below.con]
noncomputable def X (K : Res → Option Res) : Ctx := { Γ := Γ0, orc := orcOf os, io := [], share := [], mvl := [], bun := [], cut := [], own := [], cin := [], cout := [], lp := lpOf [], kl := [], nk := true, eqs := eqs0, byt := byt0, fin := finK fi K }
noncomputable def b (a1 : Int) (a2 : List Int) (a3 a4 : Int) (R : Bool → Int → Int → Option Res) : Option Res :=
 spec_l1Below.g a1 a2 a3 a4 fun r5 r6 r7 =>
 R (r5 == 0) r6 r7
theorem gx : ∃ x : Int → List Int → Int → Int → (Bool → Int → Int → Option Res) → Option Res, x = b := ⟨_, rfl⟩
noncomputable def g : Int → List Int → Int → Int → (Bool → Int → Int → Option Res) → Option Res := Classical.choose gx
theorem e : g = b := Classical.choose_spec gx
noncomputable def run : List Lf → (Res → Option Res) → Option Res
 | [.i a1, .q (.ints a2), .i a3, .i a4], K => g a1 a2 a3 a4 (fun r1 r3 r4 => K (m a2 r1 r3 r4))
 | _, _ => none
noncomputable def a (a1 : Int) (a2 : List Int) (a3 a4 : Int) : St := argSt [one (.bp 0 0), one (.int .i64 a1)] [] [[.tr 2 2 [.int .u8] (.ints a2), .int .i64 a3, .int .i64 a4]]
noncomputable def con : FuncId × St × (List Lf → (Res → Option Res) → Option Res) := (82, a 0 [] 0 0, run)
theorem cx (K : Res → Option Res) : CtxOk Go.Proofs.Try.prog Γ0 byt0 eqs0 (X K) os := ⟨rfl, rfl, rfl, (fun p hp => by
 rcases List.mem_cons.1 hp with rfl | hp
 ·exact spec_l1Below.ok
 cases hp), rfl, rfl, rfl, rfl⟩
theorem tie (K : Res → Option Res) (a1 : Int) (a2 : List Int) (a3 a4 : Int) : exec (X K) c (entry 9 [one (.bp 0 0), one (.int .i64 a1)] [] [[.tr 2 2 [.int .u8] (.ints a2), .int .i64 a3, .int .i64 a4]]) (endK (X K)) = g a1 a2 a3 a4 (fun r1 r3 r4 => K (m a2 r1 r3 r4)) := Eq.trans (b := b a1 a2 a3 a4 (fun r1 r3 r4 => K (m a2 r1 r3 r4))) (by kernel_rfl) (by rw [e])
theorem runv {l : List Lf} {K : Res → Option Res} {r : Res} (h : run l K = some r) : ∃ a1 a2 a3 a4, l = [.i a1, .q (.ints a2), .i a3, .i a4] ∧ g a1 a2 a3 a4 (fun r1 r3 r4 => K (m a2 r1 r3 r4)) = some r := by
 unfold run at h; split at h
 ·exact ⟨_, _, _, _, rfl, h⟩
 ·cases h
theorem ok : Con Go.Proofs.Try.prog con := con_of (fn := Go.Proofs.Try.f82) (c := c) (Fi := fi) (X := X) (fun_of laid (by kernel_rfl) (by kernel_rfl) (by kernel_rfl) rfl (by kernel_rfl) (by kernel_rfl) cx (fun _ => rfl) (fun _ => rfl) (fun K => by
 rw [show loopsOf c = [] from by kernel_rfl]; intro p hp
 cases hp)) fun xs rows boxes K r hl hr => by
 obtain ⟨a1, a2, a3, a4, e, h⟩ := runv hr
 have := St.like_eq (y := a a1 a2 a3 a4) hl (by kernel_rfl) e
 obtain ⟨rfl, rfl, rfl⟩ := argSt_inj this
 exact (tie K a1 a2 a3 a4).trans h
end spec_l1Once
namespace spec_l1DrawNum
noncomputable def c : Code := bodyOf Go.Proofs.Try.f122
noncomputable def fi : Fin := ⟨Γ0, [(.tmp 2, 3)], [[1]], [], [([.sl [.int .u8] 1, .int .i64, .int .i64], [0, 1, 1])], []⟩
noncomputable def m (a1 : List Int) (r1 r3 r4 : Int) : Res := ⟨[⟨false, [.int .i64 r1]⟩], [], [], [[.tr 2 2 [.int .u8] (.ints a1), .int .i64 r3, .int .i64 r4]], []⟩
noncomputable def os : List (FuncId × St × (List Lf → (Res → Option Res) → Option Res)) := [spec_l1Once.con, spec_l1PickInt.con, spec_l1Below.con]
noncomputable def X (K : Res → Option Res) : Ctx := { Γ := Γ0, orc := orcOf os, io := [], share := [], mvl := [], bun := [], cut := [], own := [], cin := [], cout := [], lp := lpOf [], kl := [], nk := true, eqs := eqs0, byt := byt0, fin := finK fi K }
noncomputable def b (a1 : List Int) (a2 a3 : Int) (R : Int → Int → Int → Option Res) : Option Res :=
 spec_l1Once.g 12 a1 a2 a3 fun r4 r5 r6 =>
 bif r4 then (spec_l1PickInt.g ([1000000000000, (-1000000000000), 999999999999, 1000000, (-1000000), 1000001, 999999999999] : List Int) a1 r5 r6 fun r7 r8 r9 =>
  R r7 r8 r9)
 else (spec_l1Below.g 20 a1 r5 r6 fun r10 r11 r12 =>
 R (IntKind.i64.wrap (r10 - 6)) r11 r12)
theorem gx : ∃ x : List Int → Int → Int → (Int → Int → Int → Option Res) → Option Res, x = b := ⟨_, rfl⟩
noncomputable def g : List Int → Int → Int → (Int → Int → Int → Option Res) → Option Res := Classical.choose gx
theorem e : g = b := Classical.choose_spec gx
noncomputable def run : List Lf → (Res → Option Res) → Option Res
 | [.q (.ints a1), .i a2, .i a3], K => g a1 a2 a3 (fun r1 r3 r4 => K (m a1 r1 r3 r4))
 | _, _ => none
noncomputable def a (a1 : List Int) (a2 a3 : Int) : St := argSt [one (.bp 0 0)] [] [[.tr 2 2 [.int .u8] (.ints a1), .int .i64 a2, .int .i64 a3]]
noncomputable def con : FuncId × St × (List Lf → (Res → Option Res) → Option Res) := (122, a [] 0 0, run)
theorem cx (K : Res → Option Res) : CtxOk Go.Proofs.Try.prog Γ0 byt0 eqs0 (X K) os := ⟨rfl, rfl, rfl, (fun p hp => by
 rcases List.mem_cons.1 hp with rfl | hp
 ·exact spec_l1Once.ok
 rcases List.mem_cons.1 hp with rfl | hp
 ·exact spec_l1PickInt.ok
 rcases List.mem_cons.1 hp with rfl | hp
 ·exact spec_l1Below.ok
 cases hp), rfl, rfl, rfl, rfl⟩
theorem tie (K : Res → Option Res) (a1 : List Int) (a2 a3 : Int) : exec (X K) c (entry 11 [one (.bp 0 0)] [] [[.tr 2 2 [.int .u8] (.ints a1), .int .i64 a2, .int .i64 a3]]) (endK (X K)) = g a1 a2 a3 (fun r1 r3 r4 => K (m a1 r1 r3 r4)) := Eq.trans (b := b a1 a2 a3 (fun r1 r3 r4 => K (m a1 r1 r3 r4))) (by kernel_rfl) (by rw [e])
theorem runv {l : List Lf} {K : Res → Option Res} {r : Res} (h : run l K = some r) : ∃ a1 a2 a3, l = [.q (.ints a1), .i a2, .i a3] ∧ g a1 a2 a3 (fun r1 r3 r4 => K (m a1 r1 r3 r4)) = some r := by
 unfold run at h; split at h
 ·exact ⟨_, _, _, rfl, h⟩
 ·cases h
theorem ok : Con Go.Proofs.Try.prog con := con_of (fn := Go.Proofs.Try.f122) (c := c) (Fi := fi) (X := X) (fun_of laid (by kernel_rfl) (by kernel_rfl) (by kernel_rfl) rfl (by kernel_rfl) (by kernel_rfl) cx (fun _ => rfl) (fun _ => rfl) (fun K => by
 rw [show loopsOf c = [] from by kernel_rfl]; intro p hp
 cases hp)) fun xs rows boxes K r hl hr => by
 obtain ⟨a1, a2, a3, e, h⟩ := runv hr
 have := St.like_eq (y := a a1 a2 a3) hl (by kernel_rfl) e
 obtain ⟨rfl, rfl, rfl⟩ := argSt_inj this
 exact (tie K a1 a2 a3).trans h
end spec_l1DrawNum
namespace spec_l3Fill
noncomputable def c : Code := bodyOf Go.Proofs.Try.f120
noncomputable def fi : Fin := ⟨Γ0, [(.cell 4 46, 46)], [[1, 1]], [], [([.sl [.int .u8] 1, .int .i64, .int .i64], [0, 1, 1])], []⟩
noncomputable def m (r1 r2 r3 : List Int) (r4 r5 : Int) : Res := ⟨[⟨true, [.ow 1000, .ow 1001]⟩], [], [⟨[.int .i64], .ints r1, true, 0⟩, ⟨[.int .i64], .ints r2, true, 0⟩], [[.tr 2 2 [.int .u8] (.ints r3), .int .i64 r4, .int .i64 r5]], []⟩
noncomputable def b0 : Code := codeAt c [1, 1, 0, 1, 0, 0]
noncomputable def s0 (x5 : List Int) (x6 : Int) (x7 x8 x9 : List Int) (x10 x11 : Int) : St := ⟨mkT 25 [(0, one (.bp 0 0)), (1, one (.tr 0 1 [.int .i64] (.ints x5))), (4, one (.bp 1000 0)), (5, one (.bp 3112 0)), (6, one (.int .i64 x6))], [(3080, ⟨[.int .i64], .ints x7, true, 0⟩), (3105, ⟨[.int .i64], .ints x8, true, 0⟩)], [(0, [.tr 2 2 [.int .u8] (.ints x9), .int .i64 x10, .int .i64 x11]), (1000, [.nil, .nil]), (3112, [.ow 3080, .ow 3105])]⟩
noncomputable def l0s (x5 x7 x9 : List Int) (rec : Int → List Int → Int → Int → Option Res) (k : List Int → Int → Int → Option Res) (x6 : Int) (x8 : List Int) (x10 x11 : Int) : Option Res :=
 spec_SizeOf.g x5 fun r12 =>
 bif decide (x6 < r12) then (spec_l1DrawNum.g x9 x10 x11 fun r13 r14 r15 =>
  bif decide ((x8.length + 1) * 8 ≤ 140737488355328) then rec (IntKind.i64.wrap (x6 + 1)) (x8 ++ ([r13] : List Int)) r14 r15
  else none)
 else k x8 x10 x11
noncomputable def l0 (x5 x7 x9 : List Int) (k : List Int → Int → Int → Option Res) : Nat → Int → List Int → Int → Int → Option Res
 | 0, _, _, _, _ => none
 | n + 1, x6, x8, x10, x11 => l0s x5 x7 x9 (fun x6 x8 x10 x11 => l0 x5 x7 x9 k n x6 x8 x10 x11) k x6 x8 x10 x11
noncomputable def o0 (x5 x7 x9 y2 : List Int) (y4 y5 : Int) : St := ⟨mkT 25 [(4, one (.bp 1000 0)), (5, one (.bp 3112 0))], [(3080, ⟨[.int .i64], .ints x7, true, 0⟩), (3105, ⟨[.int .i64], .ints y2, true, 0⟩)], [(1000, [.nil, .nil]), (3112, [.ow 3080, .ow 3105]), (0, [.tr 2 2 [.int .u8] (.ints x9), .int .i64 y4, .int .i64 y5])]⟩
noncomputable def p0 (K : Res → Option Res) : List Lf → (St → Option Res) → Option Res
 | [.q (.ints x5), .i x6, .q (.ints x7), .q (.ints x8), .q (.ints x9), .i x10, .i x11], k => l0 x5 x7 x9 (fun y2 y4 y5 => k (o0 x5 x7 x9 y2 y4 y5)) fuel x6 x8 x10 x11
 | _, _ => none
noncomputable def os : List (FuncId × St × (List Lf → (Res → Option Res) → Option Res)) := [spec_SizeOf.con, spec_l1DrawNum.con]
noncomputable def X (K : Res → Option Res) : Ctx := { Γ := Γ0, orc := orcOf os, io := [], share := [], mvl := [], bun := [], cut := [], own := [(1, 3, 1, [.int .i64])], cin := [(0, ⟨[0, 1, 4, 5, 6], [(3080, 3080), (3105, 3105), (11320, 3105)], [0, 1000, 3112], [], [], []⟩)], cout := [(0, ⟨[4, 5], [(3080, 3080), (3105, 3105)], [1000, 3112, 0], [], [], []⟩)], lp := lpOf [(0, s0 [] 0 [] [] [] 0 0, p0 K)], kl := [], nk := true, eqs := eqs0, byt := byt0, fin := finK fi K }
noncomputable def b (a1 a2 : List Int) (a3 a4 : Int) (R : List Int → List Int → List Int → Int → Int → Option Res) : Option Res :=
 bif decide ((0 + a1.length) * 8 ≤ 140737488355328) then (l0 a1 (([] : List Int) ++ a1) a2 (fun y16 y17 y18 =>
  R (([] : List Int) ++ a1) y16 a2 y17 y18) fuel 0 ([] : List Int) a3 a4)
 else none
theorem gx : ∃ x : List Int → List Int → Int → Int → (List Int → List Int → List Int → Int → Int → Option Res) → Option Res, x = b := ⟨_, rfl⟩
noncomputable def g : List Int → List Int → Int → Int → (List Int → List Int → List Int → Int → Int → Option Res) → Option Res := Classical.choose gx
theorem e : g = b := Classical.choose_spec gx
noncomputable def run : List Lf → (Res → Option Res) → Option Res
 | [.q (.ints a1), .q (.ints a2), .i a3, .i a4], K => g a1 a2 a3 a4 (fun r1 r2 r3 r4 r5 => K (m r1 r2 r3 r4 r5))
 | _, _ => none
noncomputable def a (a1 a2 : List Int) (a3 a4 : Int) : St := argSt [one (.bp 0 0), one (.tr 0 1 [.int .i64] (.ints a1))] [] [[.tr 2 2 [.int .u8] (.ints a2), .int .i64 a3, .int .i64 a4]]
noncomputable def con : FuncId × St × (List Lf → (Res → Option Res) → Option Res) := (120, a [] [] 0 0, run)
theorem cx (K : Res → Option Res) : CtxOk Go.Proofs.Try.prog Γ0 byt0 eqs0 (X K) os := ⟨rfl, rfl, rfl, (fun p hp => by
 rcases List.mem_cons.1 hp with rfl | hp
 ·exact spec_SizeOf.ok
 rcases List.mem_cons.1 hp with rfl | hp
 ·exact spec_l1DrawNum.ok
 cases hp), rfl, rfl, rfl, rfl⟩
theorem t0 (K : Res → Option Res) (k : St → Option Res) (it : St → (St → Option Res) → Option Res) (x5 : List Int) (x6 : Int) (x7 x8 x9 : List Int) (x10 x11 : Int) : iterS (X K) 0 b0 it (s0 x5 x6 x7 x8 x9 x10 x11) k = l0s x5 x7 x9 (fun x6 x8 x10 x11 => it (s0 x5 x6 x7 x8 x9 x10 x11) k) (fun y2 y4 y5 => k (o0 x5 x7 x9 y2 y4 y5)) x6 x8 x10 x11 := by kernel_rfl
theorem i0 (K : Res → Option Res) (k : St → Option Res) (x5 x7 x9 : List Int) : ∀ (n : Nat) (x6 : Int) (x8 : List Int) (x10 x11 : Int), iter (X K) 0 b0 n (s0 x5 x6 x7 x8 x9 x10 x11) k = l0 x5 x7 x9 (fun y2 y4 y5 => k (o0 x5 x7 x9 y2 y4 y5)) n x6 x8 x10 x11
 | 0, _, _, _, _ => rfl
 | n + 1, x6, x8, x10, x11 => by
  rw [iter_succ, t0, show (fun x6 x8 x10 x11 => iter (X K) 0 b0 n (s0 x5 x6 x7 x8 x9 x10 x11) k) = (fun x6 x8 x10 x11 => l0 x5 x7 x9 (fun y2 y4 y5 => k (o0 x5 x7 x9 y2 y4 y5)) n x6 x8 x10 x11) from funext fun x6 => funext fun x8 => funext fun x10 => funext fun x11 => i0 K k x5 x7 x9 n x6 x8 x10 x11]; rfl
theorem v0 {K : Res → Option Res} {l : List Lf} {k : St → Option Res} {r : Res} (h : p0 K l k = some r) : ∃ x5 x6 x7 x8 x9 x10 x11, l = [.q (.ints x5), .i x6, .q (.ints x7), .q (.ints x8), .q (.ints x9), .i x10, .i x11] ∧ l0 x5 x7 x9 (fun y2 y4 y5 => k (o0 x5 x7 x9 y2 y4 y5)) fuel x6 x8 x10 x11 = some r := by
 unfold p0 at h; split at h
 ·exact ⟨_, _, _, _, _, _, _, rfl, h⟩
 ·cases h
theorem w0 (K : Res → Option Res) : LpSound Go.Proofs.Try.prog (X K) 0 b0 := lp_ok ((cx K).ok laid) (by rw [show loopsOf b0 = [] from by kernel_rfl]; intro p hp; cases hp) rfl fun p hp hid => by
 rcases List.mem_cons.1 hp with rfl | hp
 ·intro st k r h1 h2; obtain ⟨x5, x6, x7, x8, x9, x10, x11, e, h⟩ := v0 (K := K) h2; have := St.like_eq (y := s0 x5 x6 x7 x8 x9 x10 x11) h1 (by kernel_rfl) e; subst this; exact ⟨fuel, (i0 K k x5 x7 x9 fuel x6 x8 x10 x11).trans h⟩
 cases hp
theorem tie (K : Res → Option Res) (a1 a2 : List Int) (a3 a4 : Int) : exec (X K) c (entry 25 [one (.bp 0 0), one (.tr 0 1 [.int .i64] (.ints a1))] [] [[.tr 2 2 [.int .u8] (.ints a2), .int .i64 a3, .int .i64 a4]]) (endK (X K)) = g a1 a2 a3 a4 (fun r1 r2 r3 r4 r5 => K (m r1 r2 r3 r4 r5)) := Eq.trans (b := b a1 a2 a3 a4 (fun r1 r2 r3 r4 r5 => K (m r1 r2 r3 r4 r5))) (by kernel_rfl) (by rw [e])
theorem runv {l : List Lf} {K : Res → Option Res} {r : Res} (h : run l K = some r) : ∃ a1 a2 a3 a4, l = [.q (.ints a1), .q (.ints a2), .i a3, .i a4] ∧ g a1 a2 a3 a4 (fun r1 r2 r3 r4 r5 => K (m r1 r2 r3 r4 r5)) = some r := by
 unfold run at h; split at h
 ·exact ⟨_, _, _, _, rfl, h⟩
 ·cases h
theorem ok : Con Go.Proofs.Try.prog con := con_of (fn := Go.Proofs.Try.f120) (c := c) (Fi := fi) (X := X) (fun_of laid (by kernel_rfl) (by kernel_rfl) (by kernel_rfl) rfl (by kernel_rfl) (by kernel_rfl) cx (fun _ => rfl) (fun _ => rfl) (fun K => by
 rw [show loopsOf c = [(0, b0)] from by kernel_rfl]; intro p hp
 rcases List.mem_cons.1 hp with rfl | hp
 ·exact w0 K
 cases hp)) fun xs rows boxes K r hl hr => by
 obtain ⟨a1, a2, a3, a4, e, h⟩ := runv hr
 have := St.like_eq (y := a a1 a2 a3 a4) hl (by kernel_rfl) e
 obtain ⟨rfl, rfl, rfl⟩ := argSt_inj this
 exact (tie K a1 a2 a3 a4).trans h
end spec_l3Fill
namespace spec_l3DrawRight
noncomputable def c : Code := bodyOf Go.Proofs.Try.f86
noncomputable def fi : Fin := ⟨Γ0, [(.cell 2 46, 46)], [[1, 1]], [], [([.sl [.int .u8] 1, .int .i64, .int .i64], [0, 1, 1])], []⟩
noncomputable def m (r1 r2 r3 : List Int) (r4 r5 : Int) : Res := ⟨[⟨true, [.ow 1000, .ow 1001]⟩], [], [⟨[.int .i64], .ints r1, true, 0⟩, ⟨[.int .i64], .ints r2, true, 0⟩], [[.tr 2 2 [.int .u8] (.ints r3), .int .i64 r4, .int .i64 r5]], []⟩
noncomputable def os : List (FuncId × St × (List Lf → (Res → Option Res) → Option Res)) := [spec_l2DrawRight.con, spec_l3Fill.con]
noncomputable def X (K : Res → Option Res) : Ctx := { Γ := Γ0, orc := orcOf os, io := [], share := [], mvl := [], bun := [], cut := [], own := [], cin := [], cout := [], lp := lpOf [], kl := [], nk := true, eqs := eqs0, byt := byt0, fin := finK fi K }
noncomputable def b (a1 : List Int) (a2 a3 : Int) (R : List Int → List Int → List Int → Int → Int → Option Res) : Option Res :=
 spec_l2DrawRight.g a1 a2 a3 fun r4 r5 r6 =>
 spec_l3Fill.g r4 a1 r5 r6 fun r7 r8 r9 r10 r11 =>
 R r7 r8 r9 r10 r11
theorem gx : ∃ x : List Int → Int → Int → (List Int → List Int → List Int → Int → Int → Option Res) → Option Res, x = b := ⟨_, rfl⟩
noncomputable def g : List Int → Int → Int → (List Int → List Int → List Int → Int → Int → Option Res) → Option Res := Classical.choose gx
theorem e : g = b := Classical.choose_spec gx
noncomputable def run : List Lf → (Res → Option Res) → Option Res
 | [.q (.ints a1), .i a2, .i a3], K => g a1 a2 a3 (fun r1 r2 r3 r4 r5 => K (m r1 r2 r3 r4 r5))
 | _, _ => none
noncomputable def a (a1 : List Int) (a2 a3 : Int) : St := argSt [one (.bp 0 0)] [] [[.tr 2 2 [.int .u8] (.ints a1), .int .i64 a2, .int .i64 a3]]
noncomputable def con : FuncId × St × (List Lf → (Res → Option Res) → Option Res) := (86, a [] 0 0, run)
theorem cx (K : Res → Option Res) : CtxOk Go.Proofs.Try.prog Γ0 byt0 eqs0 (X K) os := ⟨rfl, rfl, rfl, (fun p hp => by
 rcases List.mem_cons.1 hp with rfl | hp
 ·exact spec_l2DrawRight.ok
 rcases List.mem_cons.1 hp with rfl | hp
 ·exact spec_l3Fill.ok
 cases hp), rfl, rfl, rfl, rfl⟩
theorem tie (K : Res → Option Res) (a1 : List Int) (a2 a3 : Int) : exec (X K) c (entry 7 [one (.bp 0 0)] [] [[.tr 2 2 [.int .u8] (.ints a1), .int .i64 a2, .int .i64 a3]]) (endK (X K)) = g a1 a2 a3 (fun r1 r2 r3 r4 r5 => K (m r1 r2 r3 r4 r5)) := Eq.trans (b := b a1 a2 a3 (fun r1 r2 r3 r4 r5 => K (m r1 r2 r3 r4 r5))) (by kernel_rfl) (by rw [e])
theorem runv {l : List Lf} {K : Res → Option Res} {r : Res} (h : run l K = some r) : ∃ a1 a2 a3, l = [.q (.ints a1), .i a2, .i a3] ∧ g a1 a2 a3 (fun r1 r2 r3 r4 r5 => K (m r1 r2 r3 r4 r5)) = some r := by
 unfold run at h; split at h
 ·exact ⟨_, _, _, rfl, h⟩
 ·cases h
theorem ok : Con Go.Proofs.Try.prog con := con_of (fn := Go.Proofs.Try.f86) (c := c) (Fi := fi) (X := X) (fun_of laid (by kernel_rfl) (by kernel_rfl) (by kernel_rfl) rfl (by kernel_rfl) (by kernel_rfl) cx (fun _ => rfl) (fun _ => rfl) (fun K => by
 rw [show loopsOf c = [] from by kernel_rfl]; intro p hp
 cases hp)) fun xs rows boxes K r hl hr => by
 obtain ⟨a1, a2, a3, e, h⟩ := runv hr
 have := St.like_eq (y := a a1 a2 a3) hl (by kernel_rfl) e
 obtain ⟨rfl, rfl, rfl⟩ := argSt_inj this
 exact (tie K a1 a2 a3).trans h
end spec_l3DrawRight
namespace spec_HeapOk
noncomputable def c : Code := bodyOf Go.Proofs.Try.f22
noncomputable def fi : Fin := ⟨Γ0, [(.tmp 2, 4)], [[1]], [], [], []⟩
noncomputable def m (r1 : Bool) : Res := ⟨[⟨false, [.bool r1]⟩], [], [], [], []⟩
noncomputable def b0 : Code := codeAt c [1, 1, 1, 0, 1, 0, 0]
noncomputable def b2 : Code := codeAt c [1, 1, 1, 0, 1, 0, 0, 1, 0, 0, 1, 1, 1, 1, 0, 0]
noncomputable def s2 (x12 x13 : Int) (x14 : List Bool) (x15 : List Int) (x16 : Int) (x17 : List (List Cl)) (x18 x19 : Int) (x20 : Bool) : St := ⟨mkT 87 [(1, one (.bp 1000 0)), (3, one (.ow 7176)), (4, one (.int .i64 x12)), (5, one (.bp 15416 0)), (6, one (.int .i64 x13))], [(7176, ⟨[.bool], .bools x14, true, 0⟩)], [(1000, [.tr 0 1 [.int .i64] (.ints x15), .int .i64 x16, .tr 0 1 [.int .i64, .int .i64, .bool] (.cells x17)]), (15416, [.int .i64 x18, .int .i64 x19, .bool x20])]⟩
noncomputable def l2s (x12 : Int) (x15 : List Int) (x16 : Int) (x17 : List (List Cl)) (x18 x19 : Int) (x20 : Bool) (rec : Int → List Bool → Option Res) (k : List Bool → Option Res) (R : Bool → Option Res) (x13 : Int) (x14 : List Bool) : Option Res :=
 bif decide (x13 < IntKind.i64.wrap (x18 + x19)) then (bif decide (0 ≤ x13) && decide (x13 < (x14.length : Int)) then (bif x14.getD x13.toNat false then R false
  else bif decide (0 ≤ x13) && decide (x13 < (x14.length : Int)) then rec (IntKind.i64.wrap (x13 + 1)) (x14.set x13.toNat true)
  else none)
  else none)
 else k x14
noncomputable def l2 (x12 : Int) (x15 : List Int) (x16 : Int) (x17 : List (List Cl)) (x18 x19 : Int) (x20 : Bool) (k : List Bool → Option Res) (R : Bool → Option Res) : Nat → Int → List Bool → Option Res
 | 0, _, _ => none
 | n + 1, x13, x14 => l2s x12 x15 x16 x17 x18 x19 x20 (fun x13 x14 => l2 x12 x15 x16 x17 x18 x19 x20 k R n x13 x14) k R x13 x14
noncomputable def o2 (x12 : Int) (x15 : List Int) (x16 : Int) (x17 : List (List Cl)) (x18 x19 : Int) (x20 : Bool) (y2 : List Bool) : St := ⟨mkT 87 [(1, one (.bp 1000 0)), (3, one (.ow 7176)), (4, one (.int .i64 x12))], [(7176, ⟨[.bool], .bools y2, true, 0⟩)], [(1000, [.tr 0 1 [.int .i64] (.ints x15), .int .i64 x16, .tr 0 1 [.int .i64, .int .i64, .bool] (.cells x17)])]⟩
noncomputable def p2 (K : Res → Option Res) : List Lf → (St → Option Res) → Option Res
 | [.i x12, .i x13, .q (.bools x14), .q (.ints x15), .i x16, .q (.cells x17), .i x18, .i x19, .b x20], k => l2 x12 x15 x16 x17 x18 x19 x20 (fun y2 => k (o2 x12 x15 x16 x17 x18 x19 x20 y2)) (fun r1 => K (m r1)) fuel x13 x14
 | _, _ => none
noncomputable def s0 (x5 : Int) (x6 : List Bool) (x7 : List Int) (x8 : Int) (x9 : List (List Cl)) : St := ⟨mkT 87 [(1, one (.bp 1000 0)), (3, one (.ow 7176)), (4, one (.int .i64 x5))], [(7176, ⟨[.bool], .bools x6, true, 0⟩)], [(1000, [.tr 0 1 [.int .i64] (.ints x7), .int .i64 x8, .tr 0 1 [.int .i64, .int .i64, .bool] (.cells x9)])]⟩
noncomputable def l0s (x7 : List Int) (x8 : Int) (x9 : List (List Cl)) (rec : Int → List Bool → Option Res) (k : Option Res) (R : Bool → Option Res) (x5 : Int) (x6 : List Bool) : Option Res :=
 bif decide (x5 < (x9.length : Int)) then (bif decide (0 ≤ x5) && decide (x5 < (x9.length : Int)) then (bif !(((x9.getD x5.toNat []).getD 2 (.i 0)).toB) then (bif (((x9.getD x5.toNat []).getD 0 (.i 0)).toI != 0) then R false
  else bif (((x9.getD x5.toNat []).getD 1 (.i 0)).toI != 0) then R false
  else rec (IntKind.i64.wrap (x5 + 1)) x6)
  else (spec_l1In.g (((x9.getD x5.toNat []).getD 0 (.i 0)).toI) 0 x8 fun r10 =>
  bif !r10 then R false
  else (spec_l1In.g (((x9.getD x5.toNat []).getD 1 (.i 0)).toI) 1 (IntKind.i64.wrap (x8 - (((x9.getD x5.toNat []).getD 0 (.i 0)).toI))) fun r11 =>
  bif !r11 then R false
  else (l2 x5 x7 x8 x9 (((x9.getD x5.toNat []).getD 0 (.i 0)).toI) (((x9.getD x5.toNat []).getD 1 (.i 0)).toI) (((x9.getD x5.toNat []).getD 2 (.i 0)).toB) (fun y21 =>
  rec (IntKind.i64.wrap (x5 + 1)) y21) R fuel (((x9.getD x5.toNat []).getD 0 (.i 0)).toI) x6))))
  else none)
 else k
noncomputable def l0 (x7 : List Int) (x8 : Int) (x9 : List (List Cl)) (k : Option Res) (R : Bool → Option Res) : Nat → Int → List Bool → Option Res
 | 0, _, _ => none
 | n + 1, x5, x6 => l0s x7 x8 x9 (fun x5 x6 => l0 x7 x8 x9 k R n x5 x6) k R x5 x6
noncomputable def o0 (x7 : List Int) (x8 : Int) (x9 : List (List Cl)) : St := ⟨mkT 87 [], [], []⟩
noncomputable def p0 (K : Res → Option Res) : List Lf → (St → Option Res) → Option Res
 | [.i x5, .q (.bools x6), .q (.ints x7), .i x8, .q (.cells x9)], k => l0 x7 x8 x9 (k (o0 x7 x8 x9)) (fun r1 => K (m r1)) fuel x5 x6
 | _, _ => none
noncomputable def os : List (FuncId × St × (List Lf → (Res → Option Res) → Option Res)) := [spec_l1In.con]
noncomputable def X (K : Res → Option Res) : Ctx := { Γ := Γ0, orc := orcOf os, io := [], share := [], mvl := [], bun := [], cut := [], own := [], cin := [(2, ⟨[1, 3, 4, 5, 6], [(7176, 7176)], [1000, 15416], [], [], []⟩), (0, ⟨[1, 3, 4], [(7176, 7176)], [1000], [], [], []⟩)], cout := [(2, ⟨[1, 3, 4], [(7176, 7176)], [1000], [], [], []⟩), (0, ⟨[], [], [], [], [], []⟩)], lp := lpOf [(2, s2 0 0 [] [] 0 [] 0 0 false, p2 K), (0, s0 0 [] [] 0 [], p0 K)], kl := [], nk := true, eqs := eqs0, byt := byt0, fin := finK fi K }
noncomputable def b (a1 : List Int) (a2 : Int) (a3 : List (List Cl)) (R : Bool → Option Res) : Option Res :=
 bif decide (6000 < (a1.length : Int)) then R false
 else (spec_l1In.g a2 0 (a1.length : Int) fun r4 =>
 bif !r4 then R false
 else bif decide (200 < (a3.length : Int)) then R false
 else bif decide (a2 = a2) && decide (0 ≤ a2) && decide (a2 * 1 ≤ 140737488355328) then (l0 a1 a2 a3 (
  R true) R fuel 0 (List.replicate a2.toNat false))
 else none)
theorem gx : ∃ x : List Int → Int → List (List Cl) → (Bool → Option Res) → Option Res, x = b := ⟨_, rfl⟩
noncomputable def g : List Int → Int → List (List Cl) → (Bool → Option Res) → Option Res := Classical.choose gx
theorem e : g = b := Classical.choose_spec gx
noncomputable def run : List Lf → (Res → Option Res) → Option Res
 | [.q (.ints a1), .i a2, .q (.cells a3)], K => g a1 a2 a3 (fun r1 => K (m r1))
 | _, _ => none
noncomputable def a (a1 : List Int) (a2 : Int) (a3 : List (List Cl)) : St := argSt [.v ⟨true, [.tr 0 1 [.int .i64] (.ints a1), .int .i64 a2, .tr 0 1 [.int .i64, .int .i64, .bool] (.cells a3)]⟩] [] []
noncomputable def con : FuncId × St × (List Lf → (Res → Option Res) → Option Res) := (22, a [] 0 [], run)
theorem cx (K : Res → Option Res) : CtxOk Go.Proofs.Try.prog Γ0 byt0 eqs0 (X K) os := ⟨rfl, rfl, rfl, (fun p hp => by
 rcases List.mem_cons.1 hp with rfl | hp
 ·exact spec_l1In.ok
 cases hp), rfl, rfl, rfl, rfl⟩
theorem t2 (K : Res → Option Res) (k : St → Option Res) (it : St → (St → Option Res) → Option Res) (x12 x13 : Int) (x14 : List Bool) (x15 : List Int) (x16 : Int) (x17 : List (List Cl)) (x18 x19 : Int) (x20 : Bool) : iterS (X K) 2 b2 it (s2 x12 x13 x14 x15 x16 x17 x18 x19 x20) k = l2s x12 x15 x16 x17 x18 x19 x20 (fun x13 x14 => it (s2 x12 x13 x14 x15 x16 x17 x18 x19 x20) k) (fun y2 => k (o2 x12 x15 x16 x17 x18 x19 x20 y2)) (fun r1 => K (m r1)) x13 x14 := by kernel_rfl
theorem i2 (K : Res → Option Res) (k : St → Option Res) (x12 : Int) (x15 : List Int) (x16 : Int) (x17 : List (List Cl)) (x18 x19 : Int) (x20 : Bool) : ∀ (n : Nat) (x13 : Int) (x14 : List Bool), iter (X K) 2 b2 n (s2 x12 x13 x14 x15 x16 x17 x18 x19 x20) k = l2 x12 x15 x16 x17 x18 x19 x20 (fun y2 => k (o2 x12 x15 x16 x17 x18 x19 x20 y2)) (fun r1 => K (m r1)) n x13 x14
 | 0, _, _ => rfl
 | n + 1, x13, x14 => by
  rw [iter_succ, t2, show (fun x13 x14 => iter (X K) 2 b2 n (s2 x12 x13 x14 x15 x16 x17 x18 x19 x20) k) = (fun x13 x14 => l2 x12 x15 x16 x17 x18 x19 x20 (fun y2 => k (o2 x12 x15 x16 x17 x18 x19 x20 y2)) (fun r1 => K (m r1)) n x13 x14) from funext fun x13 => funext fun x14 => i2 K k x12 x15 x16 x17 x18 x19 x20 n x13 x14]; rfl
theorem v2 {K : Res → Option Res} {l : List Lf} {k : St → Option Res} {r : Res} (h : p2 K l k = some r) : ∃ x12 x13 x14 x15 x16 x17 x18 x19 x20, l = [.i x12, .i x13, .q (.bools x14), .q (.ints x15), .i x16, .q (.cells x17), .i x18, .i x19, .b x20] ∧ l2 x12 x15 x16 x17 x18 x19 x20 (fun y2 => k (o2 x12 x15 x16 x17 x18 x19 x20 y2)) (fun r1 => K (m r1)) fuel x13 x14 = some r := by
 unfold p2 at h; split at h
 ·exact ⟨_, _, _, _, _, _, _, _, _, rfl, h⟩
 ·cases h
theorem t0 (K : Res → Option Res) (k : St → Option Res) (it : St → (St → Option Res) → Option Res) (x5 : Int) (x6 : List Bool) (x7 : List Int) (x8 : Int) (x9 : List (List Cl)) : iterS (X K) 0 b0 it (s0 x5 x6 x7 x8 x9) k = l0s x7 x8 x9 (fun x5 x6 => it (s0 x5 x6 x7 x8 x9) k) (k (o0 x7 x8 x9)) (fun r1 => K (m r1)) x5 x6 := by kernel_rfl
theorem i0 (K : Res → Option Res) (k : St → Option Res) (x7 : List Int) (x8 : Int) (x9 : List (List Cl)) : ∀ (n : Nat) (x5 : Int) (x6 : List Bool), iter (X K) 0 b0 n (s0 x5 x6 x7 x8 x9) k = l0 x7 x8 x9 (k (o0 x7 x8 x9)) (fun r1 => K (m r1)) n x5 x6
 | 0, _, _ => rfl
 | n + 1, x5, x6 => by
  rw [iter_succ, t0, show (fun x5 x6 => iter (X K) 0 b0 n (s0 x5 x6 x7 x8 x9) k) = (fun x5 x6 => l0 x7 x8 x9 (k (o0 x7 x8 x9)) (fun r1 => K (m r1)) n x5 x6) from funext fun x5 => funext fun x6 => i0 K k x7 x8 x9 n x5 x6]; rfl
theorem v0 {K : Res → Option Res} {l : List Lf} {k : St → Option Res} {r : Res} (h : p0 K l k = some r) : ∃ x5 x6 x7 x8 x9, l = [.i x5, .q (.bools x6), .q (.ints x7), .i x8, .q (.cells x9)] ∧ l0 x7 x8 x9 (k (o0 x7 x8 x9)) (fun r1 => K (m r1)) fuel x5 x6 = some r := by
 unfold p0 at h; split at h
 ·exact ⟨_, _, _, _, _, rfl, h⟩
 ·cases h
theorem w2 (K : Res → Option Res) : LpSound Go.Proofs.Try.prog (X K) 2 b2 := lp_ok ((cx K).ok laid) (by rw [show loopsOf b2 = [] from by kernel_rfl]; intro p hp; cases hp) rfl fun p hp hid => by
 rcases List.mem_cons.1 hp with rfl | hp
 ·intro st k r h1 h2; obtain ⟨x12, x13, x14, x15, x16, x17, x18, x19, x20, e, h⟩ := v2 (K := K) h2; have := St.like_eq (y := s2 x12 x13 x14 x15 x16 x17 x18 x19 x20) h1 (by kernel_rfl) e; subst this; exact ⟨fuel, (i2 K k x12 x15 x16 x17 x18 x19 x20 fuel x13 x14).trans h⟩
 rcases List.mem_cons.1 hp with rfl | hp
 ·exact absurd hid (by simp)
 cases hp
theorem w0 (K : Res → Option Res) : LpSound Go.Proofs.Try.prog (X K) 0 b0 := lp_ok ((cx K).ok laid) (by
 rw [show loopsOf b0 = [(2, b2)] from by kernel_rfl]; intro p hp
 rcases List.mem_cons.1 hp with rfl | hp
 ·exact w2 K
 cases hp) rfl fun p hp hid => by
 rcases List.mem_cons.1 hp with rfl | hp
 ·exact absurd hid (by simp)
 rcases List.mem_cons.1 hp with rfl | hp
 ·intro st k r h1 h2; obtain ⟨x5, x6, x7, x8, x9, e, h⟩ := v0 (K := K) h2; have := St.like_eq (y := s0 x5 x6 x7 x8 x9) h1 (by kernel_rfl) e; subst this; exact ⟨fuel, (i0 K k x7 x8 x9 fuel x5 x6).trans h⟩
 cases hp
theorem tie (K : Res → Option Res) (a1 : List Int) (a2 : Int) (a3 : List (List Cl)) : exec (X K) c (entry 87 [.v ⟨true, [.tr 0 1 [.int .i64] (.ints a1), .int .i64 a2, .tr 0 1 [.int .i64, .int .i64, .bool] (.cells a3)]⟩] [] []) (endK (X K)) = g a1 a2 a3 (fun r1 => K (m r1)) := Eq.trans (b := b a1 a2 a3 (fun r1 => K (m r1))) (by kernel_rfl) (by rw [e])
theorem runv {l : List Lf} {K : Res → Option Res} {r : Res} (h : run l K = some r) : ∃ a1 a2 a3, l = [.q (.ints a1), .i a2, .q (.cells a3)] ∧ g a1 a2 a3 (fun r1 => K (m r1)) = some r := by
 unfold run at h; split at h
 ·exact ⟨_, _, _, rfl, h⟩
 ·cases h
theorem ok : Con Go.Proofs.Try.prog con := con_of (fn := Go.Proofs.Try.f22) (c := c) (Fi := fi) (X := X) (fun_of laid (by kernel_rfl) (by kernel_rfl) (by kernel_rfl) rfl (by kernel_rfl) (by kernel_rfl) cx (fun _ => rfl) (fun _ => rfl) (fun K => by
 rw [show loopsOf c = [(0, b0), (2, b2)] from by kernel_rfl]; intro p hp
 rcases List.mem_cons.1 hp with rfl | hp
 ·exact w0 K
 rcases List.mem_cons.1 hp with rfl | hp
 ·exact w2 K
 cases hp)) fun xs rows boxes K r hl hr => by
 obtain ⟨a1, a2, a3, e, h⟩ := runv hr
 have := St.like_eq (y := a a1 a2 a3) hl (by kernel_rfl) e
 obtain ⟨rfl, rfl, rfl⟩ := argSt_inj this
 exact (tie K a1 a2 a3).trans h
end spec_HeapOk
namespace spec_NumOk
noncomputable def c : Code := bodyOf Go.Proofs.Try.f98
noncomputable def fi : Fin := ⟨Γ0, [(.tmp 2, 4)], [[1]], [], [], []⟩
noncomputable def m (r1 : Bool) : Res := ⟨[⟨false, [.bool r1]⟩], [], [], [], []⟩
noncomputable def os : List (FuncId × St × (List Lf → (Res → Option Res) → Option Res)) := [spec_l1In.con]
noncomputable def X (K : Res → Option Res) : Ctx := { Γ := Γ0, orc := orcOf os, io := [], share := [], mvl := [], bun := [], cut := [], own := [], cin := [], cout := [], lp := lpOf [], kl := [], nk := true, eqs := eqs0, byt := byt0, fin := finK fi K }
noncomputable def b (a1 : Int) (R : Bool → Option Res) : Option Res :=
 spec_l1In.g a1 (-1000000000000) 1000000000000 fun r2 =>
 R r2
theorem gx : ∃ x : Int → (Bool → Option Res) → Option Res, x = b := ⟨_, rfl⟩
noncomputable def g : Int → (Bool → Option Res) → Option Res := Classical.choose gx
theorem e : g = b := Classical.choose_spec gx
noncomputable def run : List Lf → (Res → Option Res) → Option Res
 | [.i a1], K => g a1 (fun r1 => K (m r1))
 | _, _ => none
noncomputable def a (a1 : Int) : St := argSt [one (.int .i64 a1)] [] []
noncomputable def con : FuncId × St × (List Lf → (Res → Option Res) → Option Res) := (98, a 0, run)
theorem cx (K : Res → Option Res) : CtxOk Go.Proofs.Try.prog Γ0 byt0 eqs0 (X K) os := ⟨rfl, rfl, rfl, (fun p hp => by
 rcases List.mem_cons.1 hp with rfl | hp
 ·exact spec_l1In.ok
 cases hp), rfl, rfl, rfl, rfl⟩
theorem tie (K : Res → Option Res) (a1 : Int) : exec (X K) c (entry 5 [one (.int .i64 a1)] [] []) (endK (X K)) = g a1 (fun r1 => K (m r1)) := Eq.trans (b := b a1 (fun r1 => K (m r1))) (by kernel_rfl) (by rw [e])
theorem runv {l : List Lf} {K : Res → Option Res} {r : Res} (h : run l K = some r) : ∃ a1, l = [.i a1] ∧ g a1 (fun r1 => K (m r1)) = some r := by
 unfold run at h; split at h
 ·exact ⟨_, rfl, h⟩
 ·cases h
theorem ok : Con Go.Proofs.Try.prog con := con_of (fn := Go.Proofs.Try.f98) (c := c) (Fi := fi) (X := X) (fun_of laid (by kernel_rfl) (by kernel_rfl) (by kernel_rfl) rfl (by kernel_rfl) (by kernel_rfl) cx (fun _ => rfl) (fun _ => rfl) (fun K => by
 rw [show loopsOf c = [] from by kernel_rfl]; intro p hp
 cases hp)) fun xs rows boxes K r hl hr => by
 obtain ⟨a1, e, h⟩ := runv hr
 have := St.like_eq (y := a a1) hl (by kernel_rfl) e
 obtain ⟨rfl, rfl, rfl⟩ := argSt_inj this
 exact (tie K a1).trans h
end spec_NumOk
namespace spec_ArrayOk
noncomputable def c : Code := bodyOf Go.Proofs.Try.f50
noncomputable def fi : Fin := ⟨Γ0, [(.tmp 2, 4)], [[1]], [], [], []⟩
noncomputable def m (r1 : Bool) : Res := ⟨[⟨false, [.bool r1]⟩], [], [], [], []⟩
noncomputable def b0 : Code := codeAt c [1, 1, 0, 1, 0, 0]
noncomputable def s0 (x4 : Int) (x5 x6 : List Int) : St := ⟨mkT 25 [(1, one (.bp 1000 0)), (3, one (.int .i64 x4))], [], [(1000, [.tr 0 1 [.int .i64] (.ints x5), .tr 0 1 [.int .i64] (.ints x6)])]⟩
noncomputable def l0s (x5 x6 : List Int) (rec : Int → Option Res) (k : Option Res) (R : Bool → Option Res) (x4 : Int) : Option Res :=
 bif decide (x4 < (x6.length : Int)) then (bif decide (0 ≤ x4) && decide (x4 < (x6.length : Int)) then (spec_NumOk.g (x6.getD x4.toNat 0) fun r7 =>
  bif !r7 then R false
  else rec (IntKind.i64.wrap (x4 + 1)))
  else none)
 else k
noncomputable def l0 (x5 x6 : List Int) (k : Option Res) (R : Bool → Option Res) : Nat → Int → Option Res
 | 0, _ => none
 | n + 1, x4 => l0s x5 x6 (fun x4 => l0 x5 x6 k R n x4) k R x4
noncomputable def o0 (x5 x6 : List Int) : St := ⟨mkT 25 [], [], []⟩
noncomputable def p0 (K : Res → Option Res) : List Lf → (St → Option Res) → Option Res
 | [.i x4, .q (.ints x5), .q (.ints x6)], k => l0 x5 x6 (k (o0 x5 x6)) (fun r1 => K (m r1)) fuel x4
 | _, _ => none
noncomputable def os : List (FuncId × St × (List Lf → (Res → Option Res) → Option Res)) := [spec_SizeOf.con, spec_NumOk.con]
noncomputable def X (K : Res → Option Res) : Ctx := { Γ := Γ0, orc := orcOf os, io := [], share := [], mvl := [], bun := [], cut := [], own := [], cin := [(0, ⟨[1, 3], [], [1000], [], [], []⟩)], cout := [(0, ⟨[], [], [], [], [], []⟩)], lp := lpOf [(0, s0 0 [] [], p0 K)], kl := [], nk := true, eqs := eqs0, byt := byt0, fin := finK fi K }
noncomputable def b (a1 a2 : List Int) (R : Bool → Option Res) : Option Res :=
 spec_SizeOf.g a1 fun r3 =>
 bif (r3 != (a2.length : Int)) then R false
 else (l0 a1 a2 (
 R true) R fuel 0)
theorem gx : ∃ x : List Int → List Int → (Bool → Option Res) → Option Res, x = b := ⟨_, rfl⟩
noncomputable def g : List Int → List Int → (Bool → Option Res) → Option Res := Classical.choose gx
theorem e : g = b := Classical.choose_spec gx
noncomputable def run : List Lf → (Res → Option Res) → Option Res
 | [.q (.ints a1), .q (.ints a2)], K => g a1 a2 (fun r1 => K (m r1))
 | _, _ => none
noncomputable def a (a1 a2 : List Int) : St := argSt [.v ⟨true, [.tr 0 1 [.int .i64] (.ints a1), .tr 0 1 [.int .i64] (.ints a2)]⟩] [] []
noncomputable def con : FuncId × St × (List Lf → (Res → Option Res) → Option Res) := (50, a [] [], run)
theorem cx (K : Res → Option Res) : CtxOk Go.Proofs.Try.prog Γ0 byt0 eqs0 (X K) os := ⟨rfl, rfl, rfl, (fun p hp => by
 rcases List.mem_cons.1 hp with rfl | hp
 ·exact spec_SizeOf.ok
 rcases List.mem_cons.1 hp with rfl | hp
 ·exact spec_NumOk.ok
 cases hp), rfl, rfl, rfl, rfl⟩
theorem t0 (K : Res → Option Res) (k : St → Option Res) (it : St → (St → Option Res) → Option Res) (x4 : Int) (x5 x6 : List Int) : iterS (X K) 0 b0 it (s0 x4 x5 x6) k = l0s x5 x6 (fun x4 => it (s0 x4 x5 x6) k) (k (o0 x5 x6)) (fun r1 => K (m r1)) x4 := by kernel_rfl
theorem i0 (K : Res → Option Res) (k : St → Option Res) (x5 x6 : List Int) : ∀ (n : Nat) (x4 : Int), iter (X K) 0 b0 n (s0 x4 x5 x6) k = l0 x5 x6 (k (o0 x5 x6)) (fun r1 => K (m r1)) n x4
 | 0, _ => rfl
 | n + 1, x4 => by
  rw [iter_succ, t0, show (fun x4 => iter (X K) 0 b0 n (s0 x4 x5 x6) k) = (fun x4 => l0 x5 x6 (k (o0 x5 x6)) (fun r1 => K (m r1)) n x4) from funext fun x4 => i0 K k x5 x6 n x4]; rfl
theorem v0 {K : Res → Option Res} {l : List Lf} {k : St → Option Res} {r : Res} (h : p0 K l k = some r) : ∃ x4 x5 x6, l = [.i x4, .q (.ints x5), .q (.ints x6)] ∧ l0 x5 x6 (k (o0 x5 x6)) (fun r1 => K (m r1)) fuel x4 = some r := by
 unfold p0 at h; split at h
 ·exact ⟨_, _, _, rfl, h⟩
 ·cases h
theorem w0 (K : Res → Option Res) : LpSound Go.Proofs.Try.prog (X K) 0 b0 := lp_ok ((cx K).ok laid) (by rw [show loopsOf b0 = [] from by kernel_rfl]; intro p hp; cases hp) rfl fun p hp hid => by
 rcases List.mem_cons.1 hp with rfl | hp
 ·intro st k r h1 h2; obtain ⟨x4, x5, x6, e, h⟩ := v0 (K := K) h2; have := St.like_eq (y := s0 x4 x5 x6) h1 (by kernel_rfl) e; subst this; exact ⟨fuel, (i0 K k x5 x6 fuel x4).trans h⟩
 cases hp
theorem tie (K : Res → Option Res) (a1 a2 : List Int) : exec (X K) c (entry 25 [.v ⟨true, [.tr 0 1 [.int .i64] (.ints a1), .tr 0 1 [.int .i64] (.ints a2)]⟩] [] []) (endK (X K)) = g a1 a2 (fun r1 => K (m r1)) := Eq.trans (b := b a1 a2 (fun r1 => K (m r1))) (by kernel_rfl) (by rw [e])
theorem runv {l : List Lf} {K : Res → Option Res} {r : Res} (h : run l K = some r) : ∃ a1 a2, l = [.q (.ints a1), .q (.ints a2)] ∧ g a1 a2 (fun r1 => K (m r1)) = some r := by
 unfold run at h; split at h
 ·exact ⟨_, _, rfl, h⟩
 ·cases h
theorem ok : Con Go.Proofs.Try.prog con := con_of (fn := Go.Proofs.Try.f50) (c := c) (Fi := fi) (X := X) (fun_of laid (by kernel_rfl) (by kernel_rfl) (by kernel_rfl) rfl (by kernel_rfl) (by kernel_rfl) cx (fun _ => rfl) (fun _ => rfl) (fun K => by
 rw [show loopsOf c = [(0, b0)] from by kernel_rfl]; intro p hp
 rcases List.mem_cons.1 hp with rfl | hp
 ·exact w0 K
 cases hp)) fun xs rows boxes K r hl hr => by
 obtain ⟨a1, a2, e, h⟩ := runv hr
 have := St.like_eq (y := a a1 a2) hl (by kernel_rfl) e
 obtain ⟨rfl, rfl, rfl⟩ := argSt_inj this
 exact (tie K a1 a2).trans h
end spec_ArrayOk
namespace spec_l13Copy
noncomputable def c : Code := bodyOf Go.Proofs.Try.f51
noncomputable def fi : Fin := ⟨Γ0, [(.cell 2 44, 44)], [[1, 1, 1]], [], [], []⟩
noncomputable def m (a2 : Int) (r1 : List Int) (r3 : List (List Cl)) : Res := ⟨[⟨true, [.ow 1000, .int .i64 a2, .ow 1001]⟩], [], [⟨[.int .i64], .ints r1, true, 0⟩, ⟨[.int .i64, .int .i64, .bool], .cells r3, true, 0⟩], [], []⟩
noncomputable def os : List (FuncId × St × (List Lf → (Res → Option Res) → Option Res)) := []
noncomputable def X (K : Res → Option Res) : Ctx := { Γ := Γ0, orc := orcOf os, io := [], share := [], mvl := [], bun := [], cut := [], own := [], cin := [], cout := [], lp := lpOf [], kl := [], nk := true, eqs := eqs0, byt := byt0, fin := finK fi K }
noncomputable def b (a1 : List Int) (a2 : Int) (a3 : List (List Cl)) (R : List Int → List (List Cl) → Option Res) : Option Res :=
 bif decide ((0 + a1.length) * 8 ≤ 140737488355328) then (bif decide ((0 + a3.length) * 24 ≤ 140737488355328) then R (([] : List Int) ++ a1) (([] : List (List Cl)) ++ a3)
  else none)
 else none
theorem gx : ∃ x : List Int → Int → List (List Cl) → (List Int → List (List Cl) → Option Res) → Option Res, x = b := ⟨_, rfl⟩
noncomputable def g : List Int → Int → List (List Cl) → (List Int → List (List Cl) → Option Res) → Option Res := Classical.choose gx
theorem e : g = b := Classical.choose_spec gx
noncomputable def run : List Lf → (Res → Option Res) → Option Res
 | [.q (.ints a1), .i a2, .q (.cells a3)], K => g a1 a2 a3 (fun r1 r3 => K (m a2 r1 r3))
 | _, _ => none
noncomputable def a (a1 : List Int) (a2 : Int) (a3 : List (List Cl)) : St := argSt [.v ⟨true, [.tr 0 1 [.int .i64] (.ints a1), .int .i64 a2, .tr 0 1 [.int .i64, .int .i64, .bool] (.cells a3)]⟩] [] []
noncomputable def con : FuncId × St × (List Lf → (Res → Option Res) → Option Res) := (51, a [] 0 [], run)
theorem cx (K : Res → Option Res) : CtxOk Go.Proofs.Try.prog Γ0 byt0 eqs0 (X K) os := ⟨rfl, rfl, rfl, (fun p hp => by
 cases hp), rfl, rfl, rfl, rfl⟩
theorem tie (K : Res → Option Res) (a1 : List Int) (a2 : Int) (a3 : List (List Cl)) : exec (X K) c (entry 14 [.v ⟨true, [.tr 0 1 [.int .i64] (.ints a1), .int .i64 a2, .tr 0 1 [.int .i64, .int .i64, .bool] (.cells a3)]⟩] [] []) (endK (X K)) = g a1 a2 a3 (fun r1 r3 => K (m a2 r1 r3)) := Eq.trans (b := b a1 a2 a3 (fun r1 r3 => K (m a2 r1 r3))) (by kernel_rfl) (by rw [e])
theorem runv {l : List Lf} {K : Res → Option Res} {r : Res} (h : run l K = some r) : ∃ a1 a2 a3, l = [.q (.ints a1), .i a2, .q (.cells a3)] ∧ g a1 a2 a3 (fun r1 r3 => K (m a2 r1 r3)) = some r := by
 unfold run at h; split at h
 ·exact ⟨_, _, _, rfl, h⟩
 ·cases h
theorem ok : Con Go.Proofs.Try.prog con := con_of (fn := Go.Proofs.Try.f51) (c := c) (Fi := fi) (X := X) (fun_of laid (by kernel_rfl) (by kernel_rfl) (by kernel_rfl) rfl (by kernel_rfl) (by kernel_rfl) cx (fun _ => rfl) (fun _ => rfl) (fun K => by
 rw [show loopsOf c = [] from by kernel_rfl]; intro p hp
 cases hp)) fun xs rows boxes K r hl hr => by
 obtain ⟨a1, a2, a3, e, h⟩ := runv hr
 have := St.like_eq (y := a a1 a2 a3) hl (by kernel_rfl) e
 obtain ⟨rfl, rfl, rfl⟩ := argSt_inj this
 exact (tie K a1 a2 a3).trans h
end spec_l13Copy
namespace spec_l13Words
noncomputable def c : Code := bodyOf Go.Proofs.Try.f99
noncomputable def fi : Fin := ⟨Γ0, [(.tmp 2, 41)], [[1]], [], [], []⟩
noncomputable def m (r1 : List Int) : Res := ⟨[⟨false, [.ow 1000]⟩], [], [⟨[.int .i64], .ints r1, true, 0⟩], [], []⟩
noncomputable def os : List (FuncId × St × (List Lf → (Res → Option Res) → Option Res)) := []
noncomputable def X (K : Res → Option Res) : Ctx := { Γ := Γ0, orc := orcOf os, io := [], share := [], mvl := [], bun := [], cut := [], own := [], cin := [], cout := [], lp := lpOf [], kl := [], nk := true, eqs := eqs0, byt := byt0, fin := finK fi K }
noncomputable def b (a1 a2 : List Int) (R : List Int → Option Res) : Option Res :=
 bif decide ((1 + a1.length) * 8 ≤ 140737488355328) then (bif decide (((([(a1.length : Int)] : List Int) ++ a1).length + a2.length) * 8 ≤ 140737488355328) then R ((([(a1.length : Int)] : List Int) ++ a1) ++ a2)
  else none)
 else none
theorem gx : ∃ x : List Int → List Int → (List Int → Option Res) → Option Res, x = b := ⟨_, rfl⟩
noncomputable def g : List Int → List Int → (List Int → Option Res) → Option Res := Classical.choose gx
theorem e : g = b := Classical.choose_spec gx
noncomputable def run : List Lf → (Res → Option Res) → Option Res
 | [.q (.ints a1), .q (.ints a2)], K => g a1 a2 (fun r1 => K (m r1))
 | _, _ => none
noncomputable def a (a1 a2 : List Int) : St := argSt [.v ⟨true, [.tr 0 1 [.int .i64] (.ints a1), .tr 0 1 [.int .i64] (.ints a2)]⟩] [] []
noncomputable def con : FuncId × St × (List Lf → (Res → Option Res) → Option Res) := (99, a [] [], run)
theorem cx (K : Res → Option Res) : CtxOk Go.Proofs.Try.prog Γ0 byt0 eqs0 (X K) os := ⟨rfl, rfl, rfl, (fun p hp => by
 cases hp), rfl, rfl, rfl, rfl⟩
theorem tie (K : Res → Option Res) (a1 a2 : List Int) : exec (X K) c (entry 15 [.v ⟨true, [.tr 0 1 [.int .i64] (.ints a1), .tr 0 1 [.int .i64] (.ints a2)]⟩] [] []) (endK (X K)) = g a1 a2 (fun r1 => K (m r1)) := Eq.trans (b := b a1 a2 (fun r1 => K (m r1))) (by kernel_rfl) (by rw [e])
theorem runv {l : List Lf} {K : Res → Option Res} {r : Res} (h : run l K = some r) : ∃ a1 a2, l = [.q (.ints a1), .q (.ints a2)] ∧ g a1 a2 (fun r1 => K (m r1)) = some r := by
 unfold run at h; split at h
 ·exact ⟨_, _, rfl, h⟩
 ·cases h
theorem ok : Con Go.Proofs.Try.prog con := con_of (fn := Go.Proofs.Try.f99) (c := c) (Fi := fi) (X := X) (fun_of laid (by kernel_rfl) (by kernel_rfl) (by kernel_rfl) rfl (by kernel_rfl) (by kernel_rfl) cx (fun _ => rfl) (fun _ => rfl) (fun K => by
 rw [show loopsOf c = [] from by kernel_rfl]; intro p hp
 cases hp)) fun xs rows boxes K r hl hr => by
 obtain ⟨a1, a2, e, h⟩ := runv hr
 have := St.like_eq (y := a a1 a2) hl (by kernel_rfl) e
 obtain ⟨rfl, rfl, rfl⟩ := argSt_inj this
 exact (tie K a1 a2).trans h
end spec_l13Words
namespace spec_l13Next
noncomputable def c : Code := bodyOf Go.Proofs.Try.f128
noncomputable def fi : Fin := ⟨Γ0, [(.tmp 4, 3)], [[1]], [], [], []⟩
noncomputable def m (r1 : Int) : Res := ⟨[⟨false, [.int .i64 r1]⟩], [], [], [], []⟩
noncomputable def b0 : Code := codeAt c [1, 1, 0, 1, 0, 0]
noncomputable def s0 (x5 x6 x7 : Int) (x8 : List Int) (x9 : Int) (x10 : List (List Cl)) : St := ⟨mkT 45 [(1, one (.int .i64 x5)), (2, one (.bp 1000 0)), (5, one (.int .i64 x6)), (6, one (.int .i64 x7))], [], [(1000, [.tr 0 1 [.int .i64] (.ints x8), .int .i64 x9, .tr 0 1 [.int .i64, .int .i64, .bool] (.cells x10)])]⟩
noncomputable def l0s (x5 : Int) (x8 : List Int) (x9 : Int) (x10 : List (List Cl)) (rec : Int → Int → Option Res) (k : Int → Option Res) (x6 x7 : Int) : Option Res :=
 bif decide (x7 < (x10.length : Int)) then (bif decide (0 ≤ x7) && decide (x7 < (x10.length : Int)) then (bif ((x10.getD x7.toNat []).getD 2 (.i 0)).toB then (bif decide (x5 ≤ ((x10.getD x7.toNat []).getD 0 (.i 0)).toI) then (bif decide (x6 < 0) then rec x7 (IntKind.i64.wrap (x7 + 1))
  else bif decide (0 ≤ x6) && decide (x6 < (x10.length : Int)) then (bif decide (((x10.getD x7.toNat []).getD 0 (.i 0)).toI < ((x10.getD x6.toNat []).getD 0 (.i 0)).toI) then rec x7 (IntKind.i64.wrap (x7 + 1))
   else rec x6 (IntKind.i64.wrap (x7 + 1)))
  else none)
  else rec x6 (IntKind.i64.wrap (x7 + 1)))
  else rec x6 (IntKind.i64.wrap (x7 + 1)))
  else none)
 else k x6
noncomputable def l0 (x5 : Int) (x8 : List Int) (x9 : Int) (x10 : List (List Cl)) (k : Int → Option Res) : Nat → Int → Int → Option Res
 | 0, _, _ => none
 | n + 1, x6, x7 => l0s x5 x8 x9 x10 (fun x6 x7 => l0 x5 x8 x9 x10 k n x6 x7) k x6 x7
noncomputable def o0 (x5 : Int) (x8 : List Int) (x9 : Int) (x10 : List (List Cl)) (y1 : Int) : St := ⟨mkT 45 [(5, one (.int .i64 y1))], [], []⟩
noncomputable def p0 (K : Res → Option Res) : List Lf → (St → Option Res) → Option Res
 | [.i x5, .i x6, .i x7, .q (.ints x8), .i x9, .q (.cells x10)], k => l0 x5 x8 x9 x10 (fun y1 => k (o0 x5 x8 x9 x10 y1)) fuel x6 x7
 | _, _ => none
noncomputable def os : List (FuncId × St × (List Lf → (Res → Option Res) → Option Res)) := []
noncomputable def X (K : Res → Option Res) : Ctx := { Γ := Γ0, orc := orcOf os, io := [], share := [], mvl := [], bun := [], cut := [], own := [], cin := [(0, ⟨[1, 2, 5, 6], [], [1000], [], [], []⟩)], cout := [(0, ⟨[5], [], [], [], [], []⟩)], lp := lpOf [(0, s0 0 0 0 [] 0 [], p0 K)], kl := [], nk := true, eqs := eqs0, byt := byt0, fin := finK fi K }
noncomputable def b (a1 : List Int) (a2 : Int) (a3 : List (List Cl)) (a4 : Int) (R : Int → Option Res) : Option Res :=
 l0 a4 a1 a2 a3 (fun y11 =>
 R y11) fuel (-1) 0
theorem gx : ∃ x : List Int → Int → List (List Cl) → Int → (Int → Option Res) → Option Res, x = b := ⟨_, rfl⟩
noncomputable def g : List Int → Int → List (List Cl) → Int → (Int → Option Res) → Option Res := Classical.choose gx
theorem e : g = b := Classical.choose_spec gx
noncomputable def run : List Lf → (Res → Option Res) → Option Res
 | [.q (.ints a1), .i a2, .q (.cells a3), .i a4], K => g a1 a2 a3 a4 (fun r1 => K (m r1))
 | _, _ => none
noncomputable def a (a1 : List Int) (a2 : Int) (a3 : List (List Cl)) (a4 : Int) : St := argSt [.v ⟨true, [.tr 0 1 [.int .i64] (.ints a1), .int .i64 a2, .tr 0 1 [.int .i64, .int .i64, .bool] (.cells a3)]⟩, one (.int .i64 a4)] [] []
noncomputable def con : FuncId × St × (List Lf → (Res → Option Res) → Option Res) := (128, a [] 0 [] 0, run)
theorem cx (K : Res → Option Res) : CtxOk Go.Proofs.Try.prog Γ0 byt0 eqs0 (X K) os := ⟨rfl, rfl, rfl, (fun p hp => by
 cases hp), rfl, rfl, rfl, rfl⟩
theorem t0 (K : Res → Option Res) (k : St → Option Res) (it : St → (St → Option Res) → Option Res) (x5 x6 x7 : Int) (x8 : List Int) (x9 : Int) (x10 : List (List Cl)) : iterS (X K) 0 b0 it (s0 x5 x6 x7 x8 x9 x10) k = l0s x5 x8 x9 x10 (fun x6 x7 => it (s0 x5 x6 x7 x8 x9 x10) k) (fun y1 => k (o0 x5 x8 x9 x10 y1)) x6 x7 := by kernel_rfl
theorem i0 (K : Res → Option Res) (k : St → Option Res) (x5 : Int) (x8 : List Int) (x9 : Int) (x10 : List (List Cl)) : ∀ (n : Nat) (x6 x7 : Int), iter (X K) 0 b0 n (s0 x5 x6 x7 x8 x9 x10) k = l0 x5 x8 x9 x10 (fun y1 => k (o0 x5 x8 x9 x10 y1)) n x6 x7
 | 0, _, _ => rfl
 | n + 1, x6, x7 => by
  rw [iter_succ, t0, show (fun x6 x7 => iter (X K) 0 b0 n (s0 x5 x6 x7 x8 x9 x10) k) = (fun x6 x7 => l0 x5 x8 x9 x10 (fun y1 => k (o0 x5 x8 x9 x10 y1)) n x6 x7) from funext fun x6 => funext fun x7 => i0 K k x5 x8 x9 x10 n x6 x7]; rfl
theorem v0 {K : Res → Option Res} {l : List Lf} {k : St → Option Res} {r : Res} (h : p0 K l k = some r) : ∃ x5 x6 x7 x8 x9 x10, l = [.i x5, .i x6, .i x7, .q (.ints x8), .i x9, .q (.cells x10)] ∧ l0 x5 x8 x9 x10 (fun y1 => k (o0 x5 x8 x9 x10 y1)) fuel x6 x7 = some r := by
 unfold p0 at h; split at h
 ·exact ⟨_, _, _, _, _, _, rfl, h⟩
 ·cases h
theorem w0 (K : Res → Option Res) : LpSound Go.Proofs.Try.prog (X K) 0 b0 := lp_ok ((cx K).ok laid) (by rw [show loopsOf b0 = [] from by kernel_rfl]; intro p hp; cases hp) rfl fun p hp hid => by
 rcases List.mem_cons.1 hp with rfl | hp
 ·intro st k r h1 h2; obtain ⟨x5, x6, x7, x8, x9, x10, e, h⟩ := v0 (K := K) h2; have := St.like_eq (y := s0 x5 x6 x7 x8 x9 x10) h1 (by kernel_rfl) e; subst this; exact ⟨fuel, (i0 K k x5 x8 x9 x10 fuel x6 x7).trans h⟩
 cases hp
theorem tie (K : Res → Option Res) (a1 : List Int) (a2 : Int) (a3 : List (List Cl)) (a4 : Int) : exec (X K) c (entry 45 [.v ⟨true, [.tr 0 1 [.int .i64] (.ints a1), .int .i64 a2, .tr 0 1 [.int .i64, .int .i64, .bool] (.cells a3)]⟩, one (.int .i64 a4)] [] []) (endK (X K)) = g a1 a2 a3 a4 (fun r1 => K (m r1)) := Eq.trans (b := b a1 a2 a3 a4 (fun r1 => K (m r1))) (by kernel_rfl) (by rw [e])
theorem runv {l : List Lf} {K : Res → Option Res} {r : Res} (h : run l K = some r) : ∃ a1 a2 a3 a4, l = [.q (.ints a1), .i a2, .q (.cells a3), .i a4] ∧ g a1 a2 a3 a4 (fun r1 => K (m r1)) = some r := by
 unfold run at h; split at h
 ·exact ⟨_, _, _, _, rfl, h⟩
 ·cases h
theorem ok : Con Go.Proofs.Try.prog con := con_of (fn := Go.Proofs.Try.f128) (c := c) (Fi := fi) (X := X) (fun_of laid (by kernel_rfl) (by kernel_rfl) (by kernel_rfl) rfl (by kernel_rfl) (by kernel_rfl) cx (fun _ => rfl) (fun _ => rfl) (fun K => by
 rw [show loopsOf c = [(0, b0)] from by kernel_rfl]; intro p hp
 rcases List.mem_cons.1 hp with rfl | hp
 ·exact w0 K
 cases hp)) fun xs rows boxes K r hl hr => by
 obtain ⟨a1, a2, a3, a4, e, h⟩ := runv hr
 have := St.like_eq (y := a a1 a2 a3 a4) hl (by kernel_rfl) e
 obtain ⟨rfl, rfl, rfl⟩ := argSt_inj this
 exact (tie K a1 a2 a3 a4).trans h
end spec_l13Next
namespace spec_l13Pack
noncomputable def c : Code := bodyOf Go.Proofs.Try.f100
noncomputable def fi : Fin := ⟨Γ0, [(.cell 2 44, 44)], [[1, 1, 1]], [], [], []⟩
noncomputable def m (r1 : List Int) (r2 : Int) (r3 : List (List Cl)) : Res := ⟨[⟨true, [.ow 1000, .int .i64 r2, .ow 1001]⟩], [], [⟨[.int .i64], .ints r1, true, 0⟩, ⟨[.int .i64, .int .i64, .bool], .cells r3, true, 0⟩], [], []⟩
noncomputable def b0 : Code := codeAt c [1, 1, 1, 0, 0, 0]
noncomputable def b2 : Code := codeAt c [1, 1, 1, 0, 0, 0, 1, 0, 1, 0, 1, 0, 0]
noncomputable def s2 (x13 x14 : Int) (x15 : List Int) (x16 : List (List Cl)) (x17 : List Int) (x18 : Int) (x19 : List (List Cl)) (x20 x21 x22 x23 : Int) (x24 : Bool) : St := ⟨mkT 67 [(1, one (.bp 1000 0)), (2, one (.bp 1016 0)), (3, one (.bp 3192 0)), (4, one (.int .i64 x13)), (5, one (.bp 9272 0)), (6, one (.int .i64 x14))], [(3096, ⟨[.int .i64], .ints x15, true, 0⟩), (3160, ⟨[.int .i64, .int .i64, .bool], .cells x16, true, 0⟩)], [(1000, [.tr 0 1 [.int .i64] (.ints x17), .int .i64 x18, .tr 0 1 [.int .i64, .int .i64, .bool] (.cells x19)]), (1016, [.nil, .int .i64 x20, .nil]), (3192, [.ow 3096, .int .i64 x21, .ow 3160]), (9272, [.int .i64 x22, .int .i64 x23, .bool x24])]⟩
noncomputable def l2s (x13 : Int) (x16 : List (List Cl)) (x17 : List Int) (x18 : Int) (x19 : List (List Cl)) (x20 x21 x22 x23 : Int) (x24 : Bool) (rec : Int → List Int → Option Res) (k : List Int → Option Res) (x14 : Int) (x15 : List Int) : Option Res :=
 bif decide (x14 < x23) then (bif decide (0 ≤ IntKind.i64.wrap (x22 + x14)) && decide (IntKind.i64.wrap (x22 + x14) < (x17.length : Int)) then (bif decide (0 ≤ IntKind.i64.wrap (x21 + x14)) && decide (IntKind.i64.wrap (x21 + x14) < (x15.length : Int)) then rec (IntKind.i64.wrap (x14 + 1)) (x15.set ((IntKind.i64.wrap (x21 + x14)).toNat) (x17.getD ((IntKind.i64.wrap (x22 + x14)).toNat) 0))
  else none)
  else none)
 else k x15
noncomputable def l2 (x13 : Int) (x16 : List (List Cl)) (x17 : List Int) (x18 : Int) (x19 : List (List Cl)) (x20 x21 x22 x23 : Int) (x24 : Bool) (k : List Int → Option Res) : Nat → Int → List Int → Option Res
 | 0, _, _ => none
 | n + 1, x14, x15 => l2s x13 x16 x17 x18 x19 x20 x21 x22 x23 x24 (fun x14 x15 => l2 x13 x16 x17 x18 x19 x20 x21 x22 x23 x24 k n x14 x15) k x14 x15
noncomputable def o2 (x13 : Int) (x16 : List (List Cl)) (x17 : List Int) (x18 : Int) (x19 : List (List Cl)) (x20 x21 x22 x23 : Int) (x24 : Bool) (y2 : List Int) : St := ⟨mkT 67 [(1, one (.bp 1000 0)), (2, one (.bp 1016 0)), (3, one (.bp 3192 0)), (4, one (.int .i64 x13)), (5, one (.bp 9272 0))], [(3096, ⟨[.int .i64], .ints y2, true, 0⟩), (3160, ⟨[.int .i64, .int .i64, .bool], .cells x16, true, 0⟩)], [(1000, [.tr 0 1 [.int .i64] (.ints x17), .int .i64 x18, .tr 0 1 [.int .i64, .int .i64, .bool] (.cells x19)]), (1016, [.nil, .int .i64 x20, .nil]), (3192, [.ow 3096, .int .i64 x21, .ow 3160]), (9272, [.int .i64 x22, .int .i64 x23, .bool x24])]⟩
noncomputable def p2 (K : Res → Option Res) : List Lf → (St → Option Res) → Option Res
 | [.i x13, .i x14, .q (.ints x15), .q (.cells x16), .q (.ints x17), .i x18, .q (.cells x19), .i x20, .i x21, .i x22, .i x23, .b x24], k => l2 x13 x16 x17 x18 x19 x20 x21 x22 x23 x24 (fun y2 => k (o2 x13 x16 x17 x18 x19 x20 x21 x22 x23 x24 y2)) fuel x14 x15
 | _, _ => none
noncomputable def s0 (x5 : Int) (x6 : List Int) (x7 : List (List Cl)) (x8 : List Int) (x9 : Int) (x10 : List (List Cl)) (x11 x12 : Int) : St := ⟨mkT 67 [(1, one (.bp 1000 0)), (2, one (.bp 1016 0)), (3, one (.bp 3192 0)), (4, one (.int .i64 x5))], [(3096, ⟨[.int .i64], .ints x6, true, 0⟩), (3160, ⟨[.int .i64, .int .i64, .bool], .cells x7, true, 0⟩)], [(1000, [.tr 0 1 [.int .i64] (.ints x8), .int .i64 x9, .tr 0 1 [.int .i64, .int .i64, .bool] (.cells x10)]), (1016, [.nil, .int .i64 x11, .nil]), (3192, [.ow 3096, .int .i64 x12, .ow 3160])]⟩
noncomputable def l0s (x8 : List Int) (x9 : Int) (x10 : List (List Cl)) (x11 : Int) (rec : Int → List Int → List (List Cl) → Int → Option Res) (k : List Int → List (List Cl) → Int → Option Res) (x5 : Int) (x6 : List Int) (x7 : List (List Cl)) (x12 : Int) : Option Res :=
 bif decide (0 ≤ x5) then (bif decide (0 ≤ x5) && decide (x5 < (x10.length : Int)) then (l2 x5 x7 x8 x9 x10 x11 x12 (((x10.getD x5.toNat []).getD 0 (.i 0)).toI) (((x10.getD x5.toNat []).getD 1 (.i 0)).toI) (((x10.getD x5.toNat []).getD 2 (.i 0)).toB) (fun y25 =>
  bif decide (0 ≤ x5) && decide (x5 < (x7.length : Int)) then (spec_l13Next.g x8 x9 x10 (IntKind.i64.wrap ((((x10.getD x5.toNat []).getD 0 (.i 0)).toI) + (((x10.getD x5.toNat []).getD 1 (.i 0)).toI))) fun r26 =>
   rec r26 y25 (x7.set x5.toNat (splice (x7.getD x5.toNat []) 0 [.i x12])) (IntKind.i64.wrap (x12 + (((x10.getD x5.toNat []).getD 1 (.i 0)).toI))))
  else none) fuel 0 x6)
  else none)
 else k x6 x7 x12
noncomputable def l0 (x8 : List Int) (x9 : Int) (x10 : List (List Cl)) (x11 : Int) (k : List Int → List (List Cl) → Int → Option Res) : Nat → Int → List Int → List (List Cl) → Int → Option Res
 | 0, _, _, _, _ => none
 | n + 1, x5, x6, x7, x12 => l0s x8 x9 x10 x11 (fun x5 x6 x7 x12 => l0 x8 x9 x10 x11 k n x5 x6 x7 x12) k x5 x6 x7 x12
noncomputable def o0 (x8 : List Int) (x9 : Int) (x10 : List (List Cl)) (x11 : Int) (y1 : List Int) (y2 : List (List Cl)) (y4 : Int) : St := ⟨mkT 67 [(2, one (.bp 1016 0)), (3, one (.bp 3192 0))], [(3096, ⟨[.int .i64], .ints y1, true, 0⟩), (3160, ⟨[.int .i64, .int .i64, .bool], .cells y2, true, 0⟩)], [(1016, [.nil, .int .i64 x11, .nil]), (3192, [.ow 3096, .int .i64 y4, .ow 3160])]⟩
noncomputable def p0 (K : Res → Option Res) : List Lf → (St → Option Res) → Option Res
 | [.i x5, .q (.ints x6), .q (.cells x7), .q (.ints x8), .i x9, .q (.cells x10), .i x11, .i x12], k => l0 x8 x9 x10 x11 (fun y1 y2 y4 => k (o0 x8 x9 x10 x11 y1 y2 y4)) fuel x5 x6 x7 x12
 | _, _ => none
noncomputable def os : List (FuncId × St × (List Lf → (Res → Option Res) → Option Res)) := [spec_l13Next.con]
noncomputable def X (K : Res → Option Res) : Ctx := { Γ := Γ0, orc := orcOf os, io := [], share := [], mvl := [], bun := [], cut := [], own := [], cin := [(2, ⟨[1, 2, 3, 4, 5, 6], [(3096, 3096), (3160, 3160)], [1000, 1016, 3192, 9272], [], [], []⟩), (0, ⟨[1, 2, 3, 4], [(3096, 3096), (3160, 3160)], [1000, 1016, 3192], [], [], []⟩)], cout := [(2, ⟨[1, 2, 3, 4, 5], [(3096, 3096), (3160, 3160)], [1000, 1016, 3192, 9272], [], [], []⟩), (0, ⟨[2, 3], [(3096, 3096), (3160, 3160)], [1016, 3192], [], [], []⟩)], lp := lpOf [(2, s2 0 0 [] [] [] 0 [] 0 0 0 0 false, p2 K), (0, s0 0 [] [] [] 0 [] 0 0, p0 K)], kl := [], nk := true, eqs := eqs0, byt := byt0, fin := finK fi K }
noncomputable def b (a1 : List Int) (a2 : Int) (a3 : List (List Cl)) (R : List Int → Int → List (List Cl) → Option Res) : Option Res :=
 bif decide ((a1.length : Int) = (a1.length : Int)) && decide (0 ≤ (a1.length : Int)) && decide ((a1.length : Int) * 8 ≤ 140737488355328) then (bif decide ((0 + a3.length) * 24 ≤ 140737488355328) then (spec_l13Next.g a1 a2 a3 0 fun r4 =>
  l0 a1 a2 a3 0 (fun y27 y28 y29 =>
  R y27 y29 y28) fuel r4 (List.replicate ((a1.length : Int).toNat) 0) (([] : List (List Cl)) ++ a3) 0)
  else none)
 else none
theorem gx : ∃ x : List Int → Int → List (List Cl) → (List Int → Int → List (List Cl) → Option Res) → Option Res, x = b := ⟨_, rfl⟩
noncomputable def g : List Int → Int → List (List Cl) → (List Int → Int → List (List Cl) → Option Res) → Option Res := Classical.choose gx
theorem e : g = b := Classical.choose_spec gx
noncomputable def run : List Lf → (Res → Option Res) → Option Res
 | [.q (.ints a1), .i a2, .q (.cells a3)], K => g a1 a2 a3 (fun r1 r2 r3 => K (m r1 r2 r3))
 | _, _ => none
noncomputable def a (a1 : List Int) (a2 : Int) (a3 : List (List Cl)) : St := argSt [.v ⟨true, [.tr 0 1 [.int .i64] (.ints a1), .int .i64 a2, .tr 0 1 [.int .i64, .int .i64, .bool] (.cells a3)]⟩] [] []
noncomputable def con : FuncId × St × (List Lf → (Res → Option Res) → Option Res) := (100, a [] 0 [], run)
theorem cx (K : Res → Option Res) : CtxOk Go.Proofs.Try.prog Γ0 byt0 eqs0 (X K) os := ⟨rfl, rfl, rfl, (fun p hp => by
 rcases List.mem_cons.1 hp with rfl | hp
 ·exact spec_l13Next.ok
 cases hp), rfl, rfl, rfl, rfl⟩
theorem t2 (K : Res → Option Res) (k : St → Option Res) (it : St → (St → Option Res) → Option Res) (x13 x14 : Int) (x15 : List Int) (x16 : List (List Cl)) (x17 : List Int) (x18 : Int) (x19 : List (List Cl)) (x20 x21 x22 x23 : Int) (x24 : Bool) : iterS (X K) 2 b2 it (s2 x13 x14 x15 x16 x17 x18 x19 x20 x21 x22 x23 x24) k = l2s x13 x16 x17 x18 x19 x20 x21 x22 x23 x24 (fun x14 x15 => it (s2 x13 x14 x15 x16 x17 x18 x19 x20 x21 x22 x23 x24) k) (fun y2 => k (o2 x13 x16 x17 x18 x19 x20 x21 x22 x23 x24 y2)) x14 x15 := by kernel_rfl
theorem i2 (K : Res → Option Res) (k : St → Option Res) (x13 : Int) (x16 : List (List Cl)) (x17 : List Int) (x18 : Int) (x19 : List (List Cl)) (x20 x21 x22 x23 : Int) (x24 : Bool) : ∀ (n : Nat) (x14 : Int) (x15 : List Int), iter (X K) 2 b2 n (s2 x13 x14 x15 x16 x17 x18 x19 x20 x21 x22 x23 x24) k = l2 x13 x16 x17 x18 x19 x20 x21 x22 x23 x24 (fun y2 => k (o2 x13 x16 x17 x18 x19 x20 x21 x22 x23 x24 y2)) n x14 x15
 | 0, _, _ => rfl
 | n + 1, x14, x15 => by
  rw [iter_succ, t2, show (fun x14 x15 => iter (X K) 2 b2 n (s2 x13 x14 x15 x16 x17 x18 x19 x20 x21 x22 x23 x24) k) = (fun x14 x15 => l2 x13 x16 x17 x18 x19 x20 x21 x22 x23 x24 (fun y2 => k (o2 x13 x16 x17 x18 x19 x20 x21 x22 x23 x24 y2)) n x14 x15) from funext fun x14 => funext fun x15 => i2 K k x13 x16 x17 x18 x19 x20 x21 x22 x23 x24 n x14 x15]; rfl
theorem v2 {K : Res → Option Res} {l : List Lf} {k : St → Option Res} {r : Res} (h : p2 K l k = some r) : ∃ x13 x14 x15 x16 x17 x18 x19 x20 x21 x22 x23 x24, l = [.i x13, .i x14, .q (.ints x15), .q (.cells x16), .q (.ints x17), .i x18, .q (.cells x19), .i x20, .i x21, .i x22, .i x23, .b x24] ∧ l2 x13 x16 x17 x18 x19 x20 x21 x22 x23 x24 (fun y2 => k (o2 x13 x16 x17 x18 x19 x20 x21 x22 x23 x24 y2)) fuel x14 x15 = some r := by
 unfold p2 at h; split at h
 ·exact ⟨_, _, _, _, _, _, _, _, _, _, _, _, rfl, h⟩
 ·cases h
theorem t0 (K : Res → Option Res) (k : St → Option Res) (it : St → (St → Option Res) → Option Res) (x5 : Int) (x6 : List Int) (x7 : List (List Cl)) (x8 : List Int) (x9 : Int) (x10 : List (List Cl)) (x11 x12 : Int) : iterS (X K) 0 b0 it (s0 x5 x6 x7 x8 x9 x10 x11 x12) k = l0s x8 x9 x10 x11 (fun x5 x6 x7 x12 => it (s0 x5 x6 x7 x8 x9 x10 x11 x12) k) (fun y1 y2 y4 => k (o0 x8 x9 x10 x11 y1 y2 y4)) x5 x6 x7 x12 := by kernel_rfl
theorem i0 (K : Res → Option Res) (k : St → Option Res) (x8 : List Int) (x9 : Int) (x10 : List (List Cl)) (x11 : Int) : ∀ (n : Nat) (x5 : Int) (x6 : List Int) (x7 : List (List Cl)) (x12 : Int), iter (X K) 0 b0 n (s0 x5 x6 x7 x8 x9 x10 x11 x12) k = l0 x8 x9 x10 x11 (fun y1 y2 y4 => k (o0 x8 x9 x10 x11 y1 y2 y4)) n x5 x6 x7 x12
 | 0, _, _, _, _ => rfl
 | n + 1, x5, x6, x7, x12 => by
  rw [iter_succ, t0, show (fun x5 x6 x7 x12 => iter (X K) 0 b0 n (s0 x5 x6 x7 x8 x9 x10 x11 x12) k) = (fun x5 x6 x7 x12 => l0 x8 x9 x10 x11 (fun y1 y2 y4 => k (o0 x8 x9 x10 x11 y1 y2 y4)) n x5 x6 x7 x12) from funext fun x5 => funext fun x6 => funext fun x7 => funext fun x12 => i0 K k x8 x9 x10 x11 n x5 x6 x7 x12]; rfl
theorem v0 {K : Res → Option Res} {l : List Lf} {k : St → Option Res} {r : Res} (h : p0 K l k = some r) : ∃ x5 x6 x7 x8 x9 x10 x11 x12, l = [.i x5, .q (.ints x6), .q (.cells x7), .q (.ints x8), .i x9, .q (.cells x10), .i x11, .i x12] ∧ l0 x8 x9 x10 x11 (fun y1 y2 y4 => k (o0 x8 x9 x10 x11 y1 y2 y4)) fuel x5 x6 x7 x12 = some r := by
 unfold p0 at h; split at h
 ·exact ⟨_, _, _, _, _, _, _, _, rfl, h⟩
 ·cases h
theorem w2 (K : Res → Option Res) : LpSound Go.Proofs.Try.prog (X K) 2 b2 := lp_ok ((cx K).ok laid) (by rw [show loopsOf b2 = [] from by kernel_rfl]; intro p hp; cases hp) rfl fun p hp hid => by
 rcases List.mem_cons.1 hp with rfl | hp
 ·intro st k r h1 h2; obtain ⟨x13, x14, x15, x16, x17, x18, x19, x20, x21, x22, x23, x24, e, h⟩ := v2 (K := K) h2; have := St.like_eq (y := s2 x13 x14 x15 x16 x17 x18 x19 x20 x21 x22 x23 x24) h1 (by kernel_rfl) e; subst this; exact ⟨fuel, (i2 K k x13 x16 x17 x18 x19 x20 x21 x22 x23 x24 fuel x14 x15).trans h⟩
 rcases List.mem_cons.1 hp with rfl | hp
 ·exact absurd hid (by simp)
 cases hp
theorem w0 (K : Res → Option Res) : LpSound Go.Proofs.Try.prog (X K) 0 b0 := lp_ok ((cx K).ok laid) (by
 rw [show loopsOf b0 = [(2, b2)] from by kernel_rfl]; intro p hp
 rcases List.mem_cons.1 hp with rfl | hp
 ·exact w2 K
 cases hp) rfl fun p hp hid => by
 rcases List.mem_cons.1 hp with rfl | hp
 ·exact absurd hid (by simp)
 rcases List.mem_cons.1 hp with rfl | hp
 ·intro st k r h1 h2; obtain ⟨x5, x6, x7, x8, x9, x10, x11, x12, e, h⟩ := v0 (K := K) h2; have := St.like_eq (y := s0 x5 x6 x7 x8 x9 x10 x11 x12) h1 (by kernel_rfl) e; subst this; exact ⟨fuel, (i0 K k x8 x9 x10 x11 fuel x5 x6 x7 x12).trans h⟩
 cases hp
theorem tie (K : Res → Option Res) (a1 : List Int) (a2 : Int) (a3 : List (List Cl)) : exec (X K) c (entry 67 [.v ⟨true, [.tr 0 1 [.int .i64] (.ints a1), .int .i64 a2, .tr 0 1 [.int .i64, .int .i64, .bool] (.cells a3)]⟩] [] []) (endK (X K)) = g a1 a2 a3 (fun r1 r2 r3 => K (m r1 r2 r3)) := Eq.trans (b := b a1 a2 a3 (fun r1 r2 r3 => K (m r1 r2 r3))) (by kernel_rfl) (by rw [e])
theorem runv {l : List Lf} {K : Res → Option Res} {r : Res} (h : run l K = some r) : ∃ a1 a2 a3, l = [.q (.ints a1), .i a2, .q (.cells a3)] ∧ g a1 a2 a3 (fun r1 r2 r3 => K (m r1 r2 r3)) = some r := by
 unfold run at h; split at h
 ·exact ⟨_, _, _, rfl, h⟩
 ·cases h
theorem ok : Con Go.Proofs.Try.prog con := con_of (fn := Go.Proofs.Try.f100) (c := c) (Fi := fi) (X := X) (fun_of laid (by kernel_rfl) (by kernel_rfl) (by kernel_rfl) rfl (by kernel_rfl) (by kernel_rfl) cx (fun _ => rfl) (fun _ => rfl) (fun K => by
 rw [show loopsOf c = [(0, b0), (2, b2)] from by kernel_rfl]; intro p hp
 rcases List.mem_cons.1 hp with rfl | hp
 ·exact w0 K
 rcases List.mem_cons.1 hp with rfl | hp
 ·exact w2 K
 cases hp)) fun xs rows boxes K r hl hr => by
 obtain ⟨a1, a2, a3, e, h⟩ := runv hr
 have := St.like_eq (y := a a1 a2 a3) hl (by kernel_rfl) e
 obtain ⟨rfl, rfl, rfl⟩ := argSt_inj this
 exact (tie K a1 a2 a3).trans h
end spec_l13Pack
namespace spec_l13Put
noncomputable def c : Code := bodyOf Go.Proofs.Try.f52
noncomputable def fi : Fin := ⟨Γ0, [(.cell 4 44, 44), (.tmp 5, 3), (.tmp 6, 4)], [[3, 1, 3], [1], [1]], [false, false], [], []⟩
noncomputable def m (r1 : List Int) (r2 : Int) (r3 : List (List Cl)) (r4 : Int) (r5 : Bool) : Res := ⟨[⟨true, [.ow 1000, .int .i64 r2, .ow 1001]⟩, ⟨false, [.int .i64 r4]⟩, ⟨false, [.bool r5]⟩], [none, none], [⟨[.int .i64], .ints r1, true, 0⟩, ⟨[.int .i64, .int .i64, .bool], .cells r3, true, 0⟩], [], []⟩
noncomputable def b0 : Code := codeAt c [1, 1, 1, 1, 0, 0, 0]
noncomputable def b2 : Code := codeAt c [1, 1, 1, 1, 1, 1, 1, 1, 0, 1, 0, 0]
noncomputable def s0 (x10 : Int) (x11 x12 : List Int) (x13 : List (List Cl)) (x14 : List Int) (x15 : List (List Cl)) (x16 x17 : Int) : St := ⟨mkT 97 [(2, one (.bp 1000 0)), (4, one (.bp 1032 0)), (7, one (.ow 3065)), (8, one (.int .i64 x10))], [(3065, ⟨[.int .i64], .ints x11, true, 0⟩), (0, ⟨[.int .i64], .ints x12, true, 0⟩), (1, ⟨[.int .i64, .int .i64, .bool], .cells x13, true, 0⟩), (7161, ⟨[.int .i64], .ints x14, true, 0⟩), (7162, ⟨[.int .i64, .int .i64, .bool], .cells x15, true, 0⟩)], [(1000, [.ow 7161, .int .i64 x16, .ow 7162]), (1032, [.nil, .int .i64 x17, .nil])]⟩
noncomputable def l0s (x11 x12 : List Int) (x13 : List (List Cl)) (x14 : List Int) (x15 : List (List Cl)) (x16 x17 : Int) (rec : Int → Option Res) (k : Int → Option Res) (x10 : Int) : Option Res :=
 bif decide (x10 < (x15.length : Int)) then (bif decide (0 ≤ x10) && decide (x10 < (x15.length : Int)) then (bif ((x15.getD x10.toNat []).getD 2 (.i 0)).toB then rec (IntKind.i64.wrap (x10 + 1))
  else k x10)
  else none)
 else k x10
noncomputable def l0 (x11 x12 : List Int) (x13 : List (List Cl)) (x14 : List Int) (x15 : List (List Cl)) (x16 x17 : Int) (k : Int → Option Res) : Nat → Int → Option Res
 | 0, _ => none
 | n + 1, x10 => l0s x11 x12 x13 x14 x15 x16 x17 (fun x10 => l0 x11 x12 x13 x14 x15 x16 x17 k n x10) k x10
noncomputable def o0 (x11 x12 : List Int) (x13 : List (List Cl)) (x14 : List Int) (x15 : List (List Cl)) (x16 x17 y1 : Int) : St := ⟨mkT 97 [(2, one (.bp 1000 0)), (4, one (.bp 1032 0)), (7, one (.ow 3065)), (8, one (.int .i64 y1))], [(3065, ⟨[.int .i64], .ints x11, true, 0⟩), (0, ⟨[.int .i64], .ints x12, true, 0⟩), (1, ⟨[.int .i64, .int .i64, .bool], .cells x13, true, 0⟩), (7161, ⟨[.int .i64], .ints x14, true, 0⟩), (7162, ⟨[.int .i64, .int .i64, .bool], .cells x15, true, 0⟩)], [(1000, [.ow 7161, .int .i64 x16, .ow 7162]), (1032, [.nil, .int .i64 x17, .nil])]⟩
noncomputable def p0 (K : Res → Option Res) : List Lf → (St → Option Res) → Option Res
 | [.i x10, .q (.ints x11), .q (.ints x12), .q (.cells x13), .q (.ints x14), .q (.cells x15), .i x16, .i x17], k => l0 x11 x12 x13 x14 x15 x16 x17 (fun y1 => k (o0 x11 x12 x13 x14 x15 x16 x17 y1)) fuel x10
 | _, _ => none
noncomputable def s2 (x19 x20 : Int) (x21 x22 : List Int) (x23 : List (List Cl)) (x24 : List Int) (x25 : List (List Cl)) (x26 x27 : Int) : St := ⟨mkT 97 [(2, one (.bp 1000 0)), (4, one (.bp 1032 0)), (7, one (.ow 3065)), (8, one (.int .i64 x19)), (9, one (.int .i64 x20))], [(3065, ⟨[.int .i64], .ints x21, true, 0⟩), (0, ⟨[.int .i64], .ints x22, true, 0⟩), (1, ⟨[.int .i64, .int .i64, .bool], .cells x23, true, 0⟩), (7161, ⟨[.int .i64], .ints x24, true, 0⟩), (21544, ⟨[.int .i64, .int .i64, .bool], .cells x25, true, 0⟩)], [(1000, [.ow 7161, .int .i64 x26, .ow 21544]), (1032, [.nil, .int .i64 x27, .nil])]⟩
noncomputable def l2s (x19 : Int) (x21 x22 : List Int) (x23 x25 : List (List Cl)) (x26 x27 : Int) (rec : Int → List Int → Option Res) (k : List Int → Option Res) (x20 : Int) (x24 : List Int) : Option Res :=
 bif decide (x20 < (x21.length : Int)) then (bif decide (0 ≤ x20) && decide (x20 < (x21.length : Int)) then (bif decide (0 ≤ IntKind.i64.wrap (x26 + x20)) && decide (IntKind.i64.wrap (x26 + x20) < (x24.length : Int)) then rec (IntKind.i64.wrap (x20 + 1)) (x24.set ((IntKind.i64.wrap (x26 + x20)).toNat) (x21.getD x20.toNat 0))
  else none)
  else none)
 else k x24
noncomputable def l2 (x19 : Int) (x21 x22 : List Int) (x23 x25 : List (List Cl)) (x26 x27 : Int) (k : List Int → Option Res) : Nat → Int → List Int → Option Res
 | 0, _, _ => none
 | n + 1, x20, x24 => l2s x19 x21 x22 x23 x25 x26 x27 (fun x20 x24 => l2 x19 x21 x22 x23 x25 x26 x27 k n x20 x24) k x20 x24
noncomputable def o2 (x19 : Int) (x21 x22 : List Int) (x23 x25 : List (List Cl)) (x26 x27 : Int) (y5 : List Int) : St := ⟨mkT 97 [(2, one (.bp 1000 0)), (4, one (.bp 1032 0)), (7, one (.ow 3065)), (8, one (.int .i64 x19))], [(3065, ⟨[.int .i64], .ints x21, true, 0⟩), (0, ⟨[.int .i64], .ints x22, true, 0⟩), (1, ⟨[.int .i64, .int .i64, .bool], .cells x23, true, 0⟩), (7161, ⟨[.int .i64], .ints y5, true, 0⟩), (21544, ⟨[.int .i64, .int .i64, .bool], .cells x25, true, 0⟩)], [(1000, [.ow 7161, .int .i64 x26, .ow 21544]), (1032, [.nil, .int .i64 x27, .nil])]⟩
noncomputable def p2 (K : Res → Option Res) : List Lf → (St → Option Res) → Option Res
 | [.i x19, .i x20, .q (.ints x21), .q (.ints x22), .q (.cells x23), .q (.ints x24), .q (.cells x25), .i x26, .i x27], k => l2 x19 x21 x22 x23 x25 x26 x27 (fun y5 => k (o2 x19 x21 x22 x23 x25 x26 x27 y5)) fuel x20 x24
 | _, _ => none
noncomputable def s2_2 (x29 x30 : Int) (x31 x32 : List Int) (x33 : List (List Cl)) (x34 : List Int) (x35 : List (List Cl)) (x36 x37 : Int) : St := ⟨mkT 97 [(2, one (.bp 1000 0)), (4, one (.bp 1032 0)), (7, one (.ow 3065)), (8, one (.int .i64 x29)), (9, one (.int .i64 x30))], [(3065, ⟨[.int .i64], .ints x31, true, 0⟩), (0, ⟨[.int .i64], .ints x32, true, 0⟩), (1, ⟨[.int .i64, .int .i64, .bool], .cells x33, true, 0⟩), (7161, ⟨[.int .i64], .ints x34, true, 0⟩), (7162, ⟨[.int .i64, .int .i64, .bool], .cells x35, true, 0⟩)], [(1000, [.ow 7161, .int .i64 x36, .ow 7162]), (1032, [.nil, .int .i64 x37, .nil])]⟩
noncomputable def l2_2s (x29 : Int) (x31 x32 : List Int) (x33 x35 : List (List Cl)) (x36 x37 : Int) (rec : Int → List Int → Option Res) (k : List Int → Option Res) (x30 : Int) (x34 : List Int) : Option Res :=
 bif decide (x30 < (x31.length : Int)) then (bif decide (0 ≤ x30) && decide (x30 < (x31.length : Int)) then (bif decide (0 ≤ IntKind.i64.wrap (x36 + x30)) && decide (IntKind.i64.wrap (x36 + x30) < (x34.length : Int)) then rec (IntKind.i64.wrap (x30 + 1)) (x34.set ((IntKind.i64.wrap (x36 + x30)).toNat) (x31.getD x30.toNat 0))
  else none)
  else none)
 else k x34
noncomputable def l2_2 (x29 : Int) (x31 x32 : List Int) (x33 x35 : List (List Cl)) (x36 x37 : Int) (k : List Int → Option Res) : Nat → Int → List Int → Option Res
 | 0, _, _ => none
 | n + 1, x30, x34 => l2_2s x29 x31 x32 x33 x35 x36 x37 (fun x30 x34 => l2_2 x29 x31 x32 x33 x35 x36 x37 k n x30 x34) k x30 x34
noncomputable def o2_2 (x29 : Int) (x31 x32 : List Int) (x33 x35 : List (List Cl)) (x36 x37 : Int) (y5 : List Int) : St := ⟨mkT 97 [(2, one (.bp 1000 0)), (4, one (.bp 1032 0)), (7, one (.ow 3065)), (8, one (.int .i64 x29))], [(3065, ⟨[.int .i64], .ints x31, true, 0⟩), (0, ⟨[.int .i64], .ints x32, true, 0⟩), (1, ⟨[.int .i64, .int .i64, .bool], .cells x33, true, 0⟩), (7161, ⟨[.int .i64], .ints y5, true, 0⟩), (7162, ⟨[.int .i64, .int .i64, .bool], .cells x35, true, 0⟩)], [(1000, [.ow 7161, .int .i64 x36, .ow 7162]), (1032, [.nil, .int .i64 x37, .nil])]⟩
noncomputable def p2_2 (K : Res → Option Res) : List Lf → (St → Option Res) → Option Res
 | [.i x29, .i x30, .q (.ints x31), .q (.ints x32), .q (.cells x33), .q (.ints x34), .q (.cells x35), .i x36, .i x37], k => l2_2 x29 x31 x32 x33 x35 x36 x37 (fun y5 => k (o2_2 x29 x31 x32 x33 x35 x36 x37 y5)) fuel x30 x34
 | _, _ => none
noncomputable def s0_2 (x39 : Int) (x40 x41 : List Int) (x42 : List (List Cl)) (x43 x44 : Int) : St := ⟨mkT 97 [(2, one (.bp 1000 0)), (4, one (.bp 1032 0)), (7, one (.ow 3065)), (8, one (.int .i64 x39))], [(3065, ⟨[.int .i64], .ints x40, true, 0⟩), (0, ⟨[.int .i64], .ints x41, true, 0⟩), (1, ⟨[.int .i64, .int .i64, .bool], .cells x42, true, 0⟩)], [(1000, [.ow 0, .int .i64 x43, .ow 1]), (1032, [.nil, .int .i64 x44, .nil])]⟩
noncomputable def l0_2s (x40 x41 : List Int) (x42 : List (List Cl)) (x43 x44 : Int) (rec : Int → Option Res) (k : Int → Option Res) (x39 : Int) : Option Res :=
 bif decide (x39 < (x42.length : Int)) then (bif decide (0 ≤ x39) && decide (x39 < (x42.length : Int)) then (bif ((x42.getD x39.toNat []).getD 2 (.i 0)).toB then rec (IntKind.i64.wrap (x39 + 1))
  else k x39)
  else none)
 else k x39
noncomputable def l0_2 (x40 x41 : List Int) (x42 : List (List Cl)) (x43 x44 : Int) (k : Int → Option Res) : Nat → Int → Option Res
 | 0, _ => none
 | n + 1, x39 => l0_2s x40 x41 x42 x43 x44 (fun x39 => l0_2 x40 x41 x42 x43 x44 k n x39) k x39
noncomputable def o0_2 (x40 x41 : List Int) (x42 : List (List Cl)) (x43 x44 y1 : Int) : St := ⟨mkT 97 [(2, one (.bp 1000 0)), (4, one (.bp 1032 0)), (7, one (.ow 3065)), (8, one (.int .i64 y1))], [(3065, ⟨[.int .i64], .ints x40, true, 0⟩), (0, ⟨[.int .i64], .ints x41, true, 0⟩), (1, ⟨[.int .i64, .int .i64, .bool], .cells x42, true, 0⟩)], [(1000, [.ow 0, .int .i64 x43, .ow 1]), (1032, [.nil, .int .i64 x44, .nil])]⟩
noncomputable def p0_2 (K : Res → Option Res) : List Lf → (St → Option Res) → Option Res
 | [.i x39, .q (.ints x40), .q (.ints x41), .q (.cells x42), .i x43, .i x44], k => l0_2 x40 x41 x42 x43 x44 (fun y1 => k (o0_2 x40 x41 x42 x43 x44 y1)) fuel x39
 | _, _ => none
noncomputable def s2_3 (x46 x47 : Int) (x48 x49 : List Int) (x50 : List (List Cl)) (x51 x52 : Int) : St := ⟨mkT 97 [(2, one (.bp 1000 0)), (4, one (.bp 1032 0)), (7, one (.ow 3065)), (8, one (.int .i64 x46)), (9, one (.int .i64 x47))], [(3065, ⟨[.int .i64], .ints x48, true, 0⟩), (0, ⟨[.int .i64], .ints x49, true, 0⟩), (21544, ⟨[.int .i64, .int .i64, .bool], .cells x50, true, 0⟩)], [(1000, [.ow 0, .int .i64 x51, .ow 21544]), (1032, [.nil, .int .i64 x52, .nil])]⟩
noncomputable def l2_3s (x46 : Int) (x48 : List Int) (x50 : List (List Cl)) (x51 x52 : Int) (rec : Int → List Int → Option Res) (k : List Int → Option Res) (x47 : Int) (x49 : List Int) : Option Res :=
 bif decide (x47 < (x48.length : Int)) then (bif decide (0 ≤ x47) && decide (x47 < (x48.length : Int)) then (bif decide (0 ≤ IntKind.i64.wrap (x51 + x47)) && decide (IntKind.i64.wrap (x51 + x47) < (x49.length : Int)) then rec (IntKind.i64.wrap (x47 + 1)) (x49.set ((IntKind.i64.wrap (x51 + x47)).toNat) (x48.getD x47.toNat 0))
  else none)
  else none)
 else k x49
noncomputable def l2_3 (x46 : Int) (x48 : List Int) (x50 : List (List Cl)) (x51 x52 : Int) (k : List Int → Option Res) : Nat → Int → List Int → Option Res
 | 0, _, _ => none
 | n + 1, x47, x49 => l2_3s x46 x48 x50 x51 x52 (fun x47 x49 => l2_3 x46 x48 x50 x51 x52 k n x47 x49) k x47 x49
noncomputable def o2_3 (x46 : Int) (x48 : List Int) (x50 : List (List Cl)) (x51 x52 : Int) (y3 : List Int) : St := ⟨mkT 97 [(2, one (.bp 1000 0)), (4, one (.bp 1032 0)), (7, one (.ow 3065)), (8, one (.int .i64 x46))], [(3065, ⟨[.int .i64], .ints x48, true, 0⟩), (0, ⟨[.int .i64], .ints y3, true, 0⟩), (21544, ⟨[.int .i64, .int .i64, .bool], .cells x50, true, 0⟩)], [(1000, [.ow 0, .int .i64 x51, .ow 21544]), (1032, [.nil, .int .i64 x52, .nil])]⟩
noncomputable def p2_3 (K : Res → Option Res) : List Lf → (St → Option Res) → Option Res
 | [.i x46, .i x47, .q (.ints x48), .q (.ints x49), .q (.cells x50), .i x51, .i x52], k => l2_3 x46 x48 x50 x51 x52 (fun y3 => k (o2_3 x46 x48 x50 x51 x52 y3)) fuel x47 x49
 | _, _ => none
noncomputable def s2_4 (x54 x55 : Int) (x56 x57 : List Int) (x58 : List (List Cl)) (x59 x60 : Int) : St := ⟨mkT 97 [(2, one (.bp 1000 0)), (4, one (.bp 1032 0)), (7, one (.ow 3065)), (8, one (.int .i64 x54)), (9, one (.int .i64 x55))], [(3065, ⟨[.int .i64], .ints x56, true, 0⟩), (0, ⟨[.int .i64], .ints x57, true, 0⟩), (1, ⟨[.int .i64, .int .i64, .bool], .cells x58, true, 0⟩)], [(1000, [.ow 0, .int .i64 x59, .ow 1]), (1032, [.nil, .int .i64 x60, .nil])]⟩
noncomputable def l2_4s (x54 : Int) (x56 : List Int) (x58 : List (List Cl)) (x59 x60 : Int) (rec : Int → List Int → Option Res) (k : List Int → Option Res) (x55 : Int) (x57 : List Int) : Option Res :=
 bif decide (x55 < (x56.length : Int)) then (bif decide (0 ≤ x55) && decide (x55 < (x56.length : Int)) then (bif decide (0 ≤ IntKind.i64.wrap (x59 + x55)) && decide (IntKind.i64.wrap (x59 + x55) < (x57.length : Int)) then rec (IntKind.i64.wrap (x55 + 1)) (x57.set ((IntKind.i64.wrap (x59 + x55)).toNat) (x56.getD x55.toNat 0))
  else none)
  else none)
 else k x57
noncomputable def l2_4 (x54 : Int) (x56 : List Int) (x58 : List (List Cl)) (x59 x60 : Int) (k : List Int → Option Res) : Nat → Int → List Int → Option Res
 | 0, _, _ => none
 | n + 1, x55, x57 => l2_4s x54 x56 x58 x59 x60 (fun x55 x57 => l2_4 x54 x56 x58 x59 x60 k n x55 x57) k x55 x57
noncomputable def o2_4 (x54 : Int) (x56 : List Int) (x58 : List (List Cl)) (x59 x60 : Int) (y3 : List Int) : St := ⟨mkT 97 [(2, one (.bp 1000 0)), (4, one (.bp 1032 0)), (7, one (.ow 3065)), (8, one (.int .i64 x54))], [(3065, ⟨[.int .i64], .ints x56, true, 0⟩), (0, ⟨[.int .i64], .ints y3, true, 0⟩), (1, ⟨[.int .i64, .int .i64, .bool], .cells x58, true, 0⟩)], [(1000, [.ow 0, .int .i64 x59, .ow 1]), (1032, [.nil, .int .i64 x60, .nil])]⟩
noncomputable def p2_4 (K : Res → Option Res) : List Lf → (St → Option Res) → Option Res
 | [.i x54, .i x55, .q (.ints x56), .q (.ints x57), .q (.cells x58), .i x59, .i x60], k => l2_4 x54 x56 x58 x59 x60 (fun y3 => k (o2_4 x54 x56 x58 x59 x60 y3)) fuel x55 x57
 | _, _ => none
noncomputable def os : List (FuncId × St × (List Lf → (Res → Option Res) → Option Res)) := [spec_l13Words.con, spec_l13Pack.con]
noncomputable def X (K : Res → Option Res) : Ctx := { Γ := Γ0, orc := orcOf os, io := [], share := [], mvl := [], bun := [], cut := [], own := [], cin := [(0, ⟨[2, 4, 7, 8], [(3065, 3065), (0, 0), (1, 1), (7161, 7161), (7162, 7162)], [1000, 1032], [], [], []⟩), (2, ⟨[2, 4, 7, 8, 9], [(3065, 3065), (0, 0), (1, 1), (7161, 7161), (21544, 21544), (7162, 7162)], [1000, 1032], [], [], []⟩)], cout := [(0, ⟨[2, 4, 7, 8], [(3065, 3065), (0, 0), (1, 1), (7161, 7161), (7162, 7162)], [1000, 1032], [], [], []⟩), (2, ⟨[2, 4, 7, 8], [(3065, 3065), (0, 0), (1, 1), (7161, 7161), (21544, 21544), (7162, 7162)], [1000, 1032], [], [], []⟩)], lp := lpOf [(0, s0 0 [] [] [] [] [] 0 0, p0 K), (2, s2 0 0 [] [] [] [] [] 0 0, p2 K), (2, s2_2 0 0 [] [] [] [] [] 0 0, p2_2 K), (0, s0_2 0 [] [] [] 0 0, p0_2 K), (2, s2_3 0 0 [] [] [] 0 0, p2_3 K), (2, s2_4 0 0 [] [] [] 0 0, p2_4 K)], kl := [], nk := true, eqs := eqs0, byt := byt0, fin := finK fi K }
noncomputable def b (a1 : Int) (a2 a3 a4 : List Int) (a5 : List (List Cl)) (R : List Int → Int → List (List Cl) → Int → Bool → Option Res) : Option Res :=
 spec_l13Words.g a2 a3 fun r6 =>
 bif decide (IntKind.i64.wrap ((a4.length : Int) - a1) < (r6.length : Int)) then (spec_l13Pack.g a4 a1 a5 fun r7 r8 r9 =>
  l0 r6 a4 a5 r7 r9 r8 0 (fun y18 =>
  bif decide (IntKind.i64.wrap ((r7.length : Int) - r8) < (r6.length : Int)) then R r7 r8 r9 (-1) false
  else bif (y18 == 200) then R r7 r8 r9 (-1) false
  else bif (y18 == (r9.length : Int)) then (bif decide ((r9.length + 1) * 24 ≤ 140737488355328) then (bif decide (0 ≤ y18) && decide (y18 < ((r9 ++ ([[.i 0, .i 0, .b false]] : List (List Cl))).length : Int)) then (l2 y18 r6 a4 a5 ((r9 ++ ([[.i 0, .i 0, .b false]] : List (List Cl))).set y18.toNat [.i r8, .i (r6.length : Int), .b true]) r8 0 (fun y28 =>
   R y28 (IntKind.i64.wrap (r8 + (r6.length : Int))) ((r9 ++ ([[.i 0, .i 0, .b false]] : List (List Cl))).set y18.toNat [.i r8, .i (r6.length : Int), .b true]) y18 true) fuel 0 r7)
   else none)
   else none)
  else bif decide (0 ≤ y18) && decide (y18 < (r9.length : Int)) then (l2_2 y18 r6 a4 a5 (r9.set y18.toNat [.i r8, .i (r6.length : Int), .b true]) r8 0 (fun y38 =>
   R y38 (IntKind.i64.wrap (r8 + (r6.length : Int))) (r9.set y18.toNat [.i r8, .i (r6.length : Int), .b true]) y18 true) fuel 0 r7)
  else none) fuel 0)
 else (l0_2 r6 a4 a5 a1 0 (fun y45 =>
 bif decide (IntKind.i64.wrap ((a4.length : Int) - a1) < (r6.length : Int)) then R a4 a1 a5 (-1) false
 else bif (y45 == 200) then R a4 a1 a5 (-1) false
 else bif (y45 == (a5.length : Int)) then (bif decide ((a5.length + 1) * 24 ≤ 140737488355328) then (bif decide (0 ≤ y45) && decide (y45 < ((a5 ++ ([[.i 0, .i 0, .b false]] : List (List Cl))).length : Int)) then (l2_3 y45 r6 ((a5 ++ ([[.i 0, .i 0, .b false]] : List (List Cl))).set y45.toNat [.i a1, .i (r6.length : Int), .b true]) a1 0 (fun y53 =>
  R y53 (IntKind.i64.wrap (a1 + (r6.length : Int))) ((a5 ++ ([[.i 0, .i 0, .b false]] : List (List Cl))).set y45.toNat [.i a1, .i (r6.length : Int), .b true]) y45 true) fuel 0 a4)
  else none)
  else none)
 else bif decide (0 ≤ y45) && decide (y45 < (a5.length : Int)) then (l2_4 y45 r6 (a5.set y45.toNat [.i a1, .i (r6.length : Int), .b true]) a1 0 (fun y61 =>
  R y61 (IntKind.i64.wrap (a1 + (r6.length : Int))) (a5.set y45.toNat [.i a1, .i (r6.length : Int), .b true]) y45 true) fuel 0 a4)
 else none) fuel 0)
theorem gx : ∃ x : Int → List Int → List Int → List Int → List (List Cl) → (List Int → Int → List (List Cl) → Int → Bool → Option Res) → Option Res, x = b := ⟨_, rfl⟩
noncomputable def g : Int → List Int → List Int → List Int → List (List Cl) → (List Int → Int → List (List Cl) → Int → Bool → Option Res) → Option Res := Classical.choose gx
theorem e : g = b := Classical.choose_spec gx
noncomputable def run : List Lf → (Res → Option Res) → Option Res
 | [.i a1, .q (.ints a2), .q (.ints a3), .q (.ints a4), .q (.cells a5)], K => g a1 a2 a3 a4 a5 (fun r1 r2 r3 r4 r5 => K (m r1 r2 r3 r4 r5))
 | _, _ => none
noncomputable def a (a1 : Int) (a2 a3 a4 : List Int) (a5 : List (List Cl)) : St := argSt [.v ⟨true, [.ow 0, .int .i64 a1, .ow 1]⟩, .v ⟨true, [.tr 0 1 [.int .i64] (.ints a2), .tr 0 1 [.int .i64] (.ints a3)]⟩] [⟨[.int .i64], .ints a4, true, 0⟩, ⟨[.int .i64, .int .i64, .bool], .cells a5, true, 0⟩] []
noncomputable def con : FuncId × St × (List Lf → (Res → Option Res) → Option Res) := (52, a 0 [] [] [] [], run)
theorem cx (K : Res → Option Res) : CtxOk Go.Proofs.Try.prog Γ0 byt0 eqs0 (X K) os := ⟨rfl, rfl, rfl, (fun p hp => by
 rcases List.mem_cons.1 hp with rfl | hp
 ·exact spec_l13Words.ok
 rcases List.mem_cons.1 hp with rfl | hp
 ·exact spec_l13Pack.ok
 cases hp), rfl, rfl, rfl, rfl⟩
theorem t0 (K : Res → Option Res) (k : St → Option Res) (it : St → (St → Option Res) → Option Res) (x10 : Int) (x11 x12 : List Int) (x13 : List (List Cl)) (x14 : List Int) (x15 : List (List Cl)) (x16 x17 : Int) : iterS (X K) 0 b0 it (s0 x10 x11 x12 x13 x14 x15 x16 x17) k = l0s x11 x12 x13 x14 x15 x16 x17 (fun x10 => it (s0 x10 x11 x12 x13 x14 x15 x16 x17) k) (fun y1 => k (o0 x11 x12 x13 x14 x15 x16 x17 y1)) x10 := by kernel_rfl
theorem i0 (K : Res → Option Res) (k : St → Option Res) (x11 x12 : List Int) (x13 : List (List Cl)) (x14 : List Int) (x15 : List (List Cl)) (x16 x17 : Int) : ∀ (n : Nat) (x10 : Int), iter (X K) 0 b0 n (s0 x10 x11 x12 x13 x14 x15 x16 x17) k = l0 x11 x12 x13 x14 x15 x16 x17 (fun y1 => k (o0 x11 x12 x13 x14 x15 x16 x17 y1)) n x10
 | 0, _ => rfl
 | n + 1, x10 => by
  rw [iter_succ, t0, show (fun x10 => iter (X K) 0 b0 n (s0 x10 x11 x12 x13 x14 x15 x16 x17) k) = (fun x10 => l0 x11 x12 x13 x14 x15 x16 x17 (fun y1 => k (o0 x11 x12 x13 x14 x15 x16 x17 y1)) n x10) from funext fun x10 => i0 K k x11 x12 x13 x14 x15 x16 x17 n x10]; rfl
theorem v0 {K : Res → Option Res} {l : List Lf} {k : St → Option Res} {r : Res} (h : p0 K l k = some r) : ∃ x10 x11 x12 x13 x14 x15 x16 x17, l = [.i x10, .q (.ints x11), .q (.ints x12), .q (.cells x13), .q (.ints x14), .q (.cells x15), .i x16, .i x17] ∧ l0 x11 x12 x13 x14 x15 x16 x17 (fun y1 => k (o0 x11 x12 x13 x14 x15 x16 x17 y1)) fuel x10 = some r := by
 unfold p0 at h; split at h
 ·exact ⟨_, _, _, _, _, _, _, _, rfl, h⟩
 ·cases h
theorem t2 (K : Res → Option Res) (k : St → Option Res) (it : St → (St → Option Res) → Option Res) (x19 x20 : Int) (x21 x22 : List Int) (x23 : List (List Cl)) (x24 : List Int) (x25 : List (List Cl)) (x26 x27 : Int) : iterS (X K) 2 b2 it (s2 x19 x20 x21 x22 x23 x24 x25 x26 x27) k = l2s x19 x21 x22 x23 x25 x26 x27 (fun x20 x24 => it (s2 x19 x20 x21 x22 x23 x24 x25 x26 x27) k) (fun y5 => k (o2 x19 x21 x22 x23 x25 x26 x27 y5)) x20 x24 := by kernel_rfl
theorem i2 (K : Res → Option Res) (k : St → Option Res) (x19 : Int) (x21 x22 : List Int) (x23 x25 : List (List Cl)) (x26 x27 : Int) : ∀ (n : Nat) (x20 : Int) (x24 : List Int), iter (X K) 2 b2 n (s2 x19 x20 x21 x22 x23 x24 x25 x26 x27) k = l2 x19 x21 x22 x23 x25 x26 x27 (fun y5 => k (o2 x19 x21 x22 x23 x25 x26 x27 y5)) n x20 x24
 | 0, _, _ => rfl
 | n + 1, x20, x24 => by
  rw [iter_succ, t2, show (fun x20 x24 => iter (X K) 2 b2 n (s2 x19 x20 x21 x22 x23 x24 x25 x26 x27) k) = (fun x20 x24 => l2 x19 x21 x22 x23 x25 x26 x27 (fun y5 => k (o2 x19 x21 x22 x23 x25 x26 x27 y5)) n x20 x24) from funext fun x20 => funext fun x24 => i2 K k x19 x21 x22 x23 x25 x26 x27 n x20 x24]; rfl
theorem v2 {K : Res → Option Res} {l : List Lf} {k : St → Option Res} {r : Res} (h : p2 K l k = some r) : ∃ x19 x20 x21 x22 x23 x24 x25 x26 x27, l = [.i x19, .i x20, .q (.ints x21), .q (.ints x22), .q (.cells x23), .q (.ints x24), .q (.cells x25), .i x26, .i x27] ∧ l2 x19 x21 x22 x23 x25 x26 x27 (fun y5 => k (o2 x19 x21 x22 x23 x25 x26 x27 y5)) fuel x20 x24 = some r := by
 unfold p2 at h; split at h
 ·exact ⟨_, _, _, _, _, _, _, _, _, rfl, h⟩
 ·cases h
theorem t2_2 (K : Res → Option Res) (k : St → Option Res) (it : St → (St → Option Res) → Option Res) (x29 x30 : Int) (x31 x32 : List Int) (x33 : List (List Cl)) (x34 : List Int) (x35 : List (List Cl)) (x36 x37 : Int) : iterS (X K) 2 b2 it (s2_2 x29 x30 x31 x32 x33 x34 x35 x36 x37) k = l2_2s x29 x31 x32 x33 x35 x36 x37 (fun x30 x34 => it (s2_2 x29 x30 x31 x32 x33 x34 x35 x36 x37) k) (fun y5 => k (o2_2 x29 x31 x32 x33 x35 x36 x37 y5)) x30 x34 := by kernel_rfl
theorem i2_2 (K : Res → Option Res) (k : St → Option Res) (x29 : Int) (x31 x32 : List Int) (x33 x35 : List (List Cl)) (x36 x37 : Int) : ∀ (n : Nat) (x30 : Int) (x34 : List Int), iter (X K) 2 b2 n (s2_2 x29 x30 x31 x32 x33 x34 x35 x36 x37) k = l2_2 x29 x31 x32 x33 x35 x36 x37 (fun y5 => k (o2_2 x29 x31 x32 x33 x35 x36 x37 y5)) n x30 x34
 | 0, _, _ => rfl
 | n + 1, x30, x34 => by
  rw [iter_succ, t2_2, show (fun x30 x34 => iter (X K) 2 b2 n (s2_2 x29 x30 x31 x32 x33 x34 x35 x36 x37) k) = (fun x30 x34 => l2_2 x29 x31 x32 x33 x35 x36 x37 (fun y5 => k (o2_2 x29 x31 x32 x33 x35 x36 x37 y5)) n x30 x34) from funext fun x30 => funext fun x34 => i2_2 K k x29 x31 x32 x33 x35 x36 x37 n x30 x34]; rfl
theorem v2_2 {K : Res → Option Res} {l : List Lf} {k : St → Option Res} {r : Res} (h : p2_2 K l k = some r) : ∃ x29 x30 x31 x32 x33 x34 x35 x36 x37, l = [.i x29, .i x30, .q (.ints x31), .q (.ints x32), .q (.cells x33), .q (.ints x34), .q (.cells x35), .i x36, .i x37] ∧ l2_2 x29 x31 x32 x33 x35 x36 x37 (fun y5 => k (o2_2 x29 x31 x32 x33 x35 x36 x37 y5)) fuel x30 x34 = some r := by
 unfold p2_2 at h; split at h
 ·exact ⟨_, _, _, _, _, _, _, _, _, rfl, h⟩
 ·cases h
theorem t0_2 (K : Res → Option Res) (k : St → Option Res) (it : St → (St → Option Res) → Option Res) (x39 : Int) (x40 x41 : List Int) (x42 : List (List Cl)) (x43 x44 : Int) : iterS (X K) 0 b0 it (s0_2 x39 x40 x41 x42 x43 x44) k = l0_2s x40 x41 x42 x43 x44 (fun x39 => it (s0_2 x39 x40 x41 x42 x43 x44) k) (fun y1 => k (o0_2 x40 x41 x42 x43 x44 y1)) x39 := by kernel_rfl
theorem i0_2 (K : Res → Option Res) (k : St → Option Res) (x40 x41 : List Int) (x42 : List (List Cl)) (x43 x44 : Int) : ∀ (n : Nat) (x39 : Int), iter (X K) 0 b0 n (s0_2 x39 x40 x41 x42 x43 x44) k = l0_2 x40 x41 x42 x43 x44 (fun y1 => k (o0_2 x40 x41 x42 x43 x44 y1)) n x39
 | 0, _ => rfl
 | n + 1, x39 => by
  rw [iter_succ, t0_2, show (fun x39 => iter (X K) 0 b0 n (s0_2 x39 x40 x41 x42 x43 x44) k) = (fun x39 => l0_2 x40 x41 x42 x43 x44 (fun y1 => k (o0_2 x40 x41 x42 x43 x44 y1)) n x39) from funext fun x39 => i0_2 K k x40 x41 x42 x43 x44 n x39]; rfl
theorem v0_2 {K : Res → Option Res} {l : List Lf} {k : St → Option Res} {r : Res} (h : p0_2 K l k = some r) : ∃ x39 x40 x41 x42 x43 x44, l = [.i x39, .q (.ints x40), .q (.ints x41), .q (.cells x42), .i x43, .i x44] ∧ l0_2 x40 x41 x42 x43 x44 (fun y1 => k (o0_2 x40 x41 x42 x43 x44 y1)) fuel x39 = some r := by
 unfold p0_2 at h; split at h
 ·exact ⟨_, _, _, _, _, _, rfl, h⟩
 ·cases h
theorem t2_3 (K : Res → Option Res) (k : St → Option Res) (it : St → (St → Option Res) → Option Res) (x46 x47 : Int) (x48 x49 : List Int) (x50 : List (List Cl)) (x51 x52 : Int) : iterS (X K) 2 b2 it (s2_3 x46 x47 x48 x49 x50 x51 x52) k = l2_3s x46 x48 x50 x51 x52 (fun x47 x49 => it (s2_3 x46 x47 x48 x49 x50 x51 x52) k) (fun y3 => k (o2_3 x46 x48 x50 x51 x52 y3)) x47 x49 := by kernel_rfl
theorem i2_3 (K : Res → Option Res) (k : St → Option Res) (x46 : Int) (x48 : List Int) (x50 : List (List Cl)) (x51 x52 : Int) : ∀ (n : Nat) (x47 : Int) (x49 : List Int), iter (X K) 2 b2 n (s2_3 x46 x47 x48 x49 x50 x51 x52) k = l2_3 x46 x48 x50 x51 x52 (fun y3 => k (o2_3 x46 x48 x50 x51 x52 y3)) n x47 x49
 | 0, _, _ => rfl
 | n + 1, x47, x49 => by
  rw [iter_succ, t2_3, show (fun x47 x49 => iter (X K) 2 b2 n (s2_3 x46 x47 x48 x49 x50 x51 x52) k) = (fun x47 x49 => l2_3 x46 x48 x50 x51 x52 (fun y3 => k (o2_3 x46 x48 x50 x51 x52 y3)) n x47 x49) from funext fun x47 => funext fun x49 => i2_3 K k x46 x48 x50 x51 x52 n x47 x49]; rfl
theorem v2_3 {K : Res → Option Res} {l : List Lf} {k : St → Option Res} {r : Res} (h : p2_3 K l k = some r) : ∃ x46 x47 x48 x49 x50 x51 x52, l = [.i x46, .i x47, .q (.ints x48), .q (.ints x49), .q (.cells x50), .i x51, .i x52] ∧ l2_3 x46 x48 x50 x51 x52 (fun y3 => k (o2_3 x46 x48 x50 x51 x52 y3)) fuel x47 x49 = some r := by
 unfold p2_3 at h; split at h
 ·exact ⟨_, _, _, _, _, _, _, rfl, h⟩
 ·cases h
theorem t2_4 (K : Res → Option Res) (k : St → Option Res) (it : St → (St → Option Res) → Option Res) (x54 x55 : Int) (x56 x57 : List Int) (x58 : List (List Cl)) (x59 x60 : Int) : iterS (X K) 2 b2 it (s2_4 x54 x55 x56 x57 x58 x59 x60) k = l2_4s x54 x56 x58 x59 x60 (fun x55 x57 => it (s2_4 x54 x55 x56 x57 x58 x59 x60) k) (fun y3 => k (o2_4 x54 x56 x58 x59 x60 y3)) x55 x57 := by kernel_rfl
theorem i2_4 (K : Res → Option Res) (k : St → Option Res) (x54 : Int) (x56 : List Int) (x58 : List (List Cl)) (x59 x60 : Int) : ∀ (n : Nat) (x55 : Int) (x57 : List Int), iter (X K) 2 b2 n (s2_4 x54 x55 x56 x57 x58 x59 x60) k = l2_4 x54 x56 x58 x59 x60 (fun y3 => k (o2_4 x54 x56 x58 x59 x60 y3)) n x55 x57
 | 0, _, _ => rfl
 | n + 1, x55, x57 => by
  rw [iter_succ, t2_4, show (fun x55 x57 => iter (X K) 2 b2 n (s2_4 x54 x55 x56 x57 x58 x59 x60) k) = (fun x55 x57 => l2_4 x54 x56 x58 x59 x60 (fun y3 => k (o2_4 x54 x56 x58 x59 x60 y3)) n x55 x57) from funext fun x55 => funext fun x57 => i2_4 K k x54 x56 x58 x59 x60 n x55 x57]; rfl
theorem v2_4 {K : Res → Option Res} {l : List Lf} {k : St → Option Res} {r : Res} (h : p2_4 K l k = some r) : ∃ x54 x55 x56 x57 x58 x59 x60, l = [.i x54, .i x55, .q (.ints x56), .q (.ints x57), .q (.cells x58), .i x59, .i x60] ∧ l2_4 x54 x56 x58 x59 x60 (fun y3 => k (o2_4 x54 x56 x58 x59 x60 y3)) fuel x55 x57 = some r := by
 unfold p2_4 at h; split at h
 ·exact ⟨_, _, _, _, _, _, _, rfl, h⟩
 ·cases h
theorem w2 (K : Res → Option Res) : LpSound Go.Proofs.Try.prog (X K) 2 b2 := lp_ok ((cx K).ok laid) (by rw [show loopsOf b2 = [] from by kernel_rfl]; intro p hp; cases hp) rfl fun p hp hid => by
 rcases List.mem_cons.1 hp with rfl | hp
 ·exact absurd hid (by simp)
 rcases List.mem_cons.1 hp with rfl | hp
 ·intro st k r h1 h2; obtain ⟨x19, x20, x21, x22, x23, x24, x25, x26, x27, e, h⟩ := v2 (K := K) h2; have := St.like_eq (y := s2 x19 x20 x21 x22 x23 x24 x25 x26 x27) h1 (by kernel_rfl) e; subst this; exact ⟨fuel, (i2 K k x19 x21 x22 x23 x25 x26 x27 fuel x20 x24).trans h⟩
 rcases List.mem_cons.1 hp with rfl | hp
 ·intro st k r h1 h2; obtain ⟨x29, x30, x31, x32, x33, x34, x35, x36, x37, e, h⟩ := v2_2 (K := K) h2; have := St.like_eq (y := s2_2 x29 x30 x31 x32 x33 x34 x35 x36 x37) h1 (by kernel_rfl) e; subst this; exact ⟨fuel, (i2_2 K k x29 x31 x32 x33 x35 x36 x37 fuel x30 x34).trans h⟩
 rcases List.mem_cons.1 hp with rfl | hp
 ·exact absurd hid (by simp)
 rcases List.mem_cons.1 hp with rfl | hp
 ·intro st k r h1 h2; obtain ⟨x46, x47, x48, x49, x50, x51, x52, e, h⟩ := v2_3 (K := K) h2; have := St.like_eq (y := s2_3 x46 x47 x48 x49 x50 x51 x52) h1 (by kernel_rfl) e; subst this; exact ⟨fuel, (i2_3 K k x46 x48 x50 x51 x52 fuel x47 x49).trans h⟩
 rcases List.mem_cons.1 hp with rfl | hp
 ·intro st k r h1 h2; obtain ⟨x54, x55, x56, x57, x58, x59, x60, e, h⟩ := v2_4 (K := K) h2; have := St.like_eq (y := s2_4 x54 x55 x56 x57 x58 x59 x60) h1 (by kernel_rfl) e; subst this; exact ⟨fuel, (i2_4 K k x54 x56 x58 x59 x60 fuel x55 x57).trans h⟩
 cases hp
theorem w0 (K : Res → Option Res) : LpSound Go.Proofs.Try.prog (X K) 0 b0 := lp_ok ((cx K).ok laid) (by rw [show loopsOf b0 = [] from by kernel_rfl]; intro p hp; cases hp) rfl fun p hp hid => by
 rcases List.mem_cons.1 hp with rfl | hp
 ·intro st k r h1 h2; obtain ⟨x10, x11, x12, x13, x14, x15, x16, x17, e, h⟩ := v0 (K := K) h2; have := St.like_eq (y := s0 x10 x11 x12 x13 x14 x15 x16 x17) h1 (by kernel_rfl) e; subst this; exact ⟨fuel, (i0 K k x11 x12 x13 x14 x15 x16 x17 fuel x10).trans h⟩
 rcases List.mem_cons.1 hp with rfl | hp
 ·exact absurd hid (by simp)
 rcases List.mem_cons.1 hp with rfl | hp
 ·exact absurd hid (by simp)
 rcases List.mem_cons.1 hp with rfl | hp
 ·intro st k r h1 h2; obtain ⟨x39, x40, x41, x42, x43, x44, e, h⟩ := v0_2 (K := K) h2; have := St.like_eq (y := s0_2 x39 x40 x41 x42 x43 x44) h1 (by kernel_rfl) e; subst this; exact ⟨fuel, (i0_2 K k x40 x41 x42 x43 x44 fuel x39).trans h⟩
 rcases List.mem_cons.1 hp with rfl | hp
 ·exact absurd hid (by simp)
 rcases List.mem_cons.1 hp with rfl | hp
 ·exact absurd hid (by simp)
 cases hp
theorem tie (K : Res → Option Res) (a1 : Int) (a2 a3 a4 : List Int) (a5 : List (List Cl)) : exec (X K) c (entry 97 [.v ⟨true, [.ow 0, .int .i64 a1, .ow 1]⟩, .v ⟨true, [.tr 0 1 [.int .i64] (.ints a2), .tr 0 1 [.int .i64] (.ints a3)]⟩] [⟨[.int .i64], .ints a4, true, 0⟩, ⟨[.int .i64, .int .i64, .bool], .cells a5, true, 0⟩] []) (endK (X K)) = g a1 a2 a3 a4 a5 (fun r1 r2 r3 r4 r5 => K (m r1 r2 r3 r4 r5)) := Eq.trans (b := b a1 a2 a3 a4 a5 (fun r1 r2 r3 r4 r5 => K (m r1 r2 r3 r4 r5))) (by kernel_rfl) (by rw [e])
theorem runv {l : List Lf} {K : Res → Option Res} {r : Res} (h : run l K = some r) : ∃ a1 a2 a3 a4 a5, l = [.i a1, .q (.ints a2), .q (.ints a3), .q (.ints a4), .q (.cells a5)] ∧ g a1 a2 a3 a4 a5 (fun r1 r2 r3 r4 r5 => K (m r1 r2 r3 r4 r5)) = some r := by
 unfold run at h; split at h
 ·exact ⟨_, _, _, _, _, rfl, h⟩
 ·cases h
theorem ok : Con Go.Proofs.Try.prog con := con_of (fn := Go.Proofs.Try.f52) (c := c) (Fi := fi) (X := X) (fun_of laid (by kernel_rfl) (by kernel_rfl) (by kernel_rfl) rfl (by kernel_rfl) (by kernel_rfl) cx (fun _ => rfl) (fun _ => rfl) (fun K => by
 rw [show loopsOf c = [(0, b0), (2, b2)] from by kernel_rfl]; intro p hp
 rcases List.mem_cons.1 hp with rfl | hp
 ·exact w0 K
 rcases List.mem_cons.1 hp with rfl | hp
 ·exact w2 K
 cases hp)) fun xs rows boxes K r hl hr => by
 obtain ⟨a1, a2, a3, a4, a5, e, h⟩ := runv hr
 have := St.like_eq (y := a a1 a2 a3 a4 a5) hl (by kernel_rfl) e
 obtain ⟨rfl, rfl, rfl⟩ := argSt_inj this
 exact (tie K a1 a2 a3 a4 a5).trans h
end spec_l13Put
namespace spec_HeapPut
noncomputable def c : Code := bodyOf Go.Proofs.Try.f20
noncomputable def fi : Fin := ⟨Γ0, [(.cell 4 44, 44), (.tmp 5, 3), (.tmp 6, 4)], [[1, 1, 1], [1], [1]], [], [], []⟩
noncomputable def m (r1 : List Int) (r2 : Int) (r3 : List (List Cl)) (r4 : Int) (r5 : Bool) : Res := ⟨[⟨true, [.ow 1000, .int .i64 r2, .ow 1001]⟩, ⟨false, [.int .i64 r4]⟩, ⟨false, [.bool r5]⟩], [], [⟨[.int .i64], .ints r1, true, 0⟩, ⟨[.int .i64, .int .i64, .bool], .cells r3, true, 0⟩], [], []⟩
noncomputable def os : List (FuncId × St × (List Lf → (Res → Option Res) → Option Res)) := [spec_HeapOk.con, spec_ArrayOk.con, spec_l13Copy.con, spec_l13Put.con]
noncomputable def X (K : Res → Option Res) : Ctx := { Γ := Γ0, orc := orcOf os, io := [(52, [⟨true, 0, 1⟩, ⟨false, 0, 1⟩])], share := [], mvl := [], bun := [], cut := [], own := [], cin := [], cout := [], lp := lpOf [], kl := [], nk := true, eqs := eqs0, byt := byt0, fin := finK fi K }
noncomputable def b (a1 : List Int) (a2 : Int) (a3 : List (List Cl)) (a4 a5 : List Int) (R : List Int → Int → List (List Cl) → Int → Bool → Option Res) : Option Res :=
 spec_HeapOk.g a1 a2 a3 fun r6 =>
 bif !r6 then R ([] : List Int) 0 ([] : List (List Cl)) (-1) false
 else (spec_ArrayOk.g a4 a5 fun r7 =>
 bif !r7 then (spec_l13Copy.g a1 a2 a3 fun r8 r9 =>
  R r8 a2 r9 (-1) false)
 else (spec_l13Copy.g a1 a2 a3 fun r10 r11 =>
 spec_l13Put.g a2 a4 a5 r10 r11 fun r12 r13 r14 r15 r16 =>
 bif !r16 then (spec_l13Copy.g a1 a2 a3 fun r17 r18 =>
  R r17 a2 r18 (-1) false)
 else R r12 r13 r14 r15 true))
theorem gx : ∃ x : List Int → Int → List (List Cl) → List Int → List Int → (List Int → Int → List (List Cl) → Int → Bool → Option Res) → Option Res, x = b := ⟨_, rfl⟩
noncomputable def g : List Int → Int → List (List Cl) → List Int → List Int → (List Int → Int → List (List Cl) → Int → Bool → Option Res) → Option Res := Classical.choose gx
theorem e : g = b := Classical.choose_spec gx
noncomputable def run : List Lf → (Res → Option Res) → Option Res
 | [.q (.ints a1), .i a2, .q (.cells a3), .q (.ints a4), .q (.ints a5)], K => g a1 a2 a3 a4 a5 (fun r1 r2 r3 r4 r5 => K (m r1 r2 r3 r4 r5))
 | _, _ => none
noncomputable def a (a1 : List Int) (a2 : Int) (a3 : List (List Cl)) (a4 a5 : List Int) : St := argSt [.v ⟨true, [.tr 0 1 [.int .i64] (.ints a1), .int .i64 a2, .tr 0 1 [.int .i64, .int .i64, .bool] (.cells a3)]⟩, .v ⟨true, [.tr 0 1 [.int .i64] (.ints a4), .tr 0 1 [.int .i64] (.ints a5)]⟩] [] []
noncomputable def con : FuncId × St × (List Lf → (Res → Option Res) → Option Res) := (20, a [] 0 [] [] [], run)
theorem cx (K : Res → Option Res) : CtxOk Go.Proofs.Try.prog Γ0 byt0 eqs0 (X K) os := ⟨rfl, rfl, rfl, (fun p hp => by
 rcases List.mem_cons.1 hp with rfl | hp
 ·exact spec_HeapOk.ok
 rcases List.mem_cons.1 hp with rfl | hp
 ·exact spec_ArrayOk.ok
 rcases List.mem_cons.1 hp with rfl | hp
 ·exact spec_l13Copy.ok
 rcases List.mem_cons.1 hp with rfl | hp
 ·exact spec_l13Put.ok
 cases hp), rfl, rfl, rfl, rfl⟩
theorem tie (K : Res → Option Res) (a1 : List Int) (a2 : Int) (a3 : List (List Cl)) (a4 a5 : List Int) : exec (X K) c (entry 33 [.v ⟨true, [.tr 0 1 [.int .i64] (.ints a1), .int .i64 a2, .tr 0 1 [.int .i64, .int .i64, .bool] (.cells a3)]⟩, .v ⟨true, [.tr 0 1 [.int .i64] (.ints a4), .tr 0 1 [.int .i64] (.ints a5)]⟩] [] []) (endK (X K)) = g a1 a2 a3 a4 a5 (fun r1 r2 r3 r4 r5 => K (m r1 r2 r3 r4 r5)) := Eq.trans (b := b a1 a2 a3 a4 a5 (fun r1 r2 r3 r4 r5 => K (m r1 r2 r3 r4 r5))) (by kernel_rfl) (by rw [e])
theorem runv {l : List Lf} {K : Res → Option Res} {r : Res} (h : run l K = some r) : ∃ a1 a2 a3 a4 a5, l = [.q (.ints a1), .i a2, .q (.cells a3), .q (.ints a4), .q (.ints a5)] ∧ g a1 a2 a3 a4 a5 (fun r1 r2 r3 r4 r5 => K (m r1 r2 r3 r4 r5)) = some r := by
 unfold run at h; split at h
 ·exact ⟨_, _, _, _, _, rfl, h⟩
 ·cases h
theorem ok : Con Go.Proofs.Try.prog con := con_of (fn := Go.Proofs.Try.f20) (c := c) (Fi := fi) (X := X) (fun_of laid (by kernel_rfl) (by kernel_rfl) (by kernel_rfl) rfl (by kernel_rfl) (by kernel_rfl) cx (fun _ => rfl) (fun _ => rfl) (fun K => by
 rw [show loopsOf c = [] from by kernel_rfl]; intro p hp
 cases hp)) fun xs rows boxes K r hl hr => by
 obtain ⟨a1, a2, a3, a4, a5, e, h⟩ := runv hr
 have := St.like_eq (y := a a1 a2 a3 a4 a5) hl (by kernel_rfl) e
 obtain ⟨rfl, rfl, rfl⟩ := argSt_inj this
 exact (tie K a1 a2 a3 a4 a5).trans h
end spec_HeapPut
namespace spec_l1Max
noncomputable def c : Code := bodyOf Go.Proofs.Try.f118
noncomputable def fi : Fin := ⟨Γ0, [(.tmp 4, 3)], [[1]], [], [], []⟩
noncomputable def m (r1 : Int) : Res := ⟨[⟨false, [.int .i64 r1]⟩], [], [], [], []⟩
noncomputable def os : List (FuncId × St × (List Lf → (Res → Option Res) → Option Res)) := []
noncomputable def X (K : Res → Option Res) : Ctx := { Γ := Γ0, orc := orcOf os, io := [], share := [], mvl := [], bun := [], cut := [], own := [], cin := [], cout := [], lp := lpOf [], kl := [], nk := true, eqs := eqs0, byt := byt0, fin := finK fi K }
noncomputable def b (a1 a2 : Int) (R : Int → Option Res) : Option Res :=
 bif decide (a2 < a1) then R a1
 else R a2
theorem gx : ∃ x : Int → Int → (Int → Option Res) → Option Res, x = b := ⟨_, rfl⟩
noncomputable def g : Int → Int → (Int → Option Res) → Option Res := Classical.choose gx
theorem e : g = b := Classical.choose_spec gx
noncomputable def run : List Lf → (Res → Option Res) → Option Res
 | [.i a1, .i a2], K => g a1 a2 (fun r1 => K (m r1))
 | _, _ => none
noncomputable def a (a1 a2 : Int) : St := argSt [one (.int .i64 a1), one (.int .i64 a2)] [] []
noncomputable def con : FuncId × St × (List Lf → (Res → Option Res) → Option Res) := (118, a 0 0, run)
theorem cx (K : Res → Option Res) : CtxOk Go.Proofs.Try.prog Γ0 byt0 eqs0 (X K) os := ⟨rfl, rfl, rfl, (fun p hp => by
 cases hp), rfl, rfl, rfl, rfl⟩
theorem tie (K : Res → Option Res) (a1 a2 : Int) : exec (X K) c (entry 10 [one (.int .i64 a1), one (.int .i64 a2)] [] []) (endK (X K)) = g a1 a2 (fun r1 => K (m r1)) := Eq.trans (b := b a1 a2 (fun r1 => K (m r1))) (by kernel_rfl) (by rw [e])
theorem runv {l : List Lf} {K : Res → Option Res} {r : Res} (h : run l K = some r) : ∃ a1 a2, l = [.i a1, .i a2] ∧ g a1 a2 (fun r1 => K (m r1)) = some r := by
 unfold run at h; split at h
 ·exact ⟨_, _, rfl, h⟩
 ·cases h
theorem ok : Con Go.Proofs.Try.prog con := con_of (fn := Go.Proofs.Try.f118) (c := c) (Fi := fi) (X := X) (fun_of laid (by kernel_rfl) (by kernel_rfl) (by kernel_rfl) rfl (by kernel_rfl) (by kernel_rfl) cx (fun _ => rfl) (fun _ => rfl) (fun K => by
 rw [show loopsOf c = [] from by kernel_rfl]; intro p hp
 cases hp)) fun xs rows boxes K r hl hr => by
 obtain ⟨a1, a2, e, h⟩ := runv hr
 have := St.like_eq (y := a a1 a2) hl (by kernel_rfl) e
 obtain ⟨rfl, rfl, rfl⟩ := argSt_inj this
 exact (tie K a1 a2).trans h
end spec_l1Max
namespace spec_l13Live
noncomputable def c : Code := bodyOf Go.Proofs.Try.f57
noncomputable def fi : Fin := ⟨Γ0, [(.tmp 4, 4)], [[1]], [], [], []⟩
noncomputable def m (r1 : Bool) : Res := ⟨[⟨false, [.bool r1]⟩], [], [], [], []⟩
noncomputable def os : List (FuncId × St × (List Lf → (Res → Option Res) → Option Res)) := [spec_l1In.con]
noncomputable def X (K : Res → Option Res) : Ctx := { Γ := Γ0, orc := orcOf os, io := [], share := [], mvl := [], bun := [], cut := [], own := [], cin := [], cout := [], lp := lpOf [], kl := [], nk := true, eqs := eqs0, byt := byt0, fin := finK fi K }
noncomputable def b (a1 : List Int) (a2 : Int) (a3 : List (List Cl)) (a4 : Int) (R : Bool → Option Res) : Option Res :=
 spec_l1In.g a4 0 (IntKind.i64.wrap ((a3.length : Int) - 1)) fun r5 =>
 bif r5 then (bif decide (0 ≤ a4) && decide (a4 < (a3.length : Int)) then R (((a3.getD a4.toNat []).getD 2 (.i 0)).toB)
  else none)
 else R false
theorem gx : ∃ x : List Int → Int → List (List Cl) → Int → (Bool → Option Res) → Option Res, x = b := ⟨_, rfl⟩
noncomputable def g : List Int → Int → List (List Cl) → Int → (Bool → Option Res) → Option Res := Classical.choose gx
theorem e : g = b := Classical.choose_spec gx
noncomputable def run : List Lf → (Res → Option Res) → Option Res
 | [.q (.ints a1), .i a2, .q (.cells a3), .i a4], K => g a1 a2 a3 a4 (fun r1 => K (m r1))
 | _, _ => none
noncomputable def a (a1 : List Int) (a2 : Int) (a3 : List (List Cl)) (a4 : Int) : St := argSt [.v ⟨true, [.tr 0 1 [.int .i64] (.ints a1), .int .i64 a2, .tr 0 1 [.int .i64, .int .i64, .bool] (.cells a3)]⟩, one (.int .i64 a4)] [] []
noncomputable def con : FuncId × St × (List Lf → (Res → Option Res) → Option Res) := (57, a [] 0 [] 0, run)
theorem cx (K : Res → Option Res) : CtxOk Go.Proofs.Try.prog Γ0 byt0 eqs0 (X K) os := ⟨rfl, rfl, rfl, (fun p hp => by
 rcases List.mem_cons.1 hp with rfl | hp
 ·exact spec_l1In.ok
 cases hp), rfl, rfl, rfl, rfl⟩
theorem tie (K : Res → Option Res) (a1 : List Int) (a2 : Int) (a3 : List (List Cl)) (a4 : Int) : exec (X K) c (entry 19 [.v ⟨true, [.tr 0 1 [.int .i64] (.ints a1), .int .i64 a2, .tr 0 1 [.int .i64, .int .i64, .bool] (.cells a3)]⟩, one (.int .i64 a4)] [] []) (endK (X K)) = g a1 a2 a3 a4 (fun r1 => K (m r1)) := Eq.trans (b := b a1 a2 a3 a4 (fun r1 => K (m r1))) (by kernel_rfl) (by rw [e])
theorem runv {l : List Lf} {K : Res → Option Res} {r : Res} (h : run l K = some r) : ∃ a1 a2 a3 a4, l = [.q (.ints a1), .i a2, .q (.cells a3), .i a4] ∧ g a1 a2 a3 a4 (fun r1 => K (m r1)) = some r := by
 unfold run at h; split at h
 ·exact ⟨_, _, _, _, rfl, h⟩
 ·cases h
theorem ok : Con Go.Proofs.Try.prog con := con_of (fn := Go.Proofs.Try.f57) (c := c) (Fi := fi) (X := X) (fun_of laid (by kernel_rfl) (by kernel_rfl) (by kernel_rfl) rfl (by kernel_rfl) (by kernel_rfl) cx (fun _ => rfl) (fun _ => rfl) (fun K => by
 rw [show loopsOf c = [] from by kernel_rfl]; intro p hp
 cases hp)) fun xs rows boxes K r hl hr => by
 obtain ⟨a1, a2, a3, a4, e, h⟩ := runv hr
 have := St.like_eq (y := a a1 a2 a3 a4) hl (by kernel_rfl) e
 obtain ⟨rfl, rfl, rfl⟩ := argSt_inj this
 exact (tie K a1 a2 a3 a4).trans h
end spec_l13Live
namespace spec_l13Drop
noncomputable def c : Code := bodyOf Go.Proofs.Try.f130
noncomputable def fi : Fin := ⟨Γ0, [(.cell 4 44, 44)], [[2, 1, 2]], [true, true], [], []⟩
noncomputable def m (a1 : Int) (a3 : List Int) (r3 : List (List Cl)) : Res := ⟨[⟨true, [.ow 0, .int .i64 a1, .ow 1]⟩], [some ⟨[.int .i64], .ints a3, true, 0⟩, some ⟨[.int .i64, .int .i64, .bool], .cells r3, true, 0⟩], [], [], []⟩
noncomputable def os : List (FuncId × St × (List Lf → (Res → Option Res) → Option Res)) := []
noncomputable def X (K : Res → Option Res) : Ctx := { Γ := Γ0, orc := orcOf os, io := [], share := [], mvl := [], bun := [], cut := [], own := [], cin := [], cout := [], lp := lpOf [], kl := [], nk := true, eqs := eqs0, byt := byt0, fin := finK fi K }
noncomputable def b (a1 a2 : Int) (a3 : List Int) (a4 : List (List Cl)) (R : List (List Cl) → Option Res) : Option Res :=
 bif decide (0 ≤ a2) && decide (a2 < (a4.length : Int)) then R (a4.set a2.toNat [.i 0, .i 0, .b false])
 else none
theorem gx : ∃ x : Int → Int → List Int → List (List Cl) → (List (List Cl) → Option Res) → Option Res, x = b := ⟨_, rfl⟩
noncomputable def g : Int → Int → List Int → List (List Cl) → (List (List Cl) → Option Res) → Option Res := Classical.choose gx
theorem e : g = b := Classical.choose_spec gx
noncomputable def run : List Lf → (Res → Option Res) → Option Res
 | [.i a1, .i a2, .q (.ints a3), .q (.cells a4)], K => g a1 a2 a3 a4 (fun r3 => K (m a1 a3 r3))
 | _, _ => none
noncomputable def a (a1 a2 : Int) (a3 : List Int) (a4 : List (List Cl)) : St := argSt [.v ⟨true, [.ow 0, .int .i64 a1, .ow 1]⟩, one (.int .i64 a2)] [⟨[.int .i64], .ints a3, true, 0⟩, ⟨[.int .i64, .int .i64, .bool], .cells a4, true, 0⟩] []
noncomputable def con : FuncId × St × (List Lf → (Res → Option Res) → Option Res) := (130, a 0 0 [] [], run)
theorem cx (K : Res → Option Res) : CtxOk Go.Proofs.Try.prog Γ0 byt0 eqs0 (X K) os := ⟨rfl, rfl, rfl, (fun p hp => by
 cases hp), rfl, rfl, rfl, rfl⟩
theorem tie (K : Res → Option Res) (a1 a2 : Int) (a3 : List Int) (a4 : List (List Cl)) : exec (X K) c (entry 11 [.v ⟨true, [.ow 0, .int .i64 a1, .ow 1]⟩, one (.int .i64 a2)] [⟨[.int .i64], .ints a3, true, 0⟩, ⟨[.int .i64, .int .i64, .bool], .cells a4, true, 0⟩] []) (endK (X K)) = g a1 a2 a3 a4 (fun r3 => K (m a1 a3 r3)) := Eq.trans (b := b a1 a2 a3 a4 (fun r3 => K (m a1 a3 r3))) (by kernel_rfl) (by rw [e])
theorem runv {l : List Lf} {K : Res → Option Res} {r : Res} (h : run l K = some r) : ∃ a1 a2 a3 a4, l = [.i a1, .i a2, .q (.ints a3), .q (.cells a4)] ∧ g a1 a2 a3 a4 (fun r3 => K (m a1 a3 r3)) = some r := by
 unfold run at h; split at h
 ·exact ⟨_, _, _, _, rfl, h⟩
 ·cases h
theorem ok : Con Go.Proofs.Try.prog con := con_of (fn := Go.Proofs.Try.f130) (c := c) (Fi := fi) (X := X) (fun_of laid (by kernel_rfl) (by kernel_rfl) (by kernel_rfl) rfl (by kernel_rfl) (by kernel_rfl) cx (fun _ => rfl) (fun _ => rfl) (fun K => by
 rw [show loopsOf c = [] from by kernel_rfl]; intro p hp
 cases hp)) fun xs rows boxes K r hl hr => by
 obtain ⟨a1, a2, a3, a4, e, h⟩ := runv hr
 have := St.like_eq (y := a a1 a2 a3 a4) hl (by kernel_rfl) e
 obtain ⟨rfl, rfl, rfl⟩ := argSt_inj this
 exact (tie K a1 a2 a3 a4).trans h
end spec_l13Drop
namespace spec_HeapDrop
noncomputable def c : Code := bodyOf Go.Proofs.Try.f117
noncomputable def fi : Fin := ⟨Γ0, [(.cell 4 44, 44), (.tmp 5, 4)], [[1, 1, 1], [1]], [], [], []⟩
noncomputable def m (r1 : List Int) (r2 : Int) (r3 : List (List Cl)) (r4 : Bool) : Res := ⟨[⟨true, [.ow 1000, .int .i64 r2, .ow 1001]⟩, ⟨false, [.bool r4]⟩], [], [⟨[.int .i64], .ints r1, true, 0⟩, ⟨[.int .i64, .int .i64, .bool], .cells r3, true, 0⟩], [], []⟩
noncomputable def os : List (FuncId × St × (List Lf → (Res → Option Res) → Option Res)) := [spec_HeapOk.con, spec_l13Live.con, spec_l13Copy.con, spec_l13Drop.con]
noncomputable def X (K : Res → Option Res) : Ctx := { Γ := Γ0, orc := orcOf os, io := [(130, [⟨true, 0, 1⟩, ⟨false, 0, 1⟩])], share := [], mvl := [], bun := [], cut := [], own := [], cin := [], cout := [], lp := lpOf [], kl := [], nk := true, eqs := eqs0, byt := byt0, fin := finK fi K }
noncomputable def b (a1 : List Int) (a2 : Int) (a3 : List (List Cl)) (a4 : Int) (R : List Int → Int → List (List Cl) → Bool → Option Res) : Option Res :=
 spec_HeapOk.g a1 a2 a3 fun r5 =>
 bif !r5 then R ([] : List Int) 0 ([] : List (List Cl)) false
 else (spec_l13Live.g a1 a2 a3 a4 fun r6 =>
 bif !r6 then (spec_l13Copy.g a1 a2 a3 fun r7 r8 =>
  R r7 a2 r8 false)
 else (spec_l13Copy.g a1 a2 a3 fun r9 r10 =>
 spec_l13Drop.g a2 a4 r9 r10 fun r11 =>
 R r9 a2 r11 true))
theorem gx : ∃ x : List Int → Int → List (List Cl) → Int → (List Int → Int → List (List Cl) → Bool → Option Res) → Option Res, x = b := ⟨_, rfl⟩
noncomputable def g : List Int → Int → List (List Cl) → Int → (List Int → Int → List (List Cl) → Bool → Option Res) → Option Res := Classical.choose gx
theorem e : g = b := Classical.choose_spec gx
noncomputable def run : List Lf → (Res → Option Res) → Option Res
 | [.q (.ints a1), .i a2, .q (.cells a3), .i a4], K => g a1 a2 a3 a4 (fun r1 r2 r3 r4 => K (m r1 r2 r3 r4))
 | _, _ => none
noncomputable def a (a1 : List Int) (a2 : Int) (a3 : List (List Cl)) (a4 : Int) : St := argSt [.v ⟨true, [.tr 0 1 [.int .i64] (.ints a1), .int .i64 a2, .tr 0 1 [.int .i64, .int .i64, .bool] (.cells a3)]⟩, one (.int .i64 a4)] [] []
noncomputable def con : FuncId × St × (List Lf → (Res → Option Res) → Option Res) := (117, a [] 0 [] 0, run)
theorem cx (K : Res → Option Res) : CtxOk Go.Proofs.Try.prog Γ0 byt0 eqs0 (X K) os := ⟨rfl, rfl, rfl, (fun p hp => by
 rcases List.mem_cons.1 hp with rfl | hp
 ·exact spec_HeapOk.ok
 rcases List.mem_cons.1 hp with rfl | hp
 ·exact spec_l13Live.ok
 rcases List.mem_cons.1 hp with rfl | hp
 ·exact spec_l13Copy.ok
 rcases List.mem_cons.1 hp with rfl | hp
 ·exact spec_l13Drop.ok
 cases hp), rfl, rfl, rfl, rfl⟩
theorem tie (K : Res → Option Res) (a1 : List Int) (a2 : Int) (a3 : List (List Cl)) (a4 : Int) : exec (X K) c (entry 20 [.v ⟨true, [.tr 0 1 [.int .i64] (.ints a1), .int .i64 a2, .tr 0 1 [.int .i64, .int .i64, .bool] (.cells a3)]⟩, one (.int .i64 a4)] [] []) (endK (X K)) = g a1 a2 a3 a4 (fun r1 r2 r3 r4 => K (m r1 r2 r3 r4)) := Eq.trans (b := b a1 a2 a3 a4 (fun r1 r2 r3 r4 => K (m r1 r2 r3 r4))) (by kernel_rfl) (by rw [e])
theorem runv {l : List Lf} {K : Res → Option Res} {r : Res} (h : run l K = some r) : ∃ a1 a2 a3 a4, l = [.q (.ints a1), .i a2, .q (.cells a3), .i a4] ∧ g a1 a2 a3 a4 (fun r1 r2 r3 r4 => K (m r1 r2 r3 r4)) = some r := by
 unfold run at h; split at h
 ·exact ⟨_, _, _, _, rfl, h⟩
 ·cases h
theorem ok : Con Go.Proofs.Try.prog con := con_of (fn := Go.Proofs.Try.f117) (c := c) (Fi := fi) (X := X) (fun_of laid (by kernel_rfl) (by kernel_rfl) (by kernel_rfl) rfl (by kernel_rfl) (by kernel_rfl) cx (fun _ => rfl) (fun _ => rfl) (fun K => by
 rw [show loopsOf c = [] from by kernel_rfl]; intro p hp
 cases hp)) fun xs rows boxes K r hl hr => by
 obtain ⟨a1, a2, a3, a4, e, h⟩ := runv hr
 have := St.like_eq (y := a a1 a2 a3 a4) hl (by kernel_rfl) e
 obtain ⟨rfl, rfl, rfl⟩ := argSt_inj this
 exact (tie K a1 a2 a3 a4).trans h
end spec_HeapDrop
namespace spec_HeapPack
noncomputable def c : Code := bodyOf Go.Proofs.Try.f119
noncomputable def fi : Fin := ⟨Γ0, [(.cell 2 44, 44), (.tmp 3, 4)], [[1, 1, 1], [1]], [], [], []⟩
noncomputable def m (r1 : List Int) (r2 : Int) (r3 : List (List Cl)) (r4 : Bool) : Res := ⟨[⟨true, [.ow 1000, .int .i64 r2, .ow 1001]⟩, ⟨false, [.bool r4]⟩], [], [⟨[.int .i64], .ints r1, true, 0⟩, ⟨[.int .i64, .int .i64, .bool], .cells r3, true, 0⟩], [], []⟩
noncomputable def os : List (FuncId × St × (List Lf → (Res → Option Res) → Option Res)) := [spec_HeapOk.con, spec_l13Pack.con]
noncomputable def X (K : Res → Option Res) : Ctx := { Γ := Γ0, orc := orcOf os, io := [], share := [], mvl := [], bun := [], cut := [], own := [], cin := [], cout := [], lp := lpOf [], kl := [], nk := true, eqs := eqs0, byt := byt0, fin := finK fi K }
noncomputable def b (a1 : List Int) (a2 : Int) (a3 : List (List Cl)) (R : List Int → Int → List (List Cl) → Bool → Option Res) : Option Res :=
 spec_HeapOk.g a1 a2 a3 fun r4 =>
 bif !r4 then R ([] : List Int) 0 ([] : List (List Cl)) false
 else (spec_l13Pack.g a1 a2 a3 fun r5 r6 r7 =>
 R r5 r6 r7 true)
theorem gx : ∃ x : List Int → Int → List (List Cl) → (List Int → Int → List (List Cl) → Bool → Option Res) → Option Res, x = b := ⟨_, rfl⟩
noncomputable def g : List Int → Int → List (List Cl) → (List Int → Int → List (List Cl) → Bool → Option Res) → Option Res := Classical.choose gx
theorem e : g = b := Classical.choose_spec gx
noncomputable def run : List Lf → (Res → Option Res) → Option Res
 | [.q (.ints a1), .i a2, .q (.cells a3)], K => g a1 a2 a3 (fun r1 r2 r3 r4 => K (m r1 r2 r3 r4))
 | _, _ => none
noncomputable def a (a1 : List Int) (a2 : Int) (a3 : List (List Cl)) : St := argSt [.v ⟨true, [.tr 0 1 [.int .i64] (.ints a1), .int .i64 a2, .tr 0 1 [.int .i64, .int .i64, .bool] (.cells a3)]⟩] [] []
noncomputable def con : FuncId × St × (List Lf → (Res → Option Res) → Option Res) := (119, a [] 0 [], run)
theorem cx (K : Res → Option Res) : CtxOk Go.Proofs.Try.prog Γ0 byt0 eqs0 (X K) os := ⟨rfl, rfl, rfl, (fun p hp => by
 rcases List.mem_cons.1 hp with rfl | hp
 ·exact spec_HeapOk.ok
 rcases List.mem_cons.1 hp with rfl | hp
 ·exact spec_l13Pack.ok
 cases hp), rfl, rfl, rfl, rfl⟩
theorem tie (K : Res → Option Res) (a1 : List Int) (a2 : Int) (a3 : List (List Cl)) : exec (X K) c (entry 10 [.v ⟨true, [.tr 0 1 [.int .i64] (.ints a1), .int .i64 a2, .tr 0 1 [.int .i64, .int .i64, .bool] (.cells a3)]⟩] [] []) (endK (X K)) = g a1 a2 a3 (fun r1 r2 r3 r4 => K (m r1 r2 r3 r4)) := Eq.trans (b := b a1 a2 a3 (fun r1 r2 r3 r4 => K (m r1 r2 r3 r4))) (by kernel_rfl) (by rw [e])
theorem runv {l : List Lf} {K : Res → Option Res} {r : Res} (h : run l K = some r) : ∃ a1 a2 a3, l = [.q (.ints a1), .i a2, .q (.cells a3)] ∧ g a1 a2 a3 (fun r1 r2 r3 r4 => K (m r1 r2 r3 r4)) = some r := by
 unfold run at h; split at h
 ·exact ⟨_, _, _, rfl, h⟩
 ·cases h
theorem ok : Con Go.Proofs.Try.prog con := con_of (fn := Go.Proofs.Try.f119) (c := c) (Fi := fi) (X := X) (fun_of laid (by kernel_rfl) (by kernel_rfl) (by kernel_rfl) rfl (by kernel_rfl) (by kernel_rfl) cx (fun _ => rfl) (fun _ => rfl) (fun K => by
 rw [show loopsOf c = [] from by kernel_rfl]; intro p hp
 cases hp)) fun xs rows boxes K r hl hr => by
 obtain ⟨a1, a2, a3, e, h⟩ := runv hr
 have := St.like_eq (y := a a1 a2 a3) hl (by kernel_rfl) e
 obtain ⟨rfl, rfl, rfl⟩ := argSt_inj this
 exact (tie K a1 a2 a3).trans h
end spec_HeapPack
namespace spec_l13DrawRight
noncomputable def c : Code := bodyOf Go.Proofs.Try.f85
noncomputable def fi : Fin := ⟨Γ0, [(.cell 2 44, 44)], [[1, 1, 1]], [], [([.sl [.int .u8] 1, .int .i64, .int .i64], [0, 1, 1])], []⟩
noncomputable def m (r1 : List Int) (r2 : Int) (r3 : List (List Cl)) (r4 : List Int) (r5 r6 : Int) : Res := ⟨[⟨true, [.ow 1000, .int .i64 r2, .ow 1001]⟩], [], [⟨[.int .i64], .ints r1, true, 0⟩, ⟨[.int .i64, .int .i64, .bool], .cells r3, true, 0⟩], [[.tr 2 2 [.int .u8] (.ints r4), .int .i64 r5, .int .i64 r6]], []⟩
noncomputable def b0 : Code := codeAt c [1, 1, 0, 1, 0, 0]
noncomputable def s0 (x11 : Int) (x12 : List Int) (x13 : List (List Cl)) (x14 : List Int) (x15 x16 x17 x18 : Int) : St := ⟨mkT 57 [(0, one (.bp 0 0)), (2, one (.bp 1000 0)), (3, one (.bp 3160 0)), (5, one (.int .i64 x11))], [(3097, ⟨[.int .i64], .ints x12, true, 0⟩), (3098, ⟨[.int .i64, .int .i64, .bool], .cells x13, true, 0⟩)], [(0, [.tr 2 2 [.int .u8] (.ints x14), .int .i64 x15, .int .i64 x16]), (1000, [.nil, .int .i64 x17, .nil]), (3160, [.ow 3097, .int .i64 x18, .ow 3098])]⟩
noncomputable def l0s (x17 : Int) (rec : Int → List Int → List (List Cl) → List Int → Int → Int → Int → Option Res) (k : List Int → List (List Cl) → Int → List Int → Int → Int → Option Res) (x11 : Int) (x12 : List Int) (x13 : List (List Cl)) (x14 : List Int) (x15 x16 x18 : Int) : Option Res :=
 spec_l1Below.g 14 x14 x15 x16 fun r19 r20 r21 =>
 bif decide (x11 < r19) then (spec_l3DrawRight.g x14 r20 r21 fun r22 r23 r24 r25 r26 =>
  spec_HeapPut.g x12 x18 x13 r22 r23 fun r27 r28 r29 r30 r31 =>
  spec_l1Below.g 4 r24 r25 r26 fun r32 r33 r34 =>
  bif (r32 == 0) then (spec_l1Max.g (x13.length : Int) 1 fun r35 =>
   spec_l1Below.g r35 r24 r33 r34 fun r36 r37 r38 =>
   spec_HeapDrop.g x12 x18 x13 r36 fun r39 r40 r41 r42 =>
   bif r42 then rec (IntKind.i64.wrap (x11 + 1)) r39 r41 r24 r37 r38 r40
   else rec (IntKind.i64.wrap (x11 + 1)) x12 x13 r24 r37 r38 x18)
  else bif (r32 == 1) then (spec_l1Once.g 4 r24 r33 r34 fun r43 r44 r45 =>
   bif r43 then (spec_HeapPack.g x12 x18 x13 fun r46 r47 r48 r49 =>
    bif r49 then rec (IntKind.i64.wrap (x11 + 1)) r46 r48 r24 r44 r45 r47
    else rec (IntKind.i64.wrap (x11 + 1)) x12 x13 r24 r44 r45 x18)
   else bif r31 then rec (IntKind.i64.wrap (x11 + 1)) r27 r29 r24 r44 r45 r28
   else rec (IntKind.i64.wrap (x11 + 1)) x12 x13 r24 r44 r45 x18)
  else bif r31 then rec (IntKind.i64.wrap (x11 + 1)) r27 r29 r24 r33 r34 r28
  else rec (IntKind.i64.wrap (x11 + 1)) x12 x13 r24 r33 r34 x18)
 else k x12 x13 x18 x14 r20 r21
noncomputable def l0 (x17 : Int) (k : List Int → List (List Cl) → Int → List Int → Int → Int → Option Res) : Nat → Int → List Int → List (List Cl) → List Int → Int → Int → Int → Option Res
 | 0, _, _, _, _, _, _, _ => none
 | n + 1, x11, x12, x13, x14, x15, x16, x18 => l0s x17 (fun x11 x12 x13 x14 x15 x16 x18 => l0 x17 k n x11 x12 x13 x14 x15 x16 x18) k x11 x12 x13 x14 x15 x16 x18
noncomputable def o0 (x17 : Int) (y1 : List Int) (y2 : List (List Cl)) (y4 : Int) (y5 : List Int) (y6 y7 : Int) : St := ⟨mkT 57 [(2, one (.bp 1000 0)), (3, one (.bp 3160 0))], [(3097, ⟨[.int .i64], .ints y1, true, 0⟩), (3098, ⟨[.int .i64, .int .i64, .bool], .cells y2, true, 0⟩)], [(1000, [.nil, .int .i64 x17, .nil]), (3160, [.ow 3097, .int .i64 y4, .ow 3098]), (0, [.tr 2 2 [.int .u8] (.ints y5), .int .i64 y6, .int .i64 y7])]⟩
noncomputable def p0 (K : Res → Option Res) : List Lf → (St → Option Res) → Option Res
 | [.i x11, .q (.ints x12), .q (.cells x13), .q (.ints x14), .i x15, .i x16, .i x17, .i x18], k => l0 x17 (fun y1 y2 y4 y5 y6 y7 => k (o0 x17 y1 y2 y4 y5 y6 y7)) fuel x11 x12 x13 x14 x15 x16 x18
 | _, _ => none
noncomputable def os : List (FuncId × St × (List Lf → (Res → Option Res) → Option Res)) := [spec_l1PickInt.con, spec_HeapNew.con, spec_l1Below.con, spec_l3DrawRight.con, spec_HeapPut.con, spec_l1Max.con, spec_HeapDrop.con, spec_l1Once.con, spec_HeapPack.con]
noncomputable def X (K : Res → Option Res) : Ctx := { Γ := Γ0, orc := orcOf os, io := [], share := [], mvl := [], bun := [], cut := [], own := [], cin := [(0, ⟨[0, 2, 3, 5], [(3097, 3097), (17497, 3097), (23545, 3097), (11289, 3097), (3098, 3098), (17498, 3098), (23546, 3098), (11290, 3098)], [0, 1000, 3160], [], [], []⟩)], cout := [(0, ⟨[2, 3], [(3097, 3097), (3098, 3098)], [1000, 3160, 0], [], [], []⟩)], lp := lpOf [(0, s0 0 [] [] [] 0 0 0 0, p0 K)], kl := [], nk := true, eqs := eqs0, byt := byt0, fin := finK fi K }
noncomputable def b (a1 : List Int) (a2 a3 : Int) (R : List Int → Int → List (List Cl) → List Int → Int → Int → Option Res) : Option Res :=
 spec_l1PickInt.g ([10, 30, 60, 100] : List Int) a1 a2 a3 fun r4 r5 r6 =>
 spec_HeapNew.g r4 fun r7 r8 r9 r10 =>
 l0 0 (fun y50 y51 y52 y53 y54 y55 =>
 R y50 y52 y51 y53 y54 y55) fuel 0 r7 r9 a1 r5 r6 r8
theorem gx : ∃ x : List Int → Int → Int → (List Int → Int → List (List Cl) → List Int → Int → Int → Option Res) → Option Res, x = b := ⟨_, rfl⟩
noncomputable def g : List Int → Int → Int → (List Int → Int → List (List Cl) → List Int → Int → Int → Option Res) → Option Res := Classical.choose gx
theorem e : g = b := Classical.choose_spec gx
noncomputable def run : List Lf → (Res → Option Res) → Option Res
 | [.q (.ints a1), .i a2, .i a3], K => g a1 a2 a3 (fun r1 r2 r3 r4 r5 r6 => K (m r1 r2 r3 r4 r5 r6))
 | _, _ => none
noncomputable def a (a1 : List Int) (a2 a3 : Int) : St := argSt [one (.bp 0 0)] [] [[.tr 2 2 [.int .u8] (.ints a1), .int .i64 a2, .int .i64 a3]]
noncomputable def con : FuncId × St × (List Lf → (Res → Option Res) → Option Res) := (85, a [] 0 0, run)
theorem cx (K : Res → Option Res) : CtxOk Go.Proofs.Try.prog Γ0 byt0 eqs0 (X K) os := ⟨rfl, rfl, rfl, (fun p hp => by
 rcases List.mem_cons.1 hp with rfl | hp
 ·exact spec_l1PickInt.ok
 rcases List.mem_cons.1 hp with rfl | hp
 ·exact spec_HeapNew.ok
 rcases List.mem_cons.1 hp with rfl | hp
 ·exact spec_l1Below.ok
 rcases List.mem_cons.1 hp with rfl | hp
 ·exact spec_l3DrawRight.ok
 rcases List.mem_cons.1 hp with rfl | hp
 ·exact spec_HeapPut.ok
 rcases List.mem_cons.1 hp with rfl | hp
 ·exact spec_l1Max.ok
 rcases List.mem_cons.1 hp with rfl | hp
 ·exact spec_HeapDrop.ok
 rcases List.mem_cons.1 hp with rfl | hp
 ·exact spec_l1Once.ok
 rcases List.mem_cons.1 hp with rfl | hp
 ·exact spec_HeapPack.ok
 cases hp), rfl, rfl, rfl, rfl⟩
theorem t0 (K : Res → Option Res) (k : St → Option Res) (it : St → (St → Option Res) → Option Res) (x11 : Int) (x12 : List Int) (x13 : List (List Cl)) (x14 : List Int) (x15 x16 x17 x18 : Int) : iterS (X K) 0 b0 it (s0 x11 x12 x13 x14 x15 x16 x17 x18) k = l0s x17 (fun x11 x12 x13 x14 x15 x16 x18 => it (s0 x11 x12 x13 x14 x15 x16 x17 x18) k) (fun y1 y2 y4 y5 y6 y7 => k (o0 x17 y1 y2 y4 y5 y6 y7)) x11 x12 x13 x14 x15 x16 x18 := by kernel_rfl
theorem i0 (K : Res → Option Res) (k : St → Option Res) (x17 : Int) : ∀ (n : Nat) (x11 : Int) (x12 : List Int) (x13 : List (List Cl)) (x14 : List Int) (x15 x16 x18 : Int), iter (X K) 0 b0 n (s0 x11 x12 x13 x14 x15 x16 x17 x18) k = l0 x17 (fun y1 y2 y4 y5 y6 y7 => k (o0 x17 y1 y2 y4 y5 y6 y7)) n x11 x12 x13 x14 x15 x16 x18
 | 0, _, _, _, _, _, _, _ => rfl
 | n + 1, x11, x12, x13, x14, x15, x16, x18 => by
  rw [iter_succ, t0, show (fun x11 x12 x13 x14 x15 x16 x18 => iter (X K) 0 b0 n (s0 x11 x12 x13 x14 x15 x16 x17 x18) k) = (fun x11 x12 x13 x14 x15 x16 x18 => l0 x17 (fun y1 y2 y4 y5 y6 y7 => k (o0 x17 y1 y2 y4 y5 y6 y7)) n x11 x12 x13 x14 x15 x16 x18) from funext fun x11 => funext fun x12 => funext fun x13 => funext fun x14 => funext fun x15 => funext fun x16 => funext fun x18 => i0 K k x17 n x11 x12 x13 x14 x15 x16 x18]; rfl
theorem v0 {K : Res → Option Res} {l : List Lf} {k : St → Option Res} {r : Res} (h : p0 K l k = some r) : ∃ x11 x12 x13 x14 x15 x16 x17 x18, l = [.i x11, .q (.ints x12), .q (.cells x13), .q (.ints x14), .i x15, .i x16, .i x17, .i x18] ∧ l0 x17 (fun y1 y2 y4 y5 y6 y7 => k (o0 x17 y1 y2 y4 y5 y6 y7)) fuel x11 x12 x13 x14 x15 x16 x18 = some r := by
 unfold p0 at h; split at h
 ·exact ⟨_, _, _, _, _, _, _, _, rfl, h⟩
 ·cases h
theorem w0 (K : Res → Option Res) : LpSound Go.Proofs.Try.prog (X K) 0 b0 := lp_ok ((cx K).ok laid) (by rw [show loopsOf b0 = [] from by kernel_rfl]; intro p hp; cases hp) rfl fun p hp hid => by
 rcases List.mem_cons.1 hp with rfl | hp
 ·intro st k r h1 h2; obtain ⟨x11, x12, x13, x14, x15, x16, x17, x18, e, h⟩ := v0 (K := K) h2; have := St.like_eq (y := s0 x11 x12 x13 x14 x15 x16 x17 x18) h1 (by kernel_rfl) e; subst this; exact ⟨fuel, (i0 K k x17 fuel x11 x12 x13 x14 x15 x16 x18).trans h⟩
 cases hp
theorem tie (K : Res → Option Res) (a1 : List Int) (a2 a3 : Int) : exec (X K) c (entry 57 [one (.bp 0 0)] [] [[.tr 2 2 [.int .u8] (.ints a1), .int .i64 a2, .int .i64 a3]]) (endK (X K)) = g a1 a2 a3 (fun r1 r2 r3 r4 r5 r6 => K (m r1 r2 r3 r4 r5 r6)) := Eq.trans (b := b a1 a2 a3 (fun r1 r2 r3 r4 r5 r6 => K (m r1 r2 r3 r4 r5 r6))) (by kernel_rfl) (by rw [e])
theorem runv {l : List Lf} {K : Res → Option Res} {r : Res} (h : run l K = some r) : ∃ a1 a2 a3, l = [.q (.ints a1), .i a2, .i a3] ∧ g a1 a2 a3 (fun r1 r2 r3 r4 r5 r6 => K (m r1 r2 r3 r4 r5 r6)) = some r := by
 unfold run at h; split at h
 ·exact ⟨_, _, _, rfl, h⟩
 ·cases h
theorem ok : Con Go.Proofs.Try.prog con := con_of (fn := Go.Proofs.Try.f85) (c := c) (Fi := fi) (X := X) (fun_of laid (by kernel_rfl) (by kernel_rfl) (by kernel_rfl) rfl (by kernel_rfl) (by kernel_rfl) cx (fun _ => rfl) (fun _ => rfl) (fun K => by
 rw [show loopsOf c = [(0, b0)] from by kernel_rfl]; intro p hp
 rcases List.mem_cons.1 hp with rfl | hp
 ·exact w0 K
 cases hp)) fun xs rows boxes K r hl hr => by
 obtain ⟨a1, a2, a3, e, h⟩ := runv hr
 have := St.like_eq (y := a a1 a2 a3) hl (by kernel_rfl) e
 obtain ⟨rfl, rfl, rfl⟩ := argSt_inj this
 exact (tie K a1 a2 a3).trans h
end spec_l13DrawRight
namespace spec_l13Draw
noncomputable def c : Code := bodyOf Go.Proofs.Try.f42
noncomputable def fi : Fin := ⟨Γ0, [(.cell 2 44, 44)], [[1, 1, 1]], [], [([.sl [.int .u8] 1, .int .i64, .int .i64], [0, 1, 1])], []⟩
noncomputable def m (r1 : List Int) (r2 : Int) (r3 : List (List Cl)) (r4 : List Int) (r5 r6 : Int) : Res := ⟨[⟨true, [.ow 1000, .int .i64 r2, .ow 1001]⟩], [], [⟨[.int .i64], .ints r1, true, 0⟩, ⟨[.int .i64, .int .i64, .bool], .cells r3, true, 0⟩], [[.tr 2 2 [.int .u8] (.ints r4), .int .i64 r5, .int .i64 r6]], []⟩
noncomputable def os : List (FuncId × St × (List Lf → (Res → Option Res) → Option Res)) := [spec_l13DrawRight.con, spec_l1Below.con, spec_l1Once.con]
noncomputable def X (K : Res → Option Res) : Ctx := { Γ := Γ0, orc := orcOf os, io := [], share := [], mvl := [], bun := [], cut := [], own := [], cin := [], cout := [], lp := lpOf [], kl := [], nk := true, eqs := eqs0, byt := byt0, fin := finK fi K }
noncomputable def b (a1 : List Int) (a2 a3 : Int) (R : List Int → Int → List (List Cl) → List Int → Int → Int → Option Res) : Option Res :=
 spec_l13DrawRight.g a1 a2 a3 fun r4 r5 r6 r7 r8 r9 =>
 spec_l1Below.g 25 r7 r8 r9 fun r10 r11 r12 =>
 bif (r10 == 0) then (spec_l1Below.g 120 r7 r11 r12 fun r13 r14 r15 =>
  R r4 (IntKind.i64.wrap (r13 - 2)) r6 r7 r14 r15)
 else bif (r10 == 1) then (spec_l1Below.g 20 r7 r11 r12 fun r16 r17 r18 =>
  spec_l1Below.g 9 r7 r17 r18 fun r19 r20 r21 =>
  spec_l1Once.g 2 r7 r20 r21 fun r22 r23 r24 =>
  bif decide ((r6.length + 1) * 24 ≤ 140737488355328) then R r4 r5 (r6 ++ ([[.i (IntKind.i64.wrap (r16 - 1)), .i (IntKind.i64.wrap (r19 - 1)), .b r22]] : List (List Cl))) r7 r23 r24
  else none)
 else bif (r10 == 2) then (bif decide (0 < r5) then (spec_l1Below.g r5 r7 r11 r12 fun r25 r26 r27 =>
  spec_l1Below.g 9 r7 r26 r27 fun r28 r29 r30 =>
  bif decide (0 ≤ r25) && decide (r25 < (r4.length : Int)) then R (r4.set r25.toNat (IntKind.i64.wrap (r28 - 2))) r5 r6 r7 r29 r30
  else none)
  else R r4 r5 r6 r7 r11 r12)
 else bif (r10 == 3) then (spec_l1Below.g 2 r7 r11 r12 fun r31 r32 r33 =>
  bif decide (IntKind.i64.wrap (200 + r31) = IntKind.i64.wrap (200 + r31)) && decide (0 ≤ IntKind.i64.wrap (200 + r31)) && decide (IntKind.i64.wrap (200 + r31) * 24 ≤ 140737488355328) then R r4 r5 (List.replicate ((IntKind.i64.wrap (200 + r31)).toNat) [.i 0, .i 0, .b false]) r7 r32 r33
  else none)
 else R r4 r5 r6 r7 r11 r12
theorem gx : ∃ x : List Int → Int → Int → (List Int → Int → List (List Cl) → List Int → Int → Int → Option Res) → Option Res, x = b := ⟨_, rfl⟩
noncomputable def g : List Int → Int → Int → (List Int → Int → List (List Cl) → List Int → Int → Int → Option Res) → Option Res := Classical.choose gx
theorem e : g = b := Classical.choose_spec gx
noncomputable def run : List Lf → (Res → Option Res) → Option Res
 | [.q (.ints a1), .i a2, .i a3], K => g a1 a2 a3 (fun r1 r2 r3 r4 r5 r6 => K (m r1 r2 r3 r4 r5 r6))
 | _, _ => none
noncomputable def a (a1 : List Int) (a2 a3 : Int) : St := argSt [one (.bp 0 0)] [] [[.tr 2 2 [.int .u8] (.ints a1), .int .i64 a2, .int .i64 a3]]
noncomputable def con : FuncId × St × (List Lf → (Res → Option Res) → Option Res) := (42, a [] 0 0, run)
theorem cx (K : Res → Option Res) : CtxOk Go.Proofs.Try.prog Γ0 byt0 eqs0 (X K) os := ⟨rfl, rfl, rfl, (fun p hp => by
 rcases List.mem_cons.1 hp with rfl | hp
 ·exact spec_l13DrawRight.ok
 rcases List.mem_cons.1 hp with rfl | hp
 ·exact spec_l1Below.ok
 rcases List.mem_cons.1 hp with rfl | hp
 ·exact spec_l1Once.ok
 cases hp), rfl, rfl, rfl, rfl⟩
theorem tie (K : Res → Option Res) (a1 : List Int) (a2 a3 : Int) : exec (X K) c (entry 53 [one (.bp 0 0)] [] [[.tr 2 2 [.int .u8] (.ints a1), .int .i64 a2, .int .i64 a3]]) (endK (X K)) = g a1 a2 a3 (fun r1 r2 r3 r4 r5 r6 => K (m r1 r2 r3 r4 r5 r6)) := Eq.trans (b := b a1 a2 a3 (fun r1 r2 r3 r4 r5 r6 => K (m r1 r2 r3 r4 r5 r6))) (by kernel_rfl) (by rw [e])
theorem runv {l : List Lf} {K : Res → Option Res} {r : Res} (h : run l K = some r) : ∃ a1 a2 a3, l = [.q (.ints a1), .i a2, .i a3] ∧ g a1 a2 a3 (fun r1 r2 r3 r4 r5 r6 => K (m r1 r2 r3 r4 r5 r6)) = some r := by
 unfold run at h; split at h
 ·exact ⟨_, _, _, rfl, h⟩
 ·cases h
theorem ok : Con Go.Proofs.Try.prog con := con_of (fn := Go.Proofs.Try.f42) (c := c) (Fi := fi) (X := X) (fun_of laid (by kernel_rfl) (by kernel_rfl) (by kernel_rfl) rfl (by kernel_rfl) (by kernel_rfl) cx (fun _ => rfl) (fun _ => rfl) (fun K => by
 rw [show loopsOf c = [] from by kernel_rfl]; intro p hp
 cases hp)) fun xs rows boxes K r hl hr => by
 obtain ⟨a1, a2, a3, e, h⟩ := runv hr
 have := St.like_eq (y := a a1 a2 a3) hl (by kernel_rfl) e
 obtain ⟨rfl, rfl, rfl⟩ := argSt_inj this
 exact (tie K a1 a2 a3).trans h
end spec_l13Draw
namespace spec_l2Draw
noncomputable def c : Code := bodyOf Go.Proofs.Try.f87
noncomputable def fi : Fin := ⟨Γ0, [(.tmp 2, 41)], [[1]], [], [([.sl [.int .u8] 1, .int .i64, .int .i64], [0, 1, 1])], []⟩
noncomputable def m (a1 r1 : List Int) (r3 r4 : Int) : Res := ⟨[⟨false, [.ow 1000]⟩], [], [⟨[.int .i64], .ints r1, true, 0⟩], [[.tr 2 2 [.int .u8] (.ints a1), .int .i64 r3, .int .i64 r4]], []⟩
noncomputable def os : List (FuncId × St × (List Lf → (Res → Option Res) → Option Res)) := [spec_l2DrawRight.con, spec_l1Below.con, spec_l1PickInt.con]
noncomputable def X (K : Res → Option Res) : Ctx := { Γ := Γ0, orc := orcOf os, io := [], share := [], mvl := [], bun := [], cut := [], own := [], cin := [], cout := [], lp := lpOf [], kl := [], nk := true, eqs := eqs0, byt := byt0, fin := finK fi K }
noncomputable def b (a1 : List Int) (a2 a3 : Int) (R : List Int → Int → Int → Option Res) : Option Res :=
 spec_l2DrawRight.g a1 a2 a3 fun r4 r5 r6 =>
 spec_l1Below.g 20 a1 r5 r6 fun r7 r8 r9 =>
 bif (r7 == 0) then (spec_l1PickInt.g ([(-1), 0, 300, 301] : List Int) a1 r8 r9 fun r10 r11 r12 =>
  bif decide ((r4.length + 1) * 8 ≤ 140737488355328) then R (r4 ++ ([r10] : List Int)) r11 r12
  else none)
 else bif (r7 == 1) then R ([1, 1, 1, 1] : List Int) r8 r9
 else bif (r7 == 2) then (spec_l1PickInt.g ([17, 20, 15, 300] : List Int) a1 r8 r9 fun r13 r14 r15 =>
  spec_l1PickInt.g ([15, 20, 16, 0] : List Int) a1 r14 r15 fun r16 r17 r18 =>
  R ([r13, r16] : List Int) r17 r18)
 else R r4 r8 r9
theorem gx : ∃ x : List Int → Int → Int → (List Int → Int → Int → Option Res) → Option Res, x = b := ⟨_, rfl⟩
noncomputable def g : List Int → Int → Int → (List Int → Int → Int → Option Res) → Option Res := Classical.choose gx
theorem e : g = b := Classical.choose_spec gx
noncomputable def run : List Lf → (Res → Option Res) → Option Res
 | [.q (.ints a1), .i a2, .i a3], K => g a1 a2 a3 (fun r1 r3 r4 => K (m a1 r1 r3 r4))
 | _, _ => none
noncomputable def a (a1 : List Int) (a2 a3 : Int) : St := argSt [one (.bp 0 0)] [] [[.tr 2 2 [.int .u8] (.ints a1), .int .i64 a2, .int .i64 a3]]
noncomputable def con : FuncId × St × (List Lf → (Res → Option Res) → Option Res) := (87, a [] 0 0, run)
theorem cx (K : Res → Option Res) : CtxOk Go.Proofs.Try.prog Γ0 byt0 eqs0 (X K) os := ⟨rfl, rfl, rfl, (fun p hp => by
 rcases List.mem_cons.1 hp with rfl | hp
 ·exact spec_l2DrawRight.ok
 rcases List.mem_cons.1 hp with rfl | hp
 ·exact spec_l1Below.ok
 rcases List.mem_cons.1 hp with rfl | hp
 ·exact spec_l1PickInt.ok
 cases hp), rfl, rfl, rfl, rfl⟩
theorem tie (K : Res → Option Res) (a1 : List Int) (a2 a3 : Int) : exec (X K) c (entry 29 [one (.bp 0 0)] [] [[.tr 2 2 [.int .u8] (.ints a1), .int .i64 a2, .int .i64 a3]]) (endK (X K)) = g a1 a2 a3 (fun r1 r3 r4 => K (m a1 r1 r3 r4)) := Eq.trans (b := b a1 a2 a3 (fun r1 r3 r4 => K (m a1 r1 r3 r4))) (by kernel_rfl) (by rw [e])
theorem runv {l : List Lf} {K : Res → Option Res} {r : Res} (h : run l K = some r) : ∃ a1 a2 a3, l = [.q (.ints a1), .i a2, .i a3] ∧ g a1 a2 a3 (fun r1 r3 r4 => K (m a1 r1 r3 r4)) = some r := by
 unfold run at h; split at h
 ·exact ⟨_, _, _, rfl, h⟩
 ·cases h
theorem ok : Con Go.Proofs.Try.prog con := con_of (fn := Go.Proofs.Try.f87) (c := c) (Fi := fi) (X := X) (fun_of laid (by kernel_rfl) (by kernel_rfl) (by kernel_rfl) rfl (by kernel_rfl) (by kernel_rfl) cx (fun _ => rfl) (fun _ => rfl) (fun K => by
 rw [show loopsOf c = [] from by kernel_rfl]; intro p hp
 cases hp)) fun xs rows boxes K r hl hr => by
 obtain ⟨a1, a2, a3, e, h⟩ := runv hr
 have := St.like_eq (y := a a1 a2 a3) hl (by kernel_rfl) e
 obtain ⟨rfl, rfl, rfl⟩ := argSt_inj this
 exact (tie K a1 a2 a3).trans h
end spec_l2Draw
namespace spec_l1DrawRaw
noncomputable def c : Code := bodyOf Go.Proofs.Try.f88
noncomputable def fi : Fin := ⟨Γ0, [(.tmp 2, 3)], [[1]], [], [([.sl [.int .u8] 1, .int .i64, .int .i64], [0, 1, 1])], []⟩
noncomputable def m (a1 : List Int) (r1 r3 r4 : Int) : Res := ⟨[⟨false, [.int .i64 r1]⟩], [], [], [[.tr 2 2 [.int .u8] (.ints a1), .int .i64 r3, .int .i64 r4]], []⟩
noncomputable def os : List (FuncId × St × (List Lf → (Res → Option Res) → Option Res)) := [spec_l1Once.con, spec_l1PickInt.con, spec_l1DrawNum.con]
noncomputable def X (K : Res → Option Res) : Ctx := { Γ := Γ0, orc := orcOf os, io := [], share := [], mvl := [], bun := [], cut := [], own := [], cin := [], cout := [], lp := lpOf [], kl := [], nk := true, eqs := eqs0, byt := byt0, fin := finK fi K }
noncomputable def b (a1 : List Int) (a2 a3 : Int) (R : Int → Int → Int → Option Res) : Option Res :=
 spec_l1Once.g 15 a1 a2 a3 fun r4 r5 r6 =>
 bif r4 then (spec_l1PickInt.g ([1000000000001, (-1000000000001), 9223372036854775807, (-9223372036854775808)] : List Int) a1 r5 r6 fun r7 r8 r9 =>
  R r7 r8 r9)
 else (spec_l1DrawNum.g a1 r5 r6 fun r10 r11 r12 =>
 R r10 r11 r12)
theorem gx : ∃ x : List Int → Int → Int → (Int → Int → Int → Option Res) → Option Res, x = b := ⟨_, rfl⟩
noncomputable def g : List Int → Int → Int → (Int → Int → Int → Option Res) → Option Res := Classical.choose gx
theorem e : g = b := Classical.choose_spec gx
noncomputable def run : List Lf → (Res → Option Res) → Option Res
 | [.q (.ints a1), .i a2, .i a3], K => g a1 a2 a3 (fun r1 r3 r4 => K (m a1 r1 r3 r4))
 | _, _ => none
noncomputable def a (a1 : List Int) (a2 a3 : Int) : St := argSt [one (.bp 0 0)] [] [[.tr 2 2 [.int .u8] (.ints a1), .int .i64 a2, .int .i64 a3]]
noncomputable def con : FuncId × St × (List Lf → (Res → Option Res) → Option Res) := (88, a [] 0 0, run)
theorem cx (K : Res → Option Res) : CtxOk Go.Proofs.Try.prog Γ0 byt0 eqs0 (X K) os := ⟨rfl, rfl, rfl, (fun p hp => by
 rcases List.mem_cons.1 hp with rfl | hp
 ·exact spec_l1Once.ok
 rcases List.mem_cons.1 hp with rfl | hp
 ·exact spec_l1PickInt.ok
 rcases List.mem_cons.1 hp with rfl | hp
 ·exact spec_l1DrawNum.ok
 cases hp), rfl, rfl, rfl, rfl⟩
theorem tie (K : Res → Option Res) (a1 : List Int) (a2 a3 : Int) : exec (X K) c (entry 10 [one (.bp 0 0)] [] [[.tr 2 2 [.int .u8] (.ints a1), .int .i64 a2, .int .i64 a3]]) (endK (X K)) = g a1 a2 a3 (fun r1 r3 r4 => K (m a1 r1 r3 r4)) := Eq.trans (b := b a1 a2 a3 (fun r1 r3 r4 => K (m a1 r1 r3 r4))) (by kernel_rfl) (by rw [e])
theorem runv {l : List Lf} {K : Res → Option Res} {r : Res} (h : run l K = some r) : ∃ a1 a2 a3, l = [.q (.ints a1), .i a2, .i a3] ∧ g a1 a2 a3 (fun r1 r3 r4 => K (m a1 r1 r3 r4)) = some r := by
 unfold run at h; split at h
 ·exact ⟨_, _, _, rfl, h⟩
 ·cases h
theorem ok : Con Go.Proofs.Try.prog con := con_of (fn := Go.Proofs.Try.f88) (c := c) (Fi := fi) (X := X) (fun_of laid (by kernel_rfl) (by kernel_rfl) (by kernel_rfl) rfl (by kernel_rfl) (by kernel_rfl) cx (fun _ => rfl) (fun _ => rfl) (fun K => by
 rw [show loopsOf c = [] from by kernel_rfl]; intro p hp
 cases hp)) fun xs rows boxes K r hl hr => by
 obtain ⟨a1, a2, a3, e, h⟩ := runv hr
 have := St.like_eq (y := a a1 a2 a3) hl (by kernel_rfl) e
 obtain ⟨rfl, rfl, rfl⟩ := argSt_inj this
 exact (tie K a1 a2 a3).trans h
end spec_l1DrawRaw
namespace spec_l3Draw
noncomputable def c : Code := bodyOf Go.Proofs.Try.f43
noncomputable def fi : Fin := ⟨Γ0, [(.cell 2 46, 46)], [[1, 1]], [], [([.sl [.int .u8] 1, .int .i64, .int .i64], [0, 1, 1])], []⟩
noncomputable def m (r1 r2 r3 : List Int) (r4 r5 : Int) : Res := ⟨[⟨true, [.ow 1000, .ow 1001]⟩], [], [⟨[.int .i64], .ints r1, true, 0⟩, ⟨[.int .i64], .ints r2, true, 0⟩], [[.tr 2 2 [.int .u8] (.ints r3), .int .i64 r4, .int .i64 r5]], []⟩
noncomputable def os : List (FuncId × St × (List Lf → (Res → Option Res) → Option Res)) := [spec_l3DrawRight.con, spec_l1Below.con, spec_l2Draw.con, spec_l1DrawRaw.con]
noncomputable def X (K : Res → Option Res) : Ctx := { Γ := Γ0, orc := orcOf os, io := [], share := [], mvl := [], bun := [], cut := [], own := [], cin := [], cout := [], lp := lpOf [], kl := [], nk := true, eqs := eqs0, byt := byt0, fin := finK fi K }
noncomputable def b (a1 : List Int) (a2 a3 : Int) (R : List Int → List Int → List Int → Int → Int → Option Res) : Option Res :=
 spec_l3DrawRight.g a1 a2 a3 fun r4 r5 r6 r7 r8 =>
 spec_l1Below.g 20 r6 r7 r8 fun r9 r10 r11 =>
 bif (r9 == 0) then (bif decide ((r5.length + 1) * 8 ≤ 140737488355328) then R r4 (r5 ++ ([1] : List Int)) r6 r10 r11
  else none)
 else bif (r9 == 1) then (spec_l2Draw.g r6 r10 r11 fun r12 r13 r14 =>
  R r12 r5 r6 r13 r14)
 else bif (r9 == 2) then (bif decide (0 < (r5.length : Int)) then (spec_l1Below.g (r5.length : Int) r6 r10 r11 fun r15 r16 r17 =>
  spec_l1DrawRaw.g r6 r16 r17 fun r18 r19 r20 =>
  bif decide (0 ≤ r15) && decide (r15 < (r5.length : Int)) then R r4 (r5.set r15.toNat r18) r6 r19 r20
  else none)
  else R r4 r5 r6 r10 r11)
 else bif (r9 == 3) then (spec_l1Below.g 2 r6 r10 r11 fun r21 r22 r23 =>
  bif decide (IntKind.i64.wrap (300 + r21) = IntKind.i64.wrap (300 + r21)) && decide (0 ≤ IntKind.i64.wrap (300 + r21)) && decide (IntKind.i64.wrap (300 + r21) * 8 ≤ 140737488355328) then R ([300] : List Int) (List.replicate ((IntKind.i64.wrap (300 + r21)).toNat) 0) r6 r22 r23
  else none)
 else R r4 r5 r6 r10 r11
theorem gx : ∃ x : List Int → Int → Int → (List Int → List Int → List Int → Int → Int → Option Res) → Option Res, x = b := ⟨_, rfl⟩
noncomputable def g : List Int → Int → Int → (List Int → List Int → List Int → Int → Int → Option Res) → Option Res := Classical.choose gx
theorem e : g = b := Classical.choose_spec gx
noncomputable def run : List Lf → (Res → Option Res) → Option Res
 | [.q (.ints a1), .i a2, .i a3], K => g a1 a2 a3 (fun r1 r2 r3 r4 r5 => K (m r1 r2 r3 r4 r5))
 | _, _ => none
noncomputable def a (a1 : List Int) (a2 a3 : Int) : St := argSt [one (.bp 0 0)] [] [[.tr 2 2 [.int .u8] (.ints a1), .int .i64 a2, .int .i64 a3]]
noncomputable def con : FuncId × St × (List Lf → (Res → Option Res) → Option Res) := (43, a [] 0 0, run)
theorem cx (K : Res → Option Res) : CtxOk Go.Proofs.Try.prog Γ0 byt0 eqs0 (X K) os := ⟨rfl, rfl, rfl, (fun p hp => by
 rcases List.mem_cons.1 hp with rfl | hp
 ·exact spec_l3DrawRight.ok
 rcases List.mem_cons.1 hp with rfl | hp
 ·exact spec_l1Below.ok
 rcases List.mem_cons.1 hp with rfl | hp
 ·exact spec_l2Draw.ok
 rcases List.mem_cons.1 hp with rfl | hp
 ·exact spec_l1DrawRaw.ok
 cases hp), rfl, rfl, rfl, rfl⟩
theorem tie (K : Res → Option Res) (a1 : List Int) (a2 a3 : Int) : exec (X K) c (entry 45 [one (.bp 0 0)] [] [[.tr 2 2 [.int .u8] (.ints a1), .int .i64 a2, .int .i64 a3]]) (endK (X K)) = g a1 a2 a3 (fun r1 r2 r3 r4 r5 => K (m r1 r2 r3 r4 r5)) := Eq.trans (b := b a1 a2 a3 (fun r1 r2 r3 r4 r5 => K (m r1 r2 r3 r4 r5))) (by kernel_rfl) (by rw [e])
theorem runv {l : List Lf} {K : Res → Option Res} {r : Res} (h : run l K = some r) : ∃ a1 a2 a3, l = [.q (.ints a1), .i a2, .i a3] ∧ g a1 a2 a3 (fun r1 r2 r3 r4 r5 => K (m r1 r2 r3 r4 r5)) = some r := by
 unfold run at h; split at h
 ·exact ⟨_, _, _, rfl, h⟩
 ·cases h
theorem ok : Con Go.Proofs.Try.prog con := con_of (fn := Go.Proofs.Try.f43) (c := c) (Fi := fi) (X := X) (fun_of laid (by kernel_rfl) (by kernel_rfl) (by kernel_rfl) rfl (by kernel_rfl) (by kernel_rfl) cx (fun _ => rfl) (fun _ => rfl) (fun K => by
 rw [show loopsOf c = [] from by kernel_rfl]; intro p hp
 cases hp)) fun xs rows boxes K r hl hr => by
 obtain ⟨a1, a2, a3, e, h⟩ := runv hr
 have := St.like_eq (y := a a1 a2 a3) hl (by kernel_rfl) e
 obtain ⟨rfl, rfl, rfl⟩ := argSt_inj this
 exact (tie K a1 a2 a3).trans h
end spec_l3Draw
namespace spec_DrawHeapPut
noncomputable def c : Code := bodyOf Go.Proofs.Try.f18
noncomputable def fi : Fin := ⟨Γ0, [(.cell 2 44, 44), (.cell 3 46, 46)], [[1, 1, 1], [1, 1]], [], [], []⟩
noncomputable def m (r1 : List Int) (r2 : Int) (r3 : List (List Cl)) (r4 r5 : List Int) : Res := ⟨[⟨true, [.ow 1000, .int .i64 r2, .ow 1001]⟩, ⟨true, [.ow 1002, .ow 1003]⟩], [], [⟨[.int .i64], .ints r1, true, 0⟩, ⟨[.int .i64, .int .i64, .bool], .cells r3, true, 0⟩, ⟨[.int .i64], .ints r4, true, 0⟩, ⟨[.int .i64], .ints r5, true, 0⟩], [], []⟩
noncomputable def os : List (FuncId × St × (List Lf → (Res → Option Res) → Option Res)) := [spec_l1New.con, spec_l13Draw.con, spec_l3Draw.con]
noncomputable def X (K : Res → Option Res) : Ctx := { Γ := Γ0, orc := orcOf os, io := [(37, [⟨false, 2, 1⟩])], share := [], mvl := [], bun := [], cut := [], own := [], cin := [], cout := [], lp := lpOf [], kl := [], nk := true, eqs := eqs0, byt := byt0, fin := finK fi K }
noncomputable def b (a1 : List Int) (R : List Int → Int → List (List Cl) → List Int → List Int → Option Res) : Option Res :=
 spec_l1New.g a1 fun r2 r3 r4 =>
 spec_l13Draw.g r2 r3 r4 fun r5 r6 r7 r8 r9 r10 =>
 spec_l3Draw.g r8 r9 r10 fun r11 r12 r13 r14 r15 =>
 R r5 r6 r7 r11 r12
theorem gx : ∃ x : List Int → (List Int → Int → List (List Cl) → List Int → List Int → Option Res) → Option Res, x = b := ⟨_, rfl⟩
noncomputable def g : List Int → (List Int → Int → List (List Cl) → List Int → List Int → Option Res) → Option Res := Classical.choose gx
theorem e : g = b := Classical.choose_spec gx
noncomputable def run : List Lf → (Res → Option Res) → Option Res
 | [.q (.ints a1)], K => g a1 (fun r1 r2 r3 r4 r5 => K (m r1 r2 r3 r4 r5))
 | _, _ => none
noncomputable def a (a1 : List Int) : St := argSt [one (.tr 2 1 [.int .u8] (.ints a1))] [] []
noncomputable def con : FuncId × St × (List Lf → (Res → Option Res) → Option Res) := (18, a [], run)
theorem cx (K : Res → Option Res) : CtxOk Go.Proofs.Try.prog Γ0 byt0 eqs0 (X K) os := ⟨rfl, rfl, rfl, (fun p hp => by
 rcases List.mem_cons.1 hp with rfl | hp
 ·exact spec_l1New.ok
 rcases List.mem_cons.1 hp with rfl | hp
 ·exact spec_l13Draw.ok
 rcases List.mem_cons.1 hp with rfl | hp
 ·exact spec_l3Draw.ok
 cases hp), rfl, rfl, rfl, rfl⟩
theorem tie (K : Res → Option Res) (a1 : List Int) : exec (X K) c (entry 13 [one (.tr 2 1 [.int .u8] (.ints a1))] [] []) (endK (X K)) = g a1 (fun r1 r2 r3 r4 r5 => K (m r1 r2 r3 r4 r5)) := Eq.trans (b := b a1 (fun r1 r2 r3 r4 r5 => K (m r1 r2 r3 r4 r5))) (by kernel_rfl) (by rw [e])
theorem runv {l : List Lf} {K : Res → Option Res} {r : Res} (h : run l K = some r) : ∃ a1, l = [.q (.ints a1)] ∧ g a1 (fun r1 r2 r3 r4 r5 => K (m r1 r2 r3 r4 r5)) = some r := by
 unfold run at h; split at h
 ·exact ⟨_, rfl, h⟩
 ·cases h
theorem ok : Con Go.Proofs.Try.prog con := con_of (fn := Go.Proofs.Try.f18) (c := c) (Fi := fi) (X := X) (fun_of laid (by kernel_rfl) (by kernel_rfl) (by kernel_rfl) rfl (by kernel_rfl) (by kernel_rfl) cx (fun _ => rfl) (fun _ => rfl) (fun K => by
 rw [show loopsOf c = [] from by kernel_rfl]; intro p hp
 cases hp)) fun xs rows boxes K r hl hr => by
 obtain ⟨a1, e, h⟩ := runv hr
 have := St.like_eq (y := a a1) hl (by kernel_rfl) e
 obtain ⟨rfl, rfl, rfl⟩ := argSt_inj this
 exact (tie K a1).trans h
end spec_DrawHeapPut
namespace impl_within
noncomputable def c : Code := bodyOf Go.Proofs.Try.f53
noncomputable def fi : Fin := ⟨Γ0, [(.tmp 6, 4)], [[1]], [], [], []⟩
noncomputable def m (r1 : Bool) : Res := ⟨[⟨false, [.bool r1]⟩], [], [], [], []⟩
noncomputable def os : List (FuncId × St × (List Lf → (Res → Option Res) → Option Res)) := []
noncomputable def X (K : Res → Option Res) : Ctx := { Γ := Γ0, orc := orcOf os, io := [], share := [], mvl := [], bun := [], cut := [], own := [], cin := [], cout := [], lp := lpOf [], kl := [], nk := true, eqs := eqs0, byt := byt0, fin := finK fi K }
noncomputable def b (a1 a2 a3 : Int) (R : Bool → Option Res) : Option Res :=
 bif decide (a2 ≤ a1) then R (decide (a1 ≤ a3))
 else R false
theorem gx : ∃ x : Int → Int → Int → (Bool → Option Res) → Option Res, x = b := ⟨_, rfl⟩
noncomputable def g : Int → Int → Int → (Bool → Option Res) → Option Res := Classical.choose gx
theorem e : g = b := Classical.choose_spec gx
noncomputable def run : List Lf → (Res → Option Res) → Option Res
 | [.i a1, .i a2, .i a3], K => g a1 a2 a3 (fun r1 => K (m r1))
 | _, _ => none
noncomputable def a (a1 a2 a3 : Int) : St := argSt [one (.int .i64 a1), one (.int .i64 a2), one (.int .i64 a3)] [] []
noncomputable def con : FuncId × St × (List Lf → (Res → Option Res) → Option Res) := (53, a 0 0 0, run)
theorem cx (K : Res → Option Res) : CtxOk Go.Proofs.Try.prog Γ0 byt0 eqs0 (X K) os := ⟨rfl, rfl, rfl, (fun p hp => by
 cases hp), rfl, rfl, rfl, rfl⟩
theorem tie (K : Res → Option Res) (a1 a2 a3 : Int) : exec (X K) c (entry 15 [one (.int .i64 a1), one (.int .i64 a2), one (.int .i64 a3)] [] []) (endK (X K)) = g a1 a2 a3 (fun r1 => K (m r1)) := Eq.trans (b := b a1 a2 a3 (fun r1 => K (m r1))) (by kernel_rfl) (by rw [e])
theorem runv {l : List Lf} {K : Res → Option Res} {r : Res} (h : run l K = some r) : ∃ a1 a2 a3, l = [.i a1, .i a2, .i a3] ∧ g a1 a2 a3 (fun r1 => K (m r1)) = some r := by
 unfold run at h; split at h
 ·exact ⟨_, _, _, rfl, h⟩
 ·cases h
theorem ok : Con Go.Proofs.Try.prog con := con_of (fn := Go.Proofs.Try.f53) (c := c) (Fi := fi) (X := X) (fun_of laid (by kernel_rfl) (by kernel_rfl) (by kernel_rfl) rfl (by kernel_rfl) (by kernel_rfl) cx (fun _ => rfl) (fun _ => rfl) (fun K => by
 rw [show loopsOf c = [] from by kernel_rfl]; intro p hp
 cases hp)) fun xs rows boxes K r hl hr => by
 obtain ⟨a1, a2, a3, e, h⟩ := runv hr
 have := St.like_eq (y := a a1 a2 a3) hl (by kernel_rfl) e
 obtain ⟨rfl, rfl, rfl⟩ := argSt_inj this
 exact (tie K a1 a2 a3).trans h
end impl_within
namespace impl_HeapOk
noncomputable def c : Code := bodyOf Go.Proofs.Try.f21
noncomputable def fi : Fin := ⟨Γ0, [(.tmp 2, 4)], [[1]], [], [], []⟩
noncomputable def m (r1 : Bool) : Res := ⟨[⟨false, [.bool r1]⟩], [], [], [], []⟩
noncomputable def b0 : Code := codeAt c [1, 1, 1, 0, 1, 0, 0]
noncomputable def b2 : Code := codeAt c [1, 1, 1, 0, 1, 0, 0, 1, 1, 0, 0, 1, 1, 1, 1, 0, 0]
noncomputable def s2 (x13 : Int) (x14 : List (List Cl)) (x15 x16 : Int) (x17 : List Bool) (x18 : List Int) (x19 : Int) (x20 : List (List Cl)) (x21 x22 : Int) (x23 : Bool) : St := ⟨mkT 83 [(1, one (.bp 1000 0)), (3, one (.ow 7176)), (5, one (.bp 13320 0)), (6, one (.int .i64 x13)), (30, one (.tr 0 1 [.int .i64, .int .i64, .bool] (.cells x14))), (31, one (.int .i64 x15)), (32, one (.int .i64 x16))], [(7176, ⟨[.bool], .bools x17, true, 0⟩)], [(1000, [.tr 0 1 [.int .i64] (.ints x18), .int .i64 x19, .tr 0 1 [.int .i64, .int .i64, .bool] (.cells x20)]), (13320, [.int .i64 x21, .int .i64 x22, .bool x23])]⟩
noncomputable def l2s (x14 : List (List Cl)) (x15 x16 : Int) (x18 : List Int) (x19 : Int) (x20 : List (List Cl)) (x21 x22 : Int) (x23 : Bool) (rec : Int → List Bool → Option Res) (k : List Bool → Option Res) (R : Bool → Option Res) (x13 : Int) (x17 : List Bool) : Option Res :=
 bif decide (x13 < IntKind.i64.wrap (x21 + x22)) then (bif decide (0 ≤ x13) && decide (x13 < (x17.length : Int)) then (bif x17.getD x13.toNat false then R false
  else bif decide (0 ≤ x13) && decide (x13 < (x17.length : Int)) then rec (IntKind.i64.wrap (x13 + 1)) (x17.set x13.toNat true)
  else none)
  else none)
 else k x17
noncomputable def l2 (x14 : List (List Cl)) (x15 x16 : Int) (x18 : List Int) (x19 : Int) (x20 : List (List Cl)) (x21 x22 : Int) (x23 : Bool) (k : List Bool → Option Res) (R : Bool → Option Res) : Nat → Int → List Bool → Option Res
 | 0, _, _ => none
 | n + 1, x13, x17 => l2s x14 x15 x16 x18 x19 x20 x21 x22 x23 (fun x13 x17 => l2 x14 x15 x16 x18 x19 x20 x21 x22 x23 k R n x13 x17) k R x13 x17
noncomputable def o2 (x14 : List (List Cl)) (x15 x16 : Int) (x18 : List Int) (x19 : Int) (x20 : List (List Cl)) (x21 x22 : Int) (x23 : Bool) (y4 : List Bool) : St := ⟨mkT 83 [(1, one (.bp 1000 0)), (3, one (.ow 7176)), (30, one (.tr 0 1 [.int .i64, .int .i64, .bool] (.cells x14))), (31, one (.int .i64 x15)), (32, one (.int .i64 x16))], [(7176, ⟨[.bool], .bools y4, true, 0⟩)], [(1000, [.tr 0 1 [.int .i64] (.ints x18), .int .i64 x19, .tr 0 1 [.int .i64, .int .i64, .bool] (.cells x20)])]⟩
noncomputable def p2 (K : Res → Option Res) : List Lf → (St → Option Res) → Option Res
 | [.i x13, .q (.cells x14), .i x15, .i x16, .q (.bools x17), .q (.ints x18), .i x19, .q (.cells x20), .i x21, .i x22, .b x23], k => l2 x14 x15 x16 x18 x19 x20 x21 x22 x23 (fun y4 => k (o2 x14 x15 x16 x18 x19 x20 x21 x22 x23 y4)) (fun r1 => K (m r1)) fuel x13 x17
 | _, _ => none
noncomputable def s0 (x5 : List (List Cl)) (x6 x7 : Int) (x8 : List Bool) (x9 : List Int) (x10 : Int) (x11 : List (List Cl)) : St := ⟨mkT 83 [(1, one (.bp 1000 0)), (3, one (.ow 7176)), (30, one (.tr 0 1 [.int .i64, .int .i64, .bool] (.cells x5))), (31, one (.int .i64 x6)), (32, one (.int .i64 x7))], [(7176, ⟨[.bool], .bools x8, true, 0⟩)], [(1000, [.tr 0 1 [.int .i64] (.ints x9), .int .i64 x10, .tr 0 1 [.int .i64, .int .i64, .bool] (.cells x11)])]⟩
noncomputable def l0s (x5 : List (List Cl)) (x6 : Int) (x9 : List Int) (x10 : Int) (x11 : List (List Cl)) (rec : Int → List Bool → Option Res) (k : Option Res) (R : Bool → Option Res) (x7 : Int) (x8 : List Bool) : Option Res :=
 bif decide (x7 < x6) then (bif decide (0 ≤ x7) && decide (x7 < (x5.length : Int)) then (bif !(((x5.getD x7.toNat []).getD 2 (.i 0)).toB) then (bif !((((x5.getD x7.toNat []).getD 0 (.i 0)).toI == 0) && ((((x5.getD x7.toNat []).getD 1 (.i 0)).toI == 0) && ((((x5.getD x7.toNat []).getD 2 (.i 0)).toB == false) && true))) then R false
  else rec (IntKind.i64.wrap (x7 + 1)) x8)
  else bif decide (((x5.getD x7.toNat []).getD 1 (.i 0)).toI < 1) then R false
  else (impl_within.g (((x5.getD x7.toNat []).getD 0 (.i 0)).toI) 0 (IntKind.i64.wrap (x10 - 1)) fun r12 =>
  bif !r12 then R false
  else bif decide (IntKind.i64.wrap (x10 - (((x5.getD x7.toNat []).getD 0 (.i 0)).toI)) < ((x5.getD x7.toNat []).getD 1 (.i 0)).toI) then R false
  else (l2 x5 x6 x7 x9 x10 x11 (((x5.getD x7.toNat []).getD 0 (.i 0)).toI) (((x5.getD x7.toNat []).getD 1 (.i 0)).toI) (((x5.getD x7.toNat []).getD 2 (.i 0)).toB) (fun y24 =>
  rec (IntKind.i64.wrap (x7 + 1)) y24) R fuel (((x5.getD x7.toNat []).getD 0 (.i 0)).toI) x8)))
  else none)
 else k
noncomputable def l0 (x5 : List (List Cl)) (x6 : Int) (x9 : List Int) (x10 : Int) (x11 : List (List Cl)) (k : Option Res) (R : Bool → Option Res) : Nat → Int → List Bool → Option Res
 | 0, _, _ => none
 | n + 1, x7, x8 => l0s x5 x6 x9 x10 x11 (fun x7 x8 => l0 x5 x6 x9 x10 x11 k R n x7 x8) k R x7 x8
noncomputable def o0 (x5 : List (List Cl)) (x6 : Int) (x9 : List Int) (x10 : Int) (x11 : List (List Cl)) : St := ⟨mkT 83 [], [], []⟩
noncomputable def p0 (K : Res → Option Res) : List Lf → (St → Option Res) → Option Res
 | [.q (.cells x5), .i x6, .i x7, .q (.bools x8), .q (.ints x9), .i x10, .q (.cells x11)], k => l0 x5 x6 x9 x10 x11 (k (o0 x5 x6 x9 x10 x11)) (fun r1 => K (m r1)) fuel x7 x8
 | _, _ => none
noncomputable def os : List (FuncId × St × (List Lf → (Res → Option Res) → Option Res)) := [impl_within.con]
noncomputable def X (K : Res → Option Res) : Ctx := { Γ := Γ0, orc := orcOf os, io := [], share := [], mvl := [], bun := [], cut := [], own := [], cin := [(2, ⟨[1, 3, 5, 6, 30, 31, 32], [(7176, 7176)], [1000, 13320], [], [], []⟩), (0, ⟨[1, 3, 30, 31, 32], [(7176, 7176)], [1000], [], [], []⟩)], cout := [(2, ⟨[1, 3, 30, 31, 32], [(7176, 7176)], [1000], [], [], []⟩), (0, ⟨[], [], [], [], [], []⟩)], lp := lpOf [(2, s2 0 [] 0 0 [] [] 0 [] 0 0 false, p2 K), (0, s0 [] 0 0 [] [] 0 [], p0 K)], kl := [], nk := true, eqs := eqs0, byt := byt0, fin := finK fi K }
noncomputable def b (a1 : List Int) (a2 : Int) (a3 : List (List Cl)) (R : Bool → Option Res) : Option Res :=
 bif decide (6000 < (a1.length : Int)) then R false
 else (impl_within.g a2 0 (a1.length : Int) fun r4 =>
 bif !r4 then R false
 else bif decide (200 < (a3.length : Int)) then R false
 else bif decide (a2 = a2) && decide (0 ≤ a2) && decide (a2 * 1 ≤ 140737488355328) then (l0 a3 (a3.length : Int) a1 a2 a3 (
  R true) R fuel 0 (List.replicate a2.toNat false))
 else none)
theorem gx : ∃ x : List Int → Int → List (List Cl) → (Bool → Option Res) → Option Res, x = b := ⟨_, rfl⟩
noncomputable def g : List Int → Int → List (List Cl) → (Bool → Option Res) → Option Res := Classical.choose gx
theorem e : g = b := Classical.choose_spec gx
noncomputable def run : List Lf → (Res → Option Res) → Option Res
 | [.q (.ints a1), .i a2, .q (.cells a3)], K => g a1 a2 a3 (fun r1 => K (m r1))
 | _, _ => none
noncomputable def a (a1 : List Int) (a2 : Int) (a3 : List (List Cl)) : St := argSt [.v ⟨true, [.tr 0 1 [.int .i64] (.ints a1), .int .i64 a2, .tr 0 1 [.int .i64, .int .i64, .bool] (.cells a3)]⟩] [] []
noncomputable def con : FuncId × St × (List Lf → (Res → Option Res) → Option Res) := (21, a [] 0 [], run)
theorem cx (K : Res → Option Res) : CtxOk Go.Proofs.Try.prog Γ0 byt0 eqs0 (X K) os := ⟨rfl, rfl, rfl, (fun p hp => by
 rcases List.mem_cons.1 hp with rfl | hp
 ·exact impl_within.ok
 cases hp), rfl, rfl, rfl, rfl⟩
theorem t2 (K : Res → Option Res) (k : St → Option Res) (it : St → (St → Option Res) → Option Res) (x13 : Int) (x14 : List (List Cl)) (x15 x16 : Int) (x17 : List Bool) (x18 : List Int) (x19 : Int) (x20 : List (List Cl)) (x21 x22 : Int) (x23 : Bool) : iterS (X K) 2 b2 it (s2 x13 x14 x15 x16 x17 x18 x19 x20 x21 x22 x23) k = l2s x14 x15 x16 x18 x19 x20 x21 x22 x23 (fun x13 x17 => it (s2 x13 x14 x15 x16 x17 x18 x19 x20 x21 x22 x23) k) (fun y4 => k (o2 x14 x15 x16 x18 x19 x20 x21 x22 x23 y4)) (fun r1 => K (m r1)) x13 x17 := by kernel_rfl
theorem i2 (K : Res → Option Res) (k : St → Option Res) (x14 : List (List Cl)) (x15 x16 : Int) (x18 : List Int) (x19 : Int) (x20 : List (List Cl)) (x21 x22 : Int) (x23 : Bool) : ∀ (n : Nat) (x13 : Int) (x17 : List Bool), iter (X K) 2 b2 n (s2 x13 x14 x15 x16 x17 x18 x19 x20 x21 x22 x23) k = l2 x14 x15 x16 x18 x19 x20 x21 x22 x23 (fun y4 => k (o2 x14 x15 x16 x18 x19 x20 x21 x22 x23 y4)) (fun r1 => K (m r1)) n x13 x17
 | 0, _, _ => rfl
 | n + 1, x13, x17 => by
  rw [iter_succ, t2, show (fun x13 x17 => iter (X K) 2 b2 n (s2 x13 x14 x15 x16 x17 x18 x19 x20 x21 x22 x23) k) = (fun x13 x17 => l2 x14 x15 x16 x18 x19 x20 x21 x22 x23 (fun y4 => k (o2 x14 x15 x16 x18 x19 x20 x21 x22 x23 y4)) (fun r1 => K (m r1)) n x13 x17) from funext fun x13 => funext fun x17 => i2 K k x14 x15 x16 x18 x19 x20 x21 x22 x23 n x13 x17]; rfl
theorem v2 {K : Res → Option Res} {l : List Lf} {k : St → Option Res} {r : Res} (h : p2 K l k = some r) : ∃ x13 x14 x15 x16 x17 x18 x19 x20 x21 x22 x23, l = [.i x13, .q (.cells x14), .i x15, .i x16, .q (.bools x17), .q (.ints x18), .i x19, .q (.cells x20), .i x21, .i x22, .b x23] ∧ l2 x14 x15 x16 x18 x19 x20 x21 x22 x23 (fun y4 => k (o2 x14 x15 x16 x18 x19 x20 x21 x22 x23 y4)) (fun r1 => K (m r1)) fuel x13 x17 = some r := by
 unfold p2 at h; split at h
 ·exact ⟨_, _, _, _, _, _, _, _, _, _, _, rfl, h⟩
 ·cases h
theorem t0 (K : Res → Option Res) (k : St → Option Res) (it : St → (St → Option Res) → Option Res) (x5 : List (List Cl)) (x6 x7 : Int) (x8 : List Bool) (x9 : List Int) (x10 : Int) (x11 : List (List Cl)) : iterS (X K) 0 b0 it (s0 x5 x6 x7 x8 x9 x10 x11) k = l0s x5 x6 x9 x10 x11 (fun x7 x8 => it (s0 x5 x6 x7 x8 x9 x10 x11) k) (k (o0 x5 x6 x9 x10 x11)) (fun r1 => K (m r1)) x7 x8 := by kernel_rfl
theorem i0 (K : Res → Option Res) (k : St → Option Res) (x5 : List (List Cl)) (x6 : Int) (x9 : List Int) (x10 : Int) (x11 : List (List Cl)) : ∀ (n : Nat) (x7 : Int) (x8 : List Bool), iter (X K) 0 b0 n (s0 x5 x6 x7 x8 x9 x10 x11) k = l0 x5 x6 x9 x10 x11 (k (o0 x5 x6 x9 x10 x11)) (fun r1 => K (m r1)) n x7 x8
 | 0, _, _ => rfl
 | n + 1, x7, x8 => by
  rw [iter_succ, t0, show (fun x7 x8 => iter (X K) 0 b0 n (s0 x5 x6 x7 x8 x9 x10 x11) k) = (fun x7 x8 => l0 x5 x6 x9 x10 x11 (k (o0 x5 x6 x9 x10 x11)) (fun r1 => K (m r1)) n x7 x8) from funext fun x7 => funext fun x8 => i0 K k x5 x6 x9 x10 x11 n x7 x8]; rfl
theorem v0 {K : Res → Option Res} {l : List Lf} {k : St → Option Res} {r : Res} (h : p0 K l k = some r) : ∃ x5 x6 x7 x8 x9 x10 x11, l = [.q (.cells x5), .i x6, .i x7, .q (.bools x8), .q (.ints x9), .i x10, .q (.cells x11)] ∧ l0 x5 x6 x9 x10 x11 (k (o0 x5 x6 x9 x10 x11)) (fun r1 => K (m r1)) fuel x7 x8 = some r := by
 unfold p0 at h; split at h
 ·exact ⟨_, _, _, _, _, _, _, rfl, h⟩
 ·cases h
theorem w2 (K : Res → Option Res) : LpSound Go.Proofs.Try.prog (X K) 2 b2 := lp_ok ((cx K).ok laid) (by rw [show loopsOf b2 = [] from by kernel_rfl]; intro p hp; cases hp) rfl fun p hp hid => by
 rcases List.mem_cons.1 hp with rfl | hp
 ·intro st k r h1 h2; obtain ⟨x13, x14, x15, x16, x17, x18, x19, x20, x21, x22, x23, e, h⟩ := v2 (K := K) h2; have := St.like_eq (y := s2 x13 x14 x15 x16 x17 x18 x19 x20 x21 x22 x23) h1 (by kernel_rfl) e; subst this; exact ⟨fuel, (i2 K k x14 x15 x16 x18 x19 x20 x21 x22 x23 fuel x13 x17).trans h⟩
 rcases List.mem_cons.1 hp with rfl | hp
 ·exact absurd hid (by simp)
 cases hp
theorem w0 (K : Res → Option Res) : LpSound Go.Proofs.Try.prog (X K) 0 b0 := lp_ok ((cx K).ok laid) (by
 rw [show loopsOf b0 = [(2, b2)] from by kernel_rfl]; intro p hp
 rcases List.mem_cons.1 hp with rfl | hp
 ·exact w2 K
 cases hp) rfl fun p hp hid => by
 rcases List.mem_cons.1 hp with rfl | hp
 ·exact absurd hid (by simp)
 rcases List.mem_cons.1 hp with rfl | hp
 ·intro st k r h1 h2; obtain ⟨x5, x6, x7, x8, x9, x10, x11, e, h⟩ := v0 (K := K) h2; have := St.like_eq (y := s0 x5 x6 x7 x8 x9 x10 x11) h1 (by kernel_rfl) e; subst this; exact ⟨fuel, (i0 K k x5 x6 x9 x10 x11 fuel x7 x8).trans h⟩
 cases hp
theorem tie (K : Res → Option Res) (a1 : List Int) (a2 : Int) (a3 : List (List Cl)) : exec (X K) c (entry 83 [.v ⟨true, [.tr 0 1 [.int .i64] (.ints a1), .int .i64 a2, .tr 0 1 [.int .i64, .int .i64, .bool] (.cells a3)]⟩] [] []) (endK (X K)) = g a1 a2 a3 (fun r1 => K (m r1)) := Eq.trans (b := b a1 a2 a3 (fun r1 => K (m r1))) (by kernel_rfl) (by rw [e])
theorem runv {l : List Lf} {K : Res → Option Res} {r : Res} (h : run l K = some r) : ∃ a1 a2 a3, l = [.q (.ints a1), .i a2, .q (.cells a3)] ∧ g a1 a2 a3 (fun r1 => K (m r1)) = some r := by
 unfold run at h; split at h
 ·exact ⟨_, _, _, rfl, h⟩
 ·cases h
theorem ok : Con Go.Proofs.Try.prog con := con_of (fn := Go.Proofs.Try.f21) (c := c) (Fi := fi) (X := X) (fun_of laid (by kernel_rfl) (by kernel_rfl) (by kernel_rfl) rfl (by kernel_rfl) (by kernel_rfl) cx (fun _ => rfl) (fun _ => rfl) (fun K => by
 rw [show loopsOf c = [(0, b0), (2, b2)] from by kernel_rfl]; intro p hp
 rcases List.mem_cons.1 hp with rfl | hp
 ·exact w0 K
 rcases List.mem_cons.1 hp with rfl | hp
 ·exact w2 K
 cases hp)) fun xs rows boxes K r hl hr => by
 obtain ⟨a1, a2, a3, e, h⟩ := runv hr
 have := St.like_eq (y := a a1 a2 a3) hl (by kernel_rfl) e
 obtain ⟨rfl, rfl, rfl⟩ := argSt_inj this
 exact (tie K a1 a2 a3).trans h
end impl_HeapOk
namespace impl_SizeOf
noncomputable def c : Code := bodyOf Go.Proofs.Try.f89
noncomputable def fi : Fin := ⟨Γ0, [(.tmp 2, 3)], [[1]], [], [], []⟩
noncomputable def m (r1 : Int) : Res := ⟨[⟨false, [.int .i64 r1]⟩], [], [], [], []⟩
noncomputable def b0 : Code := codeAt c [1, 1, 1, 0, 1, 0, 0]
noncomputable def s0 (x2 : Int) (x3 : List Int) (x4 x5 : Int) : St := ⟨mkT 25 [(3, one (.int .i64 x2)), (9, one (.tr 0 1 [.int .i64] (.ints x3))), (10, one (.int .i64 x4)), (11, one (.int .i64 x5))], [], []⟩
noncomputable def l0s (x3 : List Int) (x4 : Int) (rec : Int → Int → Option Res) (k : Int → Option Res) (R : Int → Option Res) (x2 x5 : Int) : Option Res :=
 bif decide (x5 < x4) then (bif decide (0 ≤ x5) && decide (x5 < (x3.length : Int)) then (impl_within.g (x3.getD x5.toNat 0) 0 300 fun r6 =>
  bif !r6 then R (-1)
  else rec (IntKind.i64.wrap (x2 * (x3.getD x5.toNat 0))) (IntKind.i64.wrap (x5 + 1)))
  else none)
 else k x2
noncomputable def l0 (x3 : List Int) (x4 : Int) (k : Int → Option Res) (R : Int → Option Res) : Nat → Int → Int → Option Res
 | 0, _, _ => none
 | n + 1, x2, x5 => l0s x3 x4 (fun x2 x5 => l0 x3 x4 k R n x2 x5) k R x2 x5
noncomputable def o0 (x3 : List Int) (x4 y1 : Int) : St := ⟨mkT 25 [(3, one (.int .i64 y1))], [], []⟩
noncomputable def p0 (K : Res → Option Res) : List Lf → (St → Option Res) → Option Res
 | [.i x2, .q (.ints x3), .i x4, .i x5], k => l0 x3 x4 (fun y1 => k (o0 x3 x4 y1)) (fun r1 => K (m r1)) fuel x2 x5
 | _, _ => none
noncomputable def os : List (FuncId × St × (List Lf → (Res → Option Res) → Option Res)) := [impl_within.con]
noncomputable def X (K : Res → Option Res) : Ctx := { Γ := Γ0, orc := orcOf os, io := [], share := [], mvl := [], bun := [], cut := [], own := [], cin := [(0, ⟨[3, 9, 10, 11], [], [], [], [], []⟩)], cout := [(0, ⟨[3], [], [], [], [], []⟩)], lp := lpOf [(0, s0 0 [] 0 0, p0 K)], kl := [], nk := true, eqs := eqs0, byt := byt0, fin := finK fi K }
noncomputable def b (a1 : List Int) (R : Int → Option Res) : Option Res :=
 bif decide (3 < (a1.length : Int)) then R (-1)
 else (l0 a1 (a1.length : Int) (fun y7 =>
 bif decide (300 < y7) then R (-1)
 else R y7) R fuel 1 0)
theorem gx : ∃ x : List Int → (Int → Option Res) → Option Res, x = b := ⟨_, rfl⟩
noncomputable def g : List Int → (Int → Option Res) → Option Res := Classical.choose gx
theorem e : g = b := Classical.choose_spec gx
noncomputable def run : List Lf → (Res → Option Res) → Option Res
 | [.q (.ints a1)], K => g a1 (fun r1 => K (m r1))
 | _, _ => none
noncomputable def a (a1 : List Int) : St := argSt [one (.tr 0 1 [.int .i64] (.ints a1))] [] []
noncomputable def con : FuncId × St × (List Lf → (Res → Option Res) → Option Res) := (89, a [], run)
theorem cx (K : Res → Option Res) : CtxOk Go.Proofs.Try.prog Γ0 byt0 eqs0 (X K) os := ⟨rfl, rfl, rfl, (fun p hp => by
 rcases List.mem_cons.1 hp with rfl | hp
 ·exact impl_within.ok
 cases hp), rfl, rfl, rfl, rfl⟩
theorem t0 (K : Res → Option Res) (k : St → Option Res) (it : St → (St → Option Res) → Option Res) (x2 : Int) (x3 : List Int) (x4 x5 : Int) : iterS (X K) 0 b0 it (s0 x2 x3 x4 x5) k = l0s x3 x4 (fun x2 x5 => it (s0 x2 x3 x4 x5) k) (fun y1 => k (o0 x3 x4 y1)) (fun r1 => K (m r1)) x2 x5 := by kernel_rfl
theorem i0 (K : Res → Option Res) (k : St → Option Res) (x3 : List Int) (x4 : Int) : ∀ (n : Nat) (x2 x5 : Int), iter (X K) 0 b0 n (s0 x2 x3 x4 x5) k = l0 x3 x4 (fun y1 => k (o0 x3 x4 y1)) (fun r1 => K (m r1)) n x2 x5
 | 0, _, _ => rfl
 | n + 1, x2, x5 => by
  rw [iter_succ, t0, show (fun x2 x5 => iter (X K) 0 b0 n (s0 x2 x3 x4 x5) k) = (fun x2 x5 => l0 x3 x4 (fun y1 => k (o0 x3 x4 y1)) (fun r1 => K (m r1)) n x2 x5) from funext fun x2 => funext fun x5 => i0 K k x3 x4 n x2 x5]; rfl
theorem v0 {K : Res → Option Res} {l : List Lf} {k : St → Option Res} {r : Res} (h : p0 K l k = some r) : ∃ x2 x3 x4 x5, l = [.i x2, .q (.ints x3), .i x4, .i x5] ∧ l0 x3 x4 (fun y1 => k (o0 x3 x4 y1)) (fun r1 => K (m r1)) fuel x2 x5 = some r := by
 unfold p0 at h; split at h
 ·exact ⟨_, _, _, _, rfl, h⟩
 ·cases h
theorem w0 (K : Res → Option Res) : LpSound Go.Proofs.Try.prog (X K) 0 b0 := lp_ok ((cx K).ok laid) (by rw [show loopsOf b0 = [] from by kernel_rfl]; intro p hp; cases hp) rfl fun p hp hid => by
 rcases List.mem_cons.1 hp with rfl | hp
 ·intro st k r h1 h2; obtain ⟨x2, x3, x4, x5, e, h⟩ := v0 (K := K) h2; have := St.like_eq (y := s0 x2 x3 x4 x5) h1 (by kernel_rfl) e; subst this; exact ⟨fuel, (i0 K k x3 x4 fuel x2 x5).trans h⟩
 cases hp
theorem tie (K : Res → Option Res) (a1 : List Int) : exec (X K) c (entry 25 [one (.tr 0 1 [.int .i64] (.ints a1))] [] []) (endK (X K)) = g a1 (fun r1 => K (m r1)) := Eq.trans (b := b a1 (fun r1 => K (m r1))) (by kernel_rfl) (by rw [e])
theorem runv {l : List Lf} {K : Res → Option Res} {r : Res} (h : run l K = some r) : ∃ a1, l = [.q (.ints a1)] ∧ g a1 (fun r1 => K (m r1)) = some r := by
 unfold run at h; split at h
 ·exact ⟨_, rfl, h⟩
 ·cases h
theorem ok : Con Go.Proofs.Try.prog con := con_of (fn := Go.Proofs.Try.f89) (c := c) (Fi := fi) (X := X) (fun_of laid (by kernel_rfl) (by kernel_rfl) (by kernel_rfl) rfl (by kernel_rfl) (by kernel_rfl) cx (fun _ => rfl) (fun _ => rfl) (fun K => by
 rw [show loopsOf c = [(0, b0)] from by kernel_rfl]; intro p hp
 rcases List.mem_cons.1 hp with rfl | hp
 ·exact w0 K
 cases hp)) fun xs rows boxes K r hl hr => by
 obtain ⟨a1, e, h⟩ := runv hr
 have := St.like_eq (y := a a1) hl (by kernel_rfl) e
 obtain ⟨rfl, rfl, rfl⟩ := argSt_inj this
 exact (tie K a1).trans h
end impl_SizeOf
namespace impl_NumOk
noncomputable def c : Code := bodyOf Go.Proofs.Try.f92
noncomputable def fi : Fin := ⟨Γ0, [(.tmp 2, 4)], [[1]], [], [], []⟩
noncomputable def m (r1 : Bool) : Res := ⟨[⟨false, [.bool r1]⟩], [], [], [], []⟩
noncomputable def os : List (FuncId × St × (List Lf → (Res → Option Res) → Option Res)) := [impl_within.con]
noncomputable def X (K : Res → Option Res) : Ctx := { Γ := Γ0, orc := orcOf os, io := [], share := [], mvl := [], bun := [], cut := [], own := [], cin := [], cout := [], lp := lpOf [], kl := [], nk := true, eqs := eqs0, byt := byt0, fin := finK fi K }
noncomputable def b (a1 : Int) (R : Bool → Option Res) : Option Res :=
 impl_within.g a1 (-1000000000000) 1000000000000 fun r2 =>
 R r2
theorem gx : ∃ x : Int → (Bool → Option Res) → Option Res, x = b := ⟨_, rfl⟩
noncomputable def g : Int → (Bool → Option Res) → Option Res := Classical.choose gx
theorem e : g = b := Classical.choose_spec gx
noncomputable def run : List Lf → (Res → Option Res) → Option Res
 | [.i a1], K => g a1 (fun r1 => K (m r1))
 | _, _ => none
noncomputable def a (a1 : Int) : St := argSt [one (.int .i64 a1)] [] []
noncomputable def con : FuncId × St × (List Lf → (Res → Option Res) → Option Res) := (92, a 0, run)
theorem cx (K : Res → Option Res) : CtxOk Go.Proofs.Try.prog Γ0 byt0 eqs0 (X K) os := ⟨rfl, rfl, rfl, (fun p hp => by
 rcases List.mem_cons.1 hp with rfl | hp
 ·exact impl_within.ok
 cases hp), rfl, rfl, rfl, rfl⟩
theorem tie (K : Res → Option Res) (a1 : Int) : exec (X K) c (entry 5 [one (.int .i64 a1)] [] []) (endK (X K)) = g a1 (fun r1 => K (m r1)) := Eq.trans (b := b a1 (fun r1 => K (m r1))) (by kernel_rfl) (by rw [e])
theorem runv {l : List Lf} {K : Res → Option Res} {r : Res} (h : run l K = some r) : ∃ a1, l = [.i a1] ∧ g a1 (fun r1 => K (m r1)) = some r := by
 unfold run at h; split at h
 ·exact ⟨_, rfl, h⟩
 ·cases h
theorem ok : Con Go.Proofs.Try.prog con := con_of (fn := Go.Proofs.Try.f92) (c := c) (Fi := fi) (X := X) (fun_of laid (by kernel_rfl) (by kernel_rfl) (by kernel_rfl) rfl (by kernel_rfl) (by kernel_rfl) cx (fun _ => rfl) (fun _ => rfl) (fun K => by
 rw [show loopsOf c = [] from by kernel_rfl]; intro p hp
 cases hp)) fun xs rows boxes K r hl hr => by
 obtain ⟨a1, e, h⟩ := runv hr
 have := St.like_eq (y := a a1) hl (by kernel_rfl) e
 obtain ⟨rfl, rfl, rfl⟩ := argSt_inj this
 exact (tie K a1).trans h
end impl_NumOk
namespace impl_ArrayOk_1
noncomputable def c : Code := bodyOf Go.Proofs.Try.f91
noncomputable def fi : Fin := ⟨Γ0, [(.tmp 2, 4)], [[1]], [], [], []⟩
noncomputable def m (r1 : Bool) : Res := ⟨[⟨false, [.bool r1]⟩], [], [], [], []⟩
noncomputable def os : List (FuncId × St × (List Lf → (Res → Option Res) → Option Res)) := [impl_NumOk.con]
noncomputable def X (K : Res → Option Res) : Ctx := { Γ := Γ0, orc := orcOf os, io := [], share := [], mvl := [], bun := [], cut := [], own := [], cin := [], cout := [], lp := lpOf [], kl := [], nk := true, eqs := eqs0, byt := byt0, fin := finK fi K }
noncomputable def b (a1 : Int) (R : Bool → Option Res) : Option Res :=
 impl_NumOk.g a1 fun r2 =>
 R (!r2)
theorem gx : ∃ x : Int → (Bool → Option Res) → Option Res, x = b := ⟨_, rfl⟩
noncomputable def g : Int → (Bool → Option Res) → Option Res := Classical.choose gx
theorem e : g = b := Classical.choose_spec gx
noncomputable def run : List Lf → (Res → Option Res) → Option Res
 | [.i a1], K => g a1 (fun r1 => K (m r1))
 | _, _ => none
noncomputable def a (a1 : Int) : St := argSt [one (.int .i64 a1)] [] []
noncomputable def con : FuncId × St × (List Lf → (Res → Option Res) → Option Res) := (91, a 0, run)
theorem cx (K : Res → Option Res) : CtxOk Go.Proofs.Try.prog Γ0 byt0 eqs0 (X K) os := ⟨rfl, rfl, rfl, (fun p hp => by
 rcases List.mem_cons.1 hp with rfl | hp
 ·exact impl_NumOk.ok
 cases hp), rfl, rfl, rfl, rfl⟩
theorem tie (K : Res → Option Res) (a1 : Int) : exec (X K) c (entry 6 [one (.int .i64 a1)] [] []) (endK (X K)) = g a1 (fun r1 => K (m r1)) := Eq.trans (b := b a1 (fun r1 => K (m r1))) (by kernel_rfl) (by rw [e])
theorem runv {l : List Lf} {K : Res → Option Res} {r : Res} (h : run l K = some r) : ∃ a1, l = [.i a1] ∧ g a1 (fun r1 => K (m r1)) = some r := by
 unfold run at h; split at h
 ·exact ⟨_, rfl, h⟩
 ·cases h
theorem ok : Con Go.Proofs.Try.prog con := con_of (fn := Go.Proofs.Try.f91) (c := c) (Fi := fi) (X := X) (fun_of laid (by kernel_rfl) (by kernel_rfl) (by kernel_rfl) rfl (by kernel_rfl) (by kernel_rfl) cx (fun _ => rfl) (fun _ => rfl) (fun K => by
 rw [show loopsOf c = [] from by kernel_rfl]; intro p hp
 cases hp)) fun xs rows boxes K r hl hr => by
 obtain ⟨a1, e, h⟩ := runv hr
 have := St.like_eq (y := a a1) hl (by kernel_rfl) e
 obtain ⟨rfl, rfl, rfl⟩ := argSt_inj this
 exact (tie K a1).trans h
end impl_ArrayOk_1
namespace slices_IndexFunc_int_int
noncomputable def c : Code := bodyOf Go.Proofs.Try.f123
noncomputable def fi : Fin := ⟨Γ0, [(.tmp 4, 3)], [[1]], [], [], []⟩
noncomputable def m (r1 : Int) : Res := ⟨[⟨false, [.int .i64 r1]⟩], [], [], [], []⟩
noncomputable def b0 : Code := codeAt c [1, 0, 1, 0, 0]
noncomputable def s0 (x2 : List Int) (x3 x4 : Int) : St := ⟨mkT 19 [(0, one (.tr 0 1 [.int .i64] (.ints x2))), (1, one (.fn 91 [])), (7, one (.int .i64 x3)), (8, one (.int .i64 x4))], [], []⟩
noncomputable def l0s (x2 : List Int) (x3 : Int) (rec : Int → Option Res) (k : Option Res) (R : Int → Option Res) (x4 : Int) : Option Res :=
 bif decide (x4 < x3) then (bif decide (0 ≤ x4) && decide (x4 < (x2.length : Int)) then (impl_ArrayOk_1.g (x2.getD x4.toNat 0) fun r5 =>
  bif r5 then R x4
  else rec (IntKind.i64.wrap (x4 + 1)))
  else none)
 else k
noncomputable def l0 (x2 : List Int) (x3 : Int) (k : Option Res) (R : Int → Option Res) : Nat → Int → Option Res
 | 0, _ => none
 | n + 1, x4 => l0s x2 x3 (fun x4 => l0 x2 x3 k R n x4) k R x4
noncomputable def o0 (x2 : List Int) (x3 : Int) : St := ⟨mkT 19 [], [], []⟩
noncomputable def p0 (K : Res → Option Res) : List Lf → (St → Option Res) → Option Res
 | [.q (.ints x2), .i x3, .i x4], k => l0 x2 x3 (k (o0 x2 x3)) (fun r1 => K (m r1)) fuel x4
 | _, _ => none
noncomputable def os : List (FuncId × St × (List Lf → (Res → Option Res) → Option Res)) := [impl_ArrayOk_1.con]
noncomputable def X (K : Res → Option Res) : Ctx := { Γ := Γ0, orc := orcOf os, io := [], share := [], mvl := [], bun := [], cut := [], own := [], cin := [(0, ⟨[0, 1, 7, 8], [], [], [], [], []⟩)], cout := [(0, ⟨[], [], [], [], [], []⟩)], lp := lpOf [(0, s0 [] 0 0, p0 K)], kl := [], nk := true, eqs := eqs0, byt := byt0, fin := finK fi K }
noncomputable def b (a1 : List Int) (R : Int → Option Res) : Option Res :=
 l0 a1 (a1.length : Int) (
 R (-1)) R fuel 0
theorem gx : ∃ x : List Int → (Int → Option Res) → Option Res, x = b := ⟨_, rfl⟩
noncomputable def g : List Int → (Int → Option Res) → Option Res := Classical.choose gx
theorem e : g = b := Classical.choose_spec gx
noncomputable def run : List Lf → (Res → Option Res) → Option Res
 | [.q (.ints a1)], K => g a1 (fun r1 => K (m r1))
 | _, _ => none
noncomputable def a (a1 : List Int) : St := argSt [one (.tr 0 1 [.int .i64] (.ints a1)), one (.fn 91 [])] [] []
noncomputable def con : FuncId × St × (List Lf → (Res → Option Res) → Option Res) := (123, a [], run)
theorem cx (K : Res → Option Res) : CtxOk Go.Proofs.Try.prog Γ0 byt0 eqs0 (X K) os := ⟨rfl, rfl, rfl, (fun p hp => by
 rcases List.mem_cons.1 hp with rfl | hp
 ·exact impl_ArrayOk_1.ok
 cases hp), rfl, rfl, rfl, rfl⟩
theorem t0 (K : Res → Option Res) (k : St → Option Res) (it : St → (St → Option Res) → Option Res) (x2 : List Int) (x3 x4 : Int) : iterS (X K) 0 b0 it (s0 x2 x3 x4) k = l0s x2 x3 (fun x4 => it (s0 x2 x3 x4) k) (k (o0 x2 x3)) (fun r1 => K (m r1)) x4 := by kernel_rfl
theorem i0 (K : Res → Option Res) (k : St → Option Res) (x2 : List Int) (x3 : Int) : ∀ (n : Nat) (x4 : Int), iter (X K) 0 b0 n (s0 x2 x3 x4) k = l0 x2 x3 (k (o0 x2 x3)) (fun r1 => K (m r1)) n x4
 | 0, _ => rfl
 | n + 1, x4 => by
  rw [iter_succ, t0, show (fun x4 => iter (X K) 0 b0 n (s0 x2 x3 x4) k) = (fun x4 => l0 x2 x3 (k (o0 x2 x3)) (fun r1 => K (m r1)) n x4) from funext fun x4 => i0 K k x2 x3 n x4]; rfl
theorem v0 {K : Res → Option Res} {l : List Lf} {k : St → Option Res} {r : Res} (h : p0 K l k = some r) : ∃ x2 x3 x4, l = [.q (.ints x2), .i x3, .i x4] ∧ l0 x2 x3 (k (o0 x2 x3)) (fun r1 => K (m r1)) fuel x4 = some r := by
 unfold p0 at h; split at h
 ·exact ⟨_, _, _, rfl, h⟩
 ·cases h
theorem w0 (K : Res → Option Res) : LpSound Go.Proofs.Try.prog (X K) 0 b0 := lp_ok ((cx K).ok laid) (by rw [show loopsOf b0 = [] from by kernel_rfl]; intro p hp; cases hp) rfl fun p hp hid => by
 rcases List.mem_cons.1 hp with rfl | hp
 ·intro st k r h1 h2; obtain ⟨x2, x3, x4, e, h⟩ := v0 (K := K) h2; have := St.like_eq (y := s0 x2 x3 x4) h1 (by kernel_rfl) e; subst this; exact ⟨fuel, (i0 K k x2 x3 fuel x4).trans h⟩
 cases hp
theorem tie (K : Res → Option Res) (a1 : List Int) : exec (X K) c (entry 19 [one (.tr 0 1 [.int .i64] (.ints a1)), one (.fn 91 [])] [] []) (endK (X K)) = g a1 (fun r1 => K (m r1)) := Eq.trans (b := b a1 (fun r1 => K (m r1))) (by kernel_rfl) (by rw [e])
theorem runv {l : List Lf} {K : Res → Option Res} {r : Res} (h : run l K = some r) : ∃ a1, l = [.q (.ints a1)] ∧ g a1 (fun r1 => K (m r1)) = some r := by
 unfold run at h; split at h
 ·exact ⟨_, rfl, h⟩
 ·cases h
theorem ok : Con Go.Proofs.Try.prog con := con_of (fn := Go.Proofs.Try.f123) (c := c) (Fi := fi) (X := X) (fun_of laid (by kernel_rfl) (by kernel_rfl) (by kernel_rfl) rfl (by kernel_rfl) (by kernel_rfl) cx (fun _ => rfl) (fun _ => rfl) (fun K => by
 rw [show loopsOf c = [(0, b0)] from by kernel_rfl]; intro p hp
 rcases List.mem_cons.1 hp with rfl | hp
 ·exact w0 K
 cases hp)) fun xs rows boxes K r hl hr => by
 obtain ⟨a1, e, h⟩ := runv hr
 have := St.like_eq (y := a a1) hl (by kernel_rfl) e
 obtain ⟨rfl, rfl, rfl⟩ := argSt_inj this
 exact (tie K a1).trans h
end slices_IndexFunc_int_int
namespace slices_ContainsFunc_int_int
noncomputable def c : Code := bodyOf Go.Proofs.Try.f90
noncomputable def fi : Fin := ⟨Γ0, [(.tmp 4, 4)], [[1]], [], [], []⟩
noncomputable def m (r1 : Bool) : Res := ⟨[⟨false, [.bool r1]⟩], [], [], [], []⟩
noncomputable def os : List (FuncId × St × (List Lf → (Res → Option Res) → Option Res)) := [slices_IndexFunc_int_int.con]
noncomputable def X (K : Res → Option Res) : Ctx := { Γ := Γ0, orc := orcOf os, io := [], share := [], mvl := [], bun := [], cut := [], own := [], cin := [], cout := [], lp := lpOf [], kl := [], nk := true, eqs := eqs0, byt := byt0, fin := finK fi K }
noncomputable def b (a1 : List Int) (R : Bool → Option Res) : Option Res :=
 slices_IndexFunc_int_int.g a1 fun r2 =>
 R (decide (0 ≤ r2))
theorem gx : ∃ x : List Int → (Bool → Option Res) → Option Res, x = b := ⟨_, rfl⟩
noncomputable def g : List Int → (Bool → Option Res) → Option Res := Classical.choose gx
theorem e : g = b := Classical.choose_spec gx
noncomputable def run : List Lf → (Res → Option Res) → Option Res
 | [.q (.ints a1)], K => g a1 (fun r1 => K (m r1))
 | _, _ => none
noncomputable def a (a1 : List Int) : St := argSt [one (.tr 0 1 [.int .i64] (.ints a1)), one (.fn 91 [])] [] []
noncomputable def con : FuncId × St × (List Lf → (Res → Option Res) → Option Res) := (90, a [], run)
theorem cx (K : Res → Option Res) : CtxOk Go.Proofs.Try.prog Γ0 byt0 eqs0 (X K) os := ⟨rfl, rfl, rfl, (fun p hp => by
 rcases List.mem_cons.1 hp with rfl | hp
 ·exact slices_IndexFunc_int_int.ok
 cases hp), rfl, rfl, rfl, rfl⟩
theorem tie (K : Res → Option Res) (a1 : List Int) : exec (X K) c (entry 9 [one (.tr 0 1 [.int .i64] (.ints a1)), one (.fn 91 [])] [] []) (endK (X K)) = g a1 (fun r1 => K (m r1)) := Eq.trans (b := b a1 (fun r1 => K (m r1))) (by kernel_rfl) (by rw [e])
theorem runv {l : List Lf} {K : Res → Option Res} {r : Res} (h : run l K = some r) : ∃ a1, l = [.q (.ints a1)] ∧ g a1 (fun r1 => K (m r1)) = some r := by
 unfold run at h; split at h
 ·exact ⟨_, rfl, h⟩
 ·cases h
theorem ok : Con Go.Proofs.Try.prog con := con_of (fn := Go.Proofs.Try.f90) (c := c) (Fi := fi) (X := X) (fun_of laid (by kernel_rfl) (by kernel_rfl) (by kernel_rfl) rfl (by kernel_rfl) (by kernel_rfl) cx (fun _ => rfl) (fun _ => rfl) (fun K => by
 rw [show loopsOf c = [] from by kernel_rfl]; intro p hp
 cases hp)) fun xs rows boxes K r hl hr => by
 obtain ⟨a1, e, h⟩ := runv hr
 have := St.like_eq (y := a a1) hl (by kernel_rfl) e
 obtain ⟨rfl, rfl, rfl⟩ := argSt_inj this
 exact (tie K a1).trans h
end slices_ContainsFunc_int_int
namespace impl_ArrayOk
noncomputable def c : Code := bodyOf Go.Proofs.Try.f44
noncomputable def fi : Fin := ⟨Γ0, [(.tmp 2, 4)], [[1]], [], [], []⟩
noncomputable def m (r1 : Bool) : Res := ⟨[⟨false, [.bool r1]⟩], [], [], [], []⟩
noncomputable def os : List (FuncId × St × (List Lf → (Res → Option Res) → Option Res)) := [impl_SizeOf.con, slices_ContainsFunc_int_int.con]
noncomputable def X (K : Res → Option Res) : Ctx := { Γ := Γ0, orc := orcOf os, io := [], share := [], mvl := [], bun := [], cut := [], own := [], cin := [], cout := [], lp := lpOf [], kl := [], nk := true, eqs := eqs0, byt := byt0, fin := finK fi K }
noncomputable def b (a1 a2 : List Int) (R : Bool → Option Res) : Option Res :=
 impl_SizeOf.g a1 fun r3 =>
 bif ((a2.length : Int) == r3) then (slices_ContainsFunc_int_int.g a2 fun r4 =>
  R (!r4))
 else R false
theorem gx : ∃ x : List Int → List Int → (Bool → Option Res) → Option Res, x = b := ⟨_, rfl⟩
noncomputable def g : List Int → List Int → (Bool → Option Res) → Option Res := Classical.choose gx
theorem e : g = b := Classical.choose_spec gx
noncomputable def run : List Lf → (Res → Option Res) → Option Res
 | [.q (.ints a1), .q (.ints a2)], K => g a1 a2 (fun r1 => K (m r1))
 | _, _ => none
noncomputable def a (a1 a2 : List Int) : St := argSt [.v ⟨true, [.tr 0 1 [.int .i64] (.ints a1), .tr 0 1 [.int .i64] (.ints a2)]⟩] [] []
noncomputable def con : FuncId × St × (List Lf → (Res → Option Res) → Option Res) := (44, a [] [], run)
theorem cx (K : Res → Option Res) : CtxOk Go.Proofs.Try.prog Γ0 byt0 eqs0 (X K) os := ⟨rfl, rfl, rfl, (fun p hp => by
 rcases List.mem_cons.1 hp with rfl | hp
 ·exact impl_SizeOf.ok
 rcases List.mem_cons.1 hp with rfl | hp
 ·exact slices_ContainsFunc_int_int.ok
 cases hp), rfl, rfl, rfl, rfl⟩
theorem tie (K : Res → Option Res) (a1 a2 : List Int) : exec (X K) c (entry 16 [.v ⟨true, [.tr 0 1 [.int .i64] (.ints a1), .tr 0 1 [.int .i64] (.ints a2)]⟩] [] []) (endK (X K)) = g a1 a2 (fun r1 => K (m r1)) := Eq.trans (b := b a1 a2 (fun r1 => K (m r1))) (by kernel_rfl) (by rw [e])
theorem runv {l : List Lf} {K : Res → Option Res} {r : Res} (h : run l K = some r) : ∃ a1 a2, l = [.q (.ints a1), .q (.ints a2)] ∧ g a1 a2 (fun r1 => K (m r1)) = some r := by
 unfold run at h; split at h
 ·exact ⟨_, _, rfl, h⟩
 ·cases h
theorem ok : Con Go.Proofs.Try.prog con := con_of (fn := Go.Proofs.Try.f44) (c := c) (Fi := fi) (X := X) (fun_of laid (by kernel_rfl) (by kernel_rfl) (by kernel_rfl) rfl (by kernel_rfl) (by kernel_rfl) cx (fun _ => rfl) (fun _ => rfl) (fun K => by
 rw [show loopsOf c = [] from by kernel_rfl]; intro p hp
 cases hp)) fun xs rows boxes K r hl hr => by
 obtain ⟨a1, a2, e, h⟩ := runv hr
 have := St.like_eq (y := a a1 a2) hl (by kernel_rfl) e
 obtain ⟨rfl, rfl, rfl⟩ := argSt_inj this
 exact (tie K a1 a2).trans h
end impl_ArrayOk
namespace impl_copyHeap
noncomputable def c : Code := bodyOf Go.Proofs.Try.f45
noncomputable def fi : Fin := ⟨Γ0, [(.cell 2 44, 44)], [[1, 1, 1]], [], [], []⟩
noncomputable def m (a1 : List Int) (a2 : Int) (a3 : List (List Cl)) : Res := ⟨[⟨true, [.ow 1000, .int .i64 a2, .ow 1001]⟩], [], [⟨[.int .i64], .ints a1, true, 0⟩, ⟨[.int .i64, .int .i64, .bool], .cells a3, true, 0⟩], [], []⟩
noncomputable def os : List (FuncId × St × (List Lf → (Res → Option Res) → Option Res)) := []
noncomputable def X (K : Res → Option Res) : Ctx := { Γ := Γ0, orc := orcOf os, io := [], share := [], mvl := [], bun := [], cut := [], own := [], cin := [], cout := [], lp := lpOf [], kl := [], nk := true, eqs := eqs0, byt := byt0, fin := finK fi K }
noncomputable def b (a1 : List Int) (a2 : Int) (a3 : List (List Cl)) (R : Option Res) : Option Res :=
 bif decide (a1.length * 8 ≤ 140737488355328) then (bif decide (a3.length * 24 ≤ 140737488355328) then R
  else none)
 else none
theorem gx : ∃ x : List Int → Int → List (List Cl) → (Option Res) → Option Res, x = b := ⟨_, rfl⟩
noncomputable def g : List Int → Int → List (List Cl) → (Option Res) → Option Res := Classical.choose gx
theorem e : g = b := Classical.choose_spec gx
noncomputable def run : List Lf → (Res → Option Res) → Option Res
 | [.q (.ints a1), .i a2, .q (.cells a3)], K => g a1 a2 a3 (K (m a1 a2 a3))
 | _, _ => none
noncomputable def a (a1 : List Int) (a2 : Int) (a3 : List (List Cl)) : St := argSt [.v ⟨true, [.tr 0 1 [.int .i64] (.ints a1), .int .i64 a2, .tr 0 1 [.int .i64, .int .i64, .bool] (.cells a3)]⟩] [] []
noncomputable def con : FuncId × St × (List Lf → (Res → Option Res) → Option Res) := (45, a [] 0 [], run)
theorem cx (K : Res → Option Res) : CtxOk Go.Proofs.Try.prog Γ0 byt0 eqs0 (X K) os := ⟨rfl, rfl, rfl, (fun p hp => by
 cases hp), rfl, rfl, rfl, rfl⟩
theorem tie (K : Res → Option Res) (a1 : List Int) (a2 : Int) (a3 : List (List Cl)) : exec (X K) c (entry 12 [.v ⟨true, [.tr 0 1 [.int .i64] (.ints a1), .int .i64 a2, .tr 0 1 [.int .i64, .int .i64, .bool] (.cells a3)]⟩] [] []) (endK (X K)) = g a1 a2 a3 (K (m a1 a2 a3)) := Eq.trans (b := b a1 a2 a3 (K (m a1 a2 a3))) (by kernel_rfl) (by rw [e])
theorem runv {l : List Lf} {K : Res → Option Res} {r : Res} (h : run l K = some r) : ∃ a1 a2 a3, l = [.q (.ints a1), .i a2, .q (.cells a3)] ∧ g a1 a2 a3 (K (m a1 a2 a3)) = some r := by
 unfold run at h; split at h
 ·exact ⟨_, _, _, rfl, h⟩
 ·cases h
theorem ok : Con Go.Proofs.Try.prog con := con_of (fn := Go.Proofs.Try.f45) (c := c) (Fi := fi) (X := X) (fun_of laid (by kernel_rfl) (by kernel_rfl) (by kernel_rfl) rfl (by kernel_rfl) (by kernel_rfl) cx (fun _ => rfl) (fun _ => rfl) (fun K => by
 rw [show loopsOf c = [] from by kernel_rfl]; intro p hp
 cases hp)) fun xs rows boxes K r hl hr => by
 obtain ⟨a1, a2, a3, e, h⟩ := runv hr
 have := St.like_eq (y := a a1 a2 a3) hl (by kernel_rfl) e
 obtain ⟨rfl, rfl, rfl⟩ := argSt_inj this
 exact (tie K a1 a2 a3).trans h
end impl_copyHeap
namespace slices_Grow_int_int
noncomputable def c : Code := bodyOf Go.Proofs.Try.f124
noncomputable def fi : Fin := ⟨Γ0, [(.tmp 4, 41)], [[1]], [], [], []⟩
noncomputable def m (r1 : List Int) : Res := ⟨[⟨false, [.ow 1000]⟩], [], [⟨[.int .i64], .ints r1, true, 0⟩], [], []⟩
noncomputable def os : List (FuncId × St × (List Lf → (Res → Option Res) → Option Res)) := []
noncomputable def X (K : Res → Option Res) : Ctx := { Γ := Γ0, orc := orcOf os, io := [], share := [], mvl := [], bun := [], cut := [(5, 8)], own := [], cin := [], cout := [], lp := lpOf [], kl := [], nk := true, eqs := eqs0, byt := byt0, fin := finK fi K }
noncomputable def b (a1 : Int) (R : List Int → Option Res) : Option Res :=
 bif decide (a1 < 0) then none
 else bif decide (0 < IntKind.i64.wrap (a1 - 0)) then (bif decide (0 ≤ IntKind.i64.wrap (a1 - 0)) && decide (IntKind.i64.wrap (a1 - 0) * 8 ≤ 140737488355328) then (bif decide (0 ≤ ((List.replicate ((IntKind.i64.wrap (a1 - 0)).toNat) 0).length : Int)) then R ((List.replicate ((IntKind.i64.wrap (a1 - 0)).toNat) 0).take 0)
  else none)
  else none)
 else R ([] : List Int)
theorem gx : ∃ x : Int → (List Int → Option Res) → Option Res, x = b := ⟨_, rfl⟩
noncomputable def g : Int → (List Int → Option Res) → Option Res := Classical.choose gx
theorem e : g = b := Classical.choose_spec gx
noncomputable def run : List Lf → (Res → Option Res) → Option Res
 | [.i a1], K => g a1 (fun r1 => K (m r1))
 | _, _ => none
noncomputable def a (a1 : Int) : St := argSt [one (.nil), one (.int .i64 a1)] [] []
noncomputable def con : FuncId × St × (List Lf → (Res → Option Res) → Option Res) := (124, a 0, run)
theorem cx (K : Res → Option Res) : CtxOk Go.Proofs.Try.prog Γ0 byt0 eqs0 (X K) os := ⟨rfl, rfl, rfl, (fun p hp => by
 cases hp), rfl, rfl, rfl, rfl⟩
theorem tie (K : Res → Option Res) (a1 : Int) : exec (X K) c (entry 27 [one (.nil), one (.int .i64 a1)] [] []) (endK (X K)) = g a1 (fun r1 => K (m r1)) := Eq.trans (b := b a1 (fun r1 => K (m r1))) (by kernel_rfl) (by rw [e])
theorem runv {l : List Lf} {K : Res → Option Res} {r : Res} (h : run l K = some r) : ∃ a1, l = [.i a1] ∧ g a1 (fun r1 => K (m r1)) = some r := by
 unfold run at h; split at h
 ·exact ⟨_, rfl, h⟩
 ·cases h
theorem ok : Con Go.Proofs.Try.prog con := con_of (fn := Go.Proofs.Try.f124) (c := c) (Fi := fi) (X := X) (fun_of laid (by kernel_rfl) (by kernel_rfl) (by kernel_rfl) rfl (by kernel_rfl) (by kernel_rfl) cx (fun _ => rfl) (fun _ => rfl) (fun K => by
 rw [show loopsOf c = [] from by kernel_rfl]; intro p hp
 cases hp)) fun xs rows boxes K r hl hr => by
 obtain ⟨a1, e, h⟩ := runv hr
 have := St.like_eq (y := a a1) hl (by kernel_rfl) e
 obtain ⟨rfl, rfl, rfl⟩ := argSt_inj this
 exact (tie K a1).trans h
end slices_Grow_int_int
namespace slices_Concat_int_int_i2
noncomputable def c : Code := bodyOf Go.Proofs.Try.f93
noncomputable def fi : Fin := ⟨Γ0, [(.tmp 2, 41)], [[1]], [], [], []⟩
noncomputable def m (r1 : List Int) : Res := ⟨[⟨false, [.ow 1000]⟩], [], [⟨[.int .i64], .ints r1, true, 0⟩], [], []⟩
noncomputable def b0 : Code := codeAt c [1, 1, 0, 1, 0, 0]
noncomputable def b2 : Code := codeAt c [1, 1, 1, 1, 0, 1, 0, 0]
noncomputable def s0 (x2 : List (List Cl)) (x3 : Int) (x4 : List (List Cl)) (x5 x6 : Int) : St := ⟨mkT 36 [(0, one (.tr 2 0 [.ints .i64] (.cells x2))), (3, one (.int .i64 x3)), (9, one (.tr 2 0 [.ints .i64] (.cells x4))), (10, one (.int .i64 x5)), (11, one (.int .i64 x6))], [], []⟩
noncomputable def l0s (x2 x4 : List (List Cl)) (x5 : Int) (rec : Int → Int → Option Res) (k : Int → Option Res) (x3 x6 : Int) : Option Res :=
 bif decide (x6 < x5) then (bif decide (0 ≤ x6) && decide (x6 < (x4.length : Int)) then (bif decide (IntKind.i64.wrap (x3 + ((((x4.getD x6.toNat []).getD 0 (.i 0)).toL).length : Int)) < 0) then none
  else rec (IntKind.i64.wrap (x3 + ((((x4.getD x6.toNat []).getD 0 (.i 0)).toL).length : Int))) (IntKind.i64.wrap (x6 + 1)))
  else none)
 else k x3
noncomputable def l0 (x2 x4 : List (List Cl)) (x5 : Int) (k : Int → Option Res) : Nat → Int → Int → Option Res
 | 0, _, _ => none
 | n + 1, x3, x6 => l0s x2 x4 x5 (fun x3 x6 => l0 x2 x4 x5 k n x3 x6) k x3 x6
noncomputable def o0 (x2 x4 : List (List Cl)) (x5 y2 : Int) : St := ⟨mkT 36 [(0, one (.tr 2 0 [.ints .i64] (.cells x2))), (3, one (.int .i64 y2))], [], []⟩
noncomputable def p0 (K : Res → Option Res) : List Lf → (St → Option Res) → Option Res
 | [.q (.cells x2), .i x3, .q (.cells x4), .i x5, .i x6], k => l0 x2 x4 x5 (fun y2 => k (o0 x2 x4 x5 y2)) fuel x3 x6
 | _, _ => none
noncomputable def s2 (x9 : List (List Cl)) (x10 x11 : Int) (x12 : List Int) : St := ⟨mkT 36 [(6, one (.ow 19449)), (25, one (.tr 2 0 [.ints .i64] (.cells x9))), (26, one (.int .i64 x10)), (27, one (.int .i64 x11))], [(19449, ⟨[.int .i64], .ints x12, true, 0⟩)], []⟩
noncomputable def l2s (x9 : List (List Cl)) (x10 : Int) (rec : Int → List Int → Option Res) (k : List Int → Option Res) (x11 : Int) (x12 : List Int) : Option Res :=
 bif decide (x11 < x10) then (bif decide (0 ≤ x11) && decide (x11 < (x9.length : Int)) then (bif decide ((x12.length + (((x9.getD x11.toNat []).getD 0 (.i 0)).toL).length) * 8 ≤ 140737488355328) then rec (IntKind.i64.wrap (x11 + 1)) (x12 ++ (((x9.getD x11.toNat []).getD 0 (.i 0)).toL))
  else none)
  else none)
 else k x12
noncomputable def l2 (x9 : List (List Cl)) (x10 : Int) (k : List Int → Option Res) : Nat → Int → List Int → Option Res
 | 0, _, _ => none
 | n + 1, x11, x12 => l2s x9 x10 (fun x11 x12 => l2 x9 x10 k n x11 x12) k x11 x12
noncomputable def o2 (x9 : List (List Cl)) (x10 : Int) (y1 : List Int) : St := ⟨mkT 36 [(6, one (.ow 19449))], [(19449, ⟨[.int .i64], .ints y1, true, 0⟩)], []⟩
noncomputable def p2 (K : Res → Option Res) : List Lf → (St → Option Res) → Option Res
 | [.q (.cells x9), .i x10, .i x11, .q (.ints x12)], k => l2 x9 x10 (fun y1 => k (o2 x9 x10 y1)) fuel x11 x12
 | _, _ => none
noncomputable def os : List (FuncId × St × (List Lf → (Res → Option Res) → Option Res)) := [slices_Grow_int_int.con]
noncomputable def X (K : Res → Option Res) : Ctx := { Γ := Γ0, orc := orcOf os, io := [], share := [], mvl := [], bun := [(9, 1)], cut := [], own := [], cin := [(0, ⟨[0, 3, 9, 10, 11], [], [], [], [], []⟩), (2, ⟨[6, 25, 26, 27], [(19449, 19449), (27656, 19449)], [], [], [], []⟩)], cout := [(0, ⟨[0, 3], [], [], [], [], []⟩), (2, ⟨[6], [(19449, 19449)], [], [], [], []⟩)], lp := lpOf [(0, s0 [] 0 [] 0 0, p0 K), (2, s2 [] 0 0 [], p2 K)], kl := [], nk := true, eqs := eqs0, byt := byt0, fin := finK fi K }
noncomputable def b (a1 : List (List Cl)) (R : List Int → Option Res) : Option Res :=
 l0 a1 a1 (a1.length : Int) (fun y7 =>
 slices_Grow_int_int.g y7 fun r8 =>
 l2 a1 (a1.length : Int) (fun y13 =>
 R y13) fuel 0 r8) fuel 0 0
theorem gx : ∃ x : List (List Cl) → (List Int → Option Res) → Option Res, x = b := ⟨_, rfl⟩
noncomputable def g : List (List Cl) → (List Int → Option Res) → Option Res := Classical.choose gx
theorem e : g = b := Classical.choose_spec gx
noncomputable def run : List Lf → (Res → Option Res) → Option Res
 | [.q (.cells a1)], K => g a1 (fun r1 => K (m r1))
 | _, _ => none
noncomputable def a (a1 : List (List Cl)) : St := argSt [one (.tr 2 0 [.ints .i64] (.cells a1))] [] []
noncomputable def con : FuncId × St × (List Lf → (Res → Option Res) → Option Res) := (93, a [], run)
theorem cx (K : Res → Option Res) : CtxOk Go.Proofs.Try.prog Γ0 byt0 eqs0 (X K) os := ⟨rfl, rfl, rfl, (fun p hp => by
 rcases List.mem_cons.1 hp with rfl | hp
 ·exact slices_Grow_int_int.ok
 cases hp), rfl, rfl, rfl, rfl⟩
theorem t0 (K : Res → Option Res) (k : St → Option Res) (it : St → (St → Option Res) → Option Res) (x2 : List (List Cl)) (x3 : Int) (x4 : List (List Cl)) (x5 x6 : Int) : iterS (X K) 0 b0 it (s0 x2 x3 x4 x5 x6) k = l0s x2 x4 x5 (fun x3 x6 => it (s0 x2 x3 x4 x5 x6) k) (fun y2 => k (o0 x2 x4 x5 y2)) x3 x6 := by kernel_rfl
theorem i0 (K : Res → Option Res) (k : St → Option Res) (x2 x4 : List (List Cl)) (x5 : Int) : ∀ (n : Nat) (x3 x6 : Int), iter (X K) 0 b0 n (s0 x2 x3 x4 x5 x6) k = l0 x2 x4 x5 (fun y2 => k (o0 x2 x4 x5 y2)) n x3 x6
 | 0, _, _ => rfl
 | n + 1, x3, x6 => by
  rw [iter_succ, t0, show (fun x3 x6 => iter (X K) 0 b0 n (s0 x2 x3 x4 x5 x6) k) = (fun x3 x6 => l0 x2 x4 x5 (fun y2 => k (o0 x2 x4 x5 y2)) n x3 x6) from funext fun x3 => funext fun x6 => i0 K k x2 x4 x5 n x3 x6]; rfl
theorem v0 {K : Res → Option Res} {l : List Lf} {k : St → Option Res} {r : Res} (h : p0 K l k = some r) : ∃ x2 x3 x4 x5 x6, l = [.q (.cells x2), .i x3, .q (.cells x4), .i x5, .i x6] ∧ l0 x2 x4 x5 (fun y2 => k (o0 x2 x4 x5 y2)) fuel x3 x6 = some r := by
 unfold p0 at h; split at h
 ·exact ⟨_, _, _, _, _, rfl, h⟩
 ·cases h
theorem t2 (K : Res → Option Res) (k : St → Option Res) (it : St → (St → Option Res) → Option Res) (x9 : List (List Cl)) (x10 x11 : Int) (x12 : List Int) : iterS (X K) 2 b2 it (s2 x9 x10 x11 x12) k = l2s x9 x10 (fun x11 x12 => it (s2 x9 x10 x11 x12) k) (fun y1 => k (o2 x9 x10 y1)) x11 x12 := by kernel_rfl
theorem i2 (K : Res → Option Res) (k : St → Option Res) (x9 : List (List Cl)) (x10 : Int) : ∀ (n : Nat) (x11 : Int) (x12 : List Int), iter (X K) 2 b2 n (s2 x9 x10 x11 x12) k = l2 x9 x10 (fun y1 => k (o2 x9 x10 y1)) n x11 x12
 | 0, _, _ => rfl
 | n + 1, x11, x12 => by
  rw [iter_succ, t2, show (fun x11 x12 => iter (X K) 2 b2 n (s2 x9 x10 x11 x12) k) = (fun x11 x12 => l2 x9 x10 (fun y1 => k (o2 x9 x10 y1)) n x11 x12) from funext fun x11 => funext fun x12 => i2 K k x9 x10 n x11 x12]; rfl
theorem v2 {K : Res → Option Res} {l : List Lf} {k : St → Option Res} {r : Res} (h : p2 K l k = some r) : ∃ x9 x10 x11 x12, l = [.q (.cells x9), .i x10, .i x11, .q (.ints x12)] ∧ l2 x9 x10 (fun y1 => k (o2 x9 x10 y1)) fuel x11 x12 = some r := by
 unfold p2 at h; split at h
 ·exact ⟨_, _, _, _, rfl, h⟩
 ·cases h
theorem w2 (K : Res → Option Res) : LpSound Go.Proofs.Try.prog (X K) 2 b2 := lp_ok ((cx K).ok laid) (by rw [show loopsOf b2 = [] from by kernel_rfl]; intro p hp; cases hp) rfl fun p hp hid => by
 rcases List.mem_cons.1 hp with rfl | hp
 ·exact absurd hid (by simp)
 rcases List.mem_cons.1 hp with rfl | hp
 ·intro st k r h1 h2; obtain ⟨x9, x10, x11, x12, e, h⟩ := v2 (K := K) h2; have := St.like_eq (y := s2 x9 x10 x11 x12) h1 (by kernel_rfl) e; subst this; exact ⟨fuel, (i2 K k x9 x10 fuel x11 x12).trans h⟩
 cases hp
theorem w0 (K : Res → Option Res) : LpSound Go.Proofs.Try.prog (X K) 0 b0 := lp_ok ((cx K).ok laid) (by rw [show loopsOf b0 = [] from by kernel_rfl]; intro p hp; cases hp) rfl fun p hp hid => by
 rcases List.mem_cons.1 hp with rfl | hp
 ·intro st k r h1 h2; obtain ⟨x2, x3, x4, x5, x6, e, h⟩ := v0 (K := K) h2; have := St.like_eq (y := s0 x2 x3 x4 x5 x6) h1 (by kernel_rfl) e; subst this; exact ⟨fuel, (i0 K k x2 x4 x5 fuel x3 x6).trans h⟩
 rcases List.mem_cons.1 hp with rfl | hp
 ·exact absurd hid (by simp)
 cases hp
theorem tie (K : Res → Option Res) (a1 : List (List Cl)) : exec (X K) c (entry 36 [one (.tr 2 0 [.ints .i64] (.cells a1))] [] []) (endK (X K)) = g a1 (fun r1 => K (m r1)) := Eq.trans (b := b a1 (fun r1 => K (m r1))) (by kernel_rfl) (by rw [e])
theorem runv {l : List Lf} {K : Res → Option Res} {r : Res} (h : run l K = some r) : ∃ a1, l = [.q (.cells a1)] ∧ g a1 (fun r1 => K (m r1)) = some r := by
 unfold run at h; split at h
 ·exact ⟨_, rfl, h⟩
 ·cases h
theorem ok : Con Go.Proofs.Try.prog con := con_of (fn := Go.Proofs.Try.f93) (c := c) (Fi := fi) (X := X) (fun_of laid (by kernel_rfl) (by kernel_rfl) (by kernel_rfl) rfl (by kernel_rfl) (by kernel_rfl) cx (fun _ => rfl) (fun _ => rfl) (fun K => by
 rw [show loopsOf c = [(0, b0), (2, b2)] from by kernel_rfl]; intro p hp
 rcases List.mem_cons.1 hp with rfl | hp
 ·exact w0 K
 rcases List.mem_cons.1 hp with rfl | hp
 ·exact w2 K
 cases hp)) fun xs rows boxes K r hl hr => by
 obtain ⟨a1, e, h⟩ := runv hr
 have := St.like_eq (y := a a1) hl (by kernel_rfl) e
 obtain ⟨rfl, rfl, rfl⟩ := argSt_inj this
 exact (tie K a1).trans h
end slices_Concat_int_int_i2
namespace slices_Concat_int_int
noncomputable def b (a1 a2 a3 : List Int) (R : List Int → Option Res) : Option Res := slices_Concat_int_int_i2.g [[.l a1], [.l a2], [.l a3]] R
theorem gx : ∃ x : List Int → List Int → List Int → (List Int → Option Res) → Option Res, x = b := ⟨_, rfl⟩
noncomputable def g : List Int → List Int → List Int → (List Int → Option Res) → Option Res := Classical.choose gx
theorem e : g = b := Classical.choose_spec gx
noncomputable def run : List Lf → (Res → Option Res) → Option Res
 | [.q (.ints a1), .q (.ints a2), .q (.ints a3)], K => g a1 a2 a3 (fun r1 => K (slices_Concat_int_int_i2.m r1))
 | _, _ => none
noncomputable def a (a1 a2 a3 : List Int) : St := argSt [.bn [.tr 0 1 [.int .i64] (.ints a1), .tr 0 1 [.int .i64] (.ints a2), .tr 0 1 [.int .i64] (.ints a3)]] [] []
noncomputable def con : FuncId × St × (List Lf → (Res → Option Res) → Option Res) := (93, a [] [] [], run)
theorem ok : Con Go.Proofs.Try.prog con := fun xs rows boxes K r hr => by
 cases hl : (argSt xs rows boxes).like con.2.1 with
 | false => simp only [hl, cond_false] at hr; cases hr
 | true =>
  simp only [hl, cond_true] at hr
  have hr : run (argSt xs rows boxes).leaves K = some r := hr
  obtain ⟨a1, a2, a3, e', h⟩ : ∃ a1 a2 a3, (argSt xs rows boxes).leaves = [.q (.ints a1), .q (.ints a2), .q (.ints a3)] ∧ g a1 a2 a3 (fun r1 => K (slices_Concat_int_int_i2.m r1)) = some r := by
   unfold run at hr; split at hr
   ·exact ⟨_, _, _, by assumption, hr⟩
   ·cases hr
  have := St.like_eq (y := a a1 a2 a3) hl (by kernel_rfl) e'
  obtain ⟨rfl, rfl, rfl⟩ := argSt_inj this
  rw [e] at h
  exact bn_sound slices_Concat_int_int_i2.ok (fun L => by kernel_rfl) [a1, a2, a3] h
end slices_Concat_int_int
namespace impl_wordsOf
noncomputable def c : Code := bodyOf Go.Proofs.Try.f46
noncomputable def fi : Fin := ⟨Γ0, [(.tmp 2, 41)], [[1]], [], [], []⟩
noncomputable def m (r1 : List Int) : Res := ⟨[⟨false, [.ow 1000]⟩], [], [⟨[.int .i64], .ints r1, true, 0⟩], [], []⟩
noncomputable def os : List (FuncId × St × (List Lf → (Res → Option Res) → Option Res)) := [slices_Concat_int_int.con]
noncomputable def X (K : Res → Option Res) : Ctx := { Γ := Γ0, orc := orcOf os, io := [], share := [], mvl := [], bun := [(1, 8)], cut := [], own := [], cin := [], cout := [], lp := lpOf [], kl := [], nk := true, eqs := eqs0, byt := byt0, fin := finK fi K }
noncomputable def b (a1 a2 : List Int) (R : List Int → Option Res) : Option Res :=
 slices_Concat_int_int.g ([(a1.length : Int)] : List Int) a1 a2 fun r3 =>
 R r3
theorem gx : ∃ x : List Int → List Int → (List Int → Option Res) → Option Res, x = b := ⟨_, rfl⟩
noncomputable def g : List Int → List Int → (List Int → Option Res) → Option Res := Classical.choose gx
theorem e : g = b := Classical.choose_spec gx
noncomputable def run : List Lf → (Res → Option Res) → Option Res
 | [.q (.ints a1), .q (.ints a2)], K => g a1 a2 (fun r1 => K (m r1))
 | _, _ => none
noncomputable def a (a1 a2 : List Int) : St := argSt [.v ⟨true, [.tr 0 1 [.int .i64] (.ints a1), .tr 0 1 [.int .i64] (.ints a2)]⟩] [] []
noncomputable def con : FuncId × St × (List Lf → (Res → Option Res) → Option Res) := (46, a [] [], run)
theorem cx (K : Res → Option Res) : CtxOk Go.Proofs.Try.prog Γ0 byt0 eqs0 (X K) os := ⟨rfl, rfl, rfl, (fun p hp => by
 rcases List.mem_cons.1 hp with rfl | hp
 ·exact slices_Concat_int_int.ok
 cases hp), rfl, rfl, rfl, rfl⟩
theorem tie (K : Res → Option Res) (a1 a2 : List Int) : exec (X K) c (entry 13 [.v ⟨true, [.tr 0 1 [.int .i64] (.ints a1), .tr 0 1 [.int .i64] (.ints a2)]⟩] [] []) (endK (X K)) = g a1 a2 (fun r1 => K (m r1)) := Eq.trans (b := b a1 a2 (fun r1 => K (m r1))) (by kernel_rfl) (by rw [e])
theorem runv {l : List Lf} {K : Res → Option Res} {r : Res} (h : run l K = some r) : ∃ a1 a2, l = [.q (.ints a1), .q (.ints a2)] ∧ g a1 a2 (fun r1 => K (m r1)) = some r := by
 unfold run at h; split at h
 ·exact ⟨_, _, rfl, h⟩
 ·cases h
theorem ok : Con Go.Proofs.Try.prog con := con_of (fn := Go.Proofs.Try.f46) (c := c) (Fi := fi) (X := X) (fun_of laid (by kernel_rfl) (by kernel_rfl) (by kernel_rfl) rfl (by kernel_rfl) (by kernel_rfl) cx (fun _ => rfl) (fun _ => rfl) (fun K => by
 rw [show loopsOf c = [] from by kernel_rfl]; intro p hp
 cases hp)) fun xs rows boxes K r hl hr => by
 obtain ⟨a1, a2, e, h⟩ := runv hr
 have := St.like_eq (y := a a1 a2) hl (by kernel_rfl) e
 obtain ⟨rfl, rfl, rfl⟩ := argSt_inj this
 exact (tie K a1 a2).trans h
end impl_wordsOf
namespace bits_Len64
noncomputable def c : Code := bodyOf Go.Proofs.Try.f140
noncomputable def fi : Fin := ⟨Γ0, [(.tmp 2, 3)], [[1]], [], [], []⟩
noncomputable def m (r1 : Int) : Res := ⟨[⟨false, [.int .i64 r1]⟩], [], [], [], []⟩
noncomputable def os : List (FuncId × St × (List Lf → (Res → Option Res) → Option Res)) := []
noncomputable def X (K : Res → Option Res) : Ctx := { Γ := Γ0, orc := orcOf os, io := [], share := [], mvl := [], bun := [], cut := [], own := [], cin := [], cout := [], lp := lpOf [], kl := [], nk := true, eqs := eqs0, byt := byt0, fin := finK fi K }
noncomputable def b (a1 : Int) (R : Int → Option Res) : Option Res :=
 bif decide (4294967296 ≤ a1) then (bif decide (65536 ≤ a1.fdiv (2 ^ 32)) then (bif decide (256 ≤ (a1.fdiv (2 ^ 32)).fdiv (2 ^ 16)) then (bif decide (0 ≤ IntKind.u8.wrap (((a1.fdiv (2 ^ 32)).fdiv (2 ^ 16)).fdiv (2 ^ 8))) && decide (IntKind.u8.wrap (((a1.fdiv (2 ^ 32)).fdiv (2 ^ 16)).fdiv (2 ^ 8)) < 256) then R (IntKind.i64.wrap (56 + (IntKind.i64.wrap ((bytesOf (⟨#[0, 1, 2, 2, 3, 3, 3, 3, 4, 4, 4, 4, 4, 4, 4, 4, 5, 5, 5, 5, 5, 5, 5, 5, 5, 5, 5, 5, 5, 5, 5, 5, 6, 6, 6, 6, 6, 6, 6, 6, 6, 6, 6, 6, 6, 6, 6, 6, 6, 6, 6, 6, 6, 6, 6, 6, 6, 6, 6, 6, 6, 6, 6, 6, 7, 7, 7, 7, 7, 7, 7, 7, 7, 7, 7, 7, 7, 7, 7, 7, 7, 7, 7, 7, 7, 7, 7, 7, 7, 7, 7, 7, 7, 7, 7, 7, 7, 7, 7, 7, 7, 7, 7, 7, 7, 7, 7, 7, 7, 7, 7, 7, 7, 7, 7, 7, 7, 7, 7, 7, 7, 7, 7, 7, 7, 7, 7, 7, 8, 8, 8, 8, 8, 8, 8, 8, 8, 8, 8, 8, 8, 8, 8, 8, 8, 8, 8, 8, 8, 8, 8, 8, 8, 8, 8, 8, 8, 8, 8, 8, 8, 8, 8, 8, 8, 8, 8, 8, 8, 8, 8, 8, 8, 8, 8, 8, 8, 8, 8, 8, 8, 8, 8, 8, 8, 8, 8, 8, 8, 8, 8, 8, 8, 8, 8, 8, 8, 8, 8, 8, 8, 8, 8, 8, 8, 8, 8, 8, 8, 8, 8, 8, 8, 8, 8, 8, 8, 8, 8, 8, 8, 8, 8, 8, 8, 8, 8, 8, 8, 8, 8, 8, 8, 8, 8, 8, 8, 8, 8, 8, 8, 8, 8, 8, 8, 8, 8, 8, 8, 8, 8, 8, 8, 8, 8, 8]⟩ : ByteArray)).getD ((IntKind.u8.wrap (((a1.fdiv (2 ^ 32)).fdiv (2 ^ 16)).fdiv (2 ^ 8))).toNat) 0))))
  else none)
  else bif decide (0 ≤ IntKind.u8.wrap ((a1.fdiv (2 ^ 32)).fdiv (2 ^ 16))) && decide (IntKind.u8.wrap ((a1.fdiv (2 ^ 32)).fdiv (2 ^ 16)) < 256) then R (IntKind.i64.wrap (48 + (IntKind.i64.wrap ((bytesOf (⟨#[0, 1, 2, 2, 3, 3, 3, 3, 4, 4, 4, 4, 4, 4, 4, 4, 5, 5, 5, 5, 5, 5, 5, 5, 5, 5, 5, 5, 5, 5, 5, 5, 6, 6, 6, 6, 6, 6, 6, 6, 6, 6, 6, 6, 6, 6, 6, 6, 6, 6, 6, 6, 6, 6, 6, 6, 6, 6, 6, 6, 6, 6, 6, 6, 7, 7, 7, 7, 7, 7, 7, 7, 7, 7, 7, 7, 7, 7, 7, 7, 7, 7, 7, 7, 7, 7, 7, 7, 7, 7, 7, 7, 7, 7, 7, 7, 7, 7, 7, 7, 7, 7, 7, 7, 7, 7, 7, 7, 7, 7, 7, 7, 7, 7, 7, 7, 7, 7, 7, 7, 7, 7, 7, 7, 7, 7, 7, 7, 8, 8, 8, 8, 8, 8, 8, 8, 8, 8, 8, 8, 8, 8, 8, 8, 8, 8, 8, 8, 8, 8, 8, 8, 8, 8, 8, 8, 8, 8, 8, 8, 8, 8, 8, 8, 8, 8, 8, 8, 8, 8, 8, 8, 8, 8, 8, 8, 8, 8, 8, 8, 8, 8, 8, 8, 8, 8, 8, 8, 8, 8, 8, 8, 8, 8, 8, 8, 8, 8, 8, 8, 8, 8, 8, 8, 8, 8, 8, 8, 8, 8, 8, 8, 8, 8, 8, 8, 8, 8, 8, 8, 8, 8, 8, 8, 8, 8, 8, 8, 8, 8, 8, 8, 8, 8, 8, 8, 8, 8, 8, 8, 8, 8, 8, 8, 8, 8, 8, 8, 8, 8, 8, 8, 8, 8, 8, 8]⟩ : ByteArray)).getD ((IntKind.u8.wrap ((a1.fdiv (2 ^ 32)).fdiv (2 ^ 16))).toNat) 0))))
  else none)
  else bif decide (256 ≤ a1.fdiv (2 ^ 32)) then (bif decide (0 ≤ IntKind.u8.wrap ((a1.fdiv (2 ^ 32)).fdiv (2 ^ 8))) && decide (IntKind.u8.wrap ((a1.fdiv (2 ^ 32)).fdiv (2 ^ 8)) < 256) then R (IntKind.i64.wrap (40 + (IntKind.i64.wrap ((bytesOf (⟨#[0, 1, 2, 2, 3, 3, 3, 3, 4, 4, 4, 4, 4, 4, 4, 4, 5, 5, 5, 5, 5, 5, 5, 5, 5, 5, 5, 5, 5, 5, 5, 5, 6, 6, 6, 6, 6, 6, 6, 6, 6, 6, 6, 6, 6, 6, 6, 6, 6, 6, 6, 6, 6, 6, 6, 6, 6, 6, 6, 6, 6, 6, 6, 6, 7, 7, 7, 7, 7, 7, 7, 7, 7, 7, 7, 7, 7, 7, 7, 7, 7, 7, 7, 7, 7, 7, 7, 7, 7, 7, 7, 7, 7, 7, 7, 7, 7, 7, 7, 7, 7, 7, 7, 7, 7, 7, 7, 7, 7, 7, 7, 7, 7, 7, 7, 7, 7, 7, 7, 7, 7, 7, 7, 7, 7, 7, 7, 7, 8, 8, 8, 8, 8, 8, 8, 8, 8, 8, 8, 8, 8, 8, 8, 8, 8, 8, 8, 8, 8, 8, 8, 8, 8, 8, 8, 8, 8, 8, 8, 8, 8, 8, 8, 8, 8, 8, 8, 8, 8, 8, 8, 8, 8, 8, 8, 8, 8, 8, 8, 8, 8, 8, 8, 8, 8, 8, 8, 8, 8, 8, 8, 8, 8, 8, 8, 8, 8, 8, 8, 8, 8, 8, 8, 8, 8, 8, 8, 8, 8, 8, 8, 8, 8, 8, 8, 8, 8, 8, 8, 8, 8, 8, 8, 8, 8, 8, 8, 8, 8, 8, 8, 8, 8, 8, 8, 8, 8, 8, 8, 8, 8, 8, 8, 8, 8, 8, 8, 8, 8, 8, 8, 8, 8, 8, 8, 8]⟩ : ByteArray)).getD ((IntKind.u8.wrap ((a1.fdiv (2 ^ 32)).fdiv (2 ^ 8))).toNat) 0))))
   else none)
  else bif decide (0 ≤ IntKind.u8.wrap (a1.fdiv (2 ^ 32))) && decide (IntKind.u8.wrap (a1.fdiv (2 ^ 32)) < 256) then R (IntKind.i64.wrap (32 + (IntKind.i64.wrap ((bytesOf (⟨#[0, 1, 2, 2, 3, 3, 3, 3, 4, 4, 4, 4, 4, 4, 4, 4, 5, 5, 5, 5, 5, 5, 5, 5, 5, 5, 5, 5, 5, 5, 5, 5, 6, 6, 6, 6, 6, 6, 6, 6, 6, 6, 6, 6, 6, 6, 6, 6, 6, 6, 6, 6, 6, 6, 6, 6, 6, 6, 6, 6, 6, 6, 6, 6, 7, 7, 7, 7, 7, 7, 7, 7, 7, 7, 7, 7, 7, 7, 7, 7, 7, 7, 7, 7, 7, 7, 7, 7, 7, 7, 7, 7, 7, 7, 7, 7, 7, 7, 7, 7, 7, 7, 7, 7, 7, 7, 7, 7, 7, 7, 7, 7, 7, 7, 7, 7, 7, 7, 7, 7, 7, 7, 7, 7, 7, 7, 7, 7, 8, 8, 8, 8, 8, 8, 8, 8, 8, 8, 8, 8, 8, 8, 8, 8, 8, 8, 8, 8, 8, 8, 8, 8, 8, 8, 8, 8, 8, 8, 8, 8, 8, 8, 8, 8, 8, 8, 8, 8, 8, 8, 8, 8, 8, 8, 8, 8, 8, 8, 8, 8, 8, 8, 8, 8, 8, 8, 8, 8, 8, 8, 8, 8, 8, 8, 8, 8, 8, 8, 8, 8, 8, 8, 8, 8, 8, 8, 8, 8, 8, 8, 8, 8, 8, 8, 8, 8, 8, 8, 8, 8, 8, 8, 8, 8, 8, 8, 8, 8, 8, 8, 8, 8, 8, 8, 8, 8, 8, 8, 8, 8, 8, 8, 8, 8, 8, 8, 8, 8, 8, 8, 8, 8, 8, 8, 8, 8]⟩ : ByteArray)).getD ((IntKind.u8.wrap (a1.fdiv (2 ^ 32))).toNat) 0))))
  else none)
 else bif decide (65536 ≤ a1) then (bif decide (256 ≤ a1.fdiv (2 ^ 16)) then (bif decide (0 ≤ IntKind.u8.wrap ((a1.fdiv (2 ^ 16)).fdiv (2 ^ 8))) && decide (IntKind.u8.wrap ((a1.fdiv (2 ^ 16)).fdiv (2 ^ 8)) < 256) then R (IntKind.i64.wrap (24 + (IntKind.i64.wrap ((bytesOf (⟨#[0, 1, 2, 2, 3, 3, 3, 3, 4, 4, 4, 4, 4, 4, 4, 4, 5, 5, 5, 5, 5, 5, 5, 5, 5, 5, 5, 5, 5, 5, 5, 5, 6, 6, 6, 6, 6, 6, 6, 6, 6, 6, 6, 6, 6, 6, 6, 6, 6, 6, 6, 6, 6, 6, 6, 6, 6, 6, 6, 6, 6, 6, 6, 6, 7, 7, 7, 7, 7, 7, 7, 7, 7, 7, 7, 7, 7, 7, 7, 7, 7, 7, 7, 7, 7, 7, 7, 7, 7, 7, 7, 7, 7, 7, 7, 7, 7, 7, 7, 7, 7, 7, 7, 7, 7, 7, 7, 7, 7, 7, 7, 7, 7, 7, 7, 7, 7, 7, 7, 7, 7, 7, 7, 7, 7, 7, 7, 7, 8, 8, 8, 8, 8, 8, 8, 8, 8, 8, 8, 8, 8, 8, 8, 8, 8, 8, 8, 8, 8, 8, 8, 8, 8, 8, 8, 8, 8, 8, 8, 8, 8, 8, 8, 8, 8, 8, 8, 8, 8, 8, 8, 8, 8, 8, 8, 8, 8, 8, 8, 8, 8, 8, 8, 8, 8, 8, 8, 8, 8, 8, 8, 8, 8, 8, 8, 8, 8, 8, 8, 8, 8, 8, 8, 8, 8, 8, 8, 8, 8, 8, 8, 8, 8, 8, 8, 8, 8, 8, 8, 8, 8, 8, 8, 8, 8, 8, 8, 8, 8, 8, 8, 8, 8, 8, 8, 8, 8, 8, 8, 8, 8, 8, 8, 8, 8, 8, 8, 8, 8, 8, 8, 8, 8, 8, 8, 8]⟩ : ByteArray)).getD ((IntKind.u8.wrap ((a1.fdiv (2 ^ 16)).fdiv (2 ^ 8))).toNat) 0))))
  else none)
  else bif decide (0 ≤ IntKind.u8.wrap (a1.fdiv (2 ^ 16))) && decide (IntKind.u8.wrap (a1.fdiv (2 ^ 16)) < 256) then R (IntKind.i64.wrap (16 + (IntKind.i64.wrap ((bytesOf (⟨#[0, 1, 2, 2, 3, 3, 3, 3, 4, 4, 4, 4, 4, 4, 4, 4, 5, 5, 5, 5, 5, 5, 5, 5, 5, 5, 5, 5, 5, 5, 5, 5, 6, 6, 6, 6, 6, 6, 6, 6, 6, 6, 6, 6, 6, 6, 6, 6, 6, 6, 6, 6, 6, 6, 6, 6, 6, 6, 6, 6, 6, 6, 6, 6, 7, 7, 7, 7, 7, 7, 7, 7, 7, 7, 7, 7, 7, 7, 7, 7, 7, 7, 7, 7, 7, 7, 7, 7, 7, 7, 7, 7, 7, 7, 7, 7, 7, 7, 7, 7, 7, 7, 7, 7, 7, 7, 7, 7, 7, 7, 7, 7, 7, 7, 7, 7, 7, 7, 7, 7, 7, 7, 7, 7, 7, 7, 7, 7, 8, 8, 8, 8, 8, 8, 8, 8, 8, 8, 8, 8, 8, 8, 8, 8, 8, 8, 8, 8, 8, 8, 8, 8, 8, 8, 8, 8, 8, 8, 8, 8, 8, 8, 8, 8, 8, 8, 8, 8, 8, 8, 8, 8, 8, 8, 8, 8, 8, 8, 8, 8, 8, 8, 8, 8, 8, 8, 8, 8, 8, 8, 8, 8, 8, 8, 8, 8, 8, 8, 8, 8, 8, 8, 8, 8, 8, 8, 8, 8, 8, 8, 8, 8, 8, 8, 8, 8, 8, 8, 8, 8, 8, 8, 8, 8, 8, 8, 8, 8, 8, 8, 8, 8, 8, 8, 8, 8, 8, 8, 8, 8, 8, 8, 8, 8, 8, 8, 8, 8, 8, 8, 8, 8, 8, 8, 8, 8]⟩ : ByteArray)).getD ((IntKind.u8.wrap (a1.fdiv (2 ^ 16))).toNat) 0))))
  else none)
 else bif decide (256 ≤ a1) then (bif decide (0 ≤ IntKind.u8.wrap (a1.fdiv (2 ^ 8))) && decide (IntKind.u8.wrap (a1.fdiv (2 ^ 8)) < 256) then R (IntKind.i64.wrap (8 + (IntKind.i64.wrap ((bytesOf (⟨#[0, 1, 2, 2, 3, 3, 3, 3, 4, 4, 4, 4, 4, 4, 4, 4, 5, 5, 5, 5, 5, 5, 5, 5, 5, 5, 5, 5, 5, 5, 5, 5, 6, 6, 6, 6, 6, 6, 6, 6, 6, 6, 6, 6, 6, 6, 6, 6, 6, 6, 6, 6, 6, 6, 6, 6, 6, 6, 6, 6, 6, 6, 6, 6, 7, 7, 7, 7, 7, 7, 7, 7, 7, 7, 7, 7, 7, 7, 7, 7, 7, 7, 7, 7, 7, 7, 7, 7, 7, 7, 7, 7, 7, 7, 7, 7, 7, 7, 7, 7, 7, 7, 7, 7, 7, 7, 7, 7, 7, 7, 7, 7, 7, 7, 7, 7, 7, 7, 7, 7, 7, 7, 7, 7, 7, 7, 7, 7, 8, 8, 8, 8, 8, 8, 8, 8, 8, 8, 8, 8, 8, 8, 8, 8, 8, 8, 8, 8, 8, 8, 8, 8, 8, 8, 8, 8, 8, 8, 8, 8, 8, 8, 8, 8, 8, 8, 8, 8, 8, 8, 8, 8, 8, 8, 8, 8, 8, 8, 8, 8, 8, 8, 8, 8, 8, 8, 8, 8, 8, 8, 8, 8, 8, 8, 8, 8, 8, 8, 8, 8, 8, 8, 8, 8, 8, 8, 8, 8, 8, 8, 8, 8, 8, 8, 8, 8, 8, 8, 8, 8, 8, 8, 8, 8, 8, 8, 8, 8, 8, 8, 8, 8, 8, 8, 8, 8, 8, 8, 8, 8, 8, 8, 8, 8, 8, 8, 8, 8, 8, 8, 8, 8, 8, 8, 8, 8]⟩ : ByteArray)).getD ((IntKind.u8.wrap (a1.fdiv (2 ^ 8))).toNat) 0))))
  else none)
 else bif decide (0 ≤ IntKind.u8.wrap a1) && decide (IntKind.u8.wrap a1 < 256) then R (IntKind.i64.wrap (0 + (IntKind.i64.wrap ((bytesOf (⟨#[0, 1, 2, 2, 3, 3, 3, 3, 4, 4, 4, 4, 4, 4, 4, 4, 5, 5, 5, 5, 5, 5, 5, 5, 5, 5, 5, 5, 5, 5, 5, 5, 6, 6, 6, 6, 6, 6, 6, 6, 6, 6, 6, 6, 6, 6, 6, 6, 6, 6, 6, 6, 6, 6, 6, 6, 6, 6, 6, 6, 6, 6, 6, 6, 7, 7, 7, 7, 7, 7, 7, 7, 7, 7, 7, 7, 7, 7, 7, 7, 7, 7, 7, 7, 7, 7, 7, 7, 7, 7, 7, 7, 7, 7, 7, 7, 7, 7, 7, 7, 7, 7, 7, 7, 7, 7, 7, 7, 7, 7, 7, 7, 7, 7, 7, 7, 7, 7, 7, 7, 7, 7, 7, 7, 7, 7, 7, 7, 8, 8, 8, 8, 8, 8, 8, 8, 8, 8, 8, 8, 8, 8, 8, 8, 8, 8, 8, 8, 8, 8, 8, 8, 8, 8, 8, 8, 8, 8, 8, 8, 8, 8, 8, 8, 8, 8, 8, 8, 8, 8, 8, 8, 8, 8, 8, 8, 8, 8, 8, 8, 8, 8, 8, 8, 8, 8, 8, 8, 8, 8, 8, 8, 8, 8, 8, 8, 8, 8, 8, 8, 8, 8, 8, 8, 8, 8, 8, 8, 8, 8, 8, 8, 8, 8, 8, 8, 8, 8, 8, 8, 8, 8, 8, 8, 8, 8, 8, 8, 8, 8, 8, 8, 8, 8, 8, 8, 8, 8, 8, 8, 8, 8, 8, 8, 8, 8, 8, 8, 8, 8, 8, 8, 8, 8, 8, 8]⟩ : ByteArray)).getD ((IntKind.u8.wrap a1).toNat) 0))))
 else none
theorem gx : ∃ x : Int → (Int → Option Res) → Option Res, x = b := ⟨_, rfl⟩
noncomputable def g : Int → (Int → Option Res) → Option Res := Classical.choose gx
theorem e : g = b := Classical.choose_spec gx
noncomputable def run : List Lf → (Res → Option Res) → Option Res
 | [.i a1], K => g a1 (fun r1 => K (m r1))
 | _, _ => none
noncomputable def a (a1 : Int) : St := argSt [one (.int .u64 a1)] [] []
noncomputable def con : FuncId × St × (List Lf → (Res → Option Res) → Option Res) := (140, a 0, run)
theorem cx (K : Res → Option Res) : CtxOk Go.Proofs.Try.prog Γ0 byt0 eqs0 (X K) os := ⟨rfl, rfl, rfl, (fun p hp => by
 cases hp), rfl, rfl, rfl, rfl⟩
theorem tie (K : Res → Option Res) (a1 : Int) : exec (X K) c (entry 25 [one (.int .u64 a1)] [] []) (endK (X K)) = g a1 (fun r1 => K (m r1)) := Eq.trans (b := b a1 (fun r1 => K (m r1))) (by kernel_rfl) (by rw [e])
theorem runv {l : List Lf} {K : Res → Option Res} {r : Res} (h : run l K = some r) : ∃ a1, l = [.i a1] ∧ g a1 (fun r1 => K (m r1)) = some r := by
 unfold run at h; split at h
 ·exact ⟨_, rfl, h⟩
 ·cases h
theorem ok : Con Go.Proofs.Try.prog con := con_of (fn := Go.Proofs.Try.f140) (c := c) (Fi := fi) (X := X) (fun_of laid (by kernel_rfl) (by kernel_rfl) (by kernel_rfl) rfl (by kernel_rfl) (by kernel_rfl) cx (fun _ => rfl) (fun _ => rfl) (fun K => by
 rw [show loopsOf c = [] from by kernel_rfl]; intro p hp
 cases hp)) fun xs rows boxes K r hl hr => by
 obtain ⟨a1, e, h⟩ := runv hr
 have := St.like_eq (y := a a1) hl (by kernel_rfl) e
 obtain ⟨rfl, rfl, rfl⟩ := argSt_inj this
 exact (tie K a1).trans h
end bits_Len64
namespace bits_Len
noncomputable def c : Code := bodyOf Go.Proofs.Try.f126
noncomputable def fi : Fin := ⟨Γ0, [(.tmp 2, 3)], [[1]], [], [], []⟩
noncomputable def m (r1 : Int) : Res := ⟨[⟨false, [.int .i64 r1]⟩], [], [], [], []⟩
noncomputable def os : List (FuncId × St × (List Lf → (Res → Option Res) → Option Res)) := [bits_Len64.con]
noncomputable def X (K : Res → Option Res) : Ctx := { Γ := Γ0, orc := orcOf os, io := [], share := [], mvl := [], bun := [], cut := [], own := [], cin := [], cout := [], lp := lpOf [], kl := [], nk := true, eqs := eqs0, byt := byt0, fin := finK fi K }
noncomputable def b (a1 : Int) (R : Int → Option Res) : Option Res :=
 bits_Len64.g a1 fun r2 =>
 R r2
theorem gx : ∃ x : Int → (Int → Option Res) → Option Res, x = b := ⟨_, rfl⟩
noncomputable def g : Int → (Int → Option Res) → Option Res := Classical.choose gx
theorem e : g = b := Classical.choose_spec gx
noncomputable def run : List Lf → (Res → Option Res) → Option Res
 | [.i a1], K => g a1 (fun r1 => K (m r1))
 | _, _ => none
noncomputable def a (a1 : Int) : St := argSt [one (.int .u64 a1)] [] []
noncomputable def con : FuncId × St × (List Lf → (Res → Option Res) → Option Res) := (126, a 0, run)
theorem cx (K : Res → Option Res) : CtxOk Go.Proofs.Try.prog Γ0 byt0 eqs0 (X K) os := ⟨rfl, rfl, rfl, (fun p hp => by
 rcases List.mem_cons.1 hp with rfl | hp
 ·exact bits_Len64.ok
 cases hp), rfl, rfl, rfl, rfl⟩
theorem tie (K : Res → Option Res) (a1 : Int) : exec (X K) c (entry 8 [one (.int .u64 a1)] [] []) (endK (X K)) = g a1 (fun r1 => K (m r1)) := Eq.trans (b := b a1 (fun r1 => K (m r1))) (by kernel_rfl) (by rw [e])
theorem runv {l : List Lf} {K : Res → Option Res} {r : Res} (h : run l K = some r) : ∃ a1, l = [.i a1] ∧ g a1 (fun r1 => K (m r1)) = some r := by
 unfold run at h; split at h
 ·exact ⟨_, rfl, h⟩
 ·cases h
theorem ok : Con Go.Proofs.Try.prog con := con_of (fn := Go.Proofs.Try.f126) (c := c) (Fi := fi) (X := X) (fun_of laid (by kernel_rfl) (by kernel_rfl) (by kernel_rfl) rfl (by kernel_rfl) (by kernel_rfl) cx (fun _ => rfl) (fun _ => rfl) (fun K => by
 rw [show loopsOf c = [] from by kernel_rfl]; intro p hp
 cases hp)) fun xs rows boxes K r hl hr => by
 obtain ⟨a1, e, h⟩ := runv hr
 have := St.like_eq (y := a a1) hl (by kernel_rfl) e
 obtain ⟨rfl, rfl, rfl⟩ := argSt_inj this
 exact (tie K a1).trans h
end bits_Len
namespace cmp_isNaN_int
noncomputable def c : Code := bodyOf Go.Proofs.Try.f127
noncomputable def fi : Fin := ⟨Γ0, [(.tmp 2, 4)], [[1]], [], [], []⟩
noncomputable def m (r1 : Bool) : Res := ⟨[⟨false, [.bool r1]⟩], [], [], [], []⟩
noncomputable def os : List (FuncId × St × (List Lf → (Res → Option Res) → Option Res)) := []
noncomputable def X (K : Res → Option Res) : Ctx := { Γ := Γ0, orc := orcOf os, io := [], share := [], mvl := [], bun := [], cut := [], own := [], cin := [], cout := [], lp := lpOf [], kl := [], nk := true, eqs := eqs0, byt := byt0, fin := finK fi K }
noncomputable def b (a1 : Int) (R : Bool → Option Res) : Option Res :=
 R (a1 != a1)
theorem gx : ∃ x : Int → (Bool → Option Res) → Option Res, x = b := ⟨_, rfl⟩
noncomputable def g : Int → (Bool → Option Res) → Option Res := Classical.choose gx
theorem e : g = b := Classical.choose_spec gx
noncomputable def run : List Lf → (Res → Option Res) → Option Res
 | [.i a1], K => g a1 (fun r1 => K (m r1))
 | _, _ => none
noncomputable def a (a1 : Int) : St := argSt [one (.int .i64 a1)] [] []
noncomputable def con : FuncId × St × (List Lf → (Res → Option Res) → Option Res) := (127, a 0, run)
theorem cx (K : Res → Option Res) : CtxOk Go.Proofs.Try.prog Γ0 byt0 eqs0 (X K) os := ⟨rfl, rfl, rfl, (fun p hp => by
 cases hp), rfl, rfl, rfl, rfl⟩
theorem tie (K : Res → Option Res) (a1 : Int) : exec (X K) c (entry 6 [one (.int .i64 a1)] [] []) (endK (X K)) = g a1 (fun r1 => K (m r1)) := Eq.trans (b := b a1 (fun r1 => K (m r1))) (by kernel_rfl) (by rw [e])
theorem runv {l : List Lf} {K : Res → Option Res} {r : Res} (h : run l K = some r) : ∃ a1, l = [.i a1] ∧ g a1 (fun r1 => K (m r1)) = some r := by
 unfold run at h; split at h
 ·exact ⟨_, rfl, h⟩
 ·cases h
theorem ok : Con Go.Proofs.Try.prog con := con_of (fn := Go.Proofs.Try.f127) (c := c) (Fi := fi) (X := X) (fun_of laid (by kernel_rfl) (by kernel_rfl) (by kernel_rfl) rfl (by kernel_rfl) (by kernel_rfl) cx (fun _ => rfl) (fun _ => rfl) (fun K => by
 rw [show loopsOf c = [] from by kernel_rfl]; intro p hp
 cases hp)) fun xs rows boxes K r hl hr => by
 obtain ⟨a1, e, h⟩ := runv hr
 have := St.like_eq (y := a a1) hl (by kernel_rfl) e
 obtain ⟨rfl, rfl, rfl⟩ := argSt_inj this
 exact (tie K a1).trans h
end cmp_isNaN_int
namespace cmp_Compare_int
noncomputable def c : Code := bodyOf Go.Proofs.Try.f96
noncomputable def fi : Fin := ⟨Γ0, [(.tmp 4, 3)], [[1]], [], [], []⟩
noncomputable def m (r1 : Int) : Res := ⟨[⟨false, [.int .i64 r1]⟩], [], [], [], []⟩
noncomputable def os : List (FuncId × St × (List Lf → (Res → Option Res) → Option Res)) := [cmp_isNaN_int.con]
noncomputable def X (K : Res → Option Res) : Ctx := { Γ := Γ0, orc := orcOf os, io := [], share := [], mvl := [], bun := [], cut := [], own := [], cin := [], cout := [], lp := lpOf [], kl := [], nk := true, eqs := eqs0, byt := byt0, fin := finK fi K }
noncomputable def b (a1 a2 : Int) (R : Int → Option Res) : Option Res :=
 cmp_isNaN_int.g a1 fun r3 =>
 cmp_isNaN_int.g a2 fun r4 =>
 bif r3 then (bif r4 then R 0
  else R (-1))
 else bif r4 then R 1
 else bif decide (a1 < a2) then R (-1)
 else bif decide (a2 < a1) then R 1
 else R 0
theorem gx : ∃ x : Int → Int → (Int → Option Res) → Option Res, x = b := ⟨_, rfl⟩
noncomputable def g : Int → Int → (Int → Option Res) → Option Res := Classical.choose gx
theorem e : g = b := Classical.choose_spec gx
noncomputable def run : List Lf → (Res → Option Res) → Option Res
 | [.i a1, .i a2], K => g a1 a2 (fun r1 => K (m r1))
 | _, _ => none
noncomputable def a (a1 a2 : Int) : St := argSt [one (.int .i64 a1), one (.int .i64 a2)] [] []
noncomputable def con : FuncId × St × (List Lf → (Res → Option Res) → Option Res) := (96, a 0 0, run)
theorem cx (K : Res → Option Res) : CtxOk Go.Proofs.Try.prog Γ0 byt0 eqs0 (X K) os := ⟨rfl, rfl, rfl, (fun p hp => by
 rcases List.mem_cons.1 hp with rfl | hp
 ·exact cmp_isNaN_int.ok
 cases hp), rfl, rfl, rfl, rfl⟩
theorem tie (K : Res → Option Res) (a1 a2 : Int) : exec (X K) c (entry 20 [one (.int .i64 a1), one (.int .i64 a2)] [] []) (endK (X K)) = g a1 a2 (fun r1 => K (m r1)) := Eq.trans (b := b a1 a2 (fun r1 => K (m r1))) (by kernel_rfl) (by rw [e])
theorem runv {l : List Lf} {K : Res → Option Res} {r : Res} (h : run l K = some r) : ∃ a1 a2, l = [.i a1, .i a2] ∧ g a1 a2 (fun r1 => K (m r1)) = some r := by
 unfold run at h; split at h
 ·exact ⟨_, _, rfl, h⟩
 ·cases h
theorem ok : Con Go.Proofs.Try.prog con := con_of (fn := Go.Proofs.Try.f96) (c := c) (Fi := fi) (X := X) (fun_of laid (by kernel_rfl) (by kernel_rfl) (by kernel_rfl) rfl (by kernel_rfl) (by kernel_rfl) cx (fun _ => rfl) (fun _ => rfl) (fun K => by
 rw [show loopsOf c = [] from by kernel_rfl]; intro p hp
 cases hp)) fun xs rows boxes K r hl hr => by
 obtain ⟨a1, a2, e, h⟩ := runv hr
 have := St.like_eq (y := a a1 a2) hl (by kernel_rfl) e
 obtain ⟨rfl, rfl, rfl⟩ := argSt_inj this
 exact (tie K a1 a2).trans h
end cmp_Compare_int
namespace impl_packed_1
noncomputable def c : Code := bodyOf Go.Proofs.Try.f95
noncomputable def fi : Fin := ⟨Γ0, [(.tmp 5, 3)], [[1]], [], [([.sl [.int .i64] 8, .int .i64, .sl [.int .i64, .int .i64, .bool] 24], [0, 1, 0])], []⟩
noncomputable def m (a3 : List Int) (a4 : Int) (a5 : List (List Cl)) (r1 : Int) : Res := ⟨[⟨false, [.int .i64 r1]⟩], [], [], [[.tr 2 2 [.int .i64] (.ints a3), .int .i64 a4, .tr 2 2 [.int .i64, .int .i64, .bool] (.cells a5)]], []⟩
noncomputable def os : List (FuncId × St × (List Lf → (Res → Option Res) → Option Res)) := [cmp_Compare_int.con]
noncomputable def X (K : Res → Option Res) : Ctx := { Γ := Γ0, orc := orcOf os, io := [], share := [], mvl := [], bun := [], cut := [], own := [], cin := [], cout := [], lp := lpOf [], kl := [], nk := true, eqs := eqs0, byt := byt0, fin := finK fi K }
noncomputable def b (a1 a2 : Int) (a3 : List Int) (a4 : Int) (a5 : List (List Cl)) (R : Int → Option Res) : Option Res :=
 bif decide (0 ≤ a1) && decide (a1 < (a5.length : Int)) then (bif decide (0 ≤ a2) && decide (a2 < (a5.length : Int)) then (cmp_Compare_int.g (((a5.getD a1.toNat []).getD 0 (.i 0)).toI) (((a5.getD a2.toNat []).getD 0 (.i 0)).toI) fun r6 =>
  R r6)
  else none)
 else none
theorem gx : ∃ x : Int → Int → List Int → Int → List (List Cl) → (Int → Option Res) → Option Res, x = b := ⟨_, rfl⟩
noncomputable def g : Int → Int → List Int → Int → List (List Cl) → (Int → Option Res) → Option Res := Classical.choose gx
theorem e : g = b := Classical.choose_spec gx
noncomputable def run : List Lf → (Res → Option Res) → Option Res
 | [.i a1, .i a2, .q (.ints a3), .i a4, .q (.cells a5)], K => g a1 a2 a3 a4 a5 (fun r1 => K (m a3 a4 a5 r1))
 | _, _ => none
noncomputable def a (a1 a2 : Int) (a3 : List Int) (a4 : Int) (a5 : List (List Cl)) : St := argSt [one (.int .i64 a1), one (.int .i64 a2), one (.bp 0 0)] [] [[.tr 2 2 [.int .i64] (.ints a3), .int .i64 a4, .tr 2 2 [.int .i64, .int .i64, .bool] (.cells a5)]]
noncomputable def con : FuncId × St × (List Lf → (Res → Option Res) → Option Res) := (95, a 0 0 [] 0 [], run)
theorem cx (K : Res → Option Res) : CtxOk Go.Proofs.Try.prog Γ0 byt0 eqs0 (X K) os := ⟨rfl, rfl, rfl, (fun p hp => by
 rcases List.mem_cons.1 hp with rfl | hp
 ·exact cmp_Compare_int.ok
 cases hp), rfl, rfl, rfl, rfl⟩
theorem tie (K : Res → Option Res) (a1 a2 : Int) (a3 : List Int) (a4 : Int) (a5 : List (List Cl)) : exec (X K) c (entry 19 [one (.int .i64 a1), one (.int .i64 a2), one (.bp 0 0)] [] [[.tr 2 2 [.int .i64] (.ints a3), .int .i64 a4, .tr 2 2 [.int .i64, .int .i64, .bool] (.cells a5)]]) (endK (X K)) = g a1 a2 a3 a4 a5 (fun r1 => K (m a3 a4 a5 r1)) := Eq.trans (b := b a1 a2 a3 a4 a5 (fun r1 => K (m a3 a4 a5 r1))) (by kernel_rfl) (by rw [e])
theorem runv {l : List Lf} {K : Res → Option Res} {r : Res} (h : run l K = some r) : ∃ a1 a2 a3 a4 a5, l = [.i a1, .i a2, .q (.ints a3), .i a4, .q (.cells a5)] ∧ g a1 a2 a3 a4 a5 (fun r1 => K (m a3 a4 a5 r1)) = some r := by
 unfold run at h; split at h
 ·exact ⟨_, _, _, _, _, rfl, h⟩
 ·cases h
theorem ok : Con Go.Proofs.Try.prog con := con_of (fn := Go.Proofs.Try.f95) (c := c) (Fi := fi) (X := X) (fun_of laid (by kernel_rfl) (by kernel_rfl) (by kernel_rfl) rfl (by kernel_rfl) (by kernel_rfl) cx (fun _ => rfl) (fun _ => rfl) (fun K => by
 rw [show loopsOf c = [] from by kernel_rfl]; intro p hp
 cases hp)) fun xs rows boxes K r hl hr => by
 obtain ⟨a1, a2, a3, a4, a5, e, h⟩ := runv hr
 have := St.like_eq (y := a a1 a2 a3 a4 a5) hl (by kernel_rfl) e
 obtain ⟨rfl, rfl, rfl⟩ := argSt_inj this
 exact (tie K a1 a2 a3 a4 a5).trans h
end impl_packed_1
namespace slices_insertionSortCmpFunc_int
noncomputable def c : Code := bodyOf Go.Proofs.Try.f131
noncomputable def fi : Fin := ⟨Γ0, [], [], [true], [([.sl [.int .i64] 8, .int .i64, .sl [.int .i64, .int .i64, .bool] 24], [0, 1, 0])], []⟩
noncomputable def m (r1 r2 : List Int) (r3 : Int) (r4 : List (List Cl)) : Res := ⟨[], [some ⟨[.int .i64], .ints r1, true, 0⟩], [], [[.tr 2 2 [.int .i64] (.ints r2), .int .i64 r3, .tr 2 2 [.int .i64, .int .i64, .bool] (.cells r4)]], []⟩
noncomputable def b0 : Code := codeAt c [1, 0, 0]
noncomputable def b2 : Code := codeAt c [1, 0, 0, 1, 0, 0, 1, 0, 0]
noncomputable def s2 (x14 x15 x16 x17 : Int) (x18 x19 : List Int) (x20 : Int) (x21 : List (List Cl)) : St := ⟨mkT 53 [(0, one (.ow 0)), (1, one (.int .i64 x14)), (2, one (.int .i64 x15)), (3, one (.fn 95 [0])), (8, one (.int .i64 x16)), (9, one (.int .i64 x17))], [(0, ⟨[.int .i64], .ints x18, true, 0⟩)], [(0, [.tr 2 2 [.int .i64] (.ints x19), .int .i64 x20, .tr 2 2 [.int .i64, .int .i64, .bool] (.cells x21)])]⟩
noncomputable def l2s (x14 x15 x16 : Int) (x19 : List Int) (x20 : Int) (x21 : List (List Cl)) (rec : Int → List Int → Option Res) (k : List Int → Option Res) (x17 : Int) (x18 : List Int) : Option Res :=
 bif decide (x14 < x17) then (bif decide (0 ≤ x17) && decide (x17 < (x18.length : Int)) then (bif decide (0 ≤ IntKind.i64.wrap (x17 - 1)) && decide (IntKind.i64.wrap (x17 - 1) < (x18.length : Int)) then (impl_packed_1.g (x18.getD x17.toNat 0) (x18.getD ((IntKind.i64.wrap (x17 - 1)).toNat) 0) x19 x20 x21 fun r22 =>
  bif decide (r22 < 0) then (bif decide (0 ≤ IntKind.i64.wrap (x17 - 1)) && decide (IntKind.i64.wrap (x17 - 1) < (x18.length : Int)) then (bif decide (0 ≤ x17) && decide (x17 < (x18.length : Int)) then (bif decide (0 ≤ x17) && decide (x17 < (x18.length : Int)) then (bif decide (0 ≤ IntKind.i64.wrap (x17 - 1)) && decide (IntKind.i64.wrap (x17 - 1) < ((x18.set x17.toNat (x18.getD ((IntKind.i64.wrap (x17 - 1)).toNat) 0)).length : Int)) then rec (IntKind.i64.wrap (x17 - 1)) ((x18.set x17.toNat (x18.getD ((IntKind.i64.wrap (x17 - 1)).toNat) 0)).set ((IntKind.i64.wrap (x17 - 1)).toNat) (x18.getD x17.toNat 0))
   else none)
   else none)
   else none)
   else none)
  else k x18)
  else none)
  else none)
 else k x18
noncomputable def l2 (x14 x15 x16 : Int) (x19 : List Int) (x20 : Int) (x21 : List (List Cl)) (k : List Int → Option Res) : Nat → Int → List Int → Option Res
 | 0, _, _ => none
 | n + 1, x17, x18 => l2s x14 x15 x16 x19 x20 x21 (fun x17 x18 => l2 x14 x15 x16 x19 x20 x21 k n x17 x18) k x17 x18
noncomputable def o2 (x14 x15 x16 : Int) (x19 : List Int) (x20 : Int) (x21 : List (List Cl)) (y4 : List Int) : St := ⟨mkT 53 [(0, one (.ow 0)), (1, one (.int .i64 x14)), (2, one (.int .i64 x15)), (3, one (.fn 95 [0])), (8, one (.int .i64 x16))], [(0, ⟨[.int .i64], .ints y4, true, 0⟩)], [(0, [.tr 2 2 [.int .i64] (.ints x19), .int .i64 x20, .tr 2 2 [.int .i64, .int .i64, .bool] (.cells x21)])]⟩
noncomputable def p2 (K : Res → Option Res) : List Lf → (St → Option Res) → Option Res
 | [.i x14, .i x15, .i x16, .i x17, .q (.ints x18), .q (.ints x19), .i x20, .q (.cells x21)], k => l2 x14 x15 x16 x19 x20 x21 (fun y4 => k (o2 x14 x15 x16 x19 x20 x21 y4)) fuel x17 x18
 | _, _ => none
noncomputable def s0 (x7 x8 x9 : Int) (x10 x11 : List Int) (x12 : Int) (x13 : List (List Cl)) : St := ⟨mkT 53 [(0, one (.ow 0)), (1, one (.int .i64 x7)), (2, one (.int .i64 x8)), (3, one (.fn 95 [0])), (8, one (.int .i64 x9))], [(0, ⟨[.int .i64], .ints x10, true, 0⟩)], [(0, [.tr 2 2 [.int .i64] (.ints x11), .int .i64 x12, .tr 2 2 [.int .i64, .int .i64, .bool] (.cells x13)])]⟩
noncomputable def l0s (x7 x8 : Int) (x11 : List Int) (x12 : Int) (x13 : List (List Cl)) (rec : Int → List Int → Option Res) (k : List Int → Option Res) (x9 : Int) (x10 : List Int) : Option Res :=
 bif decide (x9 < x8) then (l2 x7 x8 x9 x11 x12 x13 (fun y23 =>
  rec (IntKind.i64.wrap (x9 + 1)) y23) fuel x9 x10)
 else k x10
noncomputable def l0 (x7 x8 : Int) (x11 : List Int) (x12 : Int) (x13 : List (List Cl)) (k : List Int → Option Res) : Nat → Int → List Int → Option Res
 | 0, _, _ => none
 | n + 1, x9, x10 => l0s x7 x8 x11 x12 x13 (fun x9 x10 => l0 x7 x8 x11 x12 x13 k n x9 x10) k x9 x10
noncomputable def o0 (x7 x8 : Int) (x11 : List Int) (x12 : Int) (x13 : List (List Cl)) (y1 : List Int) : St := ⟨mkT 53 [], [(0, ⟨[.int .i64], .ints y1, true, 0⟩)], [(0, [.tr 2 2 [.int .i64] (.ints x11), .int .i64 x12, .tr 2 2 [.int .i64, .int .i64, .bool] (.cells x13)])]⟩
noncomputable def p0 (K : Res → Option Res) : List Lf → (St → Option Res) → Option Res
 | [.i x7, .i x8, .i x9, .q (.ints x10), .q (.ints x11), .i x12, .q (.cells x13)], k => l0 x7 x8 x11 x12 x13 (fun y1 => k (o0 x7 x8 x11 x12 x13 y1)) fuel x9 x10
 | _, _ => none
noncomputable def os : List (FuncId × St × (List Lf → (Res → Option Res) → Option Res)) := [impl_packed_1.con]
noncomputable def X (K : Res → Option Res) : Ctx := { Γ := Γ0, orc := orcOf os, io := [], share := [], mvl := [], bun := [], cut := [], own := [], cin := [(2, ⟨[0, 1, 2, 3, 8, 9], [(0, 0)], [0], [], [], []⟩), (0, ⟨[0, 1, 2, 3, 8], [(0, 0)], [0], [], [], []⟩)], cout := [(2, ⟨[0, 1, 2, 3, 8], [(0, 0)], [0], [], [], []⟩), (0, ⟨[], [(0, 0)], [0], [], [], []⟩)], lp := lpOf [(2, s2 0 0 0 0 [] [] 0 [], p2 K), (0, s0 0 0 0 [] [] 0 [], p0 K)], kl := [], nk := true, eqs := eqs0, byt := byt0, fin := finK fi K }
noncomputable def b (a1 a2 : Int) (a3 a4 : List Int) (a5 : Int) (a6 : List (List Cl)) (R : List Int → List Int → Int → List (List Cl) → Option Res) : Option Res :=
 l0 a1 a2 a4 a5 a6 (fun y24 =>
 R y24 a4 a5 a6) fuel (IntKind.i64.wrap (a1 + 1)) a3
theorem gx : ∃ x : Int → Int → List Int → List Int → Int → List (List Cl) → (List Int → List Int → Int → List (List Cl) → Option Res) → Option Res, x = b := ⟨_, rfl⟩
noncomputable def g : Int → Int → List Int → List Int → Int → List (List Cl) → (List Int → List Int → Int → List (List Cl) → Option Res) → Option Res := Classical.choose gx
theorem e : g = b := Classical.choose_spec gx
noncomputable def run : List Lf → (Res → Option Res) → Option Res
 | [.i a1, .i a2, .q (.ints a3), .q (.ints a4), .i a5, .q (.cells a6)], K => g a1 a2 a3 a4 a5 a6 (fun r1 r2 r3 r4 => K (m r1 r2 r3 r4))
 | _, _ => none
noncomputable def a (a1 a2 : Int) (a3 a4 : List Int) (a5 : Int) (a6 : List (List Cl)) : St := argSt [one (.ow 0), one (.int .i64 a1), one (.int .i64 a2), one (.fn 95 [0])] [⟨[.int .i64], .ints a3, true, 0⟩] [[.tr 2 2 [.int .i64] (.ints a4), .int .i64 a5, .tr 2 2 [.int .i64, .int .i64, .bool] (.cells a6)]]
noncomputable def con : FuncId × St × (List Lf → (Res → Option Res) → Option Res) := (131, a 0 0 [] [] 0 [], run)
theorem cx (K : Res → Option Res) : CtxOk Go.Proofs.Try.prog Γ0 byt0 eqs0 (X K) os := ⟨rfl, rfl, rfl, (fun p hp => by
 rcases List.mem_cons.1 hp with rfl | hp
 ·exact impl_packed_1.ok
 cases hp), rfl, rfl, rfl, rfl⟩
theorem t2 (K : Res → Option Res) (k : St → Option Res) (it : St → (St → Option Res) → Option Res) (x14 x15 x16 x17 : Int) (x18 x19 : List Int) (x20 : Int) (x21 : List (List Cl)) : iterS (X K) 2 b2 it (s2 x14 x15 x16 x17 x18 x19 x20 x21) k = l2s x14 x15 x16 x19 x20 x21 (fun x17 x18 => it (s2 x14 x15 x16 x17 x18 x19 x20 x21) k) (fun y4 => k (o2 x14 x15 x16 x19 x20 x21 y4)) x17 x18 := by kernel_rfl
theorem i2 (K : Res → Option Res) (k : St → Option Res) (x14 x15 x16 : Int) (x19 : List Int) (x20 : Int) (x21 : List (List Cl)) : ∀ (n : Nat) (x17 : Int) (x18 : List Int), iter (X K) 2 b2 n (s2 x14 x15 x16 x17 x18 x19 x20 x21) k = l2 x14 x15 x16 x19 x20 x21 (fun y4 => k (o2 x14 x15 x16 x19 x20 x21 y4)) n x17 x18
 | 0, _, _ => rfl
 | n + 1, x17, x18 => by
  rw [iter_succ, t2, show (fun x17 x18 => iter (X K) 2 b2 n (s2 x14 x15 x16 x17 x18 x19 x20 x21) k) = (fun x17 x18 => l2 x14 x15 x16 x19 x20 x21 (fun y4 => k (o2 x14 x15 x16 x19 x20 x21 y4)) n x17 x18) from funext fun x17 => funext fun x18 => i2 K k x14 x15 x16 x19 x20 x21 n x17 x18]; rfl
theorem v2 {K : Res → Option Res} {l : List Lf} {k : St → Option Res} {r : Res} (h : p2 K l k = some r) : ∃ x14 x15 x16 x17 x18 x19 x20 x21, l = [.i x14, .i x15, .i x16, .i x17, .q (.ints x18), .q (.ints x19), .i x20, .q (.cells x21)] ∧ l2 x14 x15 x16 x19 x20 x21 (fun y4 => k (o2 x14 x15 x16 x19 x20 x21 y4)) fuel x17 x18 = some r := by
 unfold p2 at h; split at h
 ·exact ⟨_, _, _, _, _, _, _, _, rfl, h⟩
 ·cases h
theorem t0 (K : Res → Option Res) (k : St → Option Res) (it : St → (St → Option Res) → Option Res) (x7 x8 x9 : Int) (x10 x11 : List Int) (x12 : Int) (x13 : List (List Cl)) : iterS (X K) 0 b0 it (s0 x7 x8 x9 x10 x11 x12 x13) k = l0s x7 x8 x11 x12 x13 (fun x9 x10 => it (s0 x7 x8 x9 x10 x11 x12 x13) k) (fun y1 => k (o0 x7 x8 x11 x12 x13 y1)) x9 x10 := by kernel_rfl
theorem i0 (K : Res → Option Res) (k : St → Option Res) (x7 x8 : Int) (x11 : List Int) (x12 : Int) (x13 : List (List Cl)) : ∀ (n : Nat) (x9 : Int) (x10 : List Int), iter (X K) 0 b0 n (s0 x7 x8 x9 x10 x11 x12 x13) k = l0 x7 x8 x11 x12 x13 (fun y1 => k (o0 x7 x8 x11 x12 x13 y1)) n x9 x10
 | 0, _, _ => rfl
 | n + 1, x9, x10 => by
  rw [iter_succ, t0, show (fun x9 x10 => iter (X K) 0 b0 n (s0 x7 x8 x9 x10 x11 x12 x13) k) = (fun x9 x10 => l0 x7 x8 x11 x12 x13 (fun y1 => k (o0 x7 x8 x11 x12 x13 y1)) n x9 x10) from funext fun x9 => funext fun x10 => i0 K k x7 x8 x11 x12 x13 n x9 x10]; rfl
theorem v0 {K : Res → Option Res} {l : List Lf} {k : St → Option Res} {r : Res} (h : p0 K l k = some r) : ∃ x7 x8 x9 x10 x11 x12 x13, l = [.i x7, .i x8, .i x9, .q (.ints x10), .q (.ints x11), .i x12, .q (.cells x13)] ∧ l0 x7 x8 x11 x12 x13 (fun y1 => k (o0 x7 x8 x11 x12 x13 y1)) fuel x9 x10 = some r := by
 unfold p0 at h; split at h
 ·exact ⟨_, _, _, _, _, _, _, rfl, h⟩
 ·cases h
theorem w2 (K : Res → Option Res) : LpSound Go.Proofs.Try.prog (X K) 2 b2 := lp_ok ((cx K).ok laid) (by rw [show loopsOf b2 = [] from by kernel_rfl]; intro p hp; cases hp) rfl fun p hp hid => by
 rcases List.mem_cons.1 hp with rfl | hp
 ·intro st k r h1 h2; obtain ⟨x14, x15, x16, x17, x18, x19, x20, x21, e, h⟩ := v2 (K := K) h2; have := St.like_eq (y := s2 x14 x15 x16 x17 x18 x19 x20 x21) h1 (by kernel_rfl) e; subst this; exact ⟨fuel, (i2 K k x14 x15 x16 x19 x20 x21 fuel x17 x18).trans h⟩
 rcases List.mem_cons.1 hp with rfl | hp
 ·exact absurd hid (by simp)
 cases hp
theorem w0 (K : Res → Option Res) : LpSound Go.Proofs.Try.prog (X K) 0 b0 := lp_ok ((cx K).ok laid) (by
 rw [show loopsOf b0 = [(2, b2)] from by kernel_rfl]; intro p hp
 rcases List.mem_cons.1 hp with rfl | hp
 ·exact w2 K
 cases hp) rfl fun p hp hid => by
 rcases List.mem_cons.1 hp with rfl | hp
 ·exact absurd hid (by simp)
 rcases List.mem_cons.1 hp with rfl | hp
 ·intro st k r h1 h2; obtain ⟨x7, x8, x9, x10, x11, x12, x13, e, h⟩ := v0 (K := K) h2; have := St.like_eq (y := s0 x7 x8 x9 x10 x11 x12 x13) h1 (by kernel_rfl) e; subst this; exact ⟨fuel, (i0 K k x7 x8 x11 x12 x13 fuel x9 x10).trans h⟩
 cases hp
theorem tie (K : Res → Option Res) (a1 a2 : Int) (a3 a4 : List Int) (a5 : Int) (a6 : List (List Cl)) : exec (X K) c (entry 53 [one (.ow 0), one (.int .i64 a1), one (.int .i64 a2), one (.fn 95 [0])] [⟨[.int .i64], .ints a3, true, 0⟩] [[.tr 2 2 [.int .i64] (.ints a4), .int .i64 a5, .tr 2 2 [.int .i64, .int .i64, .bool] (.cells a6)]]) (endK (X K)) = g a1 a2 a3 a4 a5 a6 (fun r1 r2 r3 r4 => K (m r1 r2 r3 r4)) := Eq.trans (b := b a1 a2 a3 a4 a5 a6 (fun r1 r2 r3 r4 => K (m r1 r2 r3 r4))) (by kernel_rfl) (by rw [e])
theorem runv {l : List Lf} {K : Res → Option Res} {r : Res} (h : run l K = some r) : ∃ a1 a2 a3 a4 a5 a6, l = [.i a1, .i a2, .q (.ints a3), .q (.ints a4), .i a5, .q (.cells a6)] ∧ g a1 a2 a3 a4 a5 a6 (fun r1 r2 r3 r4 => K (m r1 r2 r3 r4)) = some r := by
 unfold run at h; split at h
 ·exact ⟨_, _, _, _, _, _, rfl, h⟩
 ·cases h
theorem ok : Con Go.Proofs.Try.prog con := con_of (fn := Go.Proofs.Try.f131) (c := c) (Fi := fi) (X := X) (fun_of laid (by kernel_rfl) (by kernel_rfl) (by kernel_rfl) rfl (by kernel_rfl) (by kernel_rfl) cx (fun _ => rfl) (fun _ => rfl) (fun K => by
 rw [show loopsOf c = [(0, b0), (2, b2)] from by kernel_rfl]; intro p hp
 rcases List.mem_cons.1 hp with rfl | hp
 ·exact w0 K
 rcases List.mem_cons.1 hp with rfl | hp
 ·exact w2 K
 cases hp)) fun xs rows boxes K r hl hr => by
 obtain ⟨a1, a2, a3, a4, a5, a6, e, h⟩ := runv hr
 have := St.like_eq (y := a a1 a2 a3 a4 a5 a6) hl (by kernel_rfl) e
 obtain ⟨rfl, rfl, rfl⟩ := argSt_inj this
 exact (tie K a1 a2 a3 a4 a5 a6).trans h
end slices_insertionSortCmpFunc_int
end Go.Tv.F
