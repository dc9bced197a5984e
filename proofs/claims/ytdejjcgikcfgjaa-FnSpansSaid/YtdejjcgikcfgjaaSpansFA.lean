/- The law's functions, printed by a program of ours, each with its contract. They hold without condition. -/
import Derived.Test.YtdejjcgikcfgjaaProg
import Derived.Test.YtdejjcgikcfgjaaTvC
set_option linter.unusedVariables false
set_option linter.unusedSectionVars false
set_option linter.unusedSimpArgs false
set_option linter.unnecessarySimpa false
set_option maxRecDepth 100000
set_option autoImplicit false
namespace Go.Tv.F
open Go Go.Tv
instance envI : Env := envT [3, 4, 5, 13, 17, 35]
noncomputable def Γ0 : List (Nat × TI) := [(3, ⟨false, [.int .i64], []⟩),
 (4, ⟨false, [.bool], []⟩),
 (5, ⟨false, [.int .u8], []⟩),
 (9, ⟨false, [.str], []⟩),
 (22, ⟨false, [.sl [.int .i64, .int .i64, .int .i64, .int .i64, .int .i64, .ints .i64] 64], []⟩),
 (24, ⟨false, [.sl [.int .i64, .int .i64] 16], []⟩),
 (26, ⟨false, [.sl [.int .i64, .int .i64, .int .i64, .int .i64, .int .i64, .ints .i64] 64], []⟩),
 (33, ⟨false, [.sl [.int .u8] 1], []⟩),
 (38, ⟨true, [.int .i64, .int .i64], [(0, 1, false), (1, 1, false)]⟩),
 (40, ⟨true, [.int .i64, .int .i64, .int .i64], [(0, 1, false), (1, 1, false), (2, 1, false)]⟩),
 (41, ⟨false, [.sl [.int .i64] 8], []⟩),
 (43, ⟨true, [.int .i64, .int .i64, .int .i64, .int .i64, .int .i64, .sl [.int .i64] 8], [(0, 1, false), (1, 1, false), (2, 3, true), (5, 1, false)]⟩),
 (48, ⟨false, [.sl [.int .i64, .int .i64] 16], []⟩),
 (51, ⟨false, [.sl [.int .i64, .int .i64, .int .i64, .int .i64, .int .i64, .int .i64, .ints .i64] 72], []⟩),
 (53, ⟨true, [.sl [.int .i64, .int .i64, .int .i64, .int .i64, .int .i64, .int .i64, .ints .i64] 72], [(0, 1, false)]⟩),
 (59, ⟨true, [.int .i64, .int .i64, .int .i64], [(0, 1, false), (1, 1, false), (2, 1, false)]⟩),
 (61, ⟨true, [.int .i64, .int .i64, .int .i64, .int .i64, .int .i64, .sl [.int .i64] 8], [(0, 1, false), (1, 1, false), (2, 3, true), (5, 1, false)]⟩),
 (67, ⟨false, [.ptr], []⟩),
 (71, ⟨false, [.fn], []⟩),
 (76, ⟨true, [.int .i64, .int .i64], [(0, 1, false), (1, 1, false)]⟩),
 (80, ⟨false, [.ptr], []⟩),
 (82, ⟨true, [.sl [.int .i64, .int .i64] 16, .int .i64, .sl [.int .i64, .int .i64, .int .i64, .int .i64, .int .i64, .int .i64, .ints .i64] 72, .bool], [(0, 1, false), (1, 1, false), (2, 1, false), (3, 1, false)]⟩),
 (86, ⟨true, [.int .i64, .int .i64, .int .i64, .int .i64, .int .i64, .int .i64, .sl [.int .i64] 8], [(0, 1, false), (1, 1, false), (2, 1, false), (3, 3, true), (6, 1, false)]⟩),
 (98, ⟨true, [.sl [.int .u8] 1, .int .i64, .int .i64], [(0, 1, false), (1, 1, false), (2, 1, false)]⟩),
 (105, ⟨false, [.fn], []⟩),
 (106, ⟨false, [.ptr], []⟩),
 (108, ⟨true, [.sl [.int .i64, .int .i64] 16, .int .i64, .sl [.int .i64, .int .i64, .int .i64, .int .i64, .int .i64, .int .i64, .ints .i64] 72], [(0, 1, false), (1, 1, false), (2, 1, false)]⟩),
 (113, ⟨false, [.sl [.str] 16], []⟩),
 (116, ⟨false, [.fn], []⟩),
 (124, ⟨false, [.fn], []⟩)]
noncomputable def byt0 : List TypeId := [33]
noncomputable def eqs0 : List TypeId := [38, 40, 59, 76]
theorem laid : Laid Go.Proofs.Try.prog Γ0 byt0 eqs0 := ⟨by kernel_rfl, by kernel_rfl, by kernel_rfl, by kernel_rfl⟩
namespace laws_big
noncomputable def c : Code := bodyOf Go.Proofs.Try.f16
noncomputable def fi : Fin := ⟨Γ0, [(.tmp 2, 4)], [[1]], [], [], []⟩
noncomputable def m (r1 : Bool) : Res := ⟨[⟨false, [.bool r1]⟩], [], [], [], []⟩
noncomputable def os : List (FuncId × St × (List Lf → (Res → Option Res) → Option Res)) := []
noncomputable def X (K : Res → Option Res) : Ctx := { Γ := Γ0, orc := orcOf os, io := [], share := [], opn := [], shr := [], bun := [], cut := [], own := [], cin := [], cout := [], lp := lpOf [], kl := Env.kl, nk := true, eqs := eqs0, byt := byt0, fin := finK fi K }
noncomputable def b (a1 : List Int) (R : Bool → Option Res) : Option Res :=
 R (decide (1048576 < (a1.length : Int)))
theorem gx : ∃ x : List Int → (Bool → Option Res) → Option Res, x = b := ⟨_, rfl⟩
noncomputable def g : List Int → (Bool → Option Res) → Option Res := Classical.choose gx
theorem e : g = b := Classical.choose_spec gx
noncomputable def run : List Lf → (Res → Option Res) → Option Res
 | [.q (.ints a1)], K => g a1 (fun r1 => K (m r1))
 | _, _ => none
noncomputable def a (a1 : List Int) : St := argSt [one (.tr 0 1 [.int .u8] (.ints a1))] [] []
noncomputable def con : FuncId × St × (List Lf → (Res → Option Res) → Option Res) := (16, a [], run)
theorem cx (K : Res → Option Res) : CtxOk Go.Proofs.Try.prog Γ0 byt0 eqs0 (X K) os := ⟨rfl, rfl, rfl, (fun p hp => by
 cases hp), rfl, rfl, rfl⟩
theorem tie (K : Res → Option Res) (a1 : List Int) : exec (X K) c (entry 6 [one (.tr 0 1 [.int .u8] (.ints a1))] [] []) (endK (X K)) = g a1 (fun r1 => K (m r1)) := Eq.trans (b := b a1 (fun r1 => K (m r1))) (by kernel_rfl) (by rw [e])
theorem runv {l : List Lf} {K : Res → Option Res} {r : Res} (h : run l K = some r) : ∃ a1, l = [.q (.ints a1)] ∧ g a1 (fun r1 => K (m r1)) = some r := by
 unfold run at h; split at h
 ·exact ⟨_, rfl, h⟩
 ·cases h
theorem ok : Con Go.Proofs.Try.prog con := con_of (fn := Go.Proofs.Try.f16) (c := c) (Fi := fi) (X := X) (fun_of laid (by kernel_rfl) (by kernel_rfl) (by kernel_rfl) rfl (by kernel_rfl) (by kernel_rfl) cx (fun _ => rfl) (fun _ => rfl) (fun K => by
 rw [show loopsOf c = [] from by kernel_rfl]; intro p hp
 cases hp)) fun xs rows boxes K r hl hr => by
 obtain ⟨a1, e, h⟩ := runv hr
 have := St.like_eq (y := a a1) hl (by kernel_rfl) e
 obtain ⟨rfl, rfl, rfl⟩ := argSt_inj this
 exact (tie K a1).trans h
end laws_big
namespace spec_l1New
noncomputable def c : Code := bodyOf Go.Proofs.Try.f36
noncomputable def fi : Fin := ⟨Γ0, [(.tmp 2, 67)], [[1]], [], [], [(2, [.sl [.int .u8] 1, .int .i64, .int .i64], [0, 1, 1])]⟩
noncomputable def m (r1 : List Int) (r2 r3 : Int) : Res := ⟨[⟨false, [.bp 1000 0]⟩], [], [], [], [[.tr 2 2 [.int .u8] (.ints r1), .int .i64 r2, .int .i64 r3]]⟩
noncomputable def b0 : Code := codeAt c [1, 1, 0, 1, 0, 0]
noncomputable def s0 (x2 : List Int) (x3 x4 : Int) : St := ⟨mkT 32 [(0, one (.tr 2 1 [.int .u8] (.ints x2))), (3, one (.int .i64 x3)), (4, one (.int .i64 x4))], [], []⟩
noncomputable def l0s (x2 : List Int) (rec : Int → Int → Option Res) (k : Int → Option Res) (x3 x4 : Int) : Option Res :=
 bif decide (x4 < (x2.length : Int)) then (bif decide (x4 < 4000) then (bif decide (0 ≤ x4) && decide (x4 < (x2.length : Int)) then rec (arith.bits .and .i64 (IntKind.i64.wrap ((IntKind.i64.wrap ((IntKind.i64.wrap (x3 * 131)) + (IntKind.i64.wrap (x2.getD x4.toNat 0)))) + 7)) 1073741823) (IntKind.i64.wrap (x4 + 1))
  else none)
  else k x3)
 else k x3
noncomputable def l0 (x2 : List Int) (k : Int → Option Res) : Nat → Int → Int → Option Res
 | 0, _, _ => none
 | n + 1, x3, x4 => l0s x2 (fun x3 x4 => l0 x2 k n x3 x4) k x3 x4
noncomputable def o0 (x2 : List Int) (y2 : Int) : St := ⟨mkT 32 [(0, one (.tr 2 1 [.int .u8] (.ints x2))), (3, one (.int .i64 y2))], [], []⟩
noncomputable def p0 (K : Res → Option Res) : List Lf → (St → Option Res) → Option Res
 | [.q (.ints x2), .i x3, .i x4], k => l0 x2 (fun y2 => k (o0 x2 y2)) fuel x3 x4
 | _, _ => none
noncomputable def os : List (FuncId × St × (List Lf → (Res → Option Res) → Option Res)) := []
noncomputable def X (K : Res → Option Res) : Ctx := { Γ := Γ0, orc := orcOf os, io := [], share := [], opn := [], shr := [], bun := [], cut := [], own := [], cin := [(0, ⟨[0, 3, 4], [], [], [], [], []⟩)], cout := [(0, ⟨[0, 3], [], [], [], [], []⟩)], lp := lpOf [(0, s0 [] 0 0, p0 K)], kl := Env.kl, nk := true, eqs := eqs0, byt := byt0, fin := finK fi K }
noncomputable def b (a1 : List Int) (R : List Int → Int → Int → Option Res) : Option Res :=
 l0 a1 (fun y5 =>
 R a1 0 y5) fuel (IntKind.i64.wrap (18218 + (a1.length : Int))) 0
theorem gx : ∃ x : List Int → (List Int → Int → Int → Option Res) → Option Res, x = b := ⟨_, rfl⟩
noncomputable def g : List Int → (List Int → Int → Int → Option Res) → Option Res := Classical.choose gx
theorem e : g = b := Classical.choose_spec gx
noncomputable def run : List Lf → (Res → Option Res) → Option Res
 | [.q (.ints a1)], K => g a1 (fun r1 r2 r3 => K (m r1 r2 r3))
 | _, _ => none
noncomputable def a (a1 : List Int) : St := argSt [one (.tr 2 1 [.int .u8] (.ints a1))] [] []
noncomputable def con : FuncId × St × (List Lf → (Res → Option Res) → Option Res) := (36, a [], run)
theorem cx (K : Res → Option Res) : CtxOk Go.Proofs.Try.prog Γ0 byt0 eqs0 (X K) os := ⟨rfl, rfl, rfl, (fun p hp => by
 cases hp), rfl, rfl, rfl⟩
theorem t0 (K : Res → Option Res) (k : St → Option Res) (it : St → (St → Option Res) → Option Res) (x2 : List Int) (x3 x4 : Int) : iterS (X K) 0 b0 it (s0 x2 x3 x4) k = l0s x2 (fun x3 x4 => it (s0 x2 x3 x4) k) (fun y2 => k (o0 x2 y2)) x3 x4 := by kernel_rfl
theorem i0 (K : Res → Option Res) (k : St → Option Res) (x2 : List Int) : ∀ (n : Nat) (x3 x4 : Int), iter (X K) 0 b0 n (s0 x2 x3 x4) k = l0 x2 (fun y2 => k (o0 x2 y2)) n x3 x4
 | 0, _, _ => rfl
 | n + 1, x3, x4 => by
  rw [iter_succ, t0, show (fun x3 x4 => iter (X K) 0 b0 n (s0 x2 x3 x4) k) = (fun x3 x4 => l0 x2 (fun y2 => k (o0 x2 y2)) n x3 x4) from funext fun x3 => funext fun x4 => i0 K k x2 n x3 x4]; rfl
theorem v0 {K : Res → Option Res} {l : List Lf} {k : St → Option Res} {r : Res} (h : p0 K l k = some r) : ∃ x2 x3 x4, l = [.q (.ints x2), .i x3, .i x4] ∧ l0 x2 (fun y2 => k (o0 x2 y2)) fuel x3 x4 = some r := by
 unfold p0 at h; split at h
 ·exact ⟨_, _, _, rfl, h⟩
 ·cases h
theorem w0 (K : Res → Option Res) : LpSound Go.Proofs.Try.prog (X K) 0 b0 := lp_ok ((cx K).ok laid) (by rw [show loopsOf b0 = [] from by kernel_rfl]; intro p hp; cases hp) rfl fun p hp hid => by
 rcases List.mem_cons.1 hp with rfl | hp
 ·intro st k r h1 h2; obtain ⟨x2, x3, x4, e, h⟩ := v0 (K := K) h2; have := St.like_eq (y := s0 x2 x3 x4) h1 (by kernel_rfl) e; subst this; exact ⟨fuel, (i0 K k x2 fuel x3 x4).trans h⟩
 cases hp
theorem tie (K : Res → Option Res) (a1 : List Int) : exec (X K) c (entry 32 [one (.tr 2 1 [.int .u8] (.ints a1))] [] []) (endK (X K)) = g a1 (fun r1 r2 r3 => K (m r1 r2 r3)) := Eq.trans (b := b a1 (fun r1 r2 r3 => K (m r1 r2 r3))) (by kernel_rfl) (by rw [e])
theorem runv {l : List Lf} {K : Res → Option Res} {r : Res} (h : run l K = some r) : ∃ a1, l = [.q (.ints a1)] ∧ g a1 (fun r1 r2 r3 => K (m r1 r2 r3)) = some r := by
 unfold run at h; split at h
 ·exact ⟨_, rfl, h⟩
 ·cases h
theorem ok : Con Go.Proofs.Try.prog con := con_of (fn := Go.Proofs.Try.f36) (c := c) (Fi := fi) (X := X) (fun_of laid (by kernel_rfl) (by kernel_rfl) (by kernel_rfl) rfl (by kernel_rfl) (by kernel_rfl) cx (fun _ => rfl) (fun _ => rfl) (fun K => by
 rw [show loopsOf c = [(0, b0)] from by kernel_rfl]; intro p hp
 rcases List.mem_cons.1 hp with rfl | hp
 ·exact w0 K
 cases hp)) fun xs rows boxes K r hl hr => by
 obtain ⟨a1, e, h⟩ := runv hr
 have := St.like_eq (y := a a1) hl (by kernel_rfl) e
 obtain ⟨rfl, rfl, rfl⟩ := argSt_inj this
 exact (tie K a1).trans h
end spec_l1New
namespace spec_l1Byte
noncomputable def c : Code := bodyOf Go.Proofs.Try.f104
noncomputable def fi : Fin := ⟨Γ0, [(.tmp 2, 3)], [[1]], [], [([.sl [.int .u8] 1, .int .i64, .int .i64], [0, 1, 1])], []⟩
noncomputable def m (a1 : List Int) (r1 r3 r4 : Int) : Res := ⟨[⟨false, [.int .i64 r1]⟩], [], [], [[.tr 2 2 [.int .u8] (.ints a1), .int .i64 r3, .int .i64 r4]], []⟩
noncomputable def os : List (FuncId × St × (List Lf → (Res → Option Res) → Option Res)) := []
noncomputable def X (K : Res → Option Res) : Ctx := { Γ := Γ0, orc := orcOf os, io := [], share := [], opn := [], shr := [], bun := [], cut := [], own := [], cin := [], cout := [], lp := lpOf [], kl := Env.kl, nk := true, eqs := eqs0, byt := byt0, fin := finK fi K }
noncomputable def b (a1 : List Int) (a2 a3 : Int) (R : Int → Int → Int → Option Res) : Option Res :=
 bif decide (a2 < (a1.length : Int)) then (bif decide (0 ≤ a2) && decide (a2 < (a1.length : Int)) then R (arith.bits .and .i64 (IntKind.i64.wrap ((arith.bits .and .i64 (arith.bits .xor .i64 ((IntKind.i64.wrap ((IntKind.i64.wrap (a3 * 6364136223846793005)) + 1442695040888963407)).fdiv (2 ^ 33)) ((IntKind.i64.wrap ((IntKind.i64.wrap (a3 * 6364136223846793005)) + 1442695040888963407)).fdiv (2 ^ 45))) 255) + (IntKind.i64.wrap (a1.getD a2.toNat 0)))) 255) (IntKind.i64.wrap (a2 + 1)) (IntKind.i64.wrap ((IntKind.i64.wrap (a3 * 6364136223846793005)) + 1442695040888963407))
  else none)
 else R (arith.bits .and .i64 (arith.bits .xor .i64 ((IntKind.i64.wrap ((IntKind.i64.wrap (a3 * 6364136223846793005)) + 1442695040888963407)).fdiv (2 ^ 33)) ((IntKind.i64.wrap ((IntKind.i64.wrap (a3 * 6364136223846793005)) + 1442695040888963407)).fdiv (2 ^ 45))) 255) a2 (IntKind.i64.wrap ((IntKind.i64.wrap (a3 * 6364136223846793005)) + 1442695040888963407))
theorem gx : ∃ x : List Int → Int → Int → (Int → Int → Int → Option Res) → Option Res, x = b := ⟨_, rfl⟩
noncomputable def g : List Int → Int → Int → (Int → Int → Int → Option Res) → Option Res := Classical.choose gx
theorem e : g = b := Classical.choose_spec gx
noncomputable def run : List Lf → (Res → Option Res) → Option Res
 | [.q (.ints a1), .i a2, .i a3], K => g a1 a2 a3 (fun r1 r3 r4 => K (m a1 r1 r3 r4))
 | _, _ => none
noncomputable def a (a1 : List Int) (a2 a3 : Int) : St := argSt [one (.bp 0 0)] [] [[.tr 2 2 [.int .u8] (.ints a1), .int .i64 a2, .int .i64 a3]]
noncomputable def con : FuncId × St × (List Lf → (Res → Option Res) → Option Res) := (104, a [] 0 0, run)
theorem cx (K : Res → Option Res) : CtxOk Go.Proofs.Try.prog Γ0 byt0 eqs0 (X K) os := ⟨rfl, rfl, rfl, (fun p hp => by
 cases hp), rfl, rfl, rfl⟩
theorem tie (K : Res → Option Res) (a1 : List Int) (a2 a3 : Int) : exec (X K) c (entry 58 [one (.bp 0 0)] [] [[.tr 2 2 [.int .u8] (.ints a1), .int .i64 a2, .int .i64 a3]]) (endK (X K)) = g a1 a2 a3 (fun r1 r3 r4 => K (m a1 r1 r3 r4)) := Eq.trans (b := b a1 a2 a3 (fun r1 r3 r4 => K (m a1 r1 r3 r4))) (by kernel_rfl) (by rw [e])
theorem runv {l : List Lf} {K : Res → Option Res} {r : Res} (h : run l K = some r) : ∃ a1 a2 a3, l = [.q (.ints a1), .i a2, .i a3] ∧ g a1 a2 a3 (fun r1 r3 r4 => K (m a1 r1 r3 r4)) = some r := by
 unfold run at h; split at h
 ·exact ⟨_, _, _, rfl, h⟩
 ·cases h
theorem ok : Con Go.Proofs.Try.prog con := con_of (fn := Go.Proofs.Try.f104) (c := c) (Fi := fi) (X := X) (fun_of laid (by kernel_rfl) (by kernel_rfl) (by kernel_rfl) rfl (by kernel_rfl) (by kernel_rfl) cx (fun _ => rfl) (fun _ => rfl) (fun K => by
 rw [show loopsOf c = [] from by kernel_rfl]; intro p hp
 cases hp)) fun xs rows boxes K r hl hr => by
 obtain ⟨a1, a2, a3, e, h⟩ := runv hr
 have := St.like_eq (y := a a1 a2 a3) hl (by kernel_rfl) e
 obtain ⟨rfl, rfl, rfl⟩ := argSt_inj this
 exact (tie K a1 a2 a3).trans h
end spec_l1Byte
namespace spec_l1Below
noncomputable def c : Code := bodyOf Go.Proofs.Try.f65
noncomputable def fi : Fin := ⟨Γ0, [(.tmp 4, 3)], [[1]], [], [([.sl [.int .u8] 1, .int .i64, .int .i64], [0, 1, 1])], []⟩
noncomputable def m (a2 : List Int) (r1 r3 r4 : Int) : Res := ⟨[⟨false, [.int .i64 r1]⟩], [], [], [[.tr 2 2 [.int .u8] (.ints a2), .int .i64 r3, .int .i64 r4]], []⟩
noncomputable def os : List (FuncId × St × (List Lf → (Res → Option Res) → Option Res)) := [spec_l1Byte.con]
noncomputable def X (K : Res → Option Res) : Ctx := { Γ := Γ0, orc := orcOf os, io := [], share := [], opn := [], shr := [], bun := [], cut := [], own := [], cin := [], cout := [], lp := lpOf [], kl := Env.kl, nk := true, eqs := eqs0, byt := byt0, fin := finK fi K }
noncomputable def b (a1 : Int) (a2 : List Int) (a3 a4 : Int) (R : Int → Int → Int → Option Res) : Option Res :=
 bif decide (a1 ≤ 0) then R 0 a3 a4
 else bif decide (a1 ≤ 256) then (spec_l1Byte.g a2 a3 a4 fun r5 r6 r7 =>
  bif decide (a1 = 0) then none
  else R (r5.tmod a1) r6 r7)
 else (spec_l1Byte.g a2 a3 a4 fun r8 r9 r10 =>
 spec_l1Byte.g a2 r9 r10 fun r11 r12 r13 =>
 spec_l1Byte.g a2 r12 r13 fun r14 r15 r16 =>
 spec_l1Byte.g a2 r15 r16 fun r17 r18 r19 =>
 bif decide (a1 = 0) then none
 else R ((IntKind.i64.wrap ((IntKind.i64.wrap ((IntKind.i64.wrap ((IntKind.i64.wrap (r8 * 16777216)) + (IntKind.i64.wrap (r11 * 65536)))) + (IntKind.i64.wrap (r14 * 256)))) + r17)).tmod a1) r18 r19)
theorem gx : ∃ x : Int → List Int → Int → Int → (Int → Int → Int → Option Res) → Option Res, x = b := ⟨_, rfl⟩
noncomputable def g : Int → List Int → Int → Int → (Int → Int → Int → Option Res) → Option Res := Classical.choose gx
theorem e : g = b := Classical.choose_spec gx
noncomputable def run : List Lf → (Res → Option Res) → Option Res
 | [.i a1, .q (.ints a2), .i a3, .i a4], K => g a1 a2 a3 a4 (fun r1 r3 r4 => K (m a2 r1 r3 r4))
 | _, _ => none
noncomputable def a (a1 : Int) (a2 : List Int) (a3 a4 : Int) : St := argSt [one (.bp 0 0), one (.int .i64 a1)] [] [[.tr 2 2 [.int .u8] (.ints a2), .int .i64 a3, .int .i64 a4]]
noncomputable def con : FuncId × St × (List Lf → (Res → Option Res) → Option Res) := (65, a 0 [] 0 0, run)
theorem cx (K : Res → Option Res) : CtxOk Go.Proofs.Try.prog Γ0 byt0 eqs0 (X K) os := ⟨rfl, rfl, rfl, (fun p hp => by
 rcases List.mem_cons.1 hp with rfl | hp
 ·exact spec_l1Byte.ok
 cases hp), rfl, rfl, rfl⟩
theorem tie (K : Res → Option Res) (a1 : Int) (a2 : List Int) (a3 a4 : Int) : exec (X K) c (entry 37 [one (.bp 0 0), one (.int .i64 a1)] [] [[.tr 2 2 [.int .u8] (.ints a2), .int .i64 a3, .int .i64 a4]]) (endK (X K)) = g a1 a2 a3 a4 (fun r1 r3 r4 => K (m a2 r1 r3 r4)) := Eq.trans (b := b a1 a2 a3 a4 (fun r1 r3 r4 => K (m a2 r1 r3 r4))) (by kernel_rfl) (by rw [e])
theorem runv {l : List Lf} {K : Res → Option Res} {r : Res} (h : run l K = some r) : ∃ a1 a2 a3 a4, l = [.i a1, .q (.ints a2), .i a3, .i a4] ∧ g a1 a2 a3 a4 (fun r1 r3 r4 => K (m a2 r1 r3 r4)) = some r := by
 unfold run at h; split at h
 ·exact ⟨_, _, _, _, rfl, h⟩
 ·cases h
theorem ok : Con Go.Proofs.Try.prog con := con_of (fn := Go.Proofs.Try.f65) (c := c) (Fi := fi) (X := X) (fun_of laid (by kernel_rfl) (by kernel_rfl) (by kernel_rfl) rfl (by kernel_rfl) (by kernel_rfl) cx (fun _ => rfl) (fun _ => rfl) (fun K => by
 rw [show loopsOf c = [] from by kernel_rfl]; intro p hp
 cases hp)) fun xs rows boxes K r hl hr => by
 obtain ⟨a1, a2, a3, a4, e, h⟩ := runv hr
 have := St.like_eq (y := a a1 a2 a3 a4) hl (by kernel_rfl) e
 obtain ⟨rfl, rfl, rfl⟩ := argSt_inj this
 exact (tie K a1 a2 a3 a4).trans h
end spec_l1Below
namespace spec_l1Once
noncomputable def c : Code := bodyOf Go.Proofs.Try.f82
noncomputable def fi : Fin := ⟨Γ0, [(.tmp 4, 4)], [[1]], [], [([.sl [.int .u8] 1, .int .i64, .int .i64], [0, 1, 1])], []⟩
noncomputable def m (a2 : List Int) (r1 : Bool) (r3 r4 : Int) : Res := ⟨[⟨false, [.bool r1]⟩], [], [], [[.tr 2 2 [.int .u8] (.ints a2), .int .i64 r3, .int .i64 r4]], []⟩
noncomputable def os : List (FuncId × St × (List Lf → (Res → Option Res) → Option Res)) := [spec_l1Below.con]
noncomputable def X (K : Res → Option Res) : Ctx := { Γ := Γ0, orc := orcOf os, io := [], share := [], opn := [], shr := [], bun := [], cut := [], own := [], cin := [], cout := [], lp := lpOf [], kl := Env.kl, nk := true, eqs := eqs0, byt := byt0, fin := finK fi K }
noncomputable def b (a1 : Int) (a2 : List Int) (a3 a4 : Int) (R : Bool → Int → Int → Option Res) : Option Res :=
 spec_l1Below.g a1 a2 a3 a4 fun r5 r6 r7 =>
 R (r5 == 0) r6 r7
theorem gx : ∃ x : Int → List Int → Int → Int → (Bool → Int → Int → Option Res) → Option Res, x = b := ⟨_, rfl⟩
noncomputable def g : Int → List Int → Int → Int → (Bool → Int → Int → Option Res) → Option Res := Classical.choose gx
theorem e : g = b := Classical.choose_spec gx
noncomputable def run : List Lf → (Res → Option Res) → Option Res
 | [.i a1, .q (.ints a2), .i a3, .i a4], K => g a1 a2 a3 a4 (fun r1 r3 r4 => K (m a2 r1 r3 r4))
 | _, _ => none
noncomputable def a (a1 : Int) (a2 : List Int) (a3 a4 : Int) : St := argSt [one (.bp 0 0), one (.int .i64 a1)] [] [[.tr 2 2 [.int .u8] (.ints a2), .int .i64 a3, .int .i64 a4]]
noncomputable def con : FuncId × St × (List Lf → (Res → Option Res) → Option Res) := (82, a 0 [] 0 0, run)
theorem cx (K : Res → Option Res) : CtxOk Go.Proofs.Try.prog Γ0 byt0 eqs0 (X K) os := ⟨rfl, rfl, rfl, (fun p hp => by
 rcases List.mem_cons.1 hp with rfl | hp
 ·exact spec_l1Below.ok
 cases hp), rfl, rfl, rfl⟩
theorem tie (K : Res → Option Res) (a1 : Int) (a2 : List Int) (a3 a4 : Int) : exec (X K) c (entry 9 [one (.bp 0 0), one (.int .i64 a1)] [] [[.tr 2 2 [.int .u8] (.ints a2), .int .i64 a3, .int .i64 a4]]) (endK (X K)) = g a1 a2 a3 a4 (fun r1 r3 r4 => K (m a2 r1 r3 r4)) := Eq.trans (b := b a1 a2 a3 a4 (fun r1 r3 r4 => K (m a2 r1 r3 r4))) (by kernel_rfl) (by rw [e])
theorem runv {l : List Lf} {K : Res → Option Res} {r : Res} (h : run l K = some r) : ∃ a1 a2 a3 a4, l = [.i a1, .q (.ints a2), .i a3, .i a4] ∧ g a1 a2 a3 a4 (fun r1 r3 r4 => K (m a2 r1 r3 r4)) = some r := by
 unfold run at h; split at h
 ·exact ⟨_, _, _, _, rfl, h⟩
 ·cases h
theorem ok : Con Go.Proofs.Try.prog con := con_of (fn := Go.Proofs.Try.f82) (c := c) (Fi := fi) (X := X) (fun_of laid (by kernel_rfl) (by kernel_rfl) (by kernel_rfl) rfl (by kernel_rfl) (by kernel_rfl) cx (fun _ => rfl) (fun _ => rfl) (fun K => by
 rw [show loopsOf c = [] from by kernel_rfl]; intro p hp
 cases hp)) fun xs rows boxes K r hl hr => by
 obtain ⟨a1, a2, a3, a4, e, h⟩ := runv hr
 have := St.like_eq (y := a a1 a2 a3 a4) hl (by kernel_rfl) e
 obtain ⟨rfl, rfl, rfl⟩ := argSt_inj this
 exact (tie K a1 a2 a3 a4).trans h
end spec_l1Once
namespace spec_l1Pick
noncomputable def c : Code := bodyOf Go.Proofs.Try.f119
noncomputable def fi : Fin := ⟨Γ0, [(.tmp 4, 9)], [[1]], [], [([.sl [.int .u8] 1, .int .i64, .int .i64], [0, 1, 1])], []⟩
noncomputable def m (a2 : List Int) (r1 : ByteArray) (r3 r4 : Int) : Res := ⟨[⟨false, [.str r1]⟩], [], [], [[.tr 2 2 [.int .u8] (.ints a2), .int .i64 r3, .int .i64 r4]], []⟩
noncomputable def os : List (FuncId × St × (List Lf → (Res → Option Res) → Option Res)) := [spec_l1Below.con]
noncomputable def X (K : Res → Option Res) : Ctx := { Γ := Γ0, orc := orcOf os, io := [], share := [], opn := [], shr := [], bun := [], cut := [], own := [], cin := [], cout := [], lp := lpOf [], kl := Env.kl, nk := true, eqs := eqs0, byt := byt0, fin := finK fi K }
noncomputable def b (a1 : List ByteArray) (a2 : List Int) (a3 a4 : Int) (R : ByteArray → Int → Int → Option Res) : Option Res :=
 spec_l1Below.g (a1.length : Int) a2 a3 a4 fun r5 r6 r7 =>
 bif decide (0 ≤ r5) && decide (r5 < (a1.length : Int)) then R (a1.getD r5.toNat ByteArray.empty) r6 r7
 else none
theorem gx : ∃ x : List ByteArray → List Int → Int → Int → (ByteArray → Int → Int → Option Res) → Option Res, x = b := ⟨_, rfl⟩
noncomputable def g : List ByteArray → List Int → Int → Int → (ByteArray → Int → Int → Option Res) → Option Res := Classical.choose gx
theorem e : g = b := Classical.choose_spec gx
noncomputable def run : List Lf → (Res → Option Res) → Option Res
 | [.q (.strs a1), .q (.ints a2), .i a3, .i a4], K => g a1 a2 a3 a4 (fun r1 r3 r4 => K (m a2 r1 r3 r4))
 | _, _ => none
noncomputable def a (a1 : List ByteArray) (a2 : List Int) (a3 a4 : Int) : St := argSt [one (.bp 0 0), one (.tr 0 1 [.str] (.strs a1))] [] [[.tr 2 2 [.int .u8] (.ints a2), .int .i64 a3, .int .i64 a4]]
noncomputable def con : FuncId × St × (List Lf → (Res → Option Res) → Option Res) := (119, a [] [] 0 0, run)
theorem cx (K : Res → Option Res) : CtxOk Go.Proofs.Try.prog Γ0 byt0 eqs0 (X K) os := ⟨rfl, rfl, rfl, (fun p hp => by
 rcases List.mem_cons.1 hp with rfl | hp
 ·exact spec_l1Below.ok
 cases hp), rfl, rfl, rfl⟩
theorem tie (K : Res → Option Res) (a1 : List ByteArray) (a2 : List Int) (a3 a4 : Int) : exec (X K) c (entry 12 [one (.bp 0 0), one (.tr 0 1 [.str] (.strs a1))] [] [[.tr 2 2 [.int .u8] (.ints a2), .int .i64 a3, .int .i64 a4]]) (endK (X K)) = g a1 a2 a3 a4 (fun r1 r3 r4 => K (m a2 r1 r3 r4)) := Eq.trans (b := b a1 a2 a3 a4 (fun r1 r3 r4 => K (m a2 r1 r3 r4))) (by kernel_rfl) (by rw [e])
theorem runv {l : List Lf} {K : Res → Option Res} {r : Res} (h : run l K = some r) : ∃ a1 a2 a3 a4, l = [.q (.strs a1), .q (.ints a2), .i a3, .i a4] ∧ g a1 a2 a3 a4 (fun r1 r3 r4 => K (m a2 r1 r3 r4)) = some r := by
 unfold run at h; split at h
 ·exact ⟨_, _, _, _, rfl, h⟩
 ·cases h
theorem ok : Con Go.Proofs.Try.prog con := con_of (fn := Go.Proofs.Try.f119) (c := c) (Fi := fi) (X := X) (fun_of laid (by kernel_rfl) (by kernel_rfl) (by kernel_rfl) rfl (by kernel_rfl) (by kernel_rfl) cx (fun _ => rfl) (fun _ => rfl) (fun K => by
 rw [show loopsOf c = [] from by kernel_rfl]; intro p hp
 cases hp)) fun xs rows boxes K r hl hr => by
 obtain ⟨a1, a2, a3, a4, e, h⟩ := runv hr
 have := St.like_eq (y := a a1 a2 a3 a4) hl (by kernel_rfl) e
 obtain ⟨rfl, rfl, rfl⟩ := argSt_inj this
 exact (tie K a1 a2 a3 a4).trans h
end spec_l1Pick
namespace spec_l1PickInt
noncomputable def c : Code := bodyOf Go.Proofs.Try.f105
noncomputable def fi : Fin := ⟨Γ0, [(.tmp 4, 3)], [[1]], [], [([.sl [.int .u8] 1, .int .i64, .int .i64], [0, 1, 1])], []⟩
noncomputable def m (a2 : List Int) (r1 r3 r4 : Int) : Res := ⟨[⟨false, [.int .i64 r1]⟩], [], [], [[.tr 2 2 [.int .u8] (.ints a2), .int .i64 r3, .int .i64 r4]], []⟩
noncomputable def os : List (FuncId × St × (List Lf → (Res → Option Res) → Option Res)) := [spec_l1Below.con]
noncomputable def X (K : Res → Option Res) : Ctx := { Γ := Γ0, orc := orcOf os, io := [], share := [], opn := [], shr := [], bun := [], cut := [], own := [], cin := [], cout := [], lp := lpOf [], kl := Env.kl, nk := true, eqs := eqs0, byt := byt0, fin := finK fi K }
noncomputable def b (a1 a2 : List Int) (a3 a4 : Int) (R : Int → Int → Int → Option Res) : Option Res :=
 spec_l1Below.g (a1.length : Int) a2 a3 a4 fun r5 r6 r7 =>
 bif decide (0 ≤ r5) && decide (r5 < (a1.length : Int)) then R (a1.getD r5.toNat 0) r6 r7
 else none
theorem gx : ∃ x : List Int → List Int → Int → Int → (Int → Int → Int → Option Res) → Option Res, x = b := ⟨_, rfl⟩
noncomputable def g : List Int → List Int → Int → Int → (Int → Int → Int → Option Res) → Option Res := Classical.choose gx
theorem e : g = b := Classical.choose_spec gx
noncomputable def run : List Lf → (Res → Option Res) → Option Res
 | [.q (.ints a1), .q (.ints a2), .i a3, .i a4], K => g a1 a2 a3 a4 (fun r1 r3 r4 => K (m a2 r1 r3 r4))
 | _, _ => none
noncomputable def a (a1 a2 : List Int) (a3 a4 : Int) : St := argSt [one (.bp 0 0), one (.tr 0 1 [.int .i64] (.ints a1))] [] [[.tr 2 2 [.int .u8] (.ints a2), .int .i64 a3, .int .i64 a4]]
noncomputable def con : FuncId × St × (List Lf → (Res → Option Res) → Option Res) := (105, a [] [] 0 0, run)
theorem cx (K : Res → Option Res) : CtxOk Go.Proofs.Try.prog Γ0 byt0 eqs0 (X K) os := ⟨rfl, rfl, rfl, (fun p hp => by
 rcases List.mem_cons.1 hp with rfl | hp
 ·exact spec_l1Below.ok
 cases hp), rfl, rfl, rfl⟩
theorem tie (K : Res → Option Res) (a1 a2 : List Int) (a3 a4 : Int) : exec (X K) c (entry 12 [one (.bp 0 0), one (.tr 0 1 [.int .i64] (.ints a1))] [] [[.tr 2 2 [.int .u8] (.ints a2), .int .i64 a3, .int .i64 a4]]) (endK (X K)) = g a1 a2 a3 a4 (fun r1 r3 r4 => K (m a2 r1 r3 r4)) := Eq.trans (b := b a1 a2 a3 a4 (fun r1 r3 r4 => K (m a2 r1 r3 r4))) (by kernel_rfl) (by rw [e])
theorem runv {l : List Lf} {K : Res → Option Res} {r : Res} (h : run l K = some r) : ∃ a1 a2 a3 a4, l = [.q (.ints a1), .q (.ints a2), .i a3, .i a4] ∧ g a1 a2 a3 a4 (fun r1 r3 r4 => K (m a2 r1 r3 r4)) = some r := by
 unfold run at h; split at h
 ·exact ⟨_, _, _, _, rfl, h⟩
 ·cases h
theorem ok : Con Go.Proofs.Try.prog con := con_of (fn := Go.Proofs.Try.f105) (c := c) (Fi := fi) (X := X) (fun_of laid (by kernel_rfl) (by kernel_rfl) (by kernel_rfl) rfl (by kernel_rfl) (by kernel_rfl) cx (fun _ => rfl) (fun _ => rfl) (fun K => by
 rw [show loopsOf c = [] from by kernel_rfl]; intro p hp
 cases hp)) fun xs rows boxes K r hl hr => by
 obtain ⟨a1, a2, a3, a4, e, h⟩ := runv hr
 have := St.like_eq (y := a a1 a2 a3 a4) hl (by kernel_rfl) e
 obtain ⟨rfl, rfl, rfl⟩ := argSt_inj this
 exact (tie K a1 a2 a3 a4).trans h
end spec_l1PickInt
namespace spec_l1DrawNum
noncomputable def c : Code := bodyOf Go.Proofs.Try.f106
noncomputable def fi : Fin := ⟨Γ0, [(.tmp 2, 3)], [[1]], [], [([.sl [.int .u8] 1, .int .i64, .int .i64], [0, 1, 1])], []⟩
noncomputable def m (a1 : List Int) (r1 r3 r4 : Int) : Res := ⟨[⟨false, [.int .i64 r1]⟩], [], [], [[.tr 2 2 [.int .u8] (.ints a1), .int .i64 r3, .int .i64 r4]], []⟩
noncomputable def os : List (FuncId × St × (List Lf → (Res → Option Res) → Option Res)) := [spec_l1Once.con, spec_l1PickInt.con, spec_l1Below.con]
noncomputable def X (K : Res → Option Res) : Ctx := { Γ := Γ0, orc := orcOf os, io := [], share := [], opn := [], shr := [], bun := [], cut := [], own := [], cin := [], cout := [], lp := lpOf [], kl := Env.kl, nk := true, eqs := eqs0, byt := byt0, fin := finK fi K }
noncomputable def b (a1 : List Int) (a2 a3 : Int) (R : Int → Int → Int → Option Res) : Option Res :=
 spec_l1Once.g 12 a1 a2 a3 fun r4 r5 r6 =>
 bif r4 then (spec_l1PickInt.g ([1000000000000, (-1000000000000), 999999999999, 1000000, (-1000000), 1000001, 999999999999] : List Int) a1 r5 r6 fun r7 r8 r9 =>
  R r7 r8 r9)
 else (spec_l1Below.g 20 a1 r5 r6 fun r10 r11 r12 =>
 R (IntKind.i64.wrap (r10 - 6)) r11 r12)
theorem gx : ∃ x : List Int → Int → Int → (Int → Int → Int → Option Res) → Option Res, x = b := ⟨_, rfl⟩
noncomputable def g : List Int → Int → Int → (Int → Int → Int → Option Res) → Option Res := Classical.choose gx
theorem e : g = b := Classical.choose_spec gx
noncomputable def run : List Lf → (Res → Option Res) → Option Res
 | [.q (.ints a1), .i a2, .i a3], K => g a1 a2 a3 (fun r1 r3 r4 => K (m a1 r1 r3 r4))
 | _, _ => none
noncomputable def a (a1 : List Int) (a2 a3 : Int) : St := argSt [one (.bp 0 0)] [] [[.tr 2 2 [.int .u8] (.ints a1), .int .i64 a2, .int .i64 a3]]
noncomputable def con : FuncId × St × (List Lf → (Res → Option Res) → Option Res) := (106, a [] 0 0, run)
theorem cx (K : Res → Option Res) : CtxOk Go.Proofs.Try.prog Γ0 byt0 eqs0 (X K) os := ⟨rfl, rfl, rfl, (fun p hp => by
 rcases List.mem_cons.1 hp with rfl | hp
 ·exact spec_l1Once.ok
 rcases List.mem_cons.1 hp with rfl | hp
 ·exact spec_l1PickInt.ok
 rcases List.mem_cons.1 hp with rfl | hp
 ·exact spec_l1Below.ok
 cases hp), rfl, rfl, rfl⟩
theorem tie (K : Res → Option Res) (a1 : List Int) (a2 a3 : Int) : exec (X K) c (entry 11 [one (.bp 0 0)] [] [[.tr 2 2 [.int .u8] (.ints a1), .int .i64 a2, .int .i64 a3]]) (endK (X K)) = g a1 a2 a3 (fun r1 r3 r4 => K (m a1 r1 r3 r4)) := Eq.trans (b := b a1 a2 a3 (fun r1 r3 r4 => K (m a1 r1 r3 r4))) (by kernel_rfl) (by rw [e])
theorem runv {l : List Lf} {K : Res → Option Res} {r : Res} (h : run l K = some r) : ∃ a1 a2 a3, l = [.q (.ints a1), .i a2, .i a3] ∧ g a1 a2 a3 (fun r1 r3 r4 => K (m a1 r1 r3 r4)) = some r := by
 unfold run at h; split at h
 ·exact ⟨_, _, _, rfl, h⟩
 ·cases h
theorem ok : Con Go.Proofs.Try.prog con := con_of (fn := Go.Proofs.Try.f106) (c := c) (Fi := fi) (X := X) (fun_of laid (by kernel_rfl) (by kernel_rfl) (by kernel_rfl) rfl (by kernel_rfl) (by kernel_rfl) cx (fun _ => rfl) (fun _ => rfl) (fun K => by
 rw [show loopsOf c = [] from by kernel_rfl]; intro p hp
 cases hp)) fun xs rows boxes K r hl hr => by
 obtain ⟨a1, a2, a3, e, h⟩ := runv hr
 have := St.like_eq (y := a a1 a2 a3) hl (by kernel_rfl) e
 obtain ⟨rfl, rfl, rfl⟩ := argSt_inj this
 exact (tie K a1 a2 a3).trans h
end spec_l1DrawNum
-- GROUP spec_l8Digits
namespace spec_l8Digits
noncomputable def c : Code := bodyOf Go.Proofs.Try.f126
noncomputable def fi : Fin := ⟨Γ0, [(.tmp 2, 9)], [[1]], [], [], []⟩
noncomputable def m (r1 : ByteArray) : Res := ⟨[⟨false, [.str r1]⟩], [], [], [], []⟩
abbrev T : Type := Int → (ByteArray → Option Res) → Option Res
noncomputable def runz (h : T) : List Lf → (Res → Option Res) → Option Res
 | [.i a1], K => h a1 (fun r1 => K (m r1))
 | _, _ => none
noncomputable def a (a1 : Int) : St := argSt [one (.int .i64 a1)] [] []
noncomputable def conz (h : T) : FuncId × St × (List Lf → (Res → Option Res) → Option Res) := (126, a 0, runz h)
end spec_l8Digits
abbrev Z_spec_l8Digits : Type := spec_l8Digits.T
def Gd_spec_l8Digits (z : Z_spec_l8Digits) : Prop := Con Go.Proofs.Try.prog (spec_l8Digits.conz z)
namespace spec_l8Digits
noncomputable def b0 : Code := codeAt c [1, 1, 1, 1, 0, 0, 0]
noncomputable def s0 (x3 : Int) (x4 : ByteArray) : St := ⟨mkT 25 [(0, one (.int .i64 x3)), (3, one (.str x4))], [], []⟩
noncomputable def l0s  (rec : Int → ByteArray → Option Res) (k : ByteArray → Option Res) (x3 : Int) (x4 : ByteArray) : Option Res :=
 bif decide (0 < x3) then (bif decide ((strOf ([IntKind.u8.wrap (IntKind.i64.wrap (48 + (x3.tmod 10)))] : List Int)).size + x4.size ≤ 9223372036854775807) then rec (IntKind.i64.wrap (x3.tdiv 10)) ((strOf ([IntKind.u8.wrap (IntKind.i64.wrap (48 + (x3.tmod 10)))] : List Int)) ++ x4)
  else none)
 else k x4
noncomputable def l0  (k : ByteArray → Option Res) : Nat → Int → ByteArray → Option Res
 | 0, _, _ => none
 | n + 1, x3, x4 => l0s (fun x3 x4 => l0 k n x3 x4) k x3 x4
noncomputable def o0 (y1 : ByteArray) : St := ⟨mkT 25 [(3, one (.str y1))], [], []⟩
noncomputable def p0 (K : Res → Option Res) : List Lf → (St → Option Res) → Option Res
 | [.i x3, .s x4], k => l0 (fun y1 => k (o0 y1)) fuel x3 x4
 | _, _ => none
noncomputable def os (z : Z_spec_l8Digits) : List (FuncId × St × (List Lf → (Res → Option Res) → Option Res)) := [spec_l8Digits.conz z]
noncomputable def X (z : Z_spec_l8Digits) (K : Res → Option Res) : Ctx := { Γ := Γ0, orc := orcOf (os z), io := [], share := [], opn := [], shr := [], bun := [], cut := [], own := [], cin := [(0, ⟨[0, 3], [], [], [], [], []⟩)], cout := [(0, ⟨[3], [], [], [], [], []⟩)], lp := lpOf [(0, s0 0 ByteArray.empty, p0 K)], kl := Env.kl, nk := true, eqs := eqs0, byt := byt0, fin := finK fi K }
noncomputable def g (z : Z_spec_l8Digits) (a1 : Int) (R : ByteArray → Option Res) : Option Res :=
 bif decide (a1 < 0) then (z (IntKind.i64.wrap (0 - a1)) fun r2 =>
  bif decide (1 + r2.size ≤ 9223372036854775807) then R ((⟨#[95]⟩ : ByteArray) ++ r2)
  else none)
 else bif (a1 == 0) then R (⟨#[48]⟩ : ByteArray)
 else (l0 (fun y5 =>
 R y5) fuel a1 (⟨#[]⟩ : ByteArray))
theorem cx (z : Z_spec_l8Digits) (hz : Gd_spec_l8Digits z) (K : Res → Option Res) : CtxOk Go.Proofs.Try.prog Γ0 byt0 eqs0 (X z K) (os z) := ⟨rfl, rfl, rfl, (fun p hp => by
 rcases List.mem_cons.1 hp with rfl | hp
 ·exact hz
 cases hp), rfl, rfl, rfl⟩
theorem t0 (z : Z_spec_l8Digits) (K : Res → Option Res) (k : St → Option Res) (it : St → (St → Option Res) → Option Res) (x3 : Int) (x4 : ByteArray) : iterS (X z K) 0 b0 it (s0 x3 x4) k = l0s (fun x3 x4 => it (s0 x3 x4) k) (fun y1 => k (o0 y1)) x3 x4 := by kernel_rfl
theorem i0 (z : Z_spec_l8Digits) (K : Res → Option Res) (k : St → Option Res)  : ∀ (n : Nat) (x3 : Int) (x4 : ByteArray), iter (X z K) 0 b0 n (s0 x3 x4) k = l0 (fun y1 => k (o0 y1)) n x3 x4
 | 0, _, _ => rfl
 | n + 1, x3, x4 => by
  rw [iter_succ, t0 z, show (fun x3 x4 => iter (X z K) 0 b0 n (s0 x3 x4) k) = (fun x3 x4 => l0 (fun y1 => k (o0 y1)) n x3 x4) from funext fun x3 => funext fun x4 => i0 z K k n x3 x4]; rfl
theorem v0 {K : Res → Option Res} {l : List Lf} {k : St → Option Res} {r : Res} (h : p0 K l k = some r) : ∃ x3 x4, l = [.i x3, .s x4] ∧ l0 (fun y1 => k (o0 y1)) fuel x3 x4 = some r := by
 unfold p0 at h; split at h
 ·exact ⟨_, _, rfl, h⟩
 ·cases h
theorem w0 (z : Z_spec_l8Digits) (hz : Gd_spec_l8Digits z) (K : Res → Option Res) : LpSound Go.Proofs.Try.prog (X z K) 0 b0 := lp_ok (((cx z hz) K).ok laid) (by rw [show loopsOf b0 = [] from by kernel_rfl]; intro p hp; cases hp) rfl fun p hp hid => by
 rcases List.mem_cons.1 hp with rfl | hp
 ·intro st k r h1 h2; obtain ⟨x3, x4, e, h⟩ := v0 (K := K) h2; have := St.like_eq (y := s0 x3 x4) h1 (by kernel_rfl) e; subst this; exact ⟨fuel, (i0 z K k fuel x3 x4).trans h⟩
 cases hp
theorem tie (z : Z_spec_l8Digits) (K : Res → Option Res) (a1 : Int) : exec (X z K) c (entry 25 [one (.int .i64 a1)] [] []) (endK (X z K)) = (g z) a1 (fun r1 => K (m r1)) := by kernel_rfl
theorem runv (z : Z_spec_l8Digits) {l : List Lf} {K : Res → Option Res} {r : Res} (h : runz (g z) l K = some r) : ∃ a1, l = [.i a1] ∧ (g z) a1 (fun r1 => K (m r1)) = some r := by
 unfold runz at h; split at h
 ·exact ⟨_, rfl, h⟩
 ·cases h
theorem ok (z : Z_spec_l8Digits) (hz : Gd_spec_l8Digits z) : Con Go.Proofs.Try.prog (conz (g z)) := con_of (fn := Go.Proofs.Try.f126) (c := c) (Fi := fi) (X := X z) (fun_of laid (by kernel_rfl) (by kernel_rfl) (by kernel_rfl) rfl (by kernel_rfl) (by kernel_rfl) (cx z hz) (fun _ => rfl) (fun _ => rfl) (fun K => by
 rw [show loopsOf c = [(0, b0)] from by kernel_rfl]; intro p hp
 rcases List.mem_cons.1 hp with rfl | hp
 ·exact w0 z hz K
 cases hp)) fun xs rows boxes K r hl hr => by
 obtain ⟨a1, e, h⟩ := runv z hr
 have := St.like_eq (y := a a1) hl (by kernel_rfl) e
 obtain ⟨rfl, rfl, rfl⟩ := argSt_inj this
 exact (tie z K a1).trans h
end spec_l8Digits
noncomputable def rec_spec_l8Digits : Nat → Z_spec_l8Digits
 | 0 => (fun _ _ => none)
 | n + 1 => spec_l8Digits.g (rec_spec_l8Digits n)
theorem good_spec_l8Digits : ∀ n, Gd_spec_l8Digits (rec_spec_l8Digits n)
 | 0 => con_none (fun l K => by show spec_l8Digits.runz (fun _ _ => none) l K = none; unfold spec_l8Digits.runz; split <;> rfl)
 | n + 1 => spec_l8Digits.ok _ (good_spec_l8Digits n)
namespace spec_l8Digits
noncomputable def gn (n : Nat) (a1 : Int) (R : ByteArray → Option Res) : Option Res := (rec_spec_l8Digits n) a1 R
theorem Gx : ∃ x : T, x = gn fuel := ⟨_, rfl⟩
noncomputable def G : T := Classical.choose Gx
theorem Ge : G = gn fuel := Classical.choose_spec Gx
theorem gn_succ (n : Nat) (a1 : Int) (R : ByteArray → Option Res) : gn (n + 1) a1 R = g (rec_spec_l8Digits n) a1 R := rfl
noncomputable def con : FuncId × St × (List Lf → (Res → Option Res) → Option Res) := conz G
theorem okG : Con Go.Proofs.Try.prog con := by
 unfold con; rw [Ge]; exact (good_spec_l8Digits fuel)
end spec_l8Digits
-- END GROUP
namespace spec_l8DrawFun
noncomputable def c : Code := bodyOf Go.Proofs.Try.f120
noncomputable def fi : Fin := ⟨Γ0, [(.tmp 4, 9)], [[1]], [], [([.sl [.int .u8] 1, .int .i64, .int .i64], [0, 1, 1])], []⟩
noncomputable def m (a2 : List Int) (r1 : ByteArray) (r3 r4 : Int) : Res := ⟨[⟨false, [.str r1]⟩], [], [], [[.tr 2 2 [.int .u8] (.ints a2), .int .i64 r3, .int .i64 r4]], []⟩
noncomputable def os : List (FuncId × St × (List Lf → (Res → Option Res) → Option Res)) := [spec_l1Pick.con, spec_l1Once.con]
noncomputable def X (K : Res → Option Res) : Ctx := { Γ := Γ0, orc := orcOf os, io := [], share := [], opn := [], shr := [], bun := [], cut := [], own := [], cin := [], cout := [], lp := lpOf [], kl := Env.kl, nk := true, eqs := eqs0, byt := byt0, fin := finK fi K }
noncomputable def b (a1 : Bool) (a2 : List Int) (a3 a4 : Int) (R : ByteArray → Int → Int → Option Res) : Option Res :=
 spec_l1Pick.g ([(⟨#[43]⟩ : ByteArray), (⟨#[45]⟩ : ByteArray), (⟨#[42]⟩ : ByteArray), (⟨#[37]⟩ : ByteArray), (⟨#[124]⟩ : ByteArray), (⟨#[38]⟩ : ByteArray), (⟨#[94]⟩ : ByteArray), (⟨#[61]⟩ : ByteArray), (⟨#[60]⟩ : ByteArray), (⟨#[62]⟩ : ByteArray)] : List ByteArray) a2 a3 a4 fun r5 r6 r7 =>
 bif a1 then (spec_l1Once.g 6 a2 r6 r7 fun r8 r9 r10 =>
  bif r8 then (bif decide (2 + r5.size ≤ 9223372036854775807) then R ((⟨#[111, 32]⟩ : ByteArray) ++ r5) r9 r10
   else none)
  else bif a1 then (spec_l1Once.g 7 a2 r9 r10 fun r11 r12 r13 =>
   bif r11 then (bif decide (r5.size + 3 ≤ 9223372036854775807) then (spec_l1Pick.g ([(⟨#[43]⟩ : ByteArray), (⟨#[45]⟩ : ByteArray), (⟨#[42]⟩ : ByteArray), (⟨#[38]⟩ : ByteArray), (⟨#[94]⟩ : ByteArray), (⟨#[61]⟩ : ByteArray)] : List ByteArray) a2 r12 r13 fun r14 r15 r16 =>
    bif decide ((r5 ++ (⟨#[32, 46, 32]⟩ : ByteArray)).size + r14.size ≤ 9223372036854775807) then R ((r5 ++ (⟨#[32, 46, 32]⟩ : ByteArray)) ++ r14) r15 r16
    else none)
    else none)
   else bif a1 then (spec_l1Once.g 2 a2 r12 r13 fun r17 r18 r19 =>
    bif r17 then R r5 r18 r19
    else bif a1 then (spec_l1Pick.g ([(⟨#[35]⟩ : ByteArray), (⟨#[44]⟩ : ByteArray), (⟨#[116]⟩ : ByteArray), (⟨#[100]⟩ : ByteArray), (⟨#[114]⟩ : ByteArray), (⟨#[64]⟩ : ByteArray), (⟨#[63]⟩ : ByteArray), (⟨#[36]⟩ : ByteArray), (⟨#[101]⟩ : ByteArray)] : List ByteArray) a2 r18 r19 fun r20 r21 r22 =>
     R r20 r21 r22)
    else (spec_l1Once.g 4 a2 r18 r19 fun r23 r24 r25 =>
    bif r23 then (bif decide (r5.size + 1 ≤ 9223372036854775807) then (spec_l1Pick.g ([(⟨#[47]⟩ : ByteArray), (⟨#[92]⟩ : ByteArray)] : List ByteArray) a2 r24 r25 fun r26 r27 r28 =>
     bif decide ((r5 ++ (⟨#[32]⟩ : ByteArray)).size + r26.size ≤ 9223372036854775807) then R ((r5 ++ (⟨#[32]⟩ : ByteArray)) ++ r26) r27 r28
     else none)
     else none)
    else (spec_l1Pick.g ([(⟨#[105]⟩ : ByteArray), (⟨#[35]⟩ : ByteArray), (⟨#[44]⟩ : ByteArray), (⟨#[114]⟩ : ByteArray), (⟨#[122]⟩ : ByteArray), (⟨#[103]⟩ : ByteArray), (⟨#[43]⟩ : ByteArray), (⟨#[45]⟩ : ByteArray), (⟨#[42]⟩ : ByteArray), (⟨#[124]⟩ : ByteArray), (⟨#[126]⟩ : ByteArray)] : List ByteArray) a2 r24 r25 fun r29 r30 r31 =>
    R r29 r30 r31)))
   else bif a1 then (spec_l1Pick.g ([(⟨#[35]⟩ : ByteArray), (⟨#[44]⟩ : ByteArray), (⟨#[116]⟩ : ByteArray), (⟨#[100]⟩ : ByteArray), (⟨#[114]⟩ : ByteArray), (⟨#[64]⟩ : ByteArray), (⟨#[63]⟩ : ByteArray), (⟨#[36]⟩ : ByteArray), (⟨#[101]⟩ : ByteArray)] : List ByteArray) a2 r12 r13 fun r32 r33 r34 =>
    R r32 r33 r34)
   else (spec_l1Once.g 4 a2 r12 r13 fun r35 r36 r37 =>
   bif r35 then (bif decide (r5.size + 1 ≤ 9223372036854775807) then (spec_l1Pick.g ([(⟨#[47]⟩ : ByteArray), (⟨#[92]⟩ : ByteArray)] : List ByteArray) a2 r36 r37 fun r38 r39 r40 =>
    bif decide ((r5 ++ (⟨#[32]⟩ : ByteArray)).size + r38.size ≤ 9223372036854775807) then R ((r5 ++ (⟨#[32]⟩ : ByteArray)) ++ r38) r39 r40
    else none)
    else none)
   else (spec_l1Pick.g ([(⟨#[105]⟩ : ByteArray), (⟨#[35]⟩ : ByteArray), (⟨#[44]⟩ : ByteArray), (⟨#[114]⟩ : ByteArray), (⟨#[122]⟩ : ByteArray), (⟨#[103]⟩ : ByteArray), (⟨#[43]⟩ : ByteArray), (⟨#[45]⟩ : ByteArray), (⟨#[42]⟩ : ByteArray), (⟨#[124]⟩ : ByteArray), (⟨#[126]⟩ : ByteArray)] : List ByteArray) a2 r36 r37 fun r41 r42 r43 =>
   R r41 r42 r43)))
  else bif a1 then (spec_l1Once.g 2 a2 r9 r10 fun r44 r45 r46 =>
   bif r44 then R r5 r45 r46
   else bif a1 then (spec_l1Pick.g ([(⟨#[35]⟩ : ByteArray), (⟨#[44]⟩ : ByteArray), (⟨#[116]⟩ : ByteArray), (⟨#[100]⟩ : ByteArray), (⟨#[114]⟩ : ByteArray), (⟨#[64]⟩ : ByteArray), (⟨#[63]⟩ : ByteArray), (⟨#[36]⟩ : ByteArray), (⟨#[101]⟩ : ByteArray)] : List ByteArray) a2 r45 r46 fun r47 r48 r49 =>
    R r47 r48 r49)
   else (spec_l1Once.g 4 a2 r45 r46 fun r50 r51 r52 =>
   bif r50 then (bif decide (r5.size + 1 ≤ 9223372036854775807) then (spec_l1Pick.g ([(⟨#[47]⟩ : ByteArray), (⟨#[92]⟩ : ByteArray)] : List ByteArray) a2 r51 r52 fun r53 r54 r55 =>
    bif decide ((r5 ++ (⟨#[32]⟩ : ByteArray)).size + r53.size ≤ 9223372036854775807) then R ((r5 ++ (⟨#[32]⟩ : ByteArray)) ++ r53) r54 r55
    else none)
    else none)
   else (spec_l1Pick.g ([(⟨#[105]⟩ : ByteArray), (⟨#[35]⟩ : ByteArray), (⟨#[44]⟩ : ByteArray), (⟨#[114]⟩ : ByteArray), (⟨#[122]⟩ : ByteArray), (⟨#[103]⟩ : ByteArray), (⟨#[43]⟩ : ByteArray), (⟨#[45]⟩ : ByteArray), (⟨#[42]⟩ : ByteArray), (⟨#[124]⟩ : ByteArray), (⟨#[126]⟩ : ByteArray)] : List ByteArray) a2 r51 r52 fun r56 r57 r58 =>
   R r56 r57 r58)))
  else bif a1 then (spec_l1Pick.g ([(⟨#[35]⟩ : ByteArray), (⟨#[44]⟩ : ByteArray), (⟨#[116]⟩ : ByteArray), (⟨#[100]⟩ : ByteArray), (⟨#[114]⟩ : ByteArray), (⟨#[64]⟩ : ByteArray), (⟨#[63]⟩ : ByteArray), (⟨#[36]⟩ : ByteArray), (⟨#[101]⟩ : ByteArray)] : List ByteArray) a2 r9 r10 fun r59 r60 r61 =>
   R r59 r60 r61)
  else (spec_l1Once.g 4 a2 r9 r10 fun r62 r63 r64 =>
  bif r62 then (bif decide (r5.size + 1 ≤ 9223372036854775807) then (spec_l1Pick.g ([(⟨#[47]⟩ : ByteArray), (⟨#[92]⟩ : ByteArray)] : List ByteArray) a2 r63 r64 fun r65 r66 r67 =>
   bif decide ((r5 ++ (⟨#[32]⟩ : ByteArray)).size + r65.size ≤ 9223372036854775807) then R ((r5 ++ (⟨#[32]⟩ : ByteArray)) ++ r65) r66 r67
   else none)
   else none)
  else (spec_l1Pick.g ([(⟨#[105]⟩ : ByteArray), (⟨#[35]⟩ : ByteArray), (⟨#[44]⟩ : ByteArray), (⟨#[114]⟩ : ByteArray), (⟨#[122]⟩ : ByteArray), (⟨#[103]⟩ : ByteArray), (⟨#[43]⟩ : ByteArray), (⟨#[45]⟩ : ByteArray), (⟨#[42]⟩ : ByteArray), (⟨#[124]⟩ : ByteArray), (⟨#[126]⟩ : ByteArray)] : List ByteArray) a2 r63 r64 fun r68 r69 r70 =>
  R r68 r69 r70)))
 else bif a1 then (spec_l1Once.g 7 a2 r6 r7 fun r71 r72 r73 =>
  bif r71 then (bif decide (r5.size + 3 ≤ 9223372036854775807) then (spec_l1Pick.g ([(⟨#[43]⟩ : ByteArray), (⟨#[45]⟩ : ByteArray), (⟨#[42]⟩ : ByteArray), (⟨#[38]⟩ : ByteArray), (⟨#[94]⟩ : ByteArray), (⟨#[61]⟩ : ByteArray)] : List ByteArray) a2 r72 r73 fun r74 r75 r76 =>
   bif decide ((r5 ++ (⟨#[32, 46, 32]⟩ : ByteArray)).size + r74.size ≤ 9223372036854775807) then R ((r5 ++ (⟨#[32, 46, 32]⟩ : ByteArray)) ++ r74) r75 r76
   else none)
   else none)
  else bif a1 then (spec_l1Once.g 2 a2 r72 r73 fun r77 r78 r79 =>
   bif r77 then R r5 r78 r79
   else bif a1 then (spec_l1Pick.g ([(⟨#[35]⟩ : ByteArray), (⟨#[44]⟩ : ByteArray), (⟨#[116]⟩ : ByteArray), (⟨#[100]⟩ : ByteArray), (⟨#[114]⟩ : ByteArray), (⟨#[64]⟩ : ByteArray), (⟨#[63]⟩ : ByteArray), (⟨#[36]⟩ : ByteArray), (⟨#[101]⟩ : ByteArray)] : List ByteArray) a2 r78 r79 fun r80 r81 r82 =>
    R r80 r81 r82)
   else (spec_l1Once.g 4 a2 r78 r79 fun r83 r84 r85 =>
   bif r83 then (bif decide (r5.size + 1 ≤ 9223372036854775807) then (spec_l1Pick.g ([(⟨#[47]⟩ : ByteArray), (⟨#[92]⟩ : ByteArray)] : List ByteArray) a2 r84 r85 fun r86 r87 r88 =>
    bif decide ((r5 ++ (⟨#[32]⟩ : ByteArray)).size + r86.size ≤ 9223372036854775807) then R ((r5 ++ (⟨#[32]⟩ : ByteArray)) ++ r86) r87 r88
    else none)
    else none)
   else (spec_l1Pick.g ([(⟨#[105]⟩ : ByteArray), (⟨#[35]⟩ : ByteArray), (⟨#[44]⟩ : ByteArray), (⟨#[114]⟩ : ByteArray), (⟨#[122]⟩ : ByteArray), (⟨#[103]⟩ : ByteArray), (⟨#[43]⟩ : ByteArray), (⟨#[45]⟩ : ByteArray), (⟨#[42]⟩ : ByteArray), (⟨#[124]⟩ : ByteArray), (⟨#[126]⟩ : ByteArray)] : List ByteArray) a2 r84 r85 fun r89 r90 r91 =>
   R r89 r90 r91)))
  else bif a1 then (spec_l1Pick.g ([(⟨#[35]⟩ : ByteArray), (⟨#[44]⟩ : ByteArray), (⟨#[116]⟩ : ByteArray), (⟨#[100]⟩ : ByteArray), (⟨#[114]⟩ : ByteArray), (⟨#[64]⟩ : ByteArray), (⟨#[63]⟩ : ByteArray), (⟨#[36]⟩ : ByteArray), (⟨#[101]⟩ : ByteArray)] : List ByteArray) a2 r72 r73 fun r92 r93 r94 =>
   R r92 r93 r94)
  else (spec_l1Once.g 4 a2 r72 r73 fun r95 r96 r97 =>
  bif r95 then (bif decide (r5.size + 1 ≤ 9223372036854775807) then (spec_l1Pick.g ([(⟨#[47]⟩ : ByteArray), (⟨#[92]⟩ : ByteArray)] : List ByteArray) a2 r96 r97 fun r98 r99 r100 =>
   bif decide ((r5 ++ (⟨#[32]⟩ : ByteArray)).size + r98.size ≤ 9223372036854775807) then R ((r5 ++ (⟨#[32]⟩ : ByteArray)) ++ r98) r99 r100
   else none)
   else none)
  else (spec_l1Pick.g ([(⟨#[105]⟩ : ByteArray), (⟨#[35]⟩ : ByteArray), (⟨#[44]⟩ : ByteArray), (⟨#[114]⟩ : ByteArray), (⟨#[122]⟩ : ByteArray), (⟨#[103]⟩ : ByteArray), (⟨#[43]⟩ : ByteArray), (⟨#[45]⟩ : ByteArray), (⟨#[42]⟩ : ByteArray), (⟨#[124]⟩ : ByteArray), (⟨#[126]⟩ : ByteArray)] : List ByteArray) a2 r96 r97 fun r101 r102 r103 =>
  R r101 r102 r103)))
 else bif a1 then (spec_l1Once.g 2 a2 r6 r7 fun r104 r105 r106 =>
  bif r104 then R r5 r105 r106
  else bif a1 then (spec_l1Pick.g ([(⟨#[35]⟩ : ByteArray), (⟨#[44]⟩ : ByteArray), (⟨#[116]⟩ : ByteArray), (⟨#[100]⟩ : ByteArray), (⟨#[114]⟩ : ByteArray), (⟨#[64]⟩ : ByteArray), (⟨#[63]⟩ : ByteArray), (⟨#[36]⟩ : ByteArray), (⟨#[101]⟩ : ByteArray)] : List ByteArray) a2 r105 r106 fun r107 r108 r109 =>
   R r107 r108 r109)
  else (spec_l1Once.g 4 a2 r105 r106 fun r110 r111 r112 =>
  bif r110 then (bif decide (r5.size + 1 ≤ 9223372036854775807) then (spec_l1Pick.g ([(⟨#[47]⟩ : ByteArray), (⟨#[92]⟩ : ByteArray)] : List ByteArray) a2 r111 r112 fun r113 r114 r115 =>
   bif decide ((r5 ++ (⟨#[32]⟩ : ByteArray)).size + r113.size ≤ 9223372036854775807) then R ((r5 ++ (⟨#[32]⟩ : ByteArray)) ++ r113) r114 r115
   else none)
   else none)
  else (spec_l1Pick.g ([(⟨#[105]⟩ : ByteArray), (⟨#[35]⟩ : ByteArray), (⟨#[44]⟩ : ByteArray), (⟨#[114]⟩ : ByteArray), (⟨#[122]⟩ : ByteArray), (⟨#[103]⟩ : ByteArray), (⟨#[43]⟩ : ByteArray), (⟨#[45]⟩ : ByteArray), (⟨#[42]⟩ : ByteArray), (⟨#[124]⟩ : ByteArray), (⟨#[126]⟩ : ByteArray)] : List ByteArray) a2 r111 r112 fun r116 r117 r118 =>
  R r116 r117 r118)))
 else bif a1 then (spec_l1Pick.g ([(⟨#[35]⟩ : ByteArray), (⟨#[44]⟩ : ByteArray), (⟨#[116]⟩ : ByteArray), (⟨#[100]⟩ : ByteArray), (⟨#[114]⟩ : ByteArray), (⟨#[64]⟩ : ByteArray), (⟨#[63]⟩ : ByteArray), (⟨#[36]⟩ : ByteArray), (⟨#[101]⟩ : ByteArray)] : List ByteArray) a2 r6 r7 fun r119 r120 r121 =>
  R r119 r120 r121)
 else (spec_l1Once.g 4 a2 r6 r7 fun r122 r123 r124 =>
 bif r122 then (bif decide (r5.size + 1 ≤ 9223372036854775807) then (spec_l1Pick.g ([(⟨#[47]⟩ : ByteArray), (⟨#[92]⟩ : ByteArray)] : List ByteArray) a2 r123 r124 fun r125 r126 r127 =>
  bif decide ((r5 ++ (⟨#[32]⟩ : ByteArray)).size + r125.size ≤ 9223372036854775807) then R ((r5 ++ (⟨#[32]⟩ : ByteArray)) ++ r125) r126 r127
  else none)
  else none)
 else (spec_l1Pick.g ([(⟨#[105]⟩ : ByteArray), (⟨#[35]⟩ : ByteArray), (⟨#[44]⟩ : ByteArray), (⟨#[114]⟩ : ByteArray), (⟨#[122]⟩ : ByteArray), (⟨#[103]⟩ : ByteArray), (⟨#[43]⟩ : ByteArray), (⟨#[45]⟩ : ByteArray), (⟨#[42]⟩ : ByteArray), (⟨#[124]⟩ : ByteArray), (⟨#[126]⟩ : ByteArray)] : List ByteArray) a2 r123 r124 fun r128 r129 r130 =>
 R r128 r129 r130))
theorem gx : ∃ x : Bool → List Int → Int → Int → (ByteArray → Int → Int → Option Res) → Option Res, x = b := ⟨_, rfl⟩
noncomputable def g : Bool → List Int → Int → Int → (ByteArray → Int → Int → Option Res) → Option Res := Classical.choose gx
theorem e : g = b := Classical.choose_spec gx
noncomputable def run : List Lf → (Res → Option Res) → Option Res
 | [.b a1, .q (.ints a2), .i a3, .i a4], K => g a1 a2 a3 a4 (fun r1 r3 r4 => K (m a2 r1 r3 r4))
 | _, _ => none
noncomputable def a (a1 : Bool) (a2 : List Int) (a3 a4 : Int) : St := argSt [one (.bp 0 0), one (.bool a1)] [] [[.tr 2 2 [.int .u8] (.ints a2), .int .i64 a3, .int .i64 a4]]
noncomputable def con : FuncId × St × (List Lf → (Res → Option Res) → Option Res) := (120, a false [] 0 0, run)
theorem cx (K : Res → Option Res) : CtxOk Go.Proofs.Try.prog Γ0 byt0 eqs0 (X K) os := ⟨rfl, rfl, rfl, (fun p hp => by
 rcases List.mem_cons.1 hp with rfl | hp
 ·exact spec_l1Pick.ok
 rcases List.mem_cons.1 hp with rfl | hp
 ·exact spec_l1Once.ok
 cases hp), rfl, rfl, rfl⟩
theorem tie (K : Res → Option Res) (a1 : Bool) (a2 : List Int) (a3 a4 : Int) : exec (X K) c (entry 53 [one (.bp 0 0), one (.bool a1)] [] [[.tr 2 2 [.int .u8] (.ints a2), .int .i64 a3, .int .i64 a4]]) (endK (X K)) = g a1 a2 a3 a4 (fun r1 r3 r4 => K (m a2 r1 r3 r4)) := Eq.trans (b := b a1 a2 a3 a4 (fun r1 r3 r4 => K (m a2 r1 r3 r4))) (by kernel_rfl) (by rw [e])
theorem runv {l : List Lf} {K : Res → Option Res} {r : Res} (h : run l K = some r) : ∃ a1 a2 a3 a4, l = [.b a1, .q (.ints a2), .i a3, .i a4] ∧ g a1 a2 a3 a4 (fun r1 r3 r4 => K (m a2 r1 r3 r4)) = some r := by
 unfold run at h; split at h
 ·exact ⟨_, _, _, _, rfl, h⟩
 ·cases h
theorem ok : Con Go.Proofs.Try.prog con := con_of (fn := Go.Proofs.Try.f120) (c := c) (Fi := fi) (X := X) (fun_of laid (by kernel_rfl) (by kernel_rfl) (by kernel_rfl) rfl (by kernel_rfl) (by kernel_rfl) cx (fun _ => rfl) (fun _ => rfl) (fun K => by
 rw [show loopsOf c = [] from by kernel_rfl]; intro p hp
 cases hp)) fun xs rows boxes K r hl hr => by
 obtain ⟨a1, a2, a3, a4, e, h⟩ := runv hr
 have := St.like_eq (y := a a1 a2 a3 a4) hl (by kernel_rfl) e
 obtain ⟨rfl, rfl, rfl⟩ := argSt_inj this
 exact (tie K a1 a2 a3 a4).trans h
end spec_l8DrawFun
-- GROUP spec_l8DrawOperand spec_l8DrawLine
namespace spec_l8DrawOperand
noncomputable def c : Code := bodyOf Go.Proofs.Try.f118
noncomputable def fi : Fin := ⟨Γ0, [(.tmp 4, 9)], [[1]], [], [([.sl [.int .u8] 1, .int .i64, .int .i64], [0, 1, 1])], []⟩
noncomputable def m (r1 : ByteArray) (r2 : List Int) (r3 r4 : Int) : Res := ⟨[⟨false, [.str r1]⟩], [], [], [[.tr 2 2 [.int .u8] (.ints r2), .int .i64 r3, .int .i64 r4]], []⟩
abbrev T : Type := Int → List Int → Int → Int → (ByteArray → List Int → Int → Int → Option Res) → Option Res
noncomputable def runz (h : T) : List Lf → (Res → Option Res) → Option Res
 | [.i a1, .q (.ints a2), .i a3, .i a4], K => h a1 a2 a3 a4 (fun r1 r2 r3 r4 => K (m r1 r2 r3 r4))
 | _, _ => none
noncomputable def a (a1 : Int) (a2 : List Int) (a3 a4 : Int) : St := argSt [one (.bp 0 0), one (.int .i64 a1)] [] [[.tr 2 2 [.int .u8] (.ints a2), .int .i64 a3, .int .i64 a4]]
noncomputable def conz (h : T) : FuncId × St × (List Lf → (Res → Option Res) → Option Res) := (118, a 0 [] 0 0, runz h)
end spec_l8DrawOperand
namespace spec_l8DrawLine
noncomputable def c : Code := bodyOf Go.Proofs.Try.f81
noncomputable def fi : Fin := ⟨Γ0, [(.tmp 4, 9)], [[1]], [], [([.sl [.int .u8] 1, .int .i64, .int .i64], [0, 1, 1])], []⟩
noncomputable def m (r1 : ByteArray) (r2 : List Int) (r3 r4 : Int) : Res := ⟨[⟨false, [.str r1]⟩], [], [], [[.tr 2 2 [.int .u8] (.ints r2), .int .i64 r3, .int .i64 r4]], []⟩
abbrev T : Type := Int → List Int → Int → Int → (ByteArray → List Int → Int → Int → Option Res) → Option Res
noncomputable def runz (h : T) : List Lf → (Res → Option Res) → Option Res
 | [.i a1, .q (.ints a2), .i a3, .i a4], K => h a1 a2 a3 a4 (fun r1 r2 r3 r4 => K (m r1 r2 r3 r4))
 | _, _ => none
noncomputable def a (a1 : Int) (a2 : List Int) (a3 a4 : Int) : St := argSt [one (.bp 0 0), one (.int .i64 a1)] [] [[.tr 2 2 [.int .u8] (.ints a2), .int .i64 a3, .int .i64 a4]]
noncomputable def conz (h : T) : FuncId × St × (List Lf → (Res → Option Res) → Option Res) := (81, a 0 [] 0 0, runz h)
end spec_l8DrawLine
abbrev Z_spec_l8DrawOperand : Type := spec_l8DrawOperand.T × spec_l8DrawLine.T
def Gd_spec_l8DrawOperand (z : Z_spec_l8DrawOperand) : Prop := Con Go.Proofs.Try.prog (spec_l8DrawOperand.conz z.1) ∧ Con Go.Proofs.Try.prog (spec_l8DrawLine.conz z.2)
namespace spec_l8DrawOperand
noncomputable def b0 : Code := codeAt c [1, 1, 1, 1, 0, 1, 0, 0]
noncomputable def s0 (x22 : ByteArray) (x23 : Int) (x24 : List Int) (x25 x26 : Int) : St := ⟨mkT 46 [(0, one (.bp 0 0)), (5, one (.str x22)), (6, one (.int .i64 x23))], [], [(0, [.tr 2 2 [.int .u8] (.ints x24), .int .i64 x25, .int .i64 x26])]⟩
noncomputable def l0s (x24 : List Int) (rec : ByteArray → Int → Int → Int → Option Res) (k : ByteArray → Int → Int → Option Res) (x22 : ByteArray) (x23 x25 x26 : Int) : Option Res :=
 spec_l1Below.g 4 x24 x25 x26 fun r27 r28 r29 =>
 bif decide (x23 < r27) then (bif decide (x22.size + 1 ≤ 9223372036854775807) then (spec_l1Below.g 9 x24 r28 r29 fun r30 r31 r32 =>
  spec_l8Digits.G (IntKind.i64.wrap (r30 - 2)) fun r33 =>
  bif decide ((x22 ++ (⟨#[32]⟩ : ByteArray)).size + r33.size ≤ 9223372036854775807) then rec ((x22 ++ (⟨#[32]⟩ : ByteArray)) ++ r33) (IntKind.i64.wrap (x23 + 1)) r31 r32
  else none)
  else none)
 else k x22 r28 r29
noncomputable def l0 (x24 : List Int) (k : ByteArray → Int → Int → Option Res) : Nat → ByteArray → Int → Int → Int → Option Res
 | 0, _, _, _, _ => none
 | n + 1, x22, x23, x25, x26 => l0s x24 (fun x22 x23 x25 x26 => l0 x24 k n x22 x23 x25 x26) k x22 x23 x25 x26
noncomputable def o0 (x24 : List Int) (y1 : ByteArray) (y3 y4 : Int) : St := ⟨mkT 46 [(0, one (.bp 0 0)), (5, one (.str y1))], [], [(0, [.tr 2 2 [.int .u8] (.ints x24), .int .i64 y3, .int .i64 y4])]⟩
noncomputable def p0 (K : Res → Option Res) : List Lf → (St → Option Res) → Option Res
 | [.s x22, .i x23, .q (.ints x24), .i x25, .i x26], k => l0 x24 (fun y1 y3 y4 => k (o0 x24 y1 y3 y4)) fuel x22 x23 x25 x26
 | _, _ => none
noncomputable def os (z : Z_spec_l8DrawOperand) : List (FuncId × St × (List Lf → (Res → Option Res) → Option Res)) := [spec_l1Once.con, spec_l8DrawLine.conz z.2, spec_l1Pick.con, spec_l1DrawNum.con, spec_l8Digits.con, spec_l1Below.con]
noncomputable def X (z : Z_spec_l8DrawOperand) (K : Res → Option Res) : Ctx := { Γ := Γ0, orc := orcOf (os z), io := [], share := [], opn := [], shr := [], bun := [], cut := [], own := [], cin := [(0, ⟨[0, 5, 6], [], [0], [], [], []⟩)], cout := [(0, ⟨[0, 5], [], [0], [], [], []⟩)], lp := lpOf [(0, s0 ByteArray.empty 0 [] 0 0, p0 K)], kl := Env.kl, nk := true, eqs := eqs0, byt := byt0, fin := finK fi K }
noncomputable def g (z : Z_spec_l8DrawOperand) (a1 : Int) (a2 : List Int) (a3 a4 : Int) (R : ByteArray → List Int → Int → Int → Option Res) : Option Res :=
 bif decide (0 < a1) then (spec_l1Once.g 4 a2 a3 a4 fun r5 r6 r7 =>
  bif r5 then (z.2 (IntKind.i64.wrap (a1 - 1)) a2 r6 r7 fun r8 r9 r10 r11 =>
   bif decide (2 + r8.size ≤ 9223372036854775807) then (bif decide (((⟨#[40, 32]⟩ : ByteArray) ++ r8).size + 2 ≤ 9223372036854775807) then R (((⟨#[40, 32]⟩ : ByteArray) ++ r8) ++ (⟨#[32, 41]⟩ : ByteArray)) r9 r10 r11
    else none)
   else none)
  else (spec_l1Once.g 3 a2 r6 r7 fun r12 r13 r14 =>
  bif r12 then (spec_l1Pick.g ([(⟨#[65]⟩ : ByteArray), (⟨#[66]⟩ : ByteArray), (⟨#[67]⟩ : ByteArray)] : List ByteArray) a2 r13 r14 fun r15 r16 r17 =>
   R r15 a2 r16 r17)
  else (spec_l1DrawNum.g a2 r13 r14 fun r18 r19 r20 =>
  spec_l8Digits.G r18 fun r21 =>
  l0 a2 (fun y34 y35 y36 =>
  spec_l1Once.g 4 a2 y35 y36 fun r37 r38 r39 =>
  bif r37 then (spec_l1Pick.g ([(⟨#[50]⟩ : ByteArray), (⟨#[51]⟩ : ByteArray), (⟨#[49]⟩ : ByteArray), (⟨#[48]⟩ : ByteArray), (⟨#[50, 32, 50]⟩ : ByteArray), (⟨#[50, 32, 51]⟩ : ByteArray)] : List ByteArray) a2 r38 r39 fun r40 r41 r42 =>
   R r40 a2 r41 r42)
  else R y34 a2 r38 r39) fuel r21 0 r19 r20)))
 else (spec_l1Once.g 3 a2 a3 a4 fun r43 r44 r45 =>
 bif r43 then (spec_l1Pick.g ([(⟨#[65]⟩ : ByteArray), (⟨#[66]⟩ : ByteArray), (⟨#[67]⟩ : ByteArray)] : List ByteArray) a2 r44 r45 fun r46 r47 r48 =>
  R r46 a2 r47 r48)
 else (spec_l1DrawNum.g a2 r44 r45 fun r49 r50 r51 =>
 spec_l8Digits.G r49 fun r52 =>
 l0 a2 (fun y53 y54 y55 =>
 spec_l1Once.g 4 a2 y54 y55 fun r56 r57 r58 =>
 bif r56 then (spec_l1Pick.g ([(⟨#[50]⟩ : ByteArray), (⟨#[51]⟩ : ByteArray), (⟨#[49]⟩ : ByteArray), (⟨#[48]⟩ : ByteArray), (⟨#[50, 32, 50]⟩ : ByteArray), (⟨#[50, 32, 51]⟩ : ByteArray)] : List ByteArray) a2 r57 r58 fun r59 r60 r61 =>
  R r59 a2 r60 r61)
 else R y53 a2 r57 r58) fuel r52 0 r50 r51))
theorem cx (z : Z_spec_l8DrawOperand) (hz : Gd_spec_l8DrawOperand z) (K : Res → Option Res) : CtxOk Go.Proofs.Try.prog Γ0 byt0 eqs0 (X z K) (os z) := ⟨rfl, rfl, rfl, (fun p hp => by
 rcases List.mem_cons.1 hp with rfl | hp
 ·exact spec_l1Once.ok
 rcases List.mem_cons.1 hp with rfl | hp
 ·exact hz.2
 rcases List.mem_cons.1 hp with rfl | hp
 ·exact spec_l1Pick.ok
 rcases List.mem_cons.1 hp with rfl | hp
 ·exact spec_l1DrawNum.ok
 rcases List.mem_cons.1 hp with rfl | hp
 ·exact spec_l8Digits.okG
 rcases List.mem_cons.1 hp with rfl | hp
 ·exact spec_l1Below.ok
 cases hp), rfl, rfl, rfl⟩
theorem t0 (z : Z_spec_l8DrawOperand) (K : Res → Option Res) (k : St → Option Res) (it : St → (St → Option Res) → Option Res) (x22 : ByteArray) (x23 : Int) (x24 : List Int) (x25 x26 : Int) : iterS (X z K) 0 b0 it (s0 x22 x23 x24 x25 x26) k = l0s x24 (fun x22 x23 x25 x26 => it (s0 x22 x23 x24 x25 x26) k) (fun y1 y3 y4 => k (o0 x24 y1 y3 y4)) x22 x23 x25 x26 := by kernel_rfl
theorem i0 (z : Z_spec_l8DrawOperand) (K : Res → Option Res) (k : St → Option Res) (x24 : List Int) : ∀ (n : Nat) (x22 : ByteArray) (x23 x25 x26 : Int), iter (X z K) 0 b0 n (s0 x22 x23 x24 x25 x26) k = l0 x24 (fun y1 y3 y4 => k (o0 x24 y1 y3 y4)) n x22 x23 x25 x26
 | 0, _, _, _, _ => rfl
 | n + 1, x22, x23, x25, x26 => by
  rw [iter_succ, t0 z, show (fun x22 x23 x25 x26 => iter (X z K) 0 b0 n (s0 x22 x23 x24 x25 x26) k) = (fun x22 x23 x25 x26 => l0 x24 (fun y1 y3 y4 => k (o0 x24 y1 y3 y4)) n x22 x23 x25 x26) from funext fun x22 => funext fun x23 => funext fun x25 => funext fun x26 => i0 z K k x24 n x22 x23 x25 x26]; rfl
theorem v0 {K : Res → Option Res} {l : List Lf} {k : St → Option Res} {r : Res} (h : p0 K l k = some r) : ∃ x22 x23 x24 x25 x26, l = [.s x22, .i x23, .q (.ints x24), .i x25, .i x26] ∧ l0 x24 (fun y1 y3 y4 => k (o0 x24 y1 y3 y4)) fuel x22 x23 x25 x26 = some r := by
 unfold p0 at h; split at h
 ·exact ⟨_, _, _, _, _, rfl, h⟩
 ·cases h
theorem w0 (z : Z_spec_l8DrawOperand) (hz : Gd_spec_l8DrawOperand z) (K : Res → Option Res) : LpSound Go.Proofs.Try.prog (X z K) 0 b0 := lp_ok (((cx z hz) K).ok laid) (by rw [show loopsOf b0 = [] from by kernel_rfl]; intro p hp; cases hp) rfl fun p hp hid => by
 rcases List.mem_cons.1 hp with rfl | hp
 ·intro st k r h1 h2; obtain ⟨x22, x23, x24, x25, x26, e, h⟩ := v0 (K := K) h2; have := St.like_eq (y := s0 x22 x23 x24 x25 x26) h1 (by kernel_rfl) e; subst this; exact ⟨fuel, (i0 z K k x24 fuel x22 x23 x25 x26).trans h⟩
 cases hp
theorem tie (z : Z_spec_l8DrawOperand) (K : Res → Option Res) (a1 : Int) (a2 : List Int) (a3 a4 : Int) : exec (X z K) c (entry 46 [one (.bp 0 0), one (.int .i64 a1)] [] [[.tr 2 2 [.int .u8] (.ints a2), .int .i64 a3, .int .i64 a4]]) (endK (X z K)) = (g z) a1 a2 a3 a4 (fun r1 r2 r3 r4 => K (m r1 r2 r3 r4)) := by kernel_rfl
theorem runv (z : Z_spec_l8DrawOperand) {l : List Lf} {K : Res → Option Res} {r : Res} (h : runz (g z) l K = some r) : ∃ a1 a2 a3 a4, l = [.i a1, .q (.ints a2), .i a3, .i a4] ∧ (g z) a1 a2 a3 a4 (fun r1 r2 r3 r4 => K (m r1 r2 r3 r4)) = some r := by
 unfold runz at h; split at h
 ·exact ⟨_, _, _, _, rfl, h⟩
 ·cases h
theorem ok (z : Z_spec_l8DrawOperand) (hz : Gd_spec_l8DrawOperand z) : Con Go.Proofs.Try.prog (conz (g z)) := con_of (fn := Go.Proofs.Try.f118) (c := c) (Fi := fi) (X := X z) (fun_of laid (by kernel_rfl) (by kernel_rfl) (by kernel_rfl) rfl (by kernel_rfl) (by kernel_rfl) (cx z hz) (fun _ => rfl) (fun _ => rfl) (fun K => by
 rw [show loopsOf c = [(0, b0)] from by kernel_rfl]; intro p hp
 rcases List.mem_cons.1 hp with rfl | hp
 ·exact w0 z hz K
 cases hp)) fun xs rows boxes K r hl hr => by
 obtain ⟨a1, a2, a3, a4, e, h⟩ := runv z hr
 have := St.like_eq (y := a a1 a2 a3 a4) hl (by kernel_rfl) e
 obtain ⟨rfl, rfl, rfl⟩ := argSt_inj this
 exact (tie z K a1 a2 a3 a4).trans h
end spec_l8DrawOperand
namespace spec_l8DrawLine
noncomputable def os (z : Z_spec_l8DrawOperand) : List (FuncId × St × (List Lf → (Res → Option Res) → Option Res)) := [spec_l8DrawOperand.conz z.1, spec_l1Below.con, spec_l1Pick.con, spec_l8DrawLine.conz z.2, spec_l8DrawFun.con]
noncomputable def X (z : Z_spec_l8DrawOperand) (K : Res → Option Res) : Ctx := { Γ := Γ0, orc := orcOf (os z), io := [], share := [], opn := [], shr := [], bun := [], cut := [], own := [], cin := [], cout := [], lp := lpOf [], kl := Env.kl, nk := true, eqs := eqs0, byt := byt0, fin := finK fi K }
noncomputable def g (z : Z_spec_l8DrawOperand) (a1 : Int) (a2 : List Int) (a3 a4 : Int) (R : ByteArray → List Int → Int → Int → Option Res) : Option Res :=
 bif decide (a1 ≤ 0) then (z.1 0 a2 a3 a4 fun r5 r6 r7 r8 =>
  R r5 r6 r7 r8)
 else (spec_l1Below.g 8 a2 a3 a4 fun r9 r10 r11 =>
 bif (r9 == 0) then (spec_l1Pick.g ([(⟨#[65]⟩ : ByteArray), (⟨#[66]⟩ : ByteArray), (⟨#[67]⟩ : ByteArray)] : List ByteArray) a2 r10 r11 fun r12 r13 r14 =>
  bif decide (r12.size + 3 ≤ 9223372036854775807) then (z.2 (IntKind.i64.wrap (a1 - 1)) a2 r13 r14 fun r15 r16 r17 r18 =>
   bif decide ((r12 ++ (⟨#[32, 58, 32]⟩ : ByteArray)).size + r15.size ≤ 9223372036854775807) then R ((r12 ++ (⟨#[32, 58, 32]⟩ : ByteArray)) ++ r15) r16 r17 r18
   else none)
  else none)
 else bif (r9 == 1) then (spec_l8DrawFun.g false a2 r10 r11 fun r19 r20 r21 =>
  bif decide (r19.size + 1 ≤ 9223372036854775807) then (z.2 (IntKind.i64.wrap (a1 - 1)) a2 r20 r21 fun r22 r23 r24 r25 =>
   bif decide ((r19 ++ (⟨#[32]⟩ : ByteArray)).size + r22.size ≤ 9223372036854775807) then R ((r19 ++ (⟨#[32]⟩ : ByteArray)) ++ r22) r23 r24 r25
   else none)
  else none)
 else bif (r9 == 2) then (spec_l8DrawFun.g false a2 r10 r11 fun r26 r27 r28 =>
  bif decide (r26.size + 1 ≤ 9223372036854775807) then (z.2 (IntKind.i64.wrap (a1 - 1)) a2 r27 r28 fun r29 r30 r31 r32 =>
   bif decide ((r26 ++ (⟨#[32]⟩ : ByteArray)).size + r29.size ≤ 9223372036854775807) then R ((r26 ++ (⟨#[32]⟩ : ByteArray)) ++ r29) r30 r31 r32
   else none)
  else none)
 else bif (r9 == 3) then (z.1 (IntKind.i64.wrap (a1 - 1)) a2 r10 r11 fun r33 r34 r35 r36 =>
  bif decide (r33.size + 1 ≤ 9223372036854775807) then (spec_l8DrawFun.g true r34 r35 r36 fun r37 r38 r39 =>
   bif decide ((r33 ++ (⟨#[32]⟩ : ByteArray)).size + r37.size ≤ 9223372036854775807) then (bif decide (((r33 ++ (⟨#[32]⟩ : ByteArray)) ++ r37).size + 1 ≤ 9223372036854775807) then (z.2 (IntKind.i64.wrap (a1 - 1)) r34 r38 r39 fun r40 r41 r42 r43 =>
    bif decide ((((r33 ++ (⟨#[32]⟩ : ByteArray)) ++ r37) ++ (⟨#[32]⟩ : ByteArray)).size + r40.size ≤ 9223372036854775807) then R ((((r33 ++ (⟨#[32]⟩ : ByteArray)) ++ r37) ++ (⟨#[32]⟩ : ByteArray)) ++ r40) r41 r42 r43
    else none)
    else none)
   else none)
  else none)
 else bif (r9 == 4) then (z.1 (IntKind.i64.wrap (a1 - 1)) a2 r10 r11 fun r44 r45 r46 r47 =>
  bif decide (r44.size + 1 ≤ 9223372036854775807) then (spec_l8DrawFun.g true r45 r46 r47 fun r48 r49 r50 =>
   bif decide ((r44 ++ (⟨#[32]⟩ : ByteArray)).size + r48.size ≤ 9223372036854775807) then (bif decide (((r44 ++ (⟨#[32]⟩ : ByteArray)) ++ r48).size + 1 ≤ 9223372036854775807) then (z.2 (IntKind.i64.wrap (a1 - 1)) r45 r49 r50 fun r51 r52 r53 r54 =>
    bif decide ((((r44 ++ (⟨#[32]⟩ : ByteArray)) ++ r48) ++ (⟨#[32]⟩ : ByteArray)).size + r51.size ≤ 9223372036854775807) then R ((((r44 ++ (⟨#[32]⟩ : ByteArray)) ++ r48) ++ (⟨#[32]⟩ : ByteArray)) ++ r51) r52 r53 r54
    else none)
    else none)
   else none)
  else none)
 else bif (r9 == 5) then (z.1 (IntKind.i64.wrap (a1 - 1)) a2 r10 r11 fun r55 r56 r57 r58 =>
  bif decide (r55.size + 1 ≤ 9223372036854775807) then (spec_l8DrawFun.g true r56 r57 r58 fun r59 r60 r61 =>
   bif decide ((r55 ++ (⟨#[32]⟩ : ByteArray)).size + r59.size ≤ 9223372036854775807) then (bif decide (((r55 ++ (⟨#[32]⟩ : ByteArray)) ++ r59).size + 1 ≤ 9223372036854775807) then (z.2 (IntKind.i64.wrap (a1 - 1)) r56 r60 r61 fun r62 r63 r64 r65 =>
    bif decide ((((r55 ++ (⟨#[32]⟩ : ByteArray)) ++ r59) ++ (⟨#[32]⟩ : ByteArray)).size + r62.size ≤ 9223372036854775807) then R ((((r55 ++ (⟨#[32]⟩ : ByteArray)) ++ r59) ++ (⟨#[32]⟩ : ByteArray)) ++ r62) r63 r64 r65
    else none)
    else none)
   else none)
  else none)
 else bif (r9 == 6) then (spec_l1Pick.g ([(⟨#[43, 32, 47, 32, 105, 32, 53]⟩ : ByteArray), (⟨#[50, 32, 51, 32, 35, 32, 105, 32, 54]⟩ : ByteArray), (⟨#[65, 32, 58, 32, 105, 32, 52]⟩ : ByteArray), (⟨#[65, 32, 43, 32, 65, 32, 58, 32, 105, 32, 51]⟩ : ByteArray), (⟨#[40, 32, 105, 32, 51, 32, 41, 32, 111, 32, 42, 32, 105, 32, 52]⟩ : ByteArray), (⟨#[65, 32, 43, 32, 46, 32, 42, 32, 66]⟩ : ByteArray), (⟨#[66, 32, 58, 32, 50, 32, 50, 32, 35, 32, 105, 32, 52]⟩ : ByteArray), (⟨#[103, 32, 51, 32, 49, 32, 50]⟩ : ByteArray), (⟨#[43, 32, 92, 32, 105, 32, 54]⟩ : ByteArray), (⟨#[49, 32, 43, 32, 65, 32, 42, 32, 50, 32, 45, 32, 65]⟩ : ByteArray), (⟨#[126, 32, 65, 32, 61, 32, 66]⟩ : ByteArray), (⟨#[65, 32, 64, 32, 66]⟩ : ByteArray)] : List ByteArray) a2 r10 r11 fun r66 r67 r68 =>
  R r66 a2 r67 r68)
 else (z.1 (IntKind.i64.wrap (a1 - 1)) a2 r10 r11 fun r69 r70 r71 r72 =>
 R r69 r70 r71 r72))
theorem cx (z : Z_spec_l8DrawOperand) (hz : Gd_spec_l8DrawOperand z) (K : Res → Option Res) : CtxOk Go.Proofs.Try.prog Γ0 byt0 eqs0 (X z K) (os z) := ⟨rfl, rfl, rfl, (fun p hp => by
 rcases List.mem_cons.1 hp with rfl | hp
 ·exact hz.1
 rcases List.mem_cons.1 hp with rfl | hp
 ·exact spec_l1Below.ok
 rcases List.mem_cons.1 hp with rfl | hp
 ·exact spec_l1Pick.ok
 rcases List.mem_cons.1 hp with rfl | hp
 ·exact hz.2
 rcases List.mem_cons.1 hp with rfl | hp
 ·exact spec_l8DrawFun.ok
 cases hp), rfl, rfl, rfl⟩
theorem tie (z : Z_spec_l8DrawOperand) (K : Res → Option Res) (a1 : Int) (a2 : List Int) (a3 a4 : Int) : exec (X z K) c (entry 60 [one (.bp 0 0), one (.int .i64 a1)] [] [[.tr 2 2 [.int .u8] (.ints a2), .int .i64 a3, .int .i64 a4]]) (endK (X z K)) = (g z) a1 a2 a3 a4 (fun r1 r2 r3 r4 => K (m r1 r2 r3 r4)) := by kernel_rfl
theorem runv (z : Z_spec_l8DrawOperand) {l : List Lf} {K : Res → Option Res} {r : Res} (h : runz (g z) l K = some r) : ∃ a1 a2 a3 a4, l = [.i a1, .q (.ints a2), .i a3, .i a4] ∧ (g z) a1 a2 a3 a4 (fun r1 r2 r3 r4 => K (m r1 r2 r3 r4)) = some r := by
 unfold runz at h; split at h
 ·exact ⟨_, _, _, _, rfl, h⟩
 ·cases h
theorem ok (z : Z_spec_l8DrawOperand) (hz : Gd_spec_l8DrawOperand z) : Con Go.Proofs.Try.prog (conz (g z)) := con_of (fn := Go.Proofs.Try.f81) (c := c) (Fi := fi) (X := X z) (fun_of laid (by kernel_rfl) (by kernel_rfl) (by kernel_rfl) rfl (by kernel_rfl) (by kernel_rfl) (cx z hz) (fun _ => rfl) (fun _ => rfl) (fun K => by
 rw [show loopsOf c = [] from by kernel_rfl]; intro p hp
 cases hp)) fun xs rows boxes K r hl hr => by
 obtain ⟨a1, a2, a3, a4, e, h⟩ := runv z hr
 have := St.like_eq (y := a a1 a2 a3 a4) hl (by kernel_rfl) e
 obtain ⟨rfl, rfl, rfl⟩ := argSt_inj this
 exact (tie z K a1 a2 a3 a4).trans h
end spec_l8DrawLine
noncomputable def rec_spec_l8DrawOperand : Nat → Z_spec_l8DrawOperand
 | 0 => ((fun _ _ _ _ _ => none), (fun _ _ _ _ _ => none))
 | n + 1 => (spec_l8DrawOperand.g (rec_spec_l8DrawOperand n), spec_l8DrawLine.g (rec_spec_l8DrawOperand n))
theorem good_spec_l8DrawOperand : ∀ n, Gd_spec_l8DrawOperand (rec_spec_l8DrawOperand n)
 | 0 => ⟨con_none (fun l K => by show spec_l8DrawOperand.runz (fun _ _ _ _ _ => none) l K = none; unfold spec_l8DrawOperand.runz; split <;> rfl), con_none (fun l K => by show spec_l8DrawLine.runz (fun _ _ _ _ _ => none) l K = none; unfold spec_l8DrawLine.runz; split <;> rfl)⟩
 | n + 1 => ⟨spec_l8DrawOperand.ok _ (good_spec_l8DrawOperand n), spec_l8DrawLine.ok _ (good_spec_l8DrawOperand n)⟩
namespace spec_l8DrawOperand
noncomputable def gn (n : Nat) (a1 : Int) (a2 : List Int) (a3 a4 : Int) (R : ByteArray → List Int → Int → Int → Option Res) : Option Res := (rec_spec_l8DrawOperand n).1 a1 a2 a3 a4 R
theorem Gx : ∃ x : T, x = gn fuel := ⟨_, rfl⟩
noncomputable def G : T := Classical.choose Gx
theorem Ge : G = gn fuel := Classical.choose_spec Gx
theorem gn_succ (n : Nat) (a1 : Int) (a2 : List Int) (a3 a4 : Int) (R : ByteArray → List Int → Int → Int → Option Res) : gn (n + 1) a1 a2 a3 a4 R = g (rec_spec_l8DrawOperand n) a1 a2 a3 a4 R := rfl
noncomputable def con : FuncId × St × (List Lf → (Res → Option Res) → Option Res) := conz G
theorem okG : Con Go.Proofs.Try.prog con := by
 unfold con; rw [Ge]; exact (good_spec_l8DrawOperand fuel).1
end spec_l8DrawOperand
namespace spec_l8DrawLine
noncomputable def gn (n : Nat) (a1 : Int) (a2 : List Int) (a3 a4 : Int) (R : ByteArray → List Int → Int → Int → Option Res) : Option Res := (rec_spec_l8DrawOperand n).2 a1 a2 a3 a4 R
theorem Gx : ∃ x : T, x = gn fuel := ⟨_, rfl⟩
noncomputable def G : T := Classical.choose Gx
theorem Ge : G = gn fuel := Classical.choose_spec Gx
theorem gn_succ (n : Nat) (a1 : Int) (a2 : List Int) (a3 a4 : Int) (R : ByteArray → List Int → Int → Int → Option Res) : gn (n + 1) a1 a2 a3 a4 R = g (rec_spec_l8DrawOperand n) a1 a2 a3 a4 R := rfl
noncomputable def con : FuncId × St × (List Lf → (Res → Option Res) → Option Res) := conz G
theorem okG : Con Go.Proofs.Try.prog con := by
 unfold con; rw [Ge]; exact (good_spec_l8DrawOperand fuel).2
end spec_l8DrawLine
-- END GROUP
namespace spec_l1Min
noncomputable def c : Code := bodyOf Go.Proofs.Try.f111
noncomputable def fi : Fin := ⟨Γ0, [(.tmp 4, 3)], [[1]], [], [], []⟩
noncomputable def m (r1 : Int) : Res := ⟨[⟨false, [.int .i64 r1]⟩], [], [], [], []⟩
noncomputable def os : List (FuncId × St × (List Lf → (Res → Option Res) → Option Res)) := []
noncomputable def X (K : Res → Option Res) : Ctx := { Γ := Γ0, orc := orcOf os, io := [], share := [], opn := [], shr := [], bun := [], cut := [], own := [], cin := [], cout := [], lp := lpOf [], kl := Env.kl, nk := true, eqs := eqs0, byt := byt0, fin := finK fi K }
noncomputable def b (a1 a2 : Int) (R : Int → Option Res) : Option Res :=
 bif decide (a1 < a2) then R a1
 else R a2
theorem gx : ∃ x : Int → Int → (Int → Option Res) → Option Res, x = b := ⟨_, rfl⟩
noncomputable def g : Int → Int → (Int → Option Res) → Option Res := Classical.choose gx
theorem e : g = b := Classical.choose_spec gx
noncomputable def run : List Lf → (Res → Option Res) → Option Res
 | [.i a1, .i a2], K => g a1 a2 (fun r1 => K (m r1))
 | _, _ => none
noncomputable def a (a1 a2 : Int) : St := argSt [one (.int .i64 a1), one (.int .i64 a2)] [] []
noncomputable def con : FuncId × St × (List Lf → (Res → Option Res) → Option Res) := (111, a 0 0, run)
theorem cx (K : Res → Option Res) : CtxOk Go.Proofs.Try.prog Γ0 byt0 eqs0 (X K) os := ⟨rfl, rfl, rfl, (fun p hp => by
 cases hp), rfl, rfl, rfl⟩
theorem tie (K : Res → Option Res) (a1 a2 : Int) : exec (X K) c (entry 10 [one (.int .i64 a1), one (.int .i64 a2)] [] []) (endK (X K)) = g a1 a2 (fun r1 => K (m r1)) := Eq.trans (b := b a1 a2 (fun r1 => K (m r1))) (by kernel_rfl) (by rw [e])
theorem runv {l : List Lf} {K : Res → Option Res} {r : Res} (h : run l K = some r) : ∃ a1 a2, l = [.i a1, .i a2] ∧ g a1 a2 (fun r1 => K (m r1)) = some r := by
 unfold run at h; split at h
 ·exact ⟨_, _, rfl, h⟩
 ·cases h
theorem ok : Con Go.Proofs.Try.prog con := con_of (fn := Go.Proofs.Try.f111) (c := c) (Fi := fi) (X := X) (fun_of laid (by kernel_rfl) (by kernel_rfl) (by kernel_rfl) rfl (by kernel_rfl) (by kernel_rfl) cx (fun _ => rfl) (fun _ => rfl) (fun K => by
 rw [show loopsOf c = [] from by kernel_rfl]; intro p hp
 cases hp)) fun xs rows boxes K r hl hr => by
 obtain ⟨a1, a2, e, h⟩ := runv hr
 have := St.like_eq (y := a a1 a2) hl (by kernel_rfl) e
 obtain ⟨rfl, rfl, rfl⟩ := argSt_inj this
 exact (tie K a1 a2).trans h
end spec_l1Min
namespace impl_hasSign
noncomputable def c : Code := bodyOf Go.Proofs.Try.f86
noncomputable def fi : Fin := ⟨Γ0, [(.tmp 4, 4)], [[1]], [], [], []⟩
noncomputable def m (r1 : Bool) : Res := ⟨[⟨false, [.bool r1]⟩], [], [], [], []⟩
noncomputable def b0 : Code := codeAt c [1, 0, 1, 0, 0]
noncomputable def s0 (x3 : ByteArray) (x4 x5 : Int) : St := ⟨mkT 18 [(0, one (.str x3)), (1, one (.int .i64 x4)), (5, one (.int .i64 x5))], [], []⟩
noncomputable def l0s (x3 : ByteArray) (x4 : Int) (rec : Int → Option Res) (k : Option Res) (R : Bool → Option Res) (x5 : Int) : Option Res :=
 bif decide (x5 < (x3.size : Int)) then (bif decide (0 ≤ x5) && decide (x5 < (x3.size : Int)) then (bif (IntKind.i64.wrap ((bytesOf x3).getD x5.toNat 0) == x4) then R true
  else rec (IntKind.i64.wrap (x5 + 1)))
  else none)
 else k
noncomputable def l0 (x3 : ByteArray) (x4 : Int) (k : Option Res) (R : Bool → Option Res) : Nat → Int → Option Res
 | 0, _ => none
 | n + 1, x5 => l0s x3 x4 (fun x5 => l0 x3 x4 k R n x5) k R x5
noncomputable def o0 (x3 : ByteArray) (x4 : Int) : St := ⟨mkT 18 [], [], []⟩
noncomputable def p0 (K : Res → Option Res) : List Lf → (St → Option Res) → Option Res
 | [.s x3, .i x4, .i x5], k => l0 x3 x4 (k (o0 x3 x4)) (fun r1 => K (m r1)) fuel x5
 | _, _ => none
noncomputable def os : List (FuncId × St × (List Lf → (Res → Option Res) → Option Res)) := []
noncomputable def X (K : Res → Option Res) : Ctx := { Γ := Γ0, orc := orcOf os, io := [], share := [], opn := [], shr := [], bun := [], cut := [], own := [], cin := [(0, ⟨[0, 1, 5], [], [], [], [], []⟩)], cout := [(0, ⟨[], [], [], [], [], []⟩)], lp := lpOf [(0, s0 ByteArray.empty 0 0, p0 K)], kl := Env.kl, nk := true, eqs := eqs0, byt := byt0, fin := finK fi K }
noncomputable def b (a1 : ByteArray) (a2 : Int) (R : Bool → Option Res) : Option Res :=
 l0 a1 a2 (
 R false) R fuel 0
theorem gx : ∃ x : ByteArray → Int → (Bool → Option Res) → Option Res, x = b := ⟨_, rfl⟩
noncomputable def g : ByteArray → Int → (Bool → Option Res) → Option Res := Classical.choose gx
theorem e : g = b := Classical.choose_spec gx
noncomputable def run : List Lf → (Res → Option Res) → Option Res
 | [.s a1, .i a2], K => g a1 a2 (fun r1 => K (m r1))
 | _, _ => none
noncomputable def a (a1 : ByteArray) (a2 : Int) : St := argSt [one (.str a1), one (.int .i64 a2)] [] []
noncomputable def con : FuncId × St × (List Lf → (Res → Option Res) → Option Res) := (86, a ByteArray.empty 0, run)
theorem cx (K : Res → Option Res) : CtxOk Go.Proofs.Try.prog Γ0 byt0 eqs0 (X K) os := ⟨rfl, rfl, rfl, (fun p hp => by
 cases hp), rfl, rfl, rfl⟩
theorem t0 (K : Res → Option Res) (k : St → Option Res) (it : St → (St → Option Res) → Option Res) (x3 : ByteArray) (x4 x5 : Int) : iterS (X K) 0 b0 it (s0 x3 x4 x5) k = l0s x3 x4 (fun x5 => it (s0 x3 x4 x5) k) (k (o0 x3 x4)) (fun r1 => K (m r1)) x5 := by kernel_rfl
theorem i0 (K : Res → Option Res) (k : St → Option Res) (x3 : ByteArray) (x4 : Int) : ∀ (n : Nat) (x5 : Int), iter (X K) 0 b0 n (s0 x3 x4 x5) k = l0 x3 x4 (k (o0 x3 x4)) (fun r1 => K (m r1)) n x5
 | 0, _ => rfl
 | n + 1, x5 => by
  rw [iter_succ, t0, show (fun x5 => iter (X K) 0 b0 n (s0 x3 x4 x5) k) = (fun x5 => l0 x3 x4 (k (o0 x3 x4)) (fun r1 => K (m r1)) n x5) from funext fun x5 => i0 K k x3 x4 n x5]; rfl
theorem v0 {K : Res → Option Res} {l : List Lf} {k : St → Option Res} {r : Res} (h : p0 K l k = some r) : ∃ x3 x4 x5, l = [.s x3, .i x4, .i x5] ∧ l0 x3 x4 (k (o0 x3 x4)) (fun r1 => K (m r1)) fuel x5 = some r := by
 unfold p0 at h; split at h
 ·exact ⟨_, _, _, rfl, h⟩
 ·cases h
theorem w0 (K : Res → Option Res) : LpSound Go.Proofs.Try.prog (X K) 0 b0 := lp_ok ((cx K).ok laid) (by rw [show loopsOf b0 = [] from by kernel_rfl]; intro p hp; cases hp) rfl fun p hp hid => by
 rcases List.mem_cons.1 hp with rfl | hp
 ·intro st k r h1 h2; obtain ⟨x3, x4, x5, e, h⟩ := v0 (K := K) h2; have := St.like_eq (y := s0 x3 x4 x5) h1 (by kernel_rfl) e; subst this; exact ⟨fuel, (i0 K k x3 x4 fuel x5).trans h⟩
 cases hp
theorem tie (K : Res → Option Res) (a1 : ByteArray) (a2 : Int) : exec (X K) c (entry 18 [one (.str a1), one (.int .i64 a2)] [] []) (endK (X K)) = g a1 a2 (fun r1 => K (m r1)) := Eq.trans (b := b a1 a2 (fun r1 => K (m r1))) (by kernel_rfl) (by rw [e])
theorem runv {l : List Lf} {K : Res → Option Res} {r : Res} (h : run l K = some r) : ∃ a1 a2, l = [.s a1, .i a2] ∧ g a1 a2 (fun r1 => K (m r1)) = some r := by
 unfold run at h; split at h
 ·exact ⟨_, _, rfl, h⟩
 ·cases h
theorem ok : Con Go.Proofs.Try.prog con := con_of (fn := Go.Proofs.Try.f86) (c := c) (Fi := fi) (X := X) (fun_of laid (by kernel_rfl) (by kernel_rfl) (by kernel_rfl) rfl (by kernel_rfl) (by kernel_rfl) cx (fun _ => rfl) (fun _ => rfl) (fun K => by
 rw [show loopsOf c = [(0, b0)] from by kernel_rfl]; intro p hp
 rcases List.mem_cons.1 hp with rfl | hp
 ·exact w0 K
 cases hp)) fun xs rows boxes K r hl hr => by
 obtain ⟨a1, a2, e, h⟩ := runv hr
 have := St.like_eq (y := a a1 a2) hl (by kernel_rfl) e
 obtain ⟨rfl, rfl, rfl⟩ := argSt_inj this
 exact (tie K a1 a2).trans h
end impl_hasSign
namespace impl_within
noncomputable def c : Code := bodyOf Go.Proofs.Try.f37
noncomputable def fi : Fin := ⟨Γ0, [(.tmp 6, 4)], [[1]], [], [], []⟩
noncomputable def m (r1 : Bool) : Res := ⟨[⟨false, [.bool r1]⟩], [], [], [], []⟩
noncomputable def os : List (FuncId × St × (List Lf → (Res → Option Res) → Option Res)) := []
noncomputable def X (K : Res → Option Res) : Ctx := { Γ := Γ0, orc := orcOf os, io := [], share := [], opn := [], shr := [], bun := [], cut := [], own := [], cin := [], cout := [], lp := lpOf [], kl := Env.kl, nk := true, eqs := eqs0, byt := byt0, fin := finK fi K }
noncomputable def b (a1 a2 a3 : Int) (R : Bool → Option Res) : Option Res :=
 bif decide (a2 ≤ a1) then R (decide (a1 ≤ a3))
 else R false
theorem gx : ∃ x : Int → Int → Int → (Bool → Option Res) → Option Res, x = b := ⟨_, rfl⟩
noncomputable def g : Int → Int → Int → (Bool → Option Res) → Option Res := Classical.choose gx
theorem e : g = b := Classical.choose_spec gx
noncomputable def run : List Lf → (Res → Option Res) → Option Res
 | [.i a1, .i a2, .i a3], K => g a1 a2 a3 (fun r1 => K (m r1))
 | _, _ => none
noncomputable def a (a1 a2 a3 : Int) : St := argSt [one (.int .i64 a1), one (.int .i64 a2), one (.int .i64 a3)] [] []
noncomputable def con : FuncId × St × (List Lf → (Res → Option Res) → Option Res) := (37, a 0 0 0, run)
theorem cx (K : Res → Option Res) : CtxOk Go.Proofs.Try.prog Γ0 byt0 eqs0 (X K) os := ⟨rfl, rfl, rfl, (fun p hp => by
 cases hp), rfl, rfl, rfl⟩
theorem tie (K : Res → Option Res) (a1 a2 a3 : Int) : exec (X K) c (entry 15 [one (.int .i64 a1), one (.int .i64 a2), one (.int .i64 a3)] [] []) (endK (X K)) = g a1 a2 a3 (fun r1 => K (m r1)) := Eq.trans (b := b a1 a2 a3 (fun r1 => K (m r1))) (by kernel_rfl) (by rw [e])
theorem runv {l : List Lf} {K : Res → Option Res} {r : Res} (h : run l K = some r) : ∃ a1 a2 a3, l = [.i a1, .i a2, .i a3] ∧ g a1 a2 a3 (fun r1 => K (m r1)) = some r := by
 unfold run at h; split at h
 ·exact ⟨_, _, _, rfl, h⟩
 ·cases h
theorem ok : Con Go.Proofs.Try.prog con := con_of (fn := Go.Proofs.Try.f37) (c := c) (Fi := fi) (X := X) (fun_of laid (by kernel_rfl) (by kernel_rfl) (by kernel_rfl) rfl (by kernel_rfl) (by kernel_rfl) cx (fun _ => rfl) (fun _ => rfl) (fun K => by
 rw [show loopsOf c = [] from by kernel_rfl]; intro p hp
 cases hp)) fun xs rows boxes K r hl hr => by
 obtain ⟨a1, a2, a3, e, h⟩ := runv hr
 have := St.like_eq (y := a a1 a2 a3) hl (by kernel_rfl) e
 obtain ⟨rfl, rfl, rfl⟩ := argSt_inj this
 exact (tie K a1 a2 a3).trans h
end impl_within
namespace impl_NumOk
noncomputable def c : Code := bodyOf Go.Proofs.Try.f109
noncomputable def fi : Fin := ⟨Γ0, [(.tmp 2, 4)], [[1]], [], [], []⟩
noncomputable def m (r1 : Bool) : Res := ⟨[⟨false, [.bool r1]⟩], [], [], [], []⟩
noncomputable def os : List (FuncId × St × (List Lf → (Res → Option Res) → Option Res)) := [impl_within.con]
noncomputable def X (K : Res → Option Res) : Ctx := { Γ := Γ0, orc := orcOf os, io := [], share := [], opn := [], shr := [], bun := [], cut := [], own := [], cin := [], cout := [], lp := lpOf [], kl := Env.kl, nk := true, eqs := eqs0, byt := byt0, fin := finK fi K }
noncomputable def b (a1 : Int) (R : Bool → Option Res) : Option Res :=
 impl_within.g a1 (-1000000000000) 1000000000000 fun r2 =>
 R r2
theorem gx : ∃ x : Int → (Bool → Option Res) → Option Res, x = b := ⟨_, rfl⟩
noncomputable def g : Int → (Bool → Option Res) → Option Res := Classical.choose gx
theorem e : g = b := Classical.choose_spec gx
noncomputable def run : List Lf → (Res → Option Res) → Option Res
 | [.i a1], K => g a1 (fun r1 => K (m r1))
 | _, _ => none
noncomputable def a (a1 : Int) : St := argSt [one (.int .i64 a1)] [] []
noncomputable def con : FuncId × St × (List Lf → (Res → Option Res) → Option Res) := (109, a 0, run)
theorem cx (K : Res → Option Res) : CtxOk Go.Proofs.Try.prog Γ0 byt0 eqs0 (X K) os := ⟨rfl, rfl, rfl, (fun p hp => by
 rcases List.mem_cons.1 hp with rfl | hp
 ·exact impl_within.ok
 cases hp), rfl, rfl, rfl⟩
theorem tie (K : Res → Option Res) (a1 : Int) : exec (X K) c (entry 5 [one (.int .i64 a1)] [] []) (endK (X K)) = g a1 (fun r1 => K (m r1)) := Eq.trans (b := b a1 (fun r1 => K (m r1))) (by kernel_rfl) (by rw [e])
theorem runv {l : List Lf} {K : Res → Option Res} {r : Res} (h : run l K = some r) : ∃ a1, l = [.i a1] ∧ g a1 (fun r1 => K (m r1)) = some r := by
 unfold run at h; split at h
 ·exact ⟨_, rfl, h⟩
 ·cases h
theorem ok : Con Go.Proofs.Try.prog con := con_of (fn := Go.Proofs.Try.f109) (c := c) (Fi := fi) (X := X) (fun_of laid (by kernel_rfl) (by kernel_rfl) (by kernel_rfl) rfl (by kernel_rfl) (by kernel_rfl) cx (fun _ => rfl) (fun _ => rfl) (fun K => by
 rw [show loopsOf c = [] from by kernel_rfl]; intro p hp
 cases hp)) fun xs rows boxes K r hl hr => by
 obtain ⟨a1, e, h⟩ := runv hr
 have := St.like_eq (y := a a1) hl (by kernel_rfl) e
 obtain ⟨rfl, rfl, rfl⟩ := argSt_inj this
 exact (tie K a1).trans h
end impl_NumOk
namespace impl_parser_kind
noncomputable def c : Code := bodyOf Go.Proofs.Try.f90
noncomputable def fi : Fin := ⟨Γ0, [(.tmp 4, 3)], [[1]], [true], [([.sl [.int .i64, .int .i64] 16, .int .i64, .sl [.int .i64, .int .i64, .int .i64, .int .i64, .int .i64, .int .i64, .ints .i64] 72, .bool], [0, 1, 2, 1])], []⟩
noncomputable def m (a2 a3 : List (List Cl)) (a4 : Int) (a5 : Bool) (r1 : Int) : Res := ⟨[⟨false, [.int .i64 r1]⟩], [some ⟨[.int .i64, .int .i64, .int .i64, .int .i64, .int .i64, .int .i64, .ints .i64], .cells a2, true, 0, none⟩], [], [[.tr 2 2 [.int .i64, .int .i64] (.cells a3), .int .i64 a4, .ow 0, .bool a5]], []⟩
noncomputable def os : List (FuncId × St × (List Lf → (Res → Option Res) → Option Res)) := []
noncomputable def X (K : Res → Option Res) : Ctx := { Γ := Γ0, orc := orcOf os, io := [], share := [], opn := [], shr := [], bun := [], cut := [], own := [], cin := [], cout := [], lp := lpOf [], kl := Env.kl, nk := true, eqs := eqs0, byt := byt0, fin := finK fi K }
noncomputable def b (a1 : Int) (a2 a3 : List (List Cl)) (a4 : Int) (a5 : Bool) (R : Int → Option Res) : Option Res :=
 bif decide ((a3.length : Int) ≤ IntKind.i64.wrap (a4 + a1)) then R 0
 else bif decide (0 ≤ IntKind.i64.wrap (a4 + a1)) && decide (IntKind.i64.wrap (a4 + a1) < (a3.length : Int)) then R (((a3.getD ((IntKind.i64.wrap (a4 + a1)).toNat) []).getD 0 (.i 0)).toI)
 else none
theorem gx : ∃ x : Int → List (List Cl) → List (List Cl) → Int → Bool → (Int → Option Res) → Option Res, x = b := ⟨_, rfl⟩
noncomputable def g : Int → List (List Cl) → List (List Cl) → Int → Bool → (Int → Option Res) → Option Res := Classical.choose gx
theorem e : g = b := Classical.choose_spec gx
noncomputable def run : List Lf → (Res → Option Res) → Option Res
 | [.i a1, .q (.cells a2), .q (.cells a3), .i a4, .b a5], K => g a1 a2 a3 a4 a5 (fun r1 => K (m a2 a3 a4 a5 r1))
 | _, _ => none
noncomputable def a (a1 : Int) (a2 a3 : List (List Cl)) (a4 : Int) (a5 : Bool) : St := argSt [one (.bp 0 0), one (.int .i64 a1)] [⟨[.int .i64, .int .i64, .int .i64, .int .i64, .int .i64, .int .i64, .ints .i64], .cells a2, true, 0, none⟩] [[.tr 2 2 [.int .i64, .int .i64] (.cells a3), .int .i64 a4, .ow 0, .bool a5]]
noncomputable def con : FuncId × St × (List Lf → (Res → Option Res) → Option Res) := (90, a 0 [] [] 0 false, run)
theorem cx (K : Res → Option Res) : CtxOk Go.Proofs.Try.prog Γ0 byt0 eqs0 (X K) os := ⟨rfl, rfl, rfl, (fun p hp => by
 cases hp), rfl, rfl, rfl⟩
theorem tie (K : Res → Option Res) (a1 : Int) (a2 a3 : List (List Cl)) (a4 : Int) (a5 : Bool) : exec (X K) c (entry 30 [one (.bp 0 0), one (.int .i64 a1)] [⟨[.int .i64, .int .i64, .int .i64, .int .i64, .int .i64, .int .i64, .ints .i64], .cells a2, true, 0, none⟩] [[.tr 2 2 [.int .i64, .int .i64] (.cells a3), .int .i64 a4, .ow 0, .bool a5]]) (endK (X K)) = g a1 a2 a3 a4 a5 (fun r1 => K (m a2 a3 a4 a5 r1)) := Eq.trans (b := b a1 a2 a3 a4 a5 (fun r1 => K (m a2 a3 a4 a5 r1))) (by kernel_rfl) (by rw [e])
theorem runv {l : List Lf} {K : Res → Option Res} {r : Res} (h : run l K = some r) : ∃ a1 a2 a3 a4 a5, l = [.i a1, .q (.cells a2), .q (.cells a3), .i a4, .b a5] ∧ g a1 a2 a3 a4 a5 (fun r1 => K (m a2 a3 a4 a5 r1)) = some r := by
 unfold run at h; split at h
 ·exact ⟨_, _, _, _, _, rfl, h⟩
 ·cases h
theorem ok : Con Go.Proofs.Try.prog con := con_of (fn := Go.Proofs.Try.f90) (c := c) (Fi := fi) (X := X) (fun_of laid (by kernel_rfl) (by kernel_rfl) (by kernel_rfl) rfl (by kernel_rfl) (by kernel_rfl) cx (fun _ => rfl) (fun _ => rfl) (fun K => by
 rw [show loopsOf c = [] from by kernel_rfl]; intro p hp
 cases hp)) fun xs rows boxes K r hl hr => by
 obtain ⟨a1, a2, a3, a4, a5, e, h⟩ := runv hr
 have := St.like_eq (y := a a1 a2 a3 a4 a5) hl (by kernel_rfl) e
 obtain ⟨rfl, rfl, rfl⟩ := argSt_inj this
 exact (tie K a1 a2 a3 a4 a5).trans h
end impl_parser_kind
namespace impl_parser_sign
noncomputable def c : Code := bodyOf Go.Proofs.Try.f122
noncomputable def fi : Fin := ⟨Γ0, [(.tmp 4, 3)], [[1]], [true], [([.sl [.int .i64, .int .i64] 16, .int .i64, .sl [.int .i64, .int .i64, .int .i64, .int .i64, .int .i64, .int .i64, .ints .i64] 72, .bool], [0, 1, 2, 1])], []⟩
noncomputable def m (a2 a3 : List (List Cl)) (a4 : Int) (a5 : Bool) (r1 : Int) : Res := ⟨[⟨false, [.int .i64 r1]⟩], [some ⟨[.int .i64, .int .i64, .int .i64, .int .i64, .int .i64, .int .i64, .ints .i64], .cells a2, true, 0, none⟩], [], [[.tr 2 2 [.int .i64, .int .i64] (.cells a3), .int .i64 a4, .ow 0, .bool a5]], []⟩
noncomputable def os : List (FuncId × St × (List Lf → (Res → Option Res) → Option Res)) := [impl_parser_kind.con]
noncomputable def X (K : Res → Option Res) : Ctx := { Γ := Γ0, orc := orcOf os, io := [], share := [], opn := [], shr := [], bun := [], cut := [], own := [], cin := [], cout := [], lp := lpOf [], kl := Env.kl, nk := true, eqs := eqs0, byt := byt0, fin := finK fi K }
noncomputable def b (a1 : Int) (a2 a3 : List (List Cl)) (a4 : Int) (a5 : Bool) (R : Int → Option Res) : Option Res :=
 impl_parser_kind.g a1 a2 a3 a4 a5 fun r6 =>
 bif (r6 != 3) then R 0
 else bif decide (0 ≤ IntKind.i64.wrap (a4 + a1)) && decide (IntKind.i64.wrap (a4 + a1) < (a3.length : Int)) then R (((a3.getD ((IntKind.i64.wrap (a4 + a1)).toNat) []).getD 1 (.i 0)).toI)
 else none
theorem gx : ∃ x : Int → List (List Cl) → List (List Cl) → Int → Bool → (Int → Option Res) → Option Res, x = b := ⟨_, rfl⟩
noncomputable def g : Int → List (List Cl) → List (List Cl) → Int → Bool → (Int → Option Res) → Option Res := Classical.choose gx
theorem e : g = b := Classical.choose_spec gx
noncomputable def run : List Lf → (Res → Option Res) → Option Res
 | [.i a1, .q (.cells a2), .q (.cells a3), .i a4, .b a5], K => g a1 a2 a3 a4 a5 (fun r1 => K (m a2 a3 a4 a5 r1))
 | _, _ => none
noncomputable def a (a1 : Int) (a2 a3 : List (List Cl)) (a4 : Int) (a5 : Bool) : St := argSt [one (.bp 0 0), one (.int .i64 a1)] [⟨[.int .i64, .int .i64, .int .i64, .int .i64, .int .i64, .int .i64, .ints .i64], .cells a2, true, 0, none⟩] [[.tr 2 2 [.int .i64, .int .i64] (.cells a3), .int .i64 a4, .ow 0, .bool a5]]
noncomputable def con : FuncId × St × (List Lf → (Res → Option Res) → Option Res) := (122, a 0 [] [] 0 false, run)
theorem cx (K : Res → Option Res) : CtxOk Go.Proofs.Try.prog Γ0 byt0 eqs0 (X K) os := ⟨rfl, rfl, rfl, (fun p hp => by
 rcases List.mem_cons.1 hp with rfl | hp
 ·exact impl_parser_kind.ok
 cases hp), rfl, rfl, rfl⟩
theorem tie (K : Res → Option Res) (a1 : Int) (a2 a3 : List (List Cl)) (a4 : Int) (a5 : Bool) : exec (X K) c (entry 22 [one (.bp 0 0), one (.int .i64 a1)] [⟨[.int .i64, .int .i64, .int .i64, .int .i64, .int .i64, .int .i64, .ints .i64], .cells a2, true, 0, none⟩] [[.tr 2 2 [.int .i64, .int .i64] (.cells a3), .int .i64 a4, .ow 0, .bool a5]]) (endK (X K)) = g a1 a2 a3 a4 a5 (fun r1 => K (m a2 a3 a4 a5 r1)) := Eq.trans (b := b a1 a2 a3 a4 a5 (fun r1 => K (m a2 a3 a4 a5 r1))) (by kernel_rfl) (by rw [e])
theorem runv {l : List Lf} {K : Res → Option Res} {r : Res} (h : run l K = some r) : ∃ a1 a2 a3 a4 a5, l = [.i a1, .q (.cells a2), .q (.cells a3), .i a4, .b a5] ∧ g a1 a2 a3 a4 a5 (fun r1 => K (m a2 a3 a4 a5 r1)) = some r := by
 unfold run at h; split at h
 ·exact ⟨_, _, _, _, _, rfl, h⟩
 ·cases h
theorem ok : Con Go.Proofs.Try.prog con := con_of (fn := Go.Proofs.Try.f122) (c := c) (Fi := fi) (X := X) (fun_of laid (by kernel_rfl) (by kernel_rfl) (by kernel_rfl) rfl (by kernel_rfl) (by kernel_rfl) cx (fun _ => rfl) (fun _ => rfl) (fun K => by
 rw [show loopsOf c = [] from by kernel_rfl]; intro p hp
 cases hp)) fun xs rows boxes K r hl hr => by
 obtain ⟨a1, a2, a3, a4, a5, e, h⟩ := runv hr
 have := St.like_eq (y := a a1 a2 a3 a4 a5) hl (by kernel_rfl) e
 obtain ⟨rfl, rfl, rfl⟩ := argSt_inj this
 exact (tie K a1 a2 a3 a4 a5).trans h
end impl_parser_sign
namespace impl_parser_function
noncomputable def c : Code := bodyOf Go.Proofs.Try.f92
noncomputable def fi : Fin := ⟨Γ0, [(.cell 2 40, 40)], [[1, 1, 1]], [true], [([.sl [.int .i64, .int .i64] 16, .int .i64, .sl [.int .i64, .int .i64, .int .i64, .int .i64, .int .i64, .int .i64, .ints .i64] 72, .bool], [0, 1, 2, 1])], []⟩
noncomputable def m (a1 a2 : List (List Cl)) (r1 r2 r3 r6 : Int) (r7 : Bool) : Res := ⟨[⟨true, [.int .i64 r1, .int .i64 r2, .int .i64 r3]⟩], [some ⟨[.int .i64, .int .i64, .int .i64, .int .i64, .int .i64, .int .i64, .ints .i64], .cells a1, true, 0, none⟩], [], [[.tr 2 2 [.int .i64, .int .i64] (.cells a2), .int .i64 r6, .ow 0, .bool r7]], []⟩
noncomputable def os : List (FuncId × St × (List Lf → (Res → Option Res) → Option Res)) := [impl_parser_sign.con]
noncomputable def X (K : Res → Option Res) : Ctx := { Γ := Γ0, orc := orcOf os, io := [], share := [], opn := [], shr := [], bun := [], cut := [], own := [], cin := [], cout := [], lp := lpOf [], kl := Env.kl, nk := true, eqs := eqs0, byt := byt0, fin := finK fi K }
noncomputable def b (a1 a2 : List (List Cl)) (a3 : Int) (a4 : Bool) (R : Int → Int → Int → Int → Bool → Option Res) : Option Res :=
 impl_parser_sign.g 0 a1 a2 a3 a4 fun r5 =>
 impl_parser_sign.g 1 a1 a2 a3 a4 fun r6 =>
 impl_parser_sign.g 2 a1 a2 a3 a4 fun r7 =>
 bif (r5 == 0) then R r5 0 0 (IntKind.i64.wrap (a3 + 1)) true
 else bif (r5 == 111) then (bif (r6 != 0) then R r6 111 0 (IntKind.i64.wrap (a3 + 2)) a4
  else bif (r6 == 47) then R r5 r6 0 (IntKind.i64.wrap (a3 + 2)) a4
  else bif (r6 == 92) then R r5 r6 0 (IntKind.i64.wrap (a3 + 2)) a4
  else bif (r6 == 46) then (bif (r7 != 0) then R r5 46 r7 (IntKind.i64.wrap (a3 + 3)) a4
   else R r5 0 0 (IntKind.i64.wrap (a3 + 1)) a4)
  else R r5 0 0 (IntKind.i64.wrap (a3 + 1)) a4)
 else bif (r6 == 47) then R r5 r6 0 (IntKind.i64.wrap (a3 + 2)) a4
 else bif (r6 == 92) then R r5 r6 0 (IntKind.i64.wrap (a3 + 2)) a4
 else bif (r6 == 46) then (bif (r7 != 0) then R r5 46 r7 (IntKind.i64.wrap (a3 + 3)) a4
  else R r5 0 0 (IntKind.i64.wrap (a3 + 1)) a4)
 else R r5 0 0 (IntKind.i64.wrap (a3 + 1)) a4
theorem gx : ∃ x : List (List Cl) → List (List Cl) → Int → Bool → (Int → Int → Int → Int → Bool → Option Res) → Option Res, x = b := ⟨_, rfl⟩
noncomputable def g : List (List Cl) → List (List Cl) → Int → Bool → (Int → Int → Int → Int → Bool → Option Res) → Option Res := Classical.choose gx
theorem e : g = b := Classical.choose_spec gx
noncomputable def run : List Lf → (Res → Option Res) → Option Res
 | [.q (.cells a1), .q (.cells a2), .i a3, .b a4], K => g a1 a2 a3 a4 (fun r1 r2 r3 r6 r7 => K (m a1 a2 r1 r2 r3 r6 r7))
 | _, _ => none
noncomputable def a (a1 a2 : List (List Cl)) (a3 : Int) (a4 : Bool) : St := argSt [one (.bp 0 0)] [⟨[.int .i64, .int .i64, .int .i64, .int .i64, .int .i64, .int .i64, .ints .i64], .cells a1, true, 0, none⟩] [[.tr 2 2 [.int .i64, .int .i64] (.cells a2), .int .i64 a3, .ow 0, .bool a4]]
noncomputable def con : FuncId × St × (List Lf → (Res → Option Res) → Option Res) := (92, a [] [] 0 false, run)
theorem cx (K : Res → Option Res) : CtxOk Go.Proofs.Try.prog Γ0 byt0 eqs0 (X K) os := ⟨rfl, rfl, rfl, (fun p hp => by
 rcases List.mem_cons.1 hp with rfl | hp
 ·exact impl_parser_sign.ok
 cases hp), rfl, rfl, rfl⟩
theorem tie (K : Res → Option Res) (a1 a2 : List (List Cl)) (a3 : Int) (a4 : Bool) : exec (X K) c (entry 60 [one (.bp 0 0)] [⟨[.int .i64, .int .i64, .int .i64, .int .i64, .int .i64, .int .i64, .ints .i64], .cells a1, true, 0, none⟩] [[.tr 2 2 [.int .i64, .int .i64] (.cells a2), .int .i64 a3, .ow 0, .bool a4]]) (endK (X K)) = g a1 a2 a3 a4 (fun r1 r2 r3 r6 r7 => K (m a1 a2 r1 r2 r3 r6 r7)) := Eq.trans (b := b a1 a2 a3 a4 (fun r1 r2 r3 r6 r7 => K (m a1 a2 r1 r2 r3 r6 r7))) (by kernel_rfl) (by rw [e])
theorem runv {l : List Lf} {K : Res → Option Res} {r : Res} (h : run l K = some r) : ∃ a1 a2 a3 a4, l = [.q (.cells a1), .q (.cells a2), .i a3, .b a4] ∧ g a1 a2 a3 a4 (fun r1 r2 r3 r6 r7 => K (m a1 a2 r1 r2 r3 r6 r7)) = some r := by
 unfold run at h; split at h
 ·exact ⟨_, _, _, _, rfl, h⟩
 ·cases h
theorem ok : Con Go.Proofs.Try.prog con := con_of (fn := Go.Proofs.Try.f92) (c := c) (Fi := fi) (X := X) (fun_of laid (by kernel_rfl) (by kernel_rfl) (by kernel_rfl) rfl (by kernel_rfl) (by kernel_rfl) cx (fun _ => rfl) (fun _ => rfl) (fun K => by
 rw [show loopsOf c = [] from by kernel_rfl]; intro p hp
 cases hp)) fun xs rows boxes K r hl hr => by
 obtain ⟨a1, a2, a3, a4, e, h⟩ := runv hr
 have := St.like_eq (y := a a1 a2 a3 a4) hl (by kernel_rfl) e
 obtain ⟨rfl, rfl, rfl⟩ := argSt_inj this
 exact (tie K a1 a2 a3 a4).trans h
end impl_parser_function
namespace impl_oneSign
noncomputable def c : Code := bodyOf Go.Proofs.Try.f101
noncomputable def fi : Fin := ⟨Γ0, [(.tmp 2, 4)], [[1]], [], [], []⟩
noncomputable def m (r1 : Bool) : Res := ⟨[⟨false, [.bool r1]⟩], [], [], [], []⟩
noncomputable def os : List (FuncId × St × (List Lf → (Res → Option Res) → Option Res)) := [impl_hasSign.con]
noncomputable def X (K : Res → Option Res) : Ctx := { Γ := Γ0, orc := orcOf os, io := [], share := [], opn := [], shr := [], bun := [], cut := [], own := [], cin := [], cout := [], lp := lpOf [], kl := Env.kl, nk := true, eqs := eqs0, byt := byt0, fin := finK fi K }
noncomputable def b (a1 : Int) (R : Bool → Option Res) : Option Res :=
 impl_hasSign.g (⟨#[43, 45, 42, 124, 126]⟩ : ByteArray) a1 fun r2 =>
 R r2
theorem gx : ∃ x : Int → (Bool → Option Res) → Option Res, x = b := ⟨_, rfl⟩
noncomputable def g : Int → (Bool → Option Res) → Option Res := Classical.choose gx
theorem e : g = b := Classical.choose_spec gx
noncomputable def run : List Lf → (Res → Option Res) → Option Res
 | [.i a1], K => g a1 (fun r1 => K (m r1))
 | _, _ => none
noncomputable def a (a1 : Int) : St := argSt [one (.int .i64 a1)] [] []
noncomputable def con : FuncId × St × (List Lf → (Res → Option Res) → Option Res) := (101, a 0, run)
theorem cx (K : Res → Option Res) : CtxOk Go.Proofs.Try.prog Γ0 byt0 eqs0 (X K) os := ⟨rfl, rfl, rfl, (fun p hp => by
 rcases List.mem_cons.1 hp with rfl | hp
 ·exact impl_hasSign.ok
 cases hp), rfl, rfl, rfl⟩
theorem tie (K : Res → Option Res) (a1 : Int) : exec (X K) c (entry 5 [one (.int .i64 a1)] [] []) (endK (X K)) = g a1 (fun r1 => K (m r1)) := Eq.trans (b := b a1 (fun r1 => K (m r1))) (by kernel_rfl) (by rw [e])
theorem runv {l : List Lf} {K : Res → Option Res} {r : Res} (h : run l K = some r) : ∃ a1, l = [.i a1] ∧ g a1 (fun r1 => K (m r1)) = some r := by
 unfold run at h; split at h
 ·exact ⟨_, rfl, h⟩
 ·cases h
theorem ok : Con Go.Proofs.Try.prog con := con_of (fn := Go.Proofs.Try.f101) (c := c) (Fi := fi) (X := X) (fun_of laid (by kernel_rfl) (by kernel_rfl) (by kernel_rfl) rfl (by kernel_rfl) (by kernel_rfl) cx (fun _ => rfl) (fun _ => rfl) (fun K => by
 rw [show loopsOf c = [] from by kernel_rfl]; intro p hp
 cases hp)) fun xs rows boxes K r hl hr => by
 obtain ⟨a1, e, h⟩ := runv hr
 have := St.like_eq (y := a a1) hl (by kernel_rfl) e
 obtain ⟨rfl, rfl, rfl⟩ := argSt_inj this
 exact (tie K a1).trans h
end impl_oneSign
namespace impl_twoSign
noncomputable def c : Code := bodyOf Go.Proofs.Try.f102
noncomputable def fi : Fin := ⟨Γ0, [(.tmp 2, 4)], [[1]], [], [], []⟩
noncomputable def m (r1 : Bool) : Res := ⟨[⟨false, [.bool r1]⟩], [], [], [], []⟩
noncomputable def os : List (FuncId × St × (List Lf → (Res → Option Res) → Option Res)) := [impl_hasSign.con]
noncomputable def X (K : Res → Option Res) : Ctx := { Γ := Γ0, orc := orcOf os, io := [], share := [], opn := [], shr := [], bun := [], cut := [], own := [], cin := [], cout := [], lp := lpOf [], kl := Env.kl, nk := true, eqs := eqs0, byt := byt0, fin := finK fi K }
noncomputable def b (a1 : Int) (R : Bool → Option Res) : Option Res :=
 impl_hasSign.g (⟨#[43, 45, 42, 37, 124, 38, 94, 61, 60, 62]⟩ : ByteArray) a1 fun r2 =>
 R r2
theorem gx : ∃ x : Int → (Bool → Option Res) → Option Res, x = b := ⟨_, rfl⟩
noncomputable def g : Int → (Bool → Option Res) → Option Res := Classical.choose gx
theorem e : g = b := Classical.choose_spec gx
noncomputable def run : List Lf → (Res → Option Res) → Option Res
 | [.i a1], K => g a1 (fun r1 => K (m r1))
 | _, _ => none
noncomputable def a (a1 : Int) : St := argSt [one (.int .i64 a1)] [] []
noncomputable def con : FuncId × St × (List Lf → (Res → Option Res) → Option Res) := (102, a 0, run)
theorem cx (K : Res → Option Res) : CtxOk Go.Proofs.Try.prog Γ0 byt0 eqs0 (X K) os := ⟨rfl, rfl, rfl, (fun p hp => by
 rcases List.mem_cons.1 hp with rfl | hp
 ·exact impl_hasSign.ok
 cases hp), rfl, rfl, rfl⟩
theorem tie (K : Res → Option Res) (a1 : Int) : exec (X K) c (entry 5 [one (.int .i64 a1)] [] []) (endK (X K)) = g a1 (fun r1 => K (m r1)) := Eq.trans (b := b a1 (fun r1 => K (m r1))) (by kernel_rfl) (by rw [e])
theorem runv {l : List Lf} {K : Res → Option Res} {r : Res} (h : run l K = some r) : ∃ a1, l = [.i a1] ∧ g a1 (fun r1 => K (m r1)) = some r := by
 unfold run at h; split at h
 ·exact ⟨_, rfl, h⟩
 ·cases h
theorem ok : Con Go.Proofs.Try.prog con := con_of (fn := Go.Proofs.Try.f102) (c := c) (Fi := fi) (X := X) (fun_of laid (by kernel_rfl) (by kernel_rfl) (by kernel_rfl) rfl (by kernel_rfl) (by kernel_rfl) cx (fun _ => rfl) (fun _ => rfl) (fun K => by
 rw [show loopsOf c = [] from by kernel_rfl]; intro p hp
 cases hp)) fun xs rows boxes K r hl hr => by
 obtain ⟨a1, e, h⟩ := runv hr
 have := St.like_eq (y := a a1) hl (by kernel_rfl) e
 obtain ⟨rfl, rfl, rfl⟩ := argSt_inj this
 exact (tie K a1).trans h
end impl_twoSign
namespace impl_FunOne
noncomputable def c : Code := bodyOf Go.Proofs.Try.f70
noncomputable def fi : Fin := ⟨Γ0, [(.tmp 2, 4)], [[1]], [], [], []⟩
noncomputable def m (r1 : Bool) : Res := ⟨[⟨false, [.bool r1]⟩], [], [], [], []⟩
noncomputable def os : List (FuncId × St × (List Lf → (Res → Option Res) → Option Res)) := [impl_oneSign.con, impl_hasSign.con, impl_twoSign.con]
noncomputable def X (K : Res → Option Res) : Ctx := { Γ := Γ0, orc := orcOf os, io := [], share := [], opn := [], shr := [], bun := [], cut := [], own := [], cin := [], cout := [], lp := lpOf [], kl := Env.kl, nk := true, eqs := eqs0, byt := byt0, fin := finK fi K }
noncomputable def b (a1 a2 a3 : Int) (R : Bool → Option Res) : Option Res :=
 bif (a2 == 0) then (bif (a3 == 0) then (impl_oneSign.g a1 fun r4 =>
  bif r4 then R true
  else (impl_hasSign.g (⟨#[105, 35, 44, 114, 122, 103]⟩ : ByteArray) a1 fun r5 =>
  R r5))
  else R false)
 else bif (a2 == 47) then (bif (a3 == 0) then (impl_twoSign.g a1 fun r6 =>
  R r6)
  else R false)
 else bif (a2 == 92) then (bif (a3 == 0) then (impl_twoSign.g a1 fun r7 =>
  R r7)
  else R false)
 else R false
theorem gx : ∃ x : Int → Int → Int → (Bool → Option Res) → Option Res, x = b := ⟨_, rfl⟩
noncomputable def g : Int → Int → Int → (Bool → Option Res) → Option Res := Classical.choose gx
theorem e : g = b := Classical.choose_spec gx
noncomputable def run : List Lf → (Res → Option Res) → Option Res
 | [.i a1, .i a2, .i a3], K => g a1 a2 a3 (fun r1 => K (m r1))
 | _, _ => none
noncomputable def a (a1 a2 a3 : Int) : St := argSt [.v ⟨true, [.int .i64 a1, .int .i64 a2, .int .i64 a3]⟩] [] []
noncomputable def con : FuncId × St × (List Lf → (Res → Option Res) → Option Res) := (70, a 0 0 0, run)
theorem cx (K : Res → Option Res) : CtxOk Go.Proofs.Try.prog Γ0 byt0 eqs0 (X K) os := ⟨rfl, rfl, rfl, (fun p hp => by
 rcases List.mem_cons.1 hp with rfl | hp
 ·exact impl_oneSign.ok
 rcases List.mem_cons.1 hp with rfl | hp
 ·exact impl_hasSign.ok
 rcases List.mem_cons.1 hp with rfl | hp
 ·exact impl_twoSign.ok
 cases hp), rfl, rfl, rfl⟩
theorem tie (K : Res → Option Res) (a1 a2 a3 : Int) : exec (X K) c (entry 31 [.v ⟨true, [.int .i64 a1, .int .i64 a2, .int .i64 a3]⟩] [] []) (endK (X K)) = g a1 a2 a3 (fun r1 => K (m r1)) := Eq.trans (b := b a1 a2 a3 (fun r1 => K (m r1))) (by kernel_rfl) (by rw [e])
theorem runv {l : List Lf} {K : Res → Option Res} {r : Res} (h : run l K = some r) : ∃ a1 a2 a3, l = [.i a1, .i a2, .i a3] ∧ g a1 a2 a3 (fun r1 => K (m r1)) = some r := by
 unfold run at h; split at h
 ·exact ⟨_, _, _, rfl, h⟩
 ·cases h
theorem ok : Con Go.Proofs.Try.prog con := con_of (fn := Go.Proofs.Try.f70) (c := c) (Fi := fi) (X := X) (fun_of laid (by kernel_rfl) (by kernel_rfl) (by kernel_rfl) rfl (by kernel_rfl) (by kernel_rfl) cx (fun _ => rfl) (fun _ => rfl) (fun K => by
 rw [show loopsOf c = [] from by kernel_rfl]; intro p hp
 cases hp)) fun xs rows boxes K r hl hr => by
 obtain ⟨a1, a2, a3, e, h⟩ := runv hr
 have := St.like_eq (y := a a1 a2 a3) hl (by kernel_rfl) e
 obtain ⟨rfl, rfl, rfl⟩ := argSt_inj this
 exact (tie K a1 a2 a3).trans h
end impl_FunOne
namespace impl_FunTwo
noncomputable def c : Code := bodyOf Go.Proofs.Try.f71
noncomputable def fi : Fin := ⟨Γ0, [(.tmp 2, 4)], [[1]], [], [], []⟩
noncomputable def m (r1 : Bool) : Res := ⟨[⟨false, [.bool r1]⟩], [], [], [], []⟩
noncomputable def os : List (FuncId × St × (List Lf → (Res → Option Res) → Option Res)) := [impl_twoSign.con, impl_hasSign.con]
noncomputable def X (K : Res → Option Res) : Ctx := { Γ := Γ0, orc := orcOf os, io := [], share := [], opn := [], shr := [], bun := [], cut := [], own := [], cin := [], cout := [], lp := lpOf [], kl := Env.kl, nk := true, eqs := eqs0, byt := byt0, fin := finK fi K }
noncomputable def b (a1 a2 a3 : Int) (R : Bool → Option Res) : Option Res :=
 bif (a2 == 0) then (bif (a3 == 0) then (impl_twoSign.g a1 fun r4 =>
  bif r4 then R true
  else (impl_hasSign.g (⟨#[35, 44, 116, 100, 114, 64, 63, 36, 101]⟩ : ByteArray) a1 fun r5 =>
  R r5))
  else R false)
 else bif (a2 == 111) then (bif (a3 == 0) then (impl_twoSign.g a1 fun r6 =>
  R r6)
  else R false)
 else bif (a2 == 46) then (impl_twoSign.g a1 fun r7 =>
  bif r7 then (impl_twoSign.g a3 fun r8 =>
   R r8)
  else R false)
 else R false
theorem gx : ∃ x : Int → Int → Int → (Bool → Option Res) → Option Res, x = b := ⟨_, rfl⟩
noncomputable def g : Int → Int → Int → (Bool → Option Res) → Option Res := Classical.choose gx
theorem e : g = b := Classical.choose_spec gx
noncomputable def run : List Lf → (Res → Option Res) → Option Res
 | [.i a1, .i a2, .i a3], K => g a1 a2 a3 (fun r1 => K (m r1))
 | _, _ => none
noncomputable def a (a1 a2 a3 : Int) : St := argSt [.v ⟨true, [.int .i64 a1, .int .i64 a2, .int .i64 a3]⟩] [] []
noncomputable def con : FuncId × St × (List Lf → (Res → Option Res) → Option Res) := (71, a 0 0 0, run)
theorem cx (K : Res → Option Res) : CtxOk Go.Proofs.Try.prog Γ0 byt0 eqs0 (X K) os := ⟨rfl, rfl, rfl, (fun p hp => by
 rcases List.mem_cons.1 hp with rfl | hp
 ·exact impl_twoSign.ok
 rcases List.mem_cons.1 hp with rfl | hp
 ·exact impl_hasSign.ok
 cases hp), rfl, rfl, rfl⟩
theorem tie (K : Res → Option Res) (a1 a2 a3 : Int) : exec (X K) c (entry 40 [.v ⟨true, [.int .i64 a1, .int .i64 a2, .int .i64 a3]⟩] [] []) (endK (X K)) = g a1 a2 a3 (fun r1 => K (m r1)) := Eq.trans (b := b a1 a2 a3 (fun r1 => K (m r1))) (by kernel_rfl) (by rw [e])
theorem runv {l : List Lf} {K : Res → Option Res} {r : Res} (h : run l K = some r) : ∃ a1 a2 a3, l = [.i a1, .i a2, .i a3] ∧ g a1 a2 a3 (fun r1 => K (m r1)) = some r := by
 unfold run at h; split at h
 ·exact ⟨_, _, _, rfl, h⟩
 ·cases h
theorem ok : Con Go.Proofs.Try.prog con := con_of (fn := Go.Proofs.Try.f71) (c := c) (Fi := fi) (X := X) (fun_of laid (by kernel_rfl) (by kernel_rfl) (by kernel_rfl) rfl (by kernel_rfl) (by kernel_rfl) cx (fun _ => rfl) (fun _ => rfl) (fun K => by
 rw [show loopsOf c = [] from by kernel_rfl]; intro p hp
 cases hp)) fun xs rows boxes K r hl hr => by
 obtain ⟨a1, a2, a3, e, h⟩ := runv hr
 have := St.like_eq (y := a a1 a2 a3) hl (by kernel_rfl) e
 obtain ⟨rfl, rfl, rfl⟩ := argSt_inj this
 exact (tie K a1 a2 a3).trans h
end impl_FunTwo
namespace impl_numsOk_1
noncomputable def c : Code := bodyOf Go.Proofs.Try.f108
noncomputable def fi : Fin := ⟨Γ0, [(.tmp 2, 4)], [[1]], [], [], []⟩
noncomputable def m (r1 : Bool) : Res := ⟨[⟨false, [.bool r1]⟩], [], [], [], []⟩
noncomputable def os : List (FuncId × St × (List Lf → (Res → Option Res) → Option Res)) := [impl_NumOk.con]
noncomputable def X (K : Res → Option Res) : Ctx := { Γ := Γ0, orc := orcOf os, io := [], share := [], opn := [], shr := [], bun := [], cut := [], own := [], cin := [], cout := [], lp := lpOf [], kl := Env.kl, nk := true, eqs := eqs0, byt := byt0, fin := finK fi K }
noncomputable def b (a1 : Int) (R : Bool → Option Res) : Option Res :=
 impl_NumOk.g a1 fun r2 =>
 R (!r2)
theorem gx : ∃ x : Int → (Bool → Option Res) → Option Res, x = b := ⟨_, rfl⟩
noncomputable def g : Int → (Bool → Option Res) → Option Res := Classical.choose gx
theorem e : g = b := Classical.choose_spec gx
noncomputable def run : List Lf → (Res → Option Res) → Option Res
 | [.i a1], K => g a1 (fun r1 => K (m r1))
 | _, _ => none
noncomputable def a (a1 : Int) : St := argSt [one (.int .i64 a1)] [] []
noncomputable def con : FuncId × St × (List Lf → (Res → Option Res) → Option Res) := (108, a 0, run)
theorem cx (K : Res → Option Res) : CtxOk Go.Proofs.Try.prog Γ0 byt0 eqs0 (X K) os := ⟨rfl, rfl, rfl, (fun p hp => by
 rcases List.mem_cons.1 hp with rfl | hp
 ·exact impl_NumOk.ok
 cases hp), rfl, rfl, rfl⟩
theorem tie (K : Res → Option Res) (a1 : Int) : exec (X K) c (entry 6 [one (.int .i64 a1)] [] []) (endK (X K)) = g a1 (fun r1 => K (m r1)) := Eq.trans (b := b a1 (fun r1 => K (m r1))) (by kernel_rfl) (by rw [e])
theorem runv {l : List Lf} {K : Res → Option Res} {r : Res} (h : run l K = some r) : ∃ a1, l = [.i a1] ∧ g a1 (fun r1 => K (m r1)) = some r := by
 unfold run at h; split at h
 ·exact ⟨_, rfl, h⟩
 ·cases h
theorem ok : Con Go.Proofs.Try.prog con := con_of (fn := Go.Proofs.Try.f108) (c := c) (Fi := fi) (X := X) (fun_of laid (by kernel_rfl) (by kernel_rfl) (by kernel_rfl) rfl (by kernel_rfl) (by kernel_rfl) cx (fun _ => rfl) (fun _ => rfl) (fun K => by
 rw [show loopsOf c = [] from by kernel_rfl]; intro p hp
 cases hp)) fun xs rows boxes K r hl hr => by
 obtain ⟨a1, e, h⟩ := runv hr
 have := St.like_eq (y := a a1) hl (by kernel_rfl) e
 obtain ⟨rfl, rfl, rfl⟩ := argSt_inj this
 exact (tie K a1).trans h
end impl_numsOk_1
namespace slices_IndexFunc_int_int_i3
noncomputable def c : Code := bodyOf Go.Proofs.Try.f124
noncomputable def fi : Fin := ⟨Γ0, [(.tmp 4, 3)], [[1]], [], [], []⟩
noncomputable def m (r1 : Int) : Res := ⟨[⟨false, [.int .i64 r1]⟩], [], [], [], []⟩
noncomputable def b0 : Code := codeAt c [1, 0, 1, 0, 0]
noncomputable def s0 (x2 : List Int) (x3 x4 : Int) : St := ⟨mkT 19 [(0, one (.tr 0 1 [.int .i64] (.ints x2))), (1, one (.fn 108 [])), (7, one (.int .i64 x3)), (8, one (.int .i64 x4))], [], []⟩
noncomputable def l0s (x2 : List Int) (x3 : Int) (rec : Int → Option Res) (k : Option Res) (R : Int → Option Res) (x4 : Int) : Option Res :=
 bif decide (x4 < x3) then (bif decide (0 ≤ x4) && decide (x4 < (x2.length : Int)) then (impl_numsOk_1.g (x2.getD x4.toNat 0) fun r5 =>
  bif r5 then R x4
  else rec (IntKind.i64.wrap (x4 + 1)))
  else none)
 else k
noncomputable def l0 (x2 : List Int) (x3 : Int) (k : Option Res) (R : Int → Option Res) : Nat → Int → Option Res
 | 0, _ => none
 | n + 1, x4 => l0s x2 x3 (fun x4 => l0 x2 x3 k R n x4) k R x4
noncomputable def o0 (x2 : List Int) (x3 : Int) : St := ⟨mkT 19 [], [], []⟩
noncomputable def p0 (K : Res → Option Res) : List Lf → (St → Option Res) → Option Res
 | [.q (.ints x2), .i x3, .i x4], k => l0 x2 x3 (k (o0 x2 x3)) (fun r1 => K (m r1)) fuel x4
 | _, _ => none
noncomputable def os : List (FuncId × St × (List Lf → (Res → Option Res) → Option Res)) := [impl_numsOk_1.con]
noncomputable def X (K : Res → Option Res) : Ctx := { Γ := Γ0, orc := orcOf os, io := [], share := [], opn := [], shr := [], bun := [], cut := [], own := [], cin := [(0, ⟨[0, 1, 7, 8], [], [], [], [], []⟩)], cout := [(0, ⟨[], [], [], [], [], []⟩)], lp := lpOf [(0, s0 [] 0 0, p0 K)], kl := Env.kl, nk := true, eqs := eqs0, byt := byt0, fin := finK fi K }
noncomputable def b (a1 : List Int) (R : Int → Option Res) : Option Res :=
 l0 a1 (a1.length : Int) (
 R (-1)) R fuel 0
theorem gx : ∃ x : List Int → (Int → Option Res) → Option Res, x = b := ⟨_, rfl⟩
noncomputable def g : List Int → (Int → Option Res) → Option Res := Classical.choose gx
theorem e : g = b := Classical.choose_spec gx
noncomputable def run : List Lf → (Res → Option Res) → Option Res
 | [.q (.ints a1)], K => g a1 (fun r1 => K (m r1))
 | _, _ => none
noncomputable def a (a1 : List Int) : St := argSt [one (.tr 0 1 [.int .i64] (.ints a1)), one (.fn 108 [])] [] []
noncomputable def con : FuncId × St × (List Lf → (Res → Option Res) → Option Res) := (124, a [], run)
theorem cx (K : Res → Option Res) : CtxOk Go.Proofs.Try.prog Γ0 byt0 eqs0 (X K) os := ⟨rfl, rfl, rfl, (fun p hp => by
 rcases List.mem_cons.1 hp with rfl | hp
 ·exact impl_numsOk_1.ok
 cases hp), rfl, rfl, rfl⟩
theorem t0 (K : Res → Option Res) (k : St → Option Res) (it : St → (St → Option Res) → Option Res) (x2 : List Int) (x3 x4 : Int) : iterS (X K) 0 b0 it (s0 x2 x3 x4) k = l0s x2 x3 (fun x4 => it (s0 x2 x3 x4) k) (k (o0 x2 x3)) (fun r1 => K (m r1)) x4 := by kernel_rfl
theorem i0 (K : Res → Option Res) (k : St → Option Res) (x2 : List Int) (x3 : Int) : ∀ (n : Nat) (x4 : Int), iter (X K) 0 b0 n (s0 x2 x3 x4) k = l0 x2 x3 (k (o0 x2 x3)) (fun r1 => K (m r1)) n x4
 | 0, _ => rfl
 | n + 1, x4 => by
  rw [iter_succ, t0, show (fun x4 => iter (X K) 0 b0 n (s0 x2 x3 x4) k) = (fun x4 => l0 x2 x3 (k (o0 x2 x3)) (fun r1 => K (m r1)) n x4) from funext fun x4 => i0 K k x2 x3 n x4]; rfl
theorem v0 {K : Res → Option Res} {l : List Lf} {k : St → Option Res} {r : Res} (h : p0 K l k = some r) : ∃ x2 x3 x4, l = [.q (.ints x2), .i x3, .i x4] ∧ l0 x2 x3 (k (o0 x2 x3)) (fun r1 => K (m r1)) fuel x4 = some r := by
 unfold p0 at h; split at h
 ·exact ⟨_, _, _, rfl, h⟩
 ·cases h
theorem w0 (K : Res → Option Res) : LpSound Go.Proofs.Try.prog (X K) 0 b0 := lp_ok ((cx K).ok laid) (by rw [show loopsOf b0 = [] from by kernel_rfl]; intro p hp; cases hp) rfl fun p hp hid => by
 rcases List.mem_cons.1 hp with rfl | hp
 ·intro st k r h1 h2; obtain ⟨x2, x3, x4, e, h⟩ := v0 (K := K) h2; have := St.like_eq (y := s0 x2 x3 x4) h1 (by kernel_rfl) e; subst this; exact ⟨fuel, (i0 K k x2 x3 fuel x4).trans h⟩
 cases hp
theorem tie (K : Res → Option Res) (a1 : List Int) : exec (X K) c (entry 19 [one (.tr 0 1 [.int .i64] (.ints a1)), one (.fn 108 [])] [] []) (endK (X K)) = g a1 (fun r1 => K (m r1)) := Eq.trans (b := b a1 (fun r1 => K (m r1))) (by kernel_rfl) (by rw [e])
theorem runv {l : List Lf} {K : Res → Option Res} {r : Res} (h : run l K = some r) : ∃ a1, l = [.q (.ints a1)] ∧ g a1 (fun r1 => K (m r1)) = some r := by
 unfold run at h; split at h
 ·exact ⟨_, rfl, h⟩
 ·cases h
theorem ok : Con Go.Proofs.Try.prog con := con_of (fn := Go.Proofs.Try.f124) (c := c) (Fi := fi) (X := X) (fun_of laid (by kernel_rfl) (by kernel_rfl) (by kernel_rfl) rfl (by kernel_rfl) (by kernel_rfl) cx (fun _ => rfl) (fun _ => rfl) (fun K => by
 rw [show loopsOf c = [(0, b0)] from by kernel_rfl]; intro p hp
 rcases List.mem_cons.1 hp with rfl | hp
 ·exact w0 K
 cases hp)) fun xs rows boxes K r hl hr => by
 obtain ⟨a1, e, h⟩ := runv hr
 have := St.like_eq (y := a a1) hl (by kernel_rfl) e
 obtain ⟨rfl, rfl, rfl⟩ := argSt_inj this
 exact (tie K a1).trans h
end slices_IndexFunc_int_int_i3
namespace slices_ContainsFunc_int_int_i3
noncomputable def c : Code := bodyOf Go.Proofs.Try.f107
noncomputable def fi : Fin := ⟨Γ0, [(.tmp 4, 4)], [[1]], [], [], []⟩
noncomputable def m (r1 : Bool) : Res := ⟨[⟨false, [.bool r1]⟩], [], [], [], []⟩
noncomputable def os : List (FuncId × St × (List Lf → (Res → Option Res) → Option Res)) := [slices_IndexFunc_int_int_i3.con]
noncomputable def X (K : Res → Option Res) : Ctx := { Γ := Γ0, orc := orcOf os, io := [], share := [], opn := [], shr := [], bun := [], cut := [], own := [], cin := [], cout := [], lp := lpOf [], kl := Env.kl, nk := true, eqs := eqs0, byt := byt0, fin := finK fi K }
noncomputable def b (a1 : List Int) (R : Bool → Option Res) : Option Res :=
 slices_IndexFunc_int_int_i3.g a1 fun r2 =>
 R (decide (0 ≤ r2))
theorem gx : ∃ x : List Int → (Bool → Option Res) → Option Res, x = b := ⟨_, rfl⟩
noncomputable def g : List Int → (Bool → Option Res) → Option Res := Classical.choose gx
theorem e : g = b := Classical.choose_spec gx
noncomputable def run : List Lf → (Res → Option Res) → Option Res
 | [.q (.ints a1)], K => g a1 (fun r1 => K (m r1))
 | _, _ => none
noncomputable def a (a1 : List Int) : St := argSt [one (.tr 0 1 [.int .i64] (.ints a1)), one (.fn 108 [])] [] []
noncomputable def con : FuncId × St × (List Lf → (Res → Option Res) → Option Res) := (107, a [], run)
theorem cx (K : Res → Option Res) : CtxOk Go.Proofs.Try.prog Γ0 byt0 eqs0 (X K) os := ⟨rfl, rfl, rfl, (fun p hp => by
 rcases List.mem_cons.1 hp with rfl | hp
 ·exact slices_IndexFunc_int_int_i3.ok
 cases hp), rfl, rfl, rfl⟩
theorem tie (K : Res → Option Res) (a1 : List Int) : exec (X K) c (entry 9 [one (.tr 0 1 [.int .i64] (.ints a1)), one (.fn 108 [])] [] []) (endK (X K)) = g a1 (fun r1 => K (m r1)) := Eq.trans (b := b a1 (fun r1 => K (m r1))) (by kernel_rfl) (by rw [e])
theorem runv {l : List Lf} {K : Res → Option Res} {r : Res} (h : run l K = some r) : ∃ a1, l = [.q (.ints a1)] ∧ g a1 (fun r1 => K (m r1)) = some r := by
 unfold run at h; split at h
 ·exact ⟨_, rfl, h⟩
 ·cases h
theorem ok : Con Go.Proofs.Try.prog con := con_of (fn := Go.Proofs.Try.f107) (c := c) (Fi := fi) (X := X) (fun_of laid (by kernel_rfl) (by kernel_rfl) (by kernel_rfl) rfl (by kernel_rfl) (by kernel_rfl) cx (fun _ => rfl) (fun _ => rfl) (fun K => by
 rw [show loopsOf c = [] from by kernel_rfl]; intro p hp
 cases hp)) fun xs rows boxes K r hl hr => by
 obtain ⟨a1, e, h⟩ := runv hr
 have := St.like_eq (y := a a1) hl (by kernel_rfl) e
 obtain ⟨rfl, rfl, rfl⟩ := argSt_inj this
 exact (tie K a1).trans h
end slices_ContainsFunc_int_int_i3
namespace impl_numsOk
noncomputable def c : Code := bodyOf Go.Proofs.Try.f69
noncomputable def fi : Fin := ⟨Γ0, [(.tmp 2, 4)], [[1]], [], [], []⟩
noncomputable def m (r1 : Bool) : Res := ⟨[⟨false, [.bool r1]⟩], [], [], [], []⟩
noncomputable def os : List (FuncId × St × (List Lf → (Res → Option Res) → Option Res)) := [impl_within.con, slices_ContainsFunc_int_int_i3.con]
noncomputable def X (K : Res → Option Res) : Ctx := { Γ := Γ0, orc := orcOf os, io := [], share := [], opn := [], shr := [], bun := [], cut := [], own := [], cin := [], cout := [], lp := lpOf [], kl := Env.kl, nk := true, eqs := eqs0, byt := byt0, fin := finK fi K }
noncomputable def b (a1 : List Int) (R : Bool → Option Res) : Option Res :=
 impl_within.g (a1.length : Int) 1 300 fun r2 =>
 bif r2 then (slices_ContainsFunc_int_int_i3.g a1 fun r3 =>
  R (!r3))
 else R false
theorem gx : ∃ x : List Int → (Bool → Option Res) → Option Res, x = b := ⟨_, rfl⟩
noncomputable def g : List Int → (Bool → Option Res) → Option Res := Classical.choose gx
theorem e : g = b := Classical.choose_spec gx
noncomputable def run : List Lf → (Res → Option Res) → Option Res
 | [.q (.ints a1)], K => g a1 (fun r1 => K (m r1))
 | _, _ => none
noncomputable def a (a1 : List Int) : St := argSt [one (.tr 0 1 [.int .i64] (.ints a1))] [] []
noncomputable def con : FuncId × St × (List Lf → (Res → Option Res) → Option Res) := (69, a [], run)
theorem cx (K : Res → Option Res) : CtxOk Go.Proofs.Try.prog Γ0 byt0 eqs0 (X K) os := ⟨rfl, rfl, rfl, (fun p hp => by
 rcases List.mem_cons.1 hp with rfl | hp
 ·exact impl_within.ok
 rcases List.mem_cons.1 hp with rfl | hp
 ·exact slices_ContainsFunc_int_int_i3.ok
 cases hp), rfl, rfl, rfl⟩
theorem tie (K : Res → Option Res) (a1 : List Int) : exec (X K) c (entry 11 [one (.tr 0 1 [.int .i64] (.ints a1))] [] []) (endK (X K)) = g a1 (fun r1 => K (m r1)) := Eq.trans (b := b a1 (fun r1 => K (m r1))) (by kernel_rfl) (by rw [e])
theorem runv {l : List Lf} {K : Res → Option Res} {r : Res} (h : run l K = some r) : ∃ a1, l = [.q (.ints a1)] ∧ g a1 (fun r1 => K (m r1)) = some r := by
 unfold run at h; split at h
 ·exact ⟨_, rfl, h⟩
 ·cases h
theorem ok : Con Go.Proofs.Try.prog con := con_of (fn := Go.Proofs.Try.f69) (c := c) (Fi := fi) (X := X) (fun_of laid (by kernel_rfl) (by kernel_rfl) (by kernel_rfl) rfl (by kernel_rfl) (by kernel_rfl) cx (fun _ => rfl) (fun _ => rfl) (fun K => by
 rw [show loopsOf c = [] from by kernel_rfl]; intro p hp
 cases hp)) fun xs rows boxes K r hl hr => by
 obtain ⟨a1, e, h⟩ := runv hr
 have := St.like_eq (y := a a1) hl (by kernel_rfl) e
 obtain ⟨rfl, rfl, rfl⟩ := argSt_inj this
 exact (tie K a1).trans h
end impl_numsOk
namespace spec_l8Digit
noncomputable def c : Code := bodyOf Go.Proofs.Try.f75
noncomputable def fi : Fin := ⟨Γ0, [(.tmp 4, 4)], [[1]], [], [], []⟩
noncomputable def m (r1 : Bool) : Res := ⟨[⟨false, [.bool r1]⟩], [], [], [], []⟩
noncomputable def os : List (FuncId × St × (List Lf → (Res → Option Res) → Option Res)) := []
noncomputable def X (K : Res → Option Res) : Ctx := { Γ := Γ0, orc := orcOf os, io := [], share := [], opn := [], shr := [], bun := [], cut := [], own := [], cin := [], cout := [], lp := lpOf [], kl := Env.kl, nk := true, eqs := eqs0, byt := byt0, fin := finK fi K }
noncomputable def b (a1 : ByteArray) (a2 : Int) (R : Bool → Option Res) : Option Res :=
 bif decide (a2 < (a1.size : Int)) then (bif decide (0 ≤ a2) && decide (a2 < (a1.size : Int)) then (bif decide (48 ≤ (bytesOf a1).getD a2.toNat 0) then (bif decide (0 ≤ a2) && decide (a2 < (a1.size : Int)) then R (decide ((bytesOf a1).getD a2.toNat 0 ≤ 57))
  else none)
  else R false)
  else none)
 else R false
theorem gx : ∃ x : ByteArray → Int → (Bool → Option Res) → Option Res, x = b := ⟨_, rfl⟩
noncomputable def g : ByteArray → Int → (Bool → Option Res) → Option Res := Classical.choose gx
theorem e : g = b := Classical.choose_spec gx
noncomputable def run : List Lf → (Res → Option Res) → Option Res
 | [.s a1, .i a2], K => g a1 a2 (fun r1 => K (m r1))
 | _, _ => none
noncomputable def a (a1 : ByteArray) (a2 : Int) : St := argSt [one (.str a1), one (.int .i64 a2)] [] []
noncomputable def con : FuncId × St × (List Lf → (Res → Option Res) → Option Res) := (75, a ByteArray.empty 0, run)
theorem cx (K : Res → Option Res) : CtxOk Go.Proofs.Try.prog Γ0 byt0 eqs0 (X K) os := ⟨rfl, rfl, rfl, (fun p hp => by
 cases hp), rfl, rfl, rfl⟩
theorem tie (K : Res → Option Res) (a1 : ByteArray) (a2 : Int) : exec (X K) c (entry 21 [one (.str a1), one (.int .i64 a2)] [] []) (endK (X K)) = g a1 a2 (fun r1 => K (m r1)) := Eq.trans (b := b a1 a2 (fun r1 => K (m r1))) (by kernel_rfl) (by rw [e])
theorem runv {l : List Lf} {K : Res → Option Res} {r : Res} (h : run l K = some r) : ∃ a1 a2, l = [.s a1, .i a2] ∧ g a1 a2 (fun r1 => K (m r1)) = some r := by
 unfold run at h; split at h
 ·exact ⟨_, _, rfl, h⟩
 ·cases h
theorem ok : Con Go.Proofs.Try.prog con := con_of (fn := Go.Proofs.Try.f75) (c := c) (Fi := fi) (X := X) (fun_of laid (by kernel_rfl) (by kernel_rfl) (by kernel_rfl) rfl (by kernel_rfl) (by kernel_rfl) cx (fun _ => rfl) (fun _ => rfl) (fun K => by
 rw [show loopsOf c = [] from by kernel_rfl]; intro p hp
 cases hp)) fun xs rows boxes K r hl hr => by
 obtain ⟨a1, a2, e, h⟩ := runv hr
 have := St.like_eq (y := a a1 a2) hl (by kernel_rfl) e
 obtain ⟨rfl, rfl, rfl⟩ := argSt_inj this
 exact (tie K a1 a2).trans h
end spec_l8Digit
namespace spec_l1In
noncomputable def c : Code := bodyOf Go.Proofs.Try.f42
noncomputable def fi : Fin := ⟨Γ0, [(.tmp 6, 4)], [[1]], [], [], []⟩
noncomputable def m (r1 : Bool) : Res := ⟨[⟨false, [.bool r1]⟩], [], [], [], []⟩
noncomputable def os : List (FuncId × St × (List Lf → (Res → Option Res) → Option Res)) := []
noncomputable def X (K : Res → Option Res) : Ctx := { Γ := Γ0, orc := orcOf os, io := [], share := [], opn := [], shr := [], bun := [], cut := [], own := [], cin := [], cout := [], lp := lpOf [], kl := Env.kl, nk := true, eqs := eqs0, byt := byt0, fin := finK fi K }
noncomputable def b (a1 a2 a3 : Int) (R : Bool → Option Res) : Option Res :=
 bif decide (a2 ≤ a1) then R (decide (a1 ≤ a3))
 else R false
theorem gx : ∃ x : Int → Int → Int → (Bool → Option Res) → Option Res, x = b := ⟨_, rfl⟩
noncomputable def g : Int → Int → Int → (Bool → Option Res) → Option Res := Classical.choose gx
theorem e : g = b := Classical.choose_spec gx
noncomputable def run : List Lf → (Res → Option Res) → Option Res
 | [.i a1, .i a2, .i a3], K => g a1 a2 a3 (fun r1 => K (m r1))
 | _, _ => none
noncomputable def a (a1 a2 a3 : Int) : St := argSt [one (.int .i64 a1), one (.int .i64 a2), one (.int .i64 a3)] [] []
noncomputable def con : FuncId × St × (List Lf → (Res → Option Res) → Option Res) := (42, a 0 0 0, run)
theorem cx (K : Res → Option Res) : CtxOk Go.Proofs.Try.prog Γ0 byt0 eqs0 (X K) os := ⟨rfl, rfl, rfl, (fun p hp => by
 cases hp), rfl, rfl, rfl⟩
theorem tie (K : Res → Option Res) (a1 a2 a3 : Int) : exec (X K) c (entry 15 [one (.int .i64 a1), one (.int .i64 a2), one (.int .i64 a3)] [] []) (endK (X K)) = g a1 a2 a3 (fun r1 => K (m r1)) := Eq.trans (b := b a1 a2 a3 (fun r1 => K (m r1))) (by kernel_rfl) (by rw [e])
theorem runv {l : List Lf} {K : Res → Option Res} {r : Res} (h : run l K = some r) : ∃ a1 a2 a3, l = [.i a1, .i a2, .i a3] ∧ g a1 a2 a3 (fun r1 => K (m r1)) = some r := by
 unfold run at h; split at h
 ·exact ⟨_, _, _, rfl, h⟩
 ·cases h
theorem ok : Con Go.Proofs.Try.prog con := con_of (fn := Go.Proofs.Try.f42) (c := c) (Fi := fi) (X := X) (fun_of laid (by kernel_rfl) (by kernel_rfl) (by kernel_rfl) rfl (by kernel_rfl) (by kernel_rfl) cx (fun _ => rfl) (fun _ => rfl) (fun K => by
 rw [show loopsOf c = [] from by kernel_rfl]; intro p hp
 cases hp)) fun xs rows boxes K r hl hr => by
 obtain ⟨a1, a2, a3, e, h⟩ := runv hr
 have := St.like_eq (y := a a1 a2 a3) hl (by kernel_rfl) e
 obtain ⟨rfl, rfl, rfl⟩ := argSt_inj this
 exact (tie K a1 a2 a3).trans h
end spec_l1In
namespace spec_NumOk
noncomputable def c : Code := bodyOf Go.Proofs.Try.f110
noncomputable def fi : Fin := ⟨Γ0, [(.tmp 2, 4)], [[1]], [], [], []⟩
noncomputable def m (r1 : Bool) : Res := ⟨[⟨false, [.bool r1]⟩], [], [], [], []⟩
noncomputable def os : List (FuncId × St × (List Lf → (Res → Option Res) → Option Res)) := [spec_l1In.con]
noncomputable def X (K : Res → Option Res) : Ctx := { Γ := Γ0, orc := orcOf os, io := [], share := [], opn := [], shr := [], bun := [], cut := [], own := [], cin := [], cout := [], lp := lpOf [], kl := Env.kl, nk := true, eqs := eqs0, byt := byt0, fin := finK fi K }
noncomputable def b (a1 : Int) (R : Bool → Option Res) : Option Res :=
 spec_l1In.g a1 (-1000000000000) 1000000000000 fun r2 =>
 R r2
theorem gx : ∃ x : Int → (Bool → Option Res) → Option Res, x = b := ⟨_, rfl⟩
noncomputable def g : Int → (Bool → Option Res) → Option Res := Classical.choose gx
theorem e : g = b := Classical.choose_spec gx
noncomputable def run : List Lf → (Res → Option Res) → Option Res
 | [.i a1], K => g a1 (fun r1 => K (m r1))
 | _, _ => none
noncomputable def a (a1 : Int) : St := argSt [one (.int .i64 a1)] [] []
noncomputable def con : FuncId × St × (List Lf → (Res → Option Res) → Option Res) := (110, a 0, run)
theorem cx (K : Res → Option Res) : CtxOk Go.Proofs.Try.prog Γ0 byt0 eqs0 (X K) os := ⟨rfl, rfl, rfl, (fun p hp => by
 rcases List.mem_cons.1 hp with rfl | hp
 ·exact spec_l1In.ok
 cases hp), rfl, rfl, rfl⟩
theorem tie (K : Res → Option Res) (a1 : Int) : exec (X K) c (entry 5 [one (.int .i64 a1)] [] []) (endK (X K)) = g a1 (fun r1 => K (m r1)) := Eq.trans (b := b a1 (fun r1 => K (m r1))) (by kernel_rfl) (by rw [e])
theorem runv {l : List Lf} {K : Res → Option Res} {r : Res} (h : run l K = some r) : ∃ a1, l = [.i a1] ∧ g a1 (fun r1 => K (m r1)) = some r := by
 unfold run at h; split at h
 ·exact ⟨_, rfl, h⟩
 ·cases h
theorem ok : Con Go.Proofs.Try.prog con := con_of (fn := Go.Proofs.Try.f110) (c := c) (Fi := fi) (X := X) (fun_of laid (by kernel_rfl) (by kernel_rfl) (by kernel_rfl) rfl (by kernel_rfl) (by kernel_rfl) cx (fun _ => rfl) (fun _ => rfl) (fun K => by
 rw [show loopsOf c = [] from by kernel_rfl]; intro p hp
 cases hp)) fun xs rows boxes K r hl hr => by
 obtain ⟨a1, e, h⟩ := runv hr
 have := St.like_eq (y := a a1) hl (by kernel_rfl) e
 obtain ⟨rfl, rfl, rfl⟩ := argSt_inj this
 exact (tie K a1).trans h
end spec_NumOk
namespace spec_l8Num
noncomputable def c : Code := bodyOf Go.Proofs.Try.f76
noncomputable def fi : Fin := ⟨Γ0, [(.tmp 4, 3), (.tmp 5, 3), (.tmp 6, 3)], [[1], [1], [1]], [], [], []⟩
noncomputable def m (r1 r2 r3 : Int) : Res := ⟨[⟨false, [.int .i64 r1]⟩, ⟨false, [.int .i64 r2]⟩, ⟨false, [.int .i64 r3]⟩], [], [], [], []⟩
noncomputable def b0 : Code := codeAt c [1, 1, 1, 1, 1, 0, 0, 0]
noncomputable def s0 (x4 : ByteArray) (x5 : Int) (x6 : Bool) (x7 : Int) : St := ⟨mkT 44 [(0, one (.str x4)), (1, one (.int .i64 x5)), (7, one (.bool x6)), (8, one (.int .i64 x7))], [], []⟩
noncomputable def l0s (x4 : ByteArray) (x6 : Bool) (rec : Int → Int → Option Res) (k : Int → Int → Option Res) (x5 x7 : Int) : Option Res :=
 spec_l8Digit.g x4 x5 fun r8 =>
 bif r8 then (bif decide (0 ≤ x5) && decide (x5 < (x4.size : Int)) then (spec_l1Min.g (IntKind.i64.wrap ((IntKind.i64.wrap ((IntKind.i64.wrap (10 * x7)) + (IntKind.i64.wrap ((bytesOf x4).getD x5.toNat 0)))) - 48)) 1000000000001 fun r9 =>
  rec (IntKind.i64.wrap (x5 + 1)) r9)
  else none)
 else k x5 x7
noncomputable def l0 (x4 : ByteArray) (x6 : Bool) (k : Int → Int → Option Res) : Nat → Int → Int → Option Res
 | 0, _, _ => none
 | n + 1, x5, x7 => l0s x4 x6 (fun x5 x7 => l0 x4 x6 k n x5 x7) k x5 x7
noncomputable def o0 (x4 : ByteArray) (x6 : Bool) (y1 y3 : Int) : St := ⟨mkT 44 [(1, one (.int .i64 y1)), (7, one (.bool x6)), (8, one (.int .i64 y3))], [], []⟩
noncomputable def p0 (K : Res → Option Res) : List Lf → (St → Option Res) → Option Res
 | [.s x4, .i x5, .b x6, .i x7], k => l0 x4 x6 (fun y1 y3 => k (o0 x4 x6 y1 y3)) fuel x5 x7
 | _, _ => none
noncomputable def os : List (FuncId × St × (List Lf → (Res → Option Res) → Option Res)) := [spec_l8Digit.con, spec_l1Min.con, spec_NumOk.con]
noncomputable def X (K : Res → Option Res) : Ctx := { Γ := Γ0, orc := orcOf os, io := [], share := [], opn := [], shr := [], bun := [], cut := [], own := [], cin := [(0, ⟨[0, 1, 7, 8], [], [], [], [], []⟩)], cout := [(0, ⟨[1, 7, 8], [], [], [], [], []⟩)], lp := lpOf [(0, s0 ByteArray.empty 0 false 0, p0 K)], kl := Env.kl, nk := true, eqs := eqs0, byt := byt0, fin := finK fi K }
noncomputable def b (a1 : ByteArray) (a2 : Int) (R : Int → Int → Int → Option Res) : Option Res :=
 bif decide (0 ≤ a2) && decide (a2 < (a1.size : Int)) then (bif ((bytesOf a1).getD a2.toNat 0 == 95) then (spec_l8Digit.g a1 (IntKind.i64.wrap (a2 + 1)) fun r3 =>
  bif !r3 then R 0 (IntKind.i64.wrap (a2 + 1)) 8
  else (l0 a1 ((bytesOf a1).getD a2.toNat 0 == 95) (fun y10 y11 =>
  spec_NumOk.g y11 fun r12 =>
  bif !r12 then R 0 y10 6
  else bif ((bytesOf a1).getD a2.toNat 0 == 95) then R (IntKind.i64.wrap (0 - y11)) y10 0
  else R y11 y10 0) fuel (IntKind.i64.wrap (a2 + 1)) 0))
  else (spec_l8Digit.g a1 a2 fun r13 =>
  bif !r13 then R 0 a2 8
  else (l0 a1 ((bytesOf a1).getD a2.toNat 0 == 95) (fun y14 y15 =>
  spec_NumOk.g y15 fun r16 =>
  bif !r16 then R 0 y14 6
  else bif ((bytesOf a1).getD a2.toNat 0 == 95) then R (IntKind.i64.wrap (0 - y15)) y14 0
  else R y15 y14 0) fuel a2 0)))
 else none
theorem gx : ∃ x : ByteArray → Int → (Int → Int → Int → Option Res) → Option Res, x = b := ⟨_, rfl⟩
noncomputable def g : ByteArray → Int → (Int → Int → Int → Option Res) → Option Res := Classical.choose gx
theorem e : g = b := Classical.choose_spec gx
noncomputable def run : List Lf → (Res → Option Res) → Option Res
 | [.s a1, .i a2], K => g a1 a2 (fun r1 r2 r3 => K (m r1 r2 r3))
 | _, _ => none
noncomputable def a (a1 : ByteArray) (a2 : Int) : St := argSt [one (.str a1), one (.int .i64 a2)] [] []
noncomputable def con : FuncId × St × (List Lf → (Res → Option Res) → Option Res) := (76, a ByteArray.empty 0, run)
theorem cx (K : Res → Option Res) : CtxOk Go.Proofs.Try.prog Γ0 byt0 eqs0 (X K) os := ⟨rfl, rfl, rfl, (fun p hp => by
 rcases List.mem_cons.1 hp with rfl | hp
 ·exact spec_l8Digit.ok
 rcases List.mem_cons.1 hp with rfl | hp
 ·exact spec_l1Min.ok
 rcases List.mem_cons.1 hp with rfl | hp
 ·exact spec_NumOk.ok
 cases hp), rfl, rfl, rfl⟩
theorem t0 (K : Res → Option Res) (k : St → Option Res) (it : St → (St → Option Res) → Option Res) (x4 : ByteArray) (x5 : Int) (x6 : Bool) (x7 : Int) : iterS (X K) 0 b0 it (s0 x4 x5 x6 x7) k = l0s x4 x6 (fun x5 x7 => it (s0 x4 x5 x6 x7) k) (fun y1 y3 => k (o0 x4 x6 y1 y3)) x5 x7 := by kernel_rfl
theorem i0 (K : Res → Option Res) (k : St → Option Res) (x4 : ByteArray) (x6 : Bool) : ∀ (n : Nat) (x5 x7 : Int), iter (X K) 0 b0 n (s0 x4 x5 x6 x7) k = l0 x4 x6 (fun y1 y3 => k (o0 x4 x6 y1 y3)) n x5 x7
 | 0, _, _ => rfl
 | n + 1, x5, x7 => by
  rw [iter_succ, t0, show (fun x5 x7 => iter (X K) 0 b0 n (s0 x4 x5 x6 x7) k) = (fun x5 x7 => l0 x4 x6 (fun y1 y3 => k (o0 x4 x6 y1 y3)) n x5 x7) from funext fun x5 => funext fun x7 => i0 K k x4 x6 n x5 x7]; rfl
theorem v0 {K : Res → Option Res} {l : List Lf} {k : St → Option Res} {r : Res} (h : p0 K l k = some r) : ∃ x4 x5 x6 x7, l = [.s x4, .i x5, .b x6, .i x7] ∧ l0 x4 x6 (fun y1 y3 => k (o0 x4 x6 y1 y3)) fuel x5 x7 = some r := by
 unfold p0 at h; split at h
 ·exact ⟨_, _, _, _, rfl, h⟩
 ·cases h
theorem w0 (K : Res → Option Res) : LpSound Go.Proofs.Try.prog (X K) 0 b0 := lp_ok ((cx K).ok laid) (by rw [show loopsOf b0 = [] from by kernel_rfl]; intro p hp; cases hp) rfl fun p hp hid => by
 rcases List.mem_cons.1 hp with rfl | hp
 ·intro st k r h1 h2; obtain ⟨x4, x5, x6, x7, e, h⟩ := v0 (K := K) h2; have := St.like_eq (y := s0 x4 x5 x6 x7) h1 (by kernel_rfl) e; subst this; exact ⟨fuel, (i0 K k x4 x6 fuel x5 x7).trans h⟩
 cases hp
theorem tie (K : Res → Option Res) (a1 : ByteArray) (a2 : Int) : exec (X K) c (entry 44 [one (.str a1), one (.int .i64 a2)] [] []) (endK (X K)) = g a1 a2 (fun r1 r2 r3 => K (m r1 r2 r3)) := Eq.trans (b := b a1 a2 (fun r1 r2 r3 => K (m r1 r2 r3))) (by kernel_rfl) (by rw [e])
theorem runv {l : List Lf} {K : Res → Option Res} {r : Res} (h : run l K = some r) : ∃ a1 a2, l = [.s a1, .i a2] ∧ g a1 a2 (fun r1 r2 r3 => K (m r1 r2 r3)) = some r := by
 unfold run at h; split at h
 ·exact ⟨_, _, rfl, h⟩
 ·cases h
theorem ok : Con Go.Proofs.Try.prog con := con_of (fn := Go.Proofs.Try.f76) (c := c) (Fi := fi) (X := X) (fun_of laid (by kernel_rfl) (by kernel_rfl) (by kernel_rfl) rfl (by kernel_rfl) (by kernel_rfl) cx (fun _ => rfl) (fun _ => rfl) (fun K => by
 rw [show loopsOf c = [(0, b0)] from by kernel_rfl]; intro p hp
 rcases List.mem_cons.1 hp with rfl | hp
 ·exact w0 K
 cases hp)) fun xs rows boxes K r hl hr => by
 obtain ⟨a1, a2, e, h⟩ := runv hr
 have := St.like_eq (y := a a1 a2) hl (by kernel_rfl) e
 obtain ⟨rfl, rfl, rfl⟩ := argSt_inj this
 exact (tie K a1 a2).trans h
end spec_l8Num
namespace spec_l8Sign
noncomputable def c : Code := bodyOf Go.Proofs.Try.f77
noncomputable def fi : Fin := ⟨Γ0, [(.tmp 2, 4)], [[1]], [], [], []⟩
noncomputable def m (r1 : Bool) : Res := ⟨[⟨false, [.bool r1]⟩], [], [], [], []⟩
noncomputable def b0 : Code := codeAt c [1, 1, 0, 1, 0, 0]
noncomputable def s0 (x2 : Int) (x3 : ByteArray) (x4 : Int) : St := ⟨mkT 17 [(0, one (.int .i64 x2)), (3, one (.str x3)), (4, one (.int .i64 x4))], [], []⟩
noncomputable def l0s (x2 : Int) (x3 : ByteArray) (rec : Int → Option Res) (k : Option Res) (R : Bool → Option Res) (x4 : Int) : Option Res :=
 bif decide (x4 < (x3.size : Int)) then (bif decide (0 ≤ x4) && decide (x4 < (x3.size : Int)) then (bif (IntKind.i64.wrap ((bytesOf x3).getD x4.toNat 0) == x2) then R true
  else rec (IntKind.i64.wrap (x4 + 1)))
  else none)
 else k
noncomputable def l0 (x2 : Int) (x3 : ByteArray) (k : Option Res) (R : Bool → Option Res) : Nat → Int → Option Res
 | 0, _ => none
 | n + 1, x4 => l0s x2 x3 (fun x4 => l0 x2 x3 k R n x4) k R x4
noncomputable def o0 (x2 : Int) (x3 : ByteArray) : St := ⟨mkT 17 [], [], []⟩
noncomputable def p0 (K : Res → Option Res) : List Lf → (St → Option Res) → Option Res
 | [.i x2, .s x3, .i x4], k => l0 x2 x3 (k (o0 x2 x3)) (fun r1 => K (m r1)) fuel x4
 | _, _ => none
noncomputable def os : List (FuncId × St × (List Lf → (Res → Option Res) → Option Res)) := []
noncomputable def X (K : Res → Option Res) : Ctx := { Γ := Γ0, orc := orcOf os, io := [], share := [], opn := [], shr := [], bun := [], cut := [], own := [], cin := [(0, ⟨[0, 3, 4], [], [], [], [], []⟩)], cout := [(0, ⟨[], [], [], [], [], []⟩)], lp := lpOf [(0, s0 0 ByteArray.empty 0, p0 K)], kl := Env.kl, nk := true, eqs := eqs0, byt := byt0, fin := finK fi K }
noncomputable def b (a1 : Int) (R : Bool → Option Res) : Option Res :=
 l0 a1 (⟨#[43, 45, 42, 37, 124, 38, 94, 61, 60, 62, 126, 105, 35, 44, 116, 100, 114, 122, 64, 63, 103, 36, 101, 47, 92, 46, 111]⟩ : ByteArray) (
 R false) R fuel 0
theorem gx : ∃ x : Int → (Bool → Option Res) → Option Res, x = b := ⟨_, rfl⟩
noncomputable def g : Int → (Bool → Option Res) → Option Res := Classical.choose gx
theorem e : g = b := Classical.choose_spec gx
noncomputable def run : List Lf → (Res → Option Res) → Option Res
 | [.i a1], K => g a1 (fun r1 => K (m r1))
 | _, _ => none
noncomputable def a (a1 : Int) : St := argSt [one (.int .i64 a1)] [] []
noncomputable def con : FuncId × St × (List Lf → (Res → Option Res) → Option Res) := (77, a 0, run)
theorem cx (K : Res → Option Res) : CtxOk Go.Proofs.Try.prog Γ0 byt0 eqs0 (X K) os := ⟨rfl, rfl, rfl, (fun p hp => by
 cases hp), rfl, rfl, rfl⟩
theorem t0 (K : Res → Option Res) (k : St → Option Res) (it : St → (St → Option Res) → Option Res) (x2 : Int) (x3 : ByteArray) (x4 : Int) : iterS (X K) 0 b0 it (s0 x2 x3 x4) k = l0s x2 x3 (fun x4 => it (s0 x2 x3 x4) k) (k (o0 x2 x3)) (fun r1 => K (m r1)) x4 := by kernel_rfl
theorem i0 (K : Res → Option Res) (k : St → Option Res) (x2 : Int) (x3 : ByteArray) : ∀ (n : Nat) (x4 : Int), iter (X K) 0 b0 n (s0 x2 x3 x4) k = l0 x2 x3 (k (o0 x2 x3)) (fun r1 => K (m r1)) n x4
 | 0, _ => rfl
 | n + 1, x4 => by
  rw [iter_succ, t0, show (fun x4 => iter (X K) 0 b0 n (s0 x2 x3 x4) k) = (fun x4 => l0 x2 x3 (k (o0 x2 x3)) (fun r1 => K (m r1)) n x4) from funext fun x4 => i0 K k x2 x3 n x4]; rfl
theorem v0 {K : Res → Option Res} {l : List Lf} {k : St → Option Res} {r : Res} (h : p0 K l k = some r) : ∃ x2 x3 x4, l = [.i x2, .s x3, .i x4] ∧ l0 x2 x3 (k (o0 x2 x3)) (fun r1 => K (m r1)) fuel x4 = some r := by
 unfold p0 at h; split at h
 ·exact ⟨_, _, _, rfl, h⟩
 ·cases h
theorem w0 (K : Res → Option Res) : LpSound Go.Proofs.Try.prog (X K) 0 b0 := lp_ok ((cx K).ok laid) (by rw [show loopsOf b0 = [] from by kernel_rfl]; intro p hp; cases hp) rfl fun p hp hid => by
 rcases List.mem_cons.1 hp with rfl | hp
 ·intro st k r h1 h2; obtain ⟨x2, x3, x4, e, h⟩ := v0 (K := K) h2; have := St.like_eq (y := s0 x2 x3 x4) h1 (by kernel_rfl) e; subst this; exact ⟨fuel, (i0 K k x2 x3 fuel x4).trans h⟩
 cases hp
theorem tie (K : Res → Option Res) (a1 : Int) : exec (X K) c (entry 17 [one (.int .i64 a1)] [] []) (endK (X K)) = g a1 (fun r1 => K (m r1)) := Eq.trans (b := b a1 (fun r1 => K (m r1))) (by kernel_rfl) (by rw [e])
theorem runv {l : List Lf} {K : Res → Option Res} {r : Res} (h : run l K = some r) : ∃ a1, l = [.i a1] ∧ g a1 (fun r1 => K (m r1)) = some r := by
 unfold run at h; split at h
 ·exact ⟨_, rfl, h⟩
 ·cases h
theorem ok : Con Go.Proofs.Try.prog con := con_of (fn := Go.Proofs.Try.f77) (c := c) (Fi := fi) (X := X) (fun_of laid (by kernel_rfl) (by kernel_rfl) (by kernel_rfl) rfl (by kernel_rfl) (by kernel_rfl) cx (fun _ => rfl) (fun _ => rfl) (fun K => by
 rw [show loopsOf c = [(0, b0)] from by kernel_rfl]; intro p hp
 rcases List.mem_cons.1 hp with rfl | hp
 ·exact w0 K
 cases hp)) fun xs rows boxes K r hl hr => by
 obtain ⟨a1, e, h⟩ := runv hr
 have := St.like_eq (y := a a1) hl (by kernel_rfl) e
 obtain ⟨rfl, rfl, rfl⟩ := argSt_inj this
 exact (tie K a1).trans h
end spec_l8Sign
namespace spec_Lex
noncomputable def c : Code := bodyOf Go.Proofs.Try.f45
noncomputable def fi : Fin := ⟨Γ0, [(.tmp 2, 48), (.tmp 3, 3), (.tmp 4, 3)], [[1], [1], [1]], [], [], []⟩
noncomputable def m (r1 : List (List Cl)) (r2 r3 : Int) : Res := ⟨[⟨false, [.ow 1000]⟩, ⟨false, [.int .i64 r2]⟩, ⟨false, [.int .i64 r3]⟩], [], [⟨[.int .i64, .int .i64], .cells r1, true, 0, none⟩], [], []⟩
noncomputable def b0 : Code := codeAt c [1, 1, 1, 1, 0, 0, 0]
noncomputable def s0 (x2 : ByteArray) (x3 : Int) (x4 : List (List Cl)) : St := ⟨mkT 90 [(0, one (.str x2)), (5, one (.ow 3048)), (6, one (.int .i64 x3))], [(3048, ⟨[.int .i64, .int .i64], .cells x4, true, 0, none⟩)], []⟩
noncomputable def l0s (x2 : ByteArray) (rec : Int → List (List Cl) → Option Res) (k : List (List Cl) → Option Res) (R : List (List Cl) → Int → Int → Option Res) (x3 : Int) (x4 : List (List Cl)) : Option Res :=
 bif decide (x3 < (x2.size : Int)) then (bif decide (0 ≤ x3) && decide (x3 < (x2.size : Int)) then (bif (IntKind.i64.wrap ((bytesOf x2).getD x3.toNat 0) == 32) then rec (IntKind.i64.wrap (x3 + 1)) x4
  else (spec_l8Digit.g x2 x3 fun r5 =>
  bif r5 then (spec_l8Num.g x2 x3 fun r6 r7 r8 =>
   bif (r8 != 0) then R ([] : List (List Cl)) r8 x3
   else bif decide ((x4.length + 1) * 16 ≤ 140737488355328) then rec r7 (x4 ++ ([[.i 1, .i r6]] : List (List Cl)))
   else none)
  else bif (IntKind.i64.wrap ((bytesOf x2).getD x3.toNat 0) == 95) then (spec_l8Num.g x2 x3 fun r9 r10 r11 =>
   bif (r11 != 0) then R ([] : List (List Cl)) r11 x3
   else bif decide ((x4.length + 1) * 16 ≤ 140737488355328) then rec r10 (x4 ++ ([[.i 1, .i r9]] : List (List Cl)))
   else none)
  else (spec_l1In.g (IntKind.i64.wrap ((bytesOf x2).getD x3.toNat 0)) 65 90 fun r12 =>
  bif r12 then (bif decide ((x4.length + 1) * 16 ≤ 140737488355328) then rec (IntKind.i64.wrap (x3 + 1)) (x4 ++ ([[.i 2, .i (IntKind.i64.wrap ((IntKind.i64.wrap ((bytesOf x2).getD x3.toNat 0)) - 65))]] : List (List Cl)))
   else none)
  else bif (IntKind.i64.wrap ((bytesOf x2).getD x3.toNat 0) == 40) then (bif decide ((x4.length + 1) * 16 ≤ 140737488355328) then rec (IntKind.i64.wrap (x3 + 1)) (x4 ++ ([[.i 4, .i 0]] : List (List Cl)))
   else none)
  else bif (IntKind.i64.wrap ((bytesOf x2).getD x3.toNat 0) == 41) then (bif decide ((x4.length + 1) * 16 ≤ 140737488355328) then rec (IntKind.i64.wrap (x3 + 1)) (x4 ++ ([[.i 5, .i 0]] : List (List Cl)))
   else none)
  else bif (IntKind.i64.wrap ((bytesOf x2).getD x3.toNat 0) == 58) then (bif decide ((x4.length + 1) * 16 ≤ 140737488355328) then rec (IntKind.i64.wrap (x3 + 1)) (x4 ++ ([[.i 6, .i 0]] : List (List Cl)))
   else none)
  else (spec_l8Sign.g (IntKind.i64.wrap ((bytesOf x2).getD x3.toNat 0)) fun r13 =>
  bif r13 then (bif decide ((x4.length + 1) * 16 ≤ 140737488355328) then rec (IntKind.i64.wrap (x3 + 1)) (x4 ++ ([[.i 3, .i (IntKind.i64.wrap ((bytesOf x2).getD x3.toNat 0))]] : List (List Cl)))
   else none)
  else R ([] : List (List Cl)) 8 x3))))
  else none)
 else k x4
noncomputable def l0 (x2 : ByteArray) (k : List (List Cl) → Option Res) (R : List (List Cl) → Int → Int → Option Res) : Nat → Int → List (List Cl) → Option Res
 | 0, _, _ => none
 | n + 1, x3, x4 => l0s x2 (fun x3 x4 => l0 x2 k R n x3 x4) k R x3 x4
noncomputable def o0 (x2 : ByteArray) (y2 : List (List Cl)) : St := ⟨mkT 90 [(0, one (.str x2)), (5, one (.ow 3048))], [(3048, ⟨[.int .i64, .int .i64], .cells y2, true, 0, none⟩)], []⟩
noncomputable def p0 (K : Res → Option Res) : List Lf → (St → Option Res) → Option Res
 | [.s x2, .i x3, .q (.cells x4)], k => l0 x2 (fun y2 => k (o0 x2 y2)) (fun r1 r2 r3 => K (m r1 r2 r3)) fuel x3 x4
 | _, _ => none
noncomputable def os : List (FuncId × St × (List Lf → (Res → Option Res) → Option Res)) := [spec_l8Digit.con, spec_l8Num.con, spec_l1In.con, spec_l8Sign.con]
noncomputable def X (K : Res → Option Res) : Ctx := { Γ := Γ0, orc := orcOf os, io := [], share := [], opn := [], shr := [], bun := [], cut := [], own := [], cin := [(0, ⟨[0, 5, 6], [(3048, 3048), (58392, 3048)], [], [], [], []⟩)], cout := [(0, ⟨[0, 5], [(3048, 3048)], [], [], [], []⟩)], lp := lpOf [(0, s0 ByteArray.empty 0 [], p0 K)], kl := Env.kl, nk := true, eqs := eqs0, byt := byt0, fin := finK fi K }
noncomputable def b (a1 : ByteArray) (R : List (List Cl) → Int → Int → Option Res) : Option Res :=
 bif decide (300 < (a1.size : Int)) then R ([] : List (List Cl)) 6 0
 else (l0 a1 (fun y14 =>
 R y14 0 (a1.size : Int)) R fuel 0 ([] : List (List Cl)))
theorem gx : ∃ x : ByteArray → (List (List Cl) → Int → Int → Option Res) → Option Res, x = b := ⟨_, rfl⟩
noncomputable def g : ByteArray → (List (List Cl) → Int → Int → Option Res) → Option Res := Classical.choose gx
theorem e : g = b := Classical.choose_spec gx
noncomputable def run : List Lf → (Res → Option Res) → Option Res
 | [.s a1], K => g a1 (fun r1 r2 r3 => K (m r1 r2 r3))
 | _, _ => none
noncomputable def a (a1 : ByteArray) : St := argSt [one (.str a1)] [] []
noncomputable def con : FuncId × St × (List Lf → (Res → Option Res) → Option Res) := (45, a ByteArray.empty, run)
theorem cx (K : Res → Option Res) : CtxOk Go.Proofs.Try.prog Γ0 byt0 eqs0 (X K) os := ⟨rfl, rfl, rfl, (fun p hp => by
 rcases List.mem_cons.1 hp with rfl | hp
 ·exact spec_l8Digit.ok
 rcases List.mem_cons.1 hp with rfl | hp
 ·exact spec_l8Num.ok
 rcases List.mem_cons.1 hp with rfl | hp
 ·exact spec_l1In.ok
 rcases List.mem_cons.1 hp with rfl | hp
 ·exact spec_l8Sign.ok
 cases hp), rfl, rfl, rfl⟩
theorem t0 (K : Res → Option Res) (k : St → Option Res) (it : St → (St → Option Res) → Option Res) (x2 : ByteArray) (x3 : Int) (x4 : List (List Cl)) : iterS (X K) 0 b0 it (s0 x2 x3 x4) k = l0s x2 (fun x3 x4 => it (s0 x2 x3 x4) k) (fun y2 => k (o0 x2 y2)) (fun r1 r2 r3 => K (m r1 r2 r3)) x3 x4 := by kernel_rfl
theorem i0 (K : Res → Option Res) (k : St → Option Res) (x2 : ByteArray) : ∀ (n : Nat) (x3 : Int) (x4 : List (List Cl)), iter (X K) 0 b0 n (s0 x2 x3 x4) k = l0 x2 (fun y2 => k (o0 x2 y2)) (fun r1 r2 r3 => K (m r1 r2 r3)) n x3 x4
 | 0, _, _ => rfl
 | n + 1, x3, x4 => by
  rw [iter_succ, t0, show (fun x3 x4 => iter (X K) 0 b0 n (s0 x2 x3 x4) k) = (fun x3 x4 => l0 x2 (fun y2 => k (o0 x2 y2)) (fun r1 r2 r3 => K (m r1 r2 r3)) n x3 x4) from funext fun x3 => funext fun x4 => i0 K k x2 n x3 x4]; rfl
theorem v0 {K : Res → Option Res} {l : List Lf} {k : St → Option Res} {r : Res} (h : p0 K l k = some r) : ∃ x2 x3 x4, l = [.s x2, .i x3, .q (.cells x4)] ∧ l0 x2 (fun y2 => k (o0 x2 y2)) (fun r1 r2 r3 => K (m r1 r2 r3)) fuel x3 x4 = some r := by
 unfold p0 at h; split at h
 ·exact ⟨_, _, _, rfl, h⟩
 ·cases h
theorem w0 (K : Res → Option Res) : LpSound Go.Proofs.Try.prog (X K) 0 b0 := lp_ok ((cx K).ok laid) (by rw [show loopsOf b0 = [] from by kernel_rfl]; intro p hp; cases hp) rfl fun p hp hid => by
 rcases List.mem_cons.1 hp with rfl | hp
 ·intro st k r h1 h2; obtain ⟨x2, x3, x4, e, h⟩ := v0 (K := K) h2; have := St.like_eq (y := s0 x2 x3 x4) h1 (by kernel_rfl) e; subst this; exact ⟨fuel, (i0 K k x2 fuel x3 x4).trans h⟩
 cases hp
theorem tie (K : Res → Option Res) (a1 : ByteArray) : exec (X K) c (entry 90 [one (.str a1)] [] []) (endK (X K)) = g a1 (fun r1 r2 r3 => K (m r1 r2 r3)) := Eq.trans (b := b a1 (fun r1 r2 r3 => K (m r1 r2 r3))) (by kernel_rfl) (by rw [e])
theorem runv {l : List Lf} {K : Res → Option Res} {r : Res} (h : run l K = some r) : ∃ a1, l = [.s a1] ∧ g a1 (fun r1 r2 r3 => K (m r1 r2 r3)) = some r := by
 unfold run at h; split at h
 ·exact ⟨_, rfl, h⟩
 ·cases h
theorem ok : Con Go.Proofs.Try.prog con := con_of (fn := Go.Proofs.Try.f45) (c := c) (Fi := fi) (X := X) (fun_of laid (by kernel_rfl) (by kernel_rfl) (by kernel_rfl) rfl (by kernel_rfl) (by kernel_rfl) cx (fun _ => rfl) (fun _ => rfl) (fun K => by
 rw [show loopsOf c = [(0, b0)] from by kernel_rfl]; intro p hp
 rcases List.mem_cons.1 hp with rfl | hp
 ·exact w0 K
 cases hp)) fun xs rows boxes K r hl hr => by
 obtain ⟨a1, e, h⟩ := runv hr
 have := St.like_eq (y := a a1) hl (by kernel_rfl) e
 obtain ⟨rfl, rfl, rfl⟩ := argSt_inj this
 exact (tie K a1).trans h
end spec_Lex
namespace spec_TokenOk
noncomputable def c : Code := bodyOf Go.Proofs.Try.f112
noncomputable def fi : Fin := ⟨Γ0, [(.tmp 2, 4)], [[1]], [], [], []⟩
noncomputable def m (r1 : Bool) : Res := ⟨[⟨false, [.bool r1]⟩], [], [], [], []⟩
noncomputable def os : List (FuncId × St × (List Lf → (Res → Option Res) → Option Res)) := [spec_NumOk.con, spec_l1In.con, spec_l8Sign.con]
noncomputable def X (K : Res → Option Res) : Ctx := { Γ := Γ0, orc := orcOf os, io := [], share := [], opn := [], shr := [], bun := [], cut := [], own := [], cin := [], cout := [], lp := lpOf [], kl := Env.kl, nk := true, eqs := eqs0, byt := byt0, fin := finK fi K }
noncomputable def b (a1 a2 : Int) (R : Bool → Option Res) : Option Res :=
 bif (a1 == 1) then (spec_NumOk.g a2 fun r3 =>
  R r3)
 else bif (a1 == 2) then (spec_l1In.g a2 0 25 fun r4 =>
  R r4)
 else bif (a1 == 3) then (spec_l8Sign.g a2 fun r5 =>
  R r5)
 else bif (a1 == 4) then R (a2 == 0)
 else bif (a1 == 5) then R (a2 == 0)
 else bif (a1 == 6) then R (a2 == 0)
 else R false
theorem gx : ∃ x : Int → Int → (Bool → Option Res) → Option Res, x = b := ⟨_, rfl⟩
noncomputable def g : Int → Int → (Bool → Option Res) → Option Res := Classical.choose gx
theorem e : g = b := Classical.choose_spec gx
noncomputable def run : List Lf → (Res → Option Res) → Option Res
 | [.i a1, .i a2], K => g a1 a2 (fun r1 => K (m r1))
 | _, _ => none
noncomputable def a (a1 a2 : Int) : St := argSt [.v ⟨true, [.int .i64 a1, .int .i64 a2]⟩] [] []
noncomputable def con : FuncId × St × (List Lf → (Res → Option Res) → Option Res) := (112, a 0 0, run)
theorem cx (K : Res → Option Res) : CtxOk Go.Proofs.Try.prog Γ0 byt0 eqs0 (X K) os := ⟨rfl, rfl, rfl, (fun p hp => by
 rcases List.mem_cons.1 hp with rfl | hp
 ·exact spec_NumOk.ok
 rcases List.mem_cons.1 hp with rfl | hp
 ·exact spec_l1In.ok
 rcases List.mem_cons.1 hp with rfl | hp
 ·exact spec_l8Sign.ok
 cases hp), rfl, rfl, rfl⟩
theorem tie (K : Res → Option Res) (a1 a2 : Int) : exec (X K) c (entry 27 [.v ⟨true, [.int .i64 a1, .int .i64 a2]⟩] [] []) (endK (X K)) = g a1 a2 (fun r1 => K (m r1)) := Eq.trans (b := b a1 a2 (fun r1 => K (m r1))) (by kernel_rfl) (by rw [e])
theorem runv {l : List Lf} {K : Res → Option Res} {r : Res} (h : run l K = some r) : ∃ a1 a2, l = [.i a1, .i a2] ∧ g a1 a2 (fun r1 => K (m r1)) = some r := by
 unfold run at h; split at h
 ·exact ⟨_, _, rfl, h⟩
 ·cases h
theorem ok : Con Go.Proofs.Try.prog con := con_of (fn := Go.Proofs.Try.f112) (c := c) (Fi := fi) (X := X) (fun_of laid (by kernel_rfl) (by kernel_rfl) (by kernel_rfl) rfl (by kernel_rfl) (by kernel_rfl) cx (fun _ => rfl) (fun _ => rfl) (fun K => by
 rw [show loopsOf c = [] from by kernel_rfl]; intro p hp
 cases hp)) fun xs rows boxes K r hl hr => by
 obtain ⟨a1, a2, e, h⟩ := runv hr
 have := St.like_eq (y := a a1 a2) hl (by kernel_rfl) e
 obtain ⟨rfl, rfl, rfl⟩ := argSt_inj this
 exact (tie K a1 a2).trans h
end spec_TokenOk
namespace spec_l8Tokens
noncomputable def c : Code := bodyOf Go.Proofs.Try.f78
noncomputable def fi : Fin := ⟨Γ0, [(.tmp 2, 4)], [[1]], [], [], []⟩
noncomputable def m (r1 : Bool) : Res := ⟨[⟨false, [.bool r1]⟩], [], [], [], []⟩
noncomputable def b0 : Code := codeAt c [1, 0, 1, 0, 0]
noncomputable def s0 (x2 : List (List Cl)) (x3 : Int) : St := ⟨mkT 19 [(0, one (.tr 0 1 [.int .i64, .int .i64] (.cells x2))), (3, one (.int .i64 x3))], [], []⟩
noncomputable def l0s (x2 : List (List Cl)) (rec : Int → Option Res) (k : Option Res) (R : Bool → Option Res) (x3 : Int) : Option Res :=
 bif decide (x3 < (x2.length : Int)) then (bif decide (0 ≤ x3) && decide (x3 < (x2.length : Int)) then (spec_TokenOk.g (((x2.getD x3.toNat []).getD 0 (.i 0)).toI) (((x2.getD x3.toNat []).getD 1 (.i 0)).toI) fun r4 =>
  bif !r4 then R false
  else rec (IntKind.i64.wrap (x3 + 1)))
  else none)
 else k
noncomputable def l0 (x2 : List (List Cl)) (k : Option Res) (R : Bool → Option Res) : Nat → Int → Option Res
 | 0, _ => none
 | n + 1, x3 => l0s x2 (fun x3 => l0 x2 k R n x3) k R x3
noncomputable def o0 (x2 : List (List Cl)) : St := ⟨mkT 19 [(0, one (.tr 0 1 [.int .i64, .int .i64] (.cells x2)))], [], []⟩
noncomputable def p0 (K : Res → Option Res) : List Lf → (St → Option Res) → Option Res
 | [.q (.cells x2), .i x3], k => l0 x2 (k (o0 x2)) (fun r1 => K (m r1)) fuel x3
 | _, _ => none
noncomputable def os : List (FuncId × St × (List Lf → (Res → Option Res) → Option Res)) := [spec_TokenOk.con]
noncomputable def X (K : Res → Option Res) : Ctx := { Γ := Γ0, orc := orcOf os, io := [], share := [], opn := [], shr := [], bun := [], cut := [], own := [], cin := [(0, ⟨[0, 3], [], [], [], [], []⟩)], cout := [(0, ⟨[0], [], [], [], [], []⟩)], lp := lpOf [(0, s0 [] 0, p0 K)], kl := Env.kl, nk := true, eqs := eqs0, byt := byt0, fin := finK fi K }
noncomputable def b (a1 : List (List Cl)) (R : Bool → Option Res) : Option Res :=
 l0 a1 (
 R (decide ((a1.length : Int) ≤ 300))) R fuel 0
theorem gx : ∃ x : List (List Cl) → (Bool → Option Res) → Option Res, x = b := ⟨_, rfl⟩
noncomputable def g : List (List Cl) → (Bool → Option Res) → Option Res := Classical.choose gx
theorem e : g = b := Classical.choose_spec gx
noncomputable def run : List Lf → (Res → Option Res) → Option Res
 | [.q (.cells a1)], K => g a1 (fun r1 => K (m r1))
 | _, _ => none
noncomputable def a (a1 : List (List Cl)) : St := argSt [one (.tr 0 1 [.int .i64, .int .i64] (.cells a1))] [] []
noncomputable def con : FuncId × St × (List Lf → (Res → Option Res) → Option Res) := (78, a [], run)
theorem cx (K : Res → Option Res) : CtxOk Go.Proofs.Try.prog Γ0 byt0 eqs0 (X K) os := ⟨rfl, rfl, rfl, (fun p hp => by
 rcases List.mem_cons.1 hp with rfl | hp
 ·exact spec_TokenOk.ok
 cases hp), rfl, rfl, rfl⟩
theorem t0 (K : Res → Option Res) (k : St → Option Res) (it : St → (St → Option Res) → Option Res) (x2 : List (List Cl)) (x3 : Int) : iterS (X K) 0 b0 it (s0 x2 x3) k = l0s x2 (fun x3 => it (s0 x2 x3) k) (k (o0 x2)) (fun r1 => K (m r1)) x3 := by kernel_rfl
theorem i0 (K : Res → Option Res) (k : St → Option Res) (x2 : List (List Cl)) : ∀ (n : Nat) (x3 : Int), iter (X K) 0 b0 n (s0 x2 x3) k = l0 x2 (k (o0 x2)) (fun r1 => K (m r1)) n x3
 | 0, _ => rfl
 | n + 1, x3 => by
  rw [iter_succ, t0, show (fun x3 => iter (X K) 0 b0 n (s0 x2 x3) k) = (fun x3 => l0 x2 (k (o0 x2)) (fun r1 => K (m r1)) n x3) from funext fun x3 => i0 K k x2 n x3]; rfl
theorem v0 {K : Res → Option Res} {l : List Lf} {k : St → Option Res} {r : Res} (h : p0 K l k = some r) : ∃ x2 x3, l = [.q (.cells x2), .i x3] ∧ l0 x2 (k (o0 x2)) (fun r1 => K (m r1)) fuel x3 = some r := by
 unfold p0 at h; split at h
 ·exact ⟨_, _, rfl, h⟩
 ·cases h
theorem w0 (K : Res → Option Res) : LpSound Go.Proofs.Try.prog (X K) 0 b0 := lp_ok ((cx K).ok laid) (by rw [show loopsOf b0 = [] from by kernel_rfl]; intro p hp; cases hp) rfl fun p hp hid => by
 rcases List.mem_cons.1 hp with rfl | hp
 ·intro st k r h1 h2; obtain ⟨x2, x3, e, h⟩ := v0 (K := K) h2; have := St.like_eq (y := s0 x2 x3) h1 (by kernel_rfl) e; subst this; exact ⟨fuel, (i0 K k x2 fuel x3).trans h⟩
 cases hp
theorem tie (K : Res → Option Res) (a1 : List (List Cl)) : exec (X K) c (entry 19 [one (.tr 0 1 [.int .i64, .int .i64] (.cells a1))] [] []) (endK (X K)) = g a1 (fun r1 => K (m r1)) := Eq.trans (b := b a1 (fun r1 => K (m r1))) (by kernel_rfl) (by rw [e])
theorem runv {l : List Lf} {K : Res → Option Res} {r : Res} (h : run l K = some r) : ∃ a1, l = [.q (.cells a1)] ∧ g a1 (fun r1 => K (m r1)) = some r := by
 unfold run at h; split at h
 ·exact ⟨_, rfl, h⟩
 ·cases h
theorem ok : Con Go.Proofs.Try.prog con := con_of (fn := Go.Proofs.Try.f78) (c := c) (Fi := fi) (X := X) (fun_of laid (by kernel_rfl) (by kernel_rfl) (by kernel_rfl) rfl (by kernel_rfl) (by kernel_rfl) cx (fun _ => rfl) (fun _ => rfl) (fun K => by
 rw [show loopsOf c = [(0, b0)] from by kernel_rfl]; intro p hp
 rcases List.mem_cons.1 hp with rfl | hp
 ·exact w0 K
 cases hp)) fun xs rows boxes K r hl hr => by
 obtain ⟨a1, e, h⟩ := runv hr
 have := St.like_eq (y := a a1) hl (by kernel_rfl) e
 obtain ⟨rfl, rfl, rfl⟩ := argSt_inj this
 exact (tie K a1).trans h
end spec_l8Tokens
namespace spec_l9Kind
noncomputable def c : Code := bodyOf Go.Proofs.Try.f113
noncomputable def fi : Fin := ⟨Γ0, [(.tmp 4, 3)], [[1]], [true], [([.sl [.int .i64, .int .i64] 16, .int .i64, .sl [.int .i64, .int .i64, .int .i64, .int .i64, .int .i64, .int .i64, .ints .i64] 72], [0, 1, 2])], []⟩
noncomputable def m (a2 a3 : List (List Cl)) (a4 r1 : Int) : Res := ⟨[⟨false, [.int .i64 r1]⟩], [some ⟨[.int .i64, .int .i64, .int .i64, .int .i64, .int .i64, .int .i64, .ints .i64], .cells a2, true, 0, none⟩], [], [[.tr 2 2 [.int .i64, .int .i64] (.cells a3), .int .i64 a4, .ow 0]], []⟩
noncomputable def os : List (FuncId × St × (List Lf → (Res → Option Res) → Option Res)) := []
noncomputable def X (K : Res → Option Res) : Ctx := { Γ := Γ0, orc := orcOf os, io := [], share := [], opn := [], shr := [], bun := [], cut := [], own := [], cin := [], cout := [], lp := lpOf [], kl := Env.kl, nk := true, eqs := eqs0, byt := byt0, fin := finK fi K }
noncomputable def b (a1 : Int) (a2 a3 : List (List Cl)) (a4 : Int) (R : Int → Option Res) : Option Res :=
 bif decide ((a3.length : Int) ≤ IntKind.i64.wrap (a4 + a1)) then R 0
 else bif decide (0 ≤ IntKind.i64.wrap (a4 + a1)) && decide (IntKind.i64.wrap (a4 + a1) < (a3.length : Int)) then R (((a3.getD ((IntKind.i64.wrap (a4 + a1)).toNat) []).getD 0 (.i 0)).toI)
 else none
theorem gx : ∃ x : Int → List (List Cl) → List (List Cl) → Int → (Int → Option Res) → Option Res, x = b := ⟨_, rfl⟩
noncomputable def g : Int → List (List Cl) → List (List Cl) → Int → (Int → Option Res) → Option Res := Classical.choose gx
theorem e : g = b := Classical.choose_spec gx
noncomputable def run : List Lf → (Res → Option Res) → Option Res
 | [.i a1, .q (.cells a2), .q (.cells a3), .i a4], K => g a1 a2 a3 a4 (fun r1 => K (m a2 a3 a4 r1))
 | _, _ => none
noncomputable def a (a1 : Int) (a2 a3 : List (List Cl)) (a4 : Int) : St := argSt [one (.bp 0 0), one (.int .i64 a1)] [⟨[.int .i64, .int .i64, .int .i64, .int .i64, .int .i64, .int .i64, .ints .i64], .cells a2, true, 0, none⟩] [[.tr 2 2 [.int .i64, .int .i64] (.cells a3), .int .i64 a4, .ow 0]]
noncomputable def con : FuncId × St × (List Lf → (Res → Option Res) → Option Res) := (113, a 0 [] [] 0, run)
theorem cx (K : Res → Option Res) : CtxOk Go.Proofs.Try.prog Γ0 byt0 eqs0 (X K) os := ⟨rfl, rfl, rfl, (fun p hp => by
 cases hp), rfl, rfl, rfl⟩
theorem tie (K : Res → Option Res) (a1 : Int) (a2 a3 : List (List Cl)) (a4 : Int) : exec (X K) c (entry 30 [one (.bp 0 0), one (.int .i64 a1)] [⟨[.int .i64, .int .i64, .int .i64, .int .i64, .int .i64, .int .i64, .ints .i64], .cells a2, true, 0, none⟩] [[.tr 2 2 [.int .i64, .int .i64] (.cells a3), .int .i64 a4, .ow 0]]) (endK (X K)) = g a1 a2 a3 a4 (fun r1 => K (m a2 a3 a4 r1)) := Eq.trans (b := b a1 a2 a3 a4 (fun r1 => K (m a2 a3 a4 r1))) (by kernel_rfl) (by rw [e])
theorem runv {l : List Lf} {K : Res → Option Res} {r : Res} (h : run l K = some r) : ∃ a1 a2 a3 a4, l = [.i a1, .q (.cells a2), .q (.cells a3), .i a4] ∧ g a1 a2 a3 a4 (fun r1 => K (m a2 a3 a4 r1)) = some r := by
 unfold run at h; split at h
 ·exact ⟨_, _, _, _, rfl, h⟩
 ·cases h
theorem ok : Con Go.Proofs.Try.prog con := con_of (fn := Go.Proofs.Try.f113) (c := c) (Fi := fi) (X := X) (fun_of laid (by kernel_rfl) (by kernel_rfl) (by kernel_rfl) rfl (by kernel_rfl) (by kernel_rfl) cx (fun _ => rfl) (fun _ => rfl) (fun K => by
 rw [show loopsOf c = [] from by kernel_rfl]; intro p hp
 cases hp)) fun xs rows boxes K r hl hr => by
 obtain ⟨a1, a2, a3, a4, e, h⟩ := runv hr
 have := St.like_eq (y := a a1 a2 a3 a4) hl (by kernel_rfl) e
 obtain ⟨rfl, rfl, rfl⟩ := argSt_inj this
 exact (tie K a1 a2 a3 a4).trans h
end spec_l9Kind
namespace spec_l9Sign
noncomputable def c : Code := bodyOf Go.Proofs.Try.f125
noncomputable def fi : Fin := ⟨Γ0, [(.tmp 4, 3)], [[1]], [true], [([.sl [.int .i64, .int .i64] 16, .int .i64, .sl [.int .i64, .int .i64, .int .i64, .int .i64, .int .i64, .int .i64, .ints .i64] 72], [0, 1, 2])], []⟩
noncomputable def m (a2 a3 : List (List Cl)) (a4 r1 : Int) : Res := ⟨[⟨false, [.int .i64 r1]⟩], [some ⟨[.int .i64, .int .i64, .int .i64, .int .i64, .int .i64, .int .i64, .ints .i64], .cells a2, true, 0, none⟩], [], [[.tr 2 2 [.int .i64, .int .i64] (.cells a3), .int .i64 a4, .ow 0]], []⟩
noncomputable def os : List (FuncId × St × (List Lf → (Res → Option Res) → Option Res)) := [spec_l9Kind.con]
noncomputable def X (K : Res → Option Res) : Ctx := { Γ := Γ0, orc := orcOf os, io := [], share := [], opn := [], shr := [], bun := [], cut := [], own := [], cin := [], cout := [], lp := lpOf [], kl := Env.kl, nk := true, eqs := eqs0, byt := byt0, fin := finK fi K }
noncomputable def b (a1 : Int) (a2 a3 : List (List Cl)) (a4 : Int) (R : Int → Option Res) : Option Res :=
 spec_l9Kind.g a1 a2 a3 a4 fun r5 =>
 bif (r5 != 3) then R 0
 else bif decide (0 ≤ IntKind.i64.wrap (a4 + a1)) && decide (IntKind.i64.wrap (a4 + a1) < (a3.length : Int)) then R (((a3.getD ((IntKind.i64.wrap (a4 + a1)).toNat) []).getD 1 (.i 0)).toI)
 else none
theorem gx : ∃ x : Int → List (List Cl) → List (List Cl) → Int → (Int → Option Res) → Option Res, x = b := ⟨_, rfl⟩
noncomputable def g : Int → List (List Cl) → List (List Cl) → Int → (Int → Option Res) → Option Res := Classical.choose gx
theorem e : g = b := Classical.choose_spec gx
noncomputable def run : List Lf → (Res → Option Res) → Option Res
 | [.i a1, .q (.cells a2), .q (.cells a3), .i a4], K => g a1 a2 a3 a4 (fun r1 => K (m a2 a3 a4 r1))
 | _, _ => none
noncomputable def a (a1 : Int) (a2 a3 : List (List Cl)) (a4 : Int) : St := argSt [one (.bp 0 0), one (.int .i64 a1)] [⟨[.int .i64, .int .i64, .int .i64, .int .i64, .int .i64, .int .i64, .ints .i64], .cells a2, true, 0, none⟩] [[.tr 2 2 [.int .i64, .int .i64] (.cells a3), .int .i64 a4, .ow 0]]
noncomputable def con : FuncId × St × (List Lf → (Res → Option Res) → Option Res) := (125, a 0 [] [] 0, run)
theorem cx (K : Res → Option Res) : CtxOk Go.Proofs.Try.prog Γ0 byt0 eqs0 (X K) os := ⟨rfl, rfl, rfl, (fun p hp => by
 rcases List.mem_cons.1 hp with rfl | hp
 ·exact spec_l9Kind.ok
 cases hp), rfl, rfl, rfl⟩
theorem tie (K : Res → Option Res) (a1 : Int) (a2 a3 : List (List Cl)) (a4 : Int) : exec (X K) c (entry 22 [one (.bp 0 0), one (.int .i64 a1)] [⟨[.int .i64, .int .i64, .int .i64, .int .i64, .int .i64, .int .i64, .ints .i64], .cells a2, true, 0, none⟩] [[.tr 2 2 [.int .i64, .int .i64] (.cells a3), .int .i64 a4, .ow 0]]) (endK (X K)) = g a1 a2 a3 a4 (fun r1 => K (m a2 a3 a4 r1)) := Eq.trans (b := b a1 a2 a3 a4 (fun r1 => K (m a2 a3 a4 r1))) (by kernel_rfl) (by rw [e])
theorem runv {l : List Lf} {K : Res → Option Res} {r : Res} (h : run l K = some r) : ∃ a1 a2 a3 a4, l = [.i a1, .q (.cells a2), .q (.cells a3), .i a4] ∧ g a1 a2 a3 a4 (fun r1 => K (m a2 a3 a4 r1)) = some r := by
 unfold run at h; split at h
 ·exact ⟨_, _, _, _, rfl, h⟩
 ·cases h
theorem ok : Con Go.Proofs.Try.prog con := con_of (fn := Go.Proofs.Try.f125) (c := c) (Fi := fi) (X := X) (fun_of laid (by kernel_rfl) (by kernel_rfl) (by kernel_rfl) rfl (by kernel_rfl) (by kernel_rfl) cx (fun _ => rfl) (fun _ => rfl) (fun K => by
 rw [show loopsOf c = [] from by kernel_rfl]; intro p hp
 cases hp)) fun xs rows boxes K r hl hr => by
 obtain ⟨a1, a2, a3, a4, e, h⟩ := runv hr
 have := St.like_eq (y := a a1 a2 a3 a4) hl (by kernel_rfl) e
 obtain ⟨rfl, rfl, rfl⟩ := argSt_inj this
 exact (tie K a1 a2 a3 a4).trans h
end spec_l9Sign
namespace spec_l9Fun
noncomputable def c : Code := bodyOf Go.Proofs.Try.f114
noncomputable def fi : Fin := ⟨Γ0, [(.cell 2 40, 40), (.tmp 3, 4)], [[1, 1, 1], [1]], [true], [([.sl [.int .i64, .int .i64] 16, .int .i64, .sl [.int .i64, .int .i64, .int .i64, .int .i64, .int .i64, .int .i64, .ints .i64] 72], [0, 1, 2])], []⟩
noncomputable def m (a1 a2 : List (List Cl)) (r1 r2 r3 : Int) (r4 : Bool) (r7 : Int) : Res := ⟨[⟨true, [.int .i64 r1, .int .i64 r2, .int .i64 r3]⟩, ⟨false, [.bool r4]⟩], [some ⟨[.int .i64, .int .i64, .int .i64, .int .i64, .int .i64, .int .i64, .ints .i64], .cells a1, true, 0, none⟩], [], [[.tr 2 2 [.int .i64, .int .i64] (.cells a2), .int .i64 r7, .ow 0]], []⟩
noncomputable def os : List (FuncId × St × (List Lf → (Res → Option Res) → Option Res)) := [spec_l9Sign.con]
noncomputable def X (K : Res → Option Res) : Ctx := { Γ := Γ0, orc := orcOf os, io := [], share := [], opn := [], shr := [], bun := [], cut := [], own := [], cin := [], cout := [], lp := lpOf [], kl := Env.kl, nk := true, eqs := eqs0, byt := byt0, fin := finK fi K }
noncomputable def b (a1 a2 : List (List Cl)) (a3 : Int) (R : Int → Int → Int → Bool → Int → Option Res) : Option Res :=
 spec_l9Sign.g 0 a1 a2 a3 fun r4 =>
 spec_l9Sign.g 1 a1 a2 a3 fun r5 =>
 spec_l9Sign.g 2 a1 a2 a3 fun r6 =>
 bif (r4 == 0) then R 0 0 0 false a3
 else bif (r4 == 111) then (bif (r5 != 0) then R r5 111 0 true (IntKind.i64.wrap (a3 + 2))
  else bif (r5 == 47) then R r4 r5 0 true (IntKind.i64.wrap (a3 + 2))
  else bif (r5 == 92) then R r4 r5 0 true (IntKind.i64.wrap (a3 + 2))
  else bif (r5 == 46) then (bif (r6 != 0) then R r4 46 r6 true (IntKind.i64.wrap (a3 + 3))
   else R r4 0 0 true (IntKind.i64.wrap (a3 + 1)))
  else R r4 0 0 true (IntKind.i64.wrap (a3 + 1)))
 else bif (r5 == 47) then R r4 r5 0 true (IntKind.i64.wrap (a3 + 2))
 else bif (r5 == 92) then R r4 r5 0 true (IntKind.i64.wrap (a3 + 2))
 else bif (r5 == 46) then (bif (r6 != 0) then R r4 46 r6 true (IntKind.i64.wrap (a3 + 3))
  else R r4 0 0 true (IntKind.i64.wrap (a3 + 1)))
 else R r4 0 0 true (IntKind.i64.wrap (a3 + 1))
theorem gx : ∃ x : List (List Cl) → List (List Cl) → Int → (Int → Int → Int → Bool → Int → Option Res) → Option Res, x = b := ⟨_, rfl⟩
noncomputable def g : List (List Cl) → List (List Cl) → Int → (Int → Int → Int → Bool → Int → Option Res) → Option Res := Classical.choose gx
theorem e : g = b := Classical.choose_spec gx
noncomputable def run : List Lf → (Res → Option Res) → Option Res
 | [.q (.cells a1), .q (.cells a2), .i a3], K => g a1 a2 a3 (fun r1 r2 r3 r4 r7 => K (m a1 a2 r1 r2 r3 r4 r7))
 | _, _ => none
noncomputable def a (a1 a2 : List (List Cl)) (a3 : Int) : St := argSt [one (.bp 0 0)] [⟨[.int .i64, .int .i64, .int .i64, .int .i64, .int .i64, .int .i64, .ints .i64], .cells a1, true, 0, none⟩] [[.tr 2 2 [.int .i64, .int .i64] (.cells a2), .int .i64 a3, .ow 0]]
noncomputable def con : FuncId × St × (List Lf → (Res → Option Res) → Option Res) := (114, a [] [] 0, run)
theorem cx (K : Res → Option Res) : CtxOk Go.Proofs.Try.prog Γ0 byt0 eqs0 (X K) os := ⟨rfl, rfl, rfl, (fun p hp => by
 rcases List.mem_cons.1 hp with rfl | hp
 ·exact spec_l9Sign.ok
 cases hp), rfl, rfl, rfl⟩
theorem tie (K : Res → Option Res) (a1 a2 : List (List Cl)) (a3 : Int) : exec (X K) c (entry 80 [one (.bp 0 0)] [⟨[.int .i64, .int .i64, .int .i64, .int .i64, .int .i64, .int .i64, .ints .i64], .cells a1, true, 0, none⟩] [[.tr 2 2 [.int .i64, .int .i64] (.cells a2), .int .i64 a3, .ow 0]]) (endK (X K)) = g a1 a2 a3 (fun r1 r2 r3 r4 r7 => K (m a1 a2 r1 r2 r3 r4 r7)) := Eq.trans (b := b a1 a2 a3 (fun r1 r2 r3 r4 r7 => K (m a1 a2 r1 r2 r3 r4 r7))) (by kernel_rfl) (by rw [e])
theorem runv {l : List Lf} {K : Res → Option Res} {r : Res} (h : run l K = some r) : ∃ a1 a2 a3, l = [.q (.cells a1), .q (.cells a2), .i a3] ∧ g a1 a2 a3 (fun r1 r2 r3 r4 r7 => K (m a1 a2 r1 r2 r3 r4 r7)) = some r := by
 unfold run at h; split at h
 ·exact ⟨_, _, _, rfl, h⟩
 ·cases h
theorem ok : Con Go.Proofs.Try.prog con := con_of (fn := Go.Proofs.Try.f114) (c := c) (Fi := fi) (X := X) (fun_of laid (by kernel_rfl) (by kernel_rfl) (by kernel_rfl) rfl (by kernel_rfl) (by kernel_rfl) cx (fun _ => rfl) (fun _ => rfl) (fun K => by
 rw [show loopsOf c = [] from by kernel_rfl]; intro p hp
 cases hp)) fun xs rows boxes K r hl hr => by
 obtain ⟨a1, a2, a3, e, h⟩ := runv hr
 have := St.like_eq (y := a a1 a2 a3) hl (by kernel_rfl) e
 obtain ⟨rfl, rfl, rfl⟩ := argSt_inj this
 exact (tie K a1 a2 a3).trans h
end spec_l9Fun
namespace spec_l1Sign2
noncomputable def c : Code := bodyOf Go.Proofs.Try.f100
noncomputable def fi : Fin := ⟨Γ0, [(.tmp 2, 4)], [[1]], [], [], []⟩
noncomputable def m (r1 : Bool) : Res := ⟨[⟨false, [.bool r1]⟩], [], [], [], []⟩
noncomputable def os : List (FuncId × St × (List Lf → (Res → Option Res) → Option Res)) := []
noncomputable def X (K : Res → Option Res) : Ctx := { Γ := Γ0, orc := orcOf os, io := [], share := [], opn := [], shr := [], bun := [], cut := [], own := [], cin := [], cout := [], lp := lpOf [], kl := Env.kl, nk := true, eqs := eqs0, byt := byt0, fin := finK fi K }
noncomputable def b (a1 : Int) (R : Bool → Option Res) : Option Res :=
 bif (a1 == 43) then R true
 else bif (a1 == 45) then R true
 else bif (a1 == 42) then R true
 else bif (a1 == 37) then R true
 else bif (a1 == 124) then R true
 else bif (a1 == 38) then R true
 else bif (a1 == 94) then R true
 else bif (a1 == 61) then R true
 else bif (a1 == 60) then R true
 else R (a1 == 62)
theorem gx : ∃ x : Int → (Bool → Option Res) → Option Res, x = b := ⟨_, rfl⟩
noncomputable def g : Int → (Bool → Option Res) → Option Res := Classical.choose gx
theorem e : g = b := Classical.choose_spec gx
noncomputable def run : List Lf → (Res → Option Res) → Option Res
 | [.i a1], K => g a1 (fun r1 => K (m r1))
 | _, _ => none
noncomputable def a (a1 : Int) : St := argSt [one (.int .i64 a1)] [] []
noncomputable def con : FuncId × St × (List Lf → (Res → Option Res) → Option Res) := (100, a 0, run)
theorem cx (K : Res → Option Res) : CtxOk Go.Proofs.Try.prog Γ0 byt0 eqs0 (X K) os := ⟨rfl, rfl, rfl, (fun p hp => by
 cases hp), rfl, rfl, rfl⟩
theorem tie (K : Res → Option Res) (a1 : Int) : exec (X K) c (entry 41 [one (.int .i64 a1)] [] []) (endK (X K)) = g a1 (fun r1 => K (m r1)) := Eq.trans (b := b a1 (fun r1 => K (m r1))) (by kernel_rfl) (by rw [e])
theorem runv {l : List Lf} {K : Res → Option Res} {r : Res} (h : run l K = some r) : ∃ a1, l = [.i a1] ∧ g a1 (fun r1 => K (m r1)) = some r := by
 unfold run at h; split at h
 ·exact ⟨_, rfl, h⟩
 ·cases h
theorem ok : Con Go.Proofs.Try.prog con := con_of (fn := Go.Proofs.Try.f100) (c := c) (Fi := fi) (X := X) (fun_of laid (by kernel_rfl) (by kernel_rfl) (by kernel_rfl) rfl (by kernel_rfl) (by kernel_rfl) cx (fun _ => rfl) (fun _ => rfl) (fun K => by
 rw [show loopsOf c = [] from by kernel_rfl]; intro p hp
 cases hp)) fun xs rows boxes K r hl hr => by
 obtain ⟨a1, e, h⟩ := runv hr
 have := St.like_eq (y := a a1) hl (by kernel_rfl) e
 obtain ⟨rfl, rfl, rfl⟩ := argSt_inj this
 exact (tie K a1).trans h
end spec_l1Sign2
namespace spec_l1Sign1
noncomputable def c : Code := bodyOf Go.Proofs.Try.f99
noncomputable def fi : Fin := ⟨Γ0, [(.tmp 2, 4)], [[1]], [], [], []⟩
noncomputable def m (r1 : Bool) : Res := ⟨[⟨false, [.bool r1]⟩], [], [], [], []⟩
noncomputable def os : List (FuncId × St × (List Lf → (Res → Option Res) → Option Res)) := []
noncomputable def X (K : Res → Option Res) : Ctx := { Γ := Γ0, orc := orcOf os, io := [], share := [], opn := [], shr := [], bun := [], cut := [], own := [], cin := [], cout := [], lp := lpOf [], kl := Env.kl, nk := true, eqs := eqs0, byt := byt0, fin := finK fi K }
noncomputable def b (a1 : Int) (R : Bool → Option Res) : Option Res :=
 bif (a1 == 43) then R true
 else bif (a1 == 45) then R true
 else bif (a1 == 42) then R true
 else bif (a1 == 124) then R true
 else R (a1 == 126)
theorem gx : ∃ x : Int → (Bool → Option Res) → Option Res, x = b := ⟨_, rfl⟩
noncomputable def g : Int → (Bool → Option Res) → Option Res := Classical.choose gx
theorem e : g = b := Classical.choose_spec gx
noncomputable def run : List Lf → (Res → Option Res) → Option Res
 | [.i a1], K => g a1 (fun r1 => K (m r1))
 | _, _ => none
noncomputable def a (a1 : Int) : St := argSt [one (.int .i64 a1)] [] []
noncomputable def con : FuncId × St × (List Lf → (Res → Option Res) → Option Res) := (99, a 0, run)
theorem cx (K : Res → Option Res) : CtxOk Go.Proofs.Try.prog Γ0 byt0 eqs0 (X K) os := ⟨rfl, rfl, rfl, (fun p hp => by
 cases hp), rfl, rfl, rfl⟩
theorem tie (K : Res → Option Res) (a1 : Int) : exec (X K) c (entry 21 [one (.int .i64 a1)] [] []) (endK (X K)) = g a1 (fun r1 => K (m r1)) := Eq.trans (b := b a1 (fun r1 => K (m r1))) (by kernel_rfl) (by rw [e])
theorem runv {l : List Lf} {K : Res → Option Res} {r : Res} (h : run l K = some r) : ∃ a1, l = [.i a1] ∧ g a1 (fun r1 => K (m r1)) = some r := by
 unfold run at h; split at h
 ·exact ⟨_, rfl, h⟩
 ·cases h
theorem ok : Con Go.Proofs.Try.prog con := con_of (fn := Go.Proofs.Try.f99) (c := c) (Fi := fi) (X := X) (fun_of laid (by kernel_rfl) (by kernel_rfl) (by kernel_rfl) rfl (by kernel_rfl) (by kernel_rfl) cx (fun _ => rfl) (fun _ => rfl) (fun K => by
 rw [show loopsOf c = [] from by kernel_rfl]; intro p hp
 cases hp)) fun xs rows boxes K r hl hr => by
 obtain ⟨a1, e, h⟩ := runv hr
 have := St.like_eq (y := a a1) hl (by kernel_rfl) e
 obtain ⟨rfl, rfl, rfl⟩ := argSt_inj this
 exact (tie K a1).trans h
end spec_l1Sign1
namespace spec_FunOne
noncomputable def c : Code := bodyOf Go.Proofs.Try.f73
noncomputable def fi : Fin := ⟨Γ0, [(.tmp 2, 4)], [[1]], [], [], []⟩
noncomputable def m (r1 : Bool) : Res := ⟨[⟨false, [.bool r1]⟩], [], [], [], []⟩
noncomputable def os : List (FuncId × St × (List Lf → (Res → Option Res) → Option Res)) := [spec_l1Sign2.con, spec_l1Sign1.con]
noncomputable def X (K : Res → Option Res) : Ctx := { Γ := Γ0, orc := orcOf os, io := [], share := [], opn := [], shr := [], bun := [], cut := [], own := [], cin := [], cout := [], lp := lpOf [], kl := Env.kl, nk := true, eqs := eqs0, byt := byt0, fin := finK fi K }
noncomputable def b (a1 a2 a3 : Int) (R : Bool → Option Res) : Option Res :=
 bif (a3 != 0) then R false
 else bif (a2 == 47) then (spec_l1Sign2.g a1 fun r4 =>
  R r4)
 else bif (a2 == 92) then (spec_l1Sign2.g a1 fun r5 =>
  R r5)
 else bif (a2 != 0) then R false
 else (spec_l1Sign1.g a1 fun r6 =>
 bif r6 then R true
 else bif (a1 == 105) then R true
 else bif (a1 == 35) then R true
 else bif (a1 == 44) then R true
 else bif (a1 == 114) then R true
 else bif (a1 == 122) then R true
 else R (a1 == 103))
theorem gx : ∃ x : Int → Int → Int → (Bool → Option Res) → Option Res, x = b := ⟨_, rfl⟩
noncomputable def g : Int → Int → Int → (Bool → Option Res) → Option Res := Classical.choose gx
theorem e : g = b := Classical.choose_spec gx
noncomputable def run : List Lf → (Res → Option Res) → Option Res
 | [.i a1, .i a2, .i a3], K => g a1 a2 a3 (fun r1 => K (m r1))
 | _, _ => none
noncomputable def a (a1 a2 a3 : Int) : St := argSt [.v ⟨true, [.int .i64 a1, .int .i64 a2, .int .i64 a3]⟩] [] []
noncomputable def con : FuncId × St × (List Lf → (Res → Option Res) → Option Res) := (73, a 0 0 0, run)
theorem cx (K : Res → Option Res) : CtxOk Go.Proofs.Try.prog Γ0 byt0 eqs0 (X K) os := ⟨rfl, rfl, rfl, (fun p hp => by
 rcases List.mem_cons.1 hp with rfl | hp
 ·exact spec_l1Sign2.ok
 rcases List.mem_cons.1 hp with rfl | hp
 ·exact spec_l1Sign1.ok
 cases hp), rfl, rfl, rfl⟩
theorem tie (K : Res → Option Res) (a1 a2 a3 : Int) : exec (X K) c (entry 56 [.v ⟨true, [.int .i64 a1, .int .i64 a2, .int .i64 a3]⟩] [] []) (endK (X K)) = g a1 a2 a3 (fun r1 => K (m r1)) := Eq.trans (b := b a1 a2 a3 (fun r1 => K (m r1))) (by kernel_rfl) (by rw [e])
theorem runv {l : List Lf} {K : Res → Option Res} {r : Res} (h : run l K = some r) : ∃ a1 a2 a3, l = [.i a1, .i a2, .i a3] ∧ g a1 a2 a3 (fun r1 => K (m r1)) = some r := by
 unfold run at h; split at h
 ·exact ⟨_, _, _, rfl, h⟩
 ·cases h
theorem ok : Con Go.Proofs.Try.prog con := con_of (fn := Go.Proofs.Try.f73) (c := c) (Fi := fi) (X := X) (fun_of laid (by kernel_rfl) (by kernel_rfl) (by kernel_rfl) rfl (by kernel_rfl) (by kernel_rfl) cx (fun _ => rfl) (fun _ => rfl) (fun K => by
 rw [show loopsOf c = [] from by kernel_rfl]; intro p hp
 cases hp)) fun xs rows boxes K r hl hr => by
 obtain ⟨a1, a2, a3, e, h⟩ := runv hr
 have := St.like_eq (y := a a1 a2 a3) hl (by kernel_rfl) e
 obtain ⟨rfl, rfl, rfl⟩ := argSt_inj this
 exact (tie K a1 a2 a3).trans h
end spec_FunOne
namespace spec_l9Behind
noncomputable def c : Code := bodyOf Go.Proofs.Try.f116
noncomputable def fi : Fin := ⟨Γ0, [], [], [false], [([.sl [.int .i64, .int .i64] 16, .int .i64, .sl [.int .i64, .int .i64, .int .i64, .int .i64, .int .i64, .int .i64, .ints .i64] 72], [0, 1, 1])], []⟩
noncomputable def m (r1 : List (List Cl)) (r2 : Int) (r3 : List (List Cl)) : Res := ⟨[], [none], [⟨[.int .i64, .int .i64, .int .i64, .int .i64, .int .i64, .int .i64, .ints .i64], .cells r3, false, 0, none⟩], [[.tr 2 2 [.int .i64, .int .i64] (.cells r1), .int .i64 r2, .ow 1000]], []⟩
noncomputable def b0 : Code := codeAt c [1, 1, 0, 0]
noncomputable def s0 (x5 : List (List Cl)) (x6 x7 : Int) (x8 x9 : List (List Cl)) (x10 : Int) : St := ⟨mkT 54 [(0, one (.bp 0 0)), (1, one (.tr 0 2 [.int .i64, .int .i64, .int .i64, .int .i64, .int .i64, .int .i64, .ints .i64] (.cells x5))), (4, one (.int .i64 x6)), (5, one (.int .i64 x7))], [(102401000, ⟨[.int .i64, .int .i64, .int .i64, .int .i64, .int .i64, .int .i64, .ints .i64], .cells x8, false, 0, none⟩)], [(0, [.tr 2 2 [.int .i64, .int .i64] (.cells x9), .int .i64 x10, .ow 102401000])]⟩
noncomputable def l0s (x5 : List (List Cl)) (x6 : Int) (x9 : List (List Cl)) (x10 : Int) (rec : Int → List (List Cl) → Option Res) (k : List (List Cl) → Option Res) (x7 : Int) (x8 : List (List Cl)) : Option Res :=
 bif decide (x7 < (x5.length : Int)) then (bif decide (0 ≤ x7) && decide (x7 < (x5.length : Int)) then (bif (((x5.getD x7.toNat []).getD 0 (.i 0)).toI == 5) then (bif decide ((x8.length + 1) * 72 ≤ 140737488355328) then rec (IntKind.i64.wrap (x7 + 1)) (x8 ++ ([[.i (((x5.getD x7.toNat []).getD 0 (.i 0)).toI), .i (IntKind.i64.wrap ((((x5.getD x7.toNat []).getD 1 (.i 0)).toI) + x6)), .i (IntKind.i64.wrap ((((x5.getD x7.toNat []).getD 2 (.i 0)).toI) + x6)), .i (((x5.getD x7.toNat []).getD 3 (.i 0)).toI), .i (((x5.getD x7.toNat []).getD 4 (.i 0)).toI), .i (((x5.getD x7.toNat []).getD 5 (.i 0)).toI), .l (((x5.getD x7.toNat []).getD 6 (.i 0)).toL)]] : List (List Cl)))
  else none)
  else bif (((x5.getD x7.toNat []).getD 0 (.i 0)).toI == 4) then (bif decide ((x8.length + 1) * 72 ≤ 140737488355328) then rec (IntKind.i64.wrap (x7 + 1)) (x8 ++ ([[.i (((x5.getD x7.toNat []).getD 0 (.i 0)).toI), .i (((x5.getD x7.toNat []).getD 1 (.i 0)).toI), .i (IntKind.i64.wrap ((((x5.getD x7.toNat []).getD 2 (.i 0)).toI) + x6)), .i (((x5.getD x7.toNat []).getD 3 (.i 0)).toI), .i (((x5.getD x7.toNat []).getD 4 (.i 0)).toI), .i (((x5.getD x7.toNat []).getD 5 (.i 0)).toI), .l (((x5.getD x7.toNat []).getD 6 (.i 0)).toL)]] : List (List Cl)))
   else none)
  else bif (((x5.getD x7.toNat []).getD 0 (.i 0)).toI == 3) then (bif decide ((x8.length + 1) * 72 ≤ 140737488355328) then rec (IntKind.i64.wrap (x7 + 1)) (x8 ++ ([[.i (((x5.getD x7.toNat []).getD 0 (.i 0)).toI), .i (((x5.getD x7.toNat []).getD 1 (.i 0)).toI), .i (IntKind.i64.wrap ((((x5.getD x7.toNat []).getD 2 (.i 0)).toI) + x6)), .i (((x5.getD x7.toNat []).getD 3 (.i 0)).toI), .i (((x5.getD x7.toNat []).getD 4 (.i 0)).toI), .i (((x5.getD x7.toNat []).getD 5 (.i 0)).toI), .l (((x5.getD x7.toNat []).getD 6 (.i 0)).toL)]] : List (List Cl)))
   else none)
  else bif decide ((x8.length + 1) * 72 ≤ 140737488355328) then rec (IntKind.i64.wrap (x7 + 1)) (x8 ++ ([[.i (((x5.getD x7.toNat []).getD 0 (.i 0)).toI), .i (((x5.getD x7.toNat []).getD 1 (.i 0)).toI), .i (((x5.getD x7.toNat []).getD 2 (.i 0)).toI), .i (((x5.getD x7.toNat []).getD 3 (.i 0)).toI), .i (((x5.getD x7.toNat []).getD 4 (.i 0)).toI), .i (((x5.getD x7.toNat []).getD 5 (.i 0)).toI), .l (((x5.getD x7.toNat []).getD 6 (.i 0)).toL)]] : List (List Cl)))
  else none)
  else none)
 else k x8
noncomputable def l0 (x5 : List (List Cl)) (x6 : Int) (x9 : List (List Cl)) (x10 : Int) (k : List (List Cl) → Option Res) : Nat → Int → List (List Cl) → Option Res
 | 0, _, _ => none
 | n + 1, x7, x8 => l0s x5 x6 x9 x10 (fun x7 x8 => l0 x5 x6 x9 x10 k n x7 x8) k x7 x8
noncomputable def o0 (x5 : List (List Cl)) (x6 : Int) (x9 : List (List Cl)) (x10 : Int) (y1 : List (List Cl)) : St := ⟨mkT 54 [], [(102401000, ⟨[.int .i64, .int .i64, .int .i64, .int .i64, .int .i64, .int .i64, .ints .i64], .cells y1, false, 0, none⟩)], [(0, [.tr 2 2 [.int .i64, .int .i64] (.cells x9), .int .i64 x10, .ow 102401000])]⟩
noncomputable def p0 (K : Res → Option Res) : List Lf → (St → Option Res) → Option Res
 | [.q (.cells x5), .i x6, .i x7, .q (.cells x8), .q (.cells x9), .i x10], k => l0 x5 x6 x9 x10 (fun y1 => k (o0 x5 x6 x9 x10 y1)) fuel x7 x8
 | _, _ => none
noncomputable def os : List (FuncId × St × (List Lf → (Res → Option Res) → Option Res)) := []
noncomputable def X (K : Res → Option Res) : Ctx := { Γ := Γ0, orc := orcOf os, io := [], share := [], opn := [], shr := [], bun := [], cut := [], own := [], cin := [(0, ⟨[0, 1, 4, 5], [(0, 102401000), (25688, 102401000)], [0], [102401000], [], []⟩)], cout := [(0, ⟨[], [(102401000, 102401000)], [0], [], [], []⟩)], lp := lpOf [(0, s0 [] 0 0 [] [] 0, p0 K)], kl := Env.kl, nk := true, eqs := eqs0, byt := byt0, fin := finK fi K }
noncomputable def b (a1 a2 a3 : List (List Cl)) (a4 : Int) (R : List (List Cl) → Int → List (List Cl) → Option Res) : Option Res :=
 l0 a1 (a2.length : Int) a3 a4 (fun y11 =>
 R a3 a4 y11) fuel 0 a2
theorem gx : ∃ x : List (List Cl) → List (List Cl) → List (List Cl) → Int → (List (List Cl) → Int → List (List Cl) → Option Res) → Option Res, x = b := ⟨_, rfl⟩
noncomputable def g : List (List Cl) → List (List Cl) → List (List Cl) → Int → (List (List Cl) → Int → List (List Cl) → Option Res) → Option Res := Classical.choose gx
theorem e : g = b := Classical.choose_spec gx
noncomputable def run : List Lf → (Res → Option Res) → Option Res
 | [.q (.cells a1), .q (.cells a2), .q (.cells a3), .i a4], K => g a1 a2 a3 a4 (fun r1 r2 r3 => K (m r1 r2 r3))
 | _, _ => none
noncomputable def a (a1 a2 a3 : List (List Cl)) (a4 : Int) : St := argSt [one (.bp 0 0), one (.tr 0 2 [.int .i64, .int .i64, .int .i64, .int .i64, .int .i64, .int .i64, .ints .i64] (.cells a1))] [⟨[.int .i64, .int .i64, .int .i64, .int .i64, .int .i64, .int .i64, .ints .i64], .cells a2, true, 0, none⟩] [[.tr 2 2 [.int .i64, .int .i64] (.cells a3), .int .i64 a4, .ow 0]]
noncomputable def con : FuncId × St × (List Lf → (Res → Option Res) → Option Res) := (116, a [] [] [] 0, run)
theorem cx (K : Res → Option Res) : CtxOk Go.Proofs.Try.prog Γ0 byt0 eqs0 (X K) os := ⟨rfl, rfl, rfl, (fun p hp => by
 cases hp), rfl, rfl, rfl⟩
theorem t0 (K : Res → Option Res) (k : St → Option Res) (it : St → (St → Option Res) → Option Res) (x5 : List (List Cl)) (x6 x7 : Int) (x8 x9 : List (List Cl)) (x10 : Int) : iterS (X K) 0 b0 it (s0 x5 x6 x7 x8 x9 x10) k = l0s x5 x6 x9 x10 (fun x7 x8 => it (s0 x5 x6 x7 x8 x9 x10) k) (fun y1 => k (o0 x5 x6 x9 x10 y1)) x7 x8 := by kernel_rfl
theorem i0 (K : Res → Option Res) (k : St → Option Res) (x5 : List (List Cl)) (x6 : Int) (x9 : List (List Cl)) (x10 : Int) : ∀ (n : Nat) (x7 : Int) (x8 : List (List Cl)), iter (X K) 0 b0 n (s0 x5 x6 x7 x8 x9 x10) k = l0 x5 x6 x9 x10 (fun y1 => k (o0 x5 x6 x9 x10 y1)) n x7 x8
 | 0, _, _ => rfl
 | n + 1, x7, x8 => by
  rw [iter_succ, t0, show (fun x7 x8 => iter (X K) 0 b0 n (s0 x5 x6 x7 x8 x9 x10) k) = (fun x7 x8 => l0 x5 x6 x9 x10 (fun y1 => k (o0 x5 x6 x9 x10 y1)) n x7 x8) from funext fun x7 => funext fun x8 => i0 K k x5 x6 x9 x10 n x7 x8]; rfl
theorem v0 {K : Res → Option Res} {l : List Lf} {k : St → Option Res} {r : Res} (h : p0 K l k = some r) : ∃ x5 x6 x7 x8 x9 x10, l = [.q (.cells x5), .i x6, .i x7, .q (.cells x8), .q (.cells x9), .i x10] ∧ l0 x5 x6 x9 x10 (fun y1 => k (o0 x5 x6 x9 x10 y1)) fuel x7 x8 = some r := by
 unfold p0 at h; split at h
 ·exact ⟨_, _, _, _, _, _, rfl, h⟩
 ·cases h
theorem w0 (K : Res → Option Res) : LpSound Go.Proofs.Try.prog (X K) 0 b0 := lp_ok ((cx K).ok laid) (by rw [show loopsOf b0 = [] from by kernel_rfl]; intro p hp; cases hp) rfl fun p hp hid => by
 rcases List.mem_cons.1 hp with rfl | hp
 ·intro st k r h1 h2; obtain ⟨x5, x6, x7, x8, x9, x10, e, h⟩ := v0 (K := K) h2; have := St.like_eq (y := s0 x5 x6 x7 x8 x9 x10) h1 (by kernel_rfl) e; subst this; exact ⟨fuel, (i0 K k x5 x6 x9 x10 fuel x7 x8).trans h⟩
 cases hp
theorem tie (K : Res → Option Res) (a1 a2 a3 : List (List Cl)) (a4 : Int) : exec (X K) c (entry 54 [one (.bp 0 0), one (.tr 0 2 [.int .i64, .int .i64, .int .i64, .int .i64, .int .i64, .int .i64, .ints .i64] (.cells a1))] [⟨[.int .i64, .int .i64, .int .i64, .int .i64, .int .i64, .int .i64, .ints .i64], .cells a2, true, 0, none⟩] [[.tr 2 2 [.int .i64, .int .i64] (.cells a3), .int .i64 a4, .ow 0]]) (endK (X K)) = g a1 a2 a3 a4 (fun r1 r2 r3 => K (m r1 r2 r3)) := Eq.trans (b := b a1 a2 a3 a4 (fun r1 r2 r3 => K (m r1 r2 r3))) (by kernel_rfl) (by rw [e])
theorem runv {l : List Lf} {K : Res → Option Res} {r : Res} (h : run l K = some r) : ∃ a1 a2 a3 a4, l = [.q (.cells a1), .q (.cells a2), .q (.cells a3), .i a4] ∧ g a1 a2 a3 a4 (fun r1 r2 r3 => K (m r1 r2 r3)) = some r := by
 unfold run at h; split at h
 ·exact ⟨_, _, _, _, rfl, h⟩
 ·cases h
theorem ok : Con Go.Proofs.Try.prog con := con_of (fn := Go.Proofs.Try.f116) (c := c) (Fi := fi) (X := X) (fun_of laid (by kernel_rfl) (by kernel_rfl) (by kernel_rfl) rfl (by kernel_rfl) (by kernel_rfl) cx (fun _ => rfl) (fun _ => rfl) (fun K => by
 rw [show loopsOf c = [(0, b0)] from by kernel_rfl]; intro p hp
 rcases List.mem_cons.1 hp with rfl | hp
 ·exact w0 K
 cases hp)) fun xs rows boxes K r hl hr => by
 obtain ⟨a1, a2, a3, a4, e, h⟩ := runv hr
 have := St.like_eq (y := a a1 a2 a3 a4) hl (by kernel_rfl) e
 obtain ⟨rfl, rfl, rfl⟩ := argSt_inj this
 exact (tie K a1 a2 a3 a4).trans h
end spec_l9Behind
namespace spec_FunTwo
noncomputable def c : Code := bodyOf Go.Proofs.Try.f74
noncomputable def fi : Fin := ⟨Γ0, [(.tmp 2, 4)], [[1]], [], [], []⟩
noncomputable def m (r1 : Bool) : Res := ⟨[⟨false, [.bool r1]⟩], [], [], [], []⟩
noncomputable def os : List (FuncId × St × (List Lf → (Res → Option Res) → Option Res)) := [spec_l1Sign2.con]
noncomputable def X (K : Res → Option Res) : Ctx := { Γ := Γ0, orc := orcOf os, io := [], share := [], opn := [], shr := [], bun := [], cut := [], own := [], cin := [], cout := [], lp := lpOf [], kl := Env.kl, nk := true, eqs := eqs0, byt := byt0, fin := finK fi K }
noncomputable def b (a1 a2 a3 : Int) (R : Bool → Option Res) : Option Res :=
 bif (a2 == 46) then (spec_l1Sign2.g a1 fun r4 =>
  bif r4 then (spec_l1Sign2.g a3 fun r5 =>
   R r5)
  else R false)
 else bif (a3 != 0) then R false
 else bif (a2 == 111) then (spec_l1Sign2.g a1 fun r6 =>
  R r6)
 else bif (a2 != 0) then R false
 else (spec_l1Sign2.g a1 fun r7 =>
 bif r7 then R true
 else bif (a1 == 35) then R true
 else bif (a1 == 44) then R true
 else bif (a1 == 116) then R true
 else bif (a1 == 100) then R true
 else bif (a1 == 114) then R true
 else bif (a1 == 64) then R true
 else bif (a1 == 63) then R true
 else bif (a1 == 36) then R true
 else R (a1 == 101))
theorem gx : ∃ x : Int → Int → Int → (Bool → Option Res) → Option Res, x = b := ⟨_, rfl⟩
noncomputable def g : Int → Int → Int → (Bool → Option Res) → Option Res := Classical.choose gx
theorem e : g = b := Classical.choose_spec gx
noncomputable def run : List Lf → (Res → Option Res) → Option Res
 | [.i a1, .i a2, .i a3], K => g a1 a2 a3 (fun r1 => K (m r1))
 | _, _ => none
noncomputable def a (a1 a2 a3 : Int) : St := argSt [.v ⟨true, [.int .i64 a1, .int .i64 a2, .int .i64 a3]⟩] [] []
noncomputable def con : FuncId × St × (List Lf → (Res → Option Res) → Option Res) := (74, a 0 0 0, run)
theorem cx (K : Res → Option Res) : CtxOk Go.Proofs.Try.prog Γ0 byt0 eqs0 (X K) os := ⟨rfl, rfl, rfl, (fun p hp => by
 rcases List.mem_cons.1 hp with rfl | hp
 ·exact spec_l1Sign2.ok
 cases hp), rfl, rfl, rfl⟩
theorem tie (K : Res → Option Res) (a1 a2 a3 : Int) : exec (X K) c (entry 77 [.v ⟨true, [.int .i64 a1, .int .i64 a2, .int .i64 a3]⟩] [] []) (endK (X K)) = g a1 a2 a3 (fun r1 => K (m r1)) := Eq.trans (b := b a1 a2 a3 (fun r1 => K (m r1))) (by kernel_rfl) (by rw [e])
theorem runv {l : List Lf} {K : Res → Option Res} {r : Res} (h : run l K = some r) : ∃ a1 a2 a3, l = [.i a1, .i a2, .i a3] ∧ g a1 a2 a3 (fun r1 => K (m r1)) = some r := by
 unfold run at h; split at h
 ·exact ⟨_, _, _, rfl, h⟩
 ·cases h
theorem ok : Con Go.Proofs.Try.prog con := con_of (fn := Go.Proofs.Try.f74) (c := c) (Fi := fi) (X := X) (fun_of laid (by kernel_rfl) (by kernel_rfl) (by kernel_rfl) rfl (by kernel_rfl) (by kernel_rfl) cx (fun _ => rfl) (fun _ => rfl) (fun K => by
 rw [show loopsOf c = [] from by kernel_rfl]; intro p hp
 cases hp)) fun xs rows boxes K r hl hr => by
 obtain ⟨a1, a2, a3, e, h⟩ := runv hr
 have := St.like_eq (y := a a1 a2 a3) hl (by kernel_rfl) e
 obtain ⟨rfl, rfl, rfl⟩ := argSt_inj this
 exact (tie K a1 a2 a3).trans h
end spec_FunTwo
namespace spec_l9Kind_L2
noncomputable def c : Code := bodyOf Go.Proofs.Try.f113
noncomputable def fi : Fin := ⟨Γ0, [(.tmp 4, 3)], [[1]], [true], [([.sl [.int .i64, .int .i64] 16, .int .i64, .sl [.int .i64, .int .i64, .int .i64, .int .i64, .int .i64, .int .i64, .ints .i64] 72], [0, 1, 2])], []⟩
noncomputable def m (a2 a3 : List (List Cl)) (a4 r1 : Int) : Res := ⟨[⟨false, [.int .i64 r1]⟩], [some ⟨[.int .i64, .int .i64, .int .i64, .int .i64, .int .i64, .int .i64, .ints .i64], .cells a2, false, 0, none⟩], [], [[.tr 2 2 [.int .i64, .int .i64] (.cells a3), .int .i64 a4, .ow 0]], []⟩
noncomputable def os : List (FuncId × St × (List Lf → (Res → Option Res) → Option Res)) := []
noncomputable def X (K : Res → Option Res) : Ctx := { Γ := Γ0, orc := orcOf os, io := [], share := [], opn := [], shr := [], bun := [], cut := [], own := [], cin := [], cout := [], lp := lpOf [], kl := Env.kl, nk := true, eqs := eqs0, byt := byt0, fin := finK fi K }
noncomputable def b (a1 : Int) (a2 a3 : List (List Cl)) (a4 : Int) (R : Int → Option Res) : Option Res :=
 bif decide ((a3.length : Int) ≤ IntKind.i64.wrap (a4 + a1)) then R 0
 else bif decide (0 ≤ IntKind.i64.wrap (a4 + a1)) && decide (IntKind.i64.wrap (a4 + a1) < (a3.length : Int)) then R (((a3.getD ((IntKind.i64.wrap (a4 + a1)).toNat) []).getD 0 (.i 0)).toI)
 else none
theorem gx : ∃ x : Int → List (List Cl) → List (List Cl) → Int → (Int → Option Res) → Option Res, x = b := ⟨_, rfl⟩
noncomputable def g : Int → List (List Cl) → List (List Cl) → Int → (Int → Option Res) → Option Res := Classical.choose gx
theorem e : g = b := Classical.choose_spec gx
noncomputable def run : List Lf → (Res → Option Res) → Option Res
 | [.i a1, .q (.cells a2), .q (.cells a3), .i a4], K => g a1 a2 a3 a4 (fun r1 => K (m a2 a3 a4 r1))
 | _, _ => none
noncomputable def a (a1 : Int) (a2 a3 : List (List Cl)) (a4 : Int) : St := argSt [one (.bp 0 0), one (.int .i64 a1)] [⟨[.int .i64, .int .i64, .int .i64, .int .i64, .int .i64, .int .i64, .ints .i64], .cells a2, false, 0, none⟩] [[.tr 2 2 [.int .i64, .int .i64] (.cells a3), .int .i64 a4, .ow 0]]
noncomputable def con : FuncId × St × (List Lf → (Res → Option Res) → Option Res) := (113, a 0 [] [] 0, run)
theorem cx (K : Res → Option Res) : CtxOk Go.Proofs.Try.prog Γ0 byt0 eqs0 (X K) os := ⟨rfl, rfl, rfl, (fun p hp => by
 cases hp), rfl, rfl, rfl⟩
theorem tie (K : Res → Option Res) (a1 : Int) (a2 a3 : List (List Cl)) (a4 : Int) : exec (X K) c (entry 30 [one (.bp 0 0), one (.int .i64 a1)] [⟨[.int .i64, .int .i64, .int .i64, .int .i64, .int .i64, .int .i64, .ints .i64], .cells a2, false, 0, none⟩] [[.tr 2 2 [.int .i64, .int .i64] (.cells a3), .int .i64 a4, .ow 0]]) (endK (X K)) = g a1 a2 a3 a4 (fun r1 => K (m a2 a3 a4 r1)) := Eq.trans (b := b a1 a2 a3 a4 (fun r1 => K (m a2 a3 a4 r1))) (by kernel_rfl) (by rw [e])
theorem runv {l : List Lf} {K : Res → Option Res} {r : Res} (h : run l K = some r) : ∃ a1 a2 a3 a4, l = [.i a1, .q (.cells a2), .q (.cells a3), .i a4] ∧ g a1 a2 a3 a4 (fun r1 => K (m a2 a3 a4 r1)) = some r := by
 unfold run at h; split at h
 ·exact ⟨_, _, _, _, rfl, h⟩
 ·cases h
theorem ok : Con Go.Proofs.Try.prog con := con_of (fn := Go.Proofs.Try.f113) (c := c) (Fi := fi) (X := X) (fun_of laid (by kernel_rfl) (by kernel_rfl) (by kernel_rfl) rfl (by kernel_rfl) (by kernel_rfl) cx (fun _ => rfl) (fun _ => rfl) (fun K => by
 rw [show loopsOf c = [] from by kernel_rfl]; intro p hp
 cases hp)) fun xs rows boxes K r hl hr => by
 obtain ⟨a1, a2, a3, a4, e, h⟩ := runv hr
 have := St.like_eq (y := a a1 a2 a3 a4) hl (by kernel_rfl) e
 obtain ⟨rfl, rfl, rfl⟩ := argSt_inj this
 exact (tie K a1 a2 a3 a4).trans h
end spec_l9Kind_L2
namespace spec_l9Behind_L2
noncomputable def c : Code := bodyOf Go.Proofs.Try.f116
noncomputable def fi : Fin := ⟨Γ0, [], [], [false], [([.sl [.int .i64, .int .i64] 16, .int .i64, .sl [.int .i64, .int .i64, .int .i64, .int .i64, .int .i64, .int .i64, .ints .i64] 72], [0, 1, 1])], []⟩
noncomputable def m (r1 : List (List Cl)) (r2 : Int) (r3 : List (List Cl)) : Res := ⟨[], [none], [⟨[.int .i64, .int .i64, .int .i64, .int .i64, .int .i64, .int .i64, .ints .i64], .cells r3, false, 0, none⟩], [[.tr 2 2 [.int .i64, .int .i64] (.cells r1), .int .i64 r2, .ow 1000]], []⟩
noncomputable def b0 : Code := codeAt c [1, 1, 0, 0]
noncomputable def s0 (x5 : List (List Cl)) (x6 x7 : Int) (x8 x9 : List (List Cl)) (x10 : Int) : St := ⟨mkT 54 [(0, one (.bp 0 0)), (1, one (.tr 0 2 [.int .i64, .int .i64, .int .i64, .int .i64, .int .i64, .int .i64, .ints .i64] (.cells x5))), (4, one (.int .i64 x6)), (5, one (.int .i64 x7))], [(102401000, ⟨[.int .i64, .int .i64, .int .i64, .int .i64, .int .i64, .int .i64, .ints .i64], .cells x8, false, 0, none⟩)], [(0, [.tr 2 2 [.int .i64, .int .i64] (.cells x9), .int .i64 x10, .ow 102401000])]⟩
noncomputable def l0s (x5 : List (List Cl)) (x6 : Int) (x9 : List (List Cl)) (x10 : Int) (rec : Int → List (List Cl) → Option Res) (k : List (List Cl) → Option Res) (x7 : Int) (x8 : List (List Cl)) : Option Res :=
 bif decide (x7 < (x5.length : Int)) then (bif decide (0 ≤ x7) && decide (x7 < (x5.length : Int)) then (bif (((x5.getD x7.toNat []).getD 0 (.i 0)).toI == 5) then (bif decide ((x8.length + 1) * 72 ≤ 140737488355328) then rec (IntKind.i64.wrap (x7 + 1)) (x8 ++ ([[.i (((x5.getD x7.toNat []).getD 0 (.i 0)).toI), .i (IntKind.i64.wrap ((((x5.getD x7.toNat []).getD 1 (.i 0)).toI) + x6)), .i (IntKind.i64.wrap ((((x5.getD x7.toNat []).getD 2 (.i 0)).toI) + x6)), .i (((x5.getD x7.toNat []).getD 3 (.i 0)).toI), .i (((x5.getD x7.toNat []).getD 4 (.i 0)).toI), .i (((x5.getD x7.toNat []).getD 5 (.i 0)).toI), .l (((x5.getD x7.toNat []).getD 6 (.i 0)).toL)]] : List (List Cl)))
  else none)
  else bif (((x5.getD x7.toNat []).getD 0 (.i 0)).toI == 4) then (bif decide ((x8.length + 1) * 72 ≤ 140737488355328) then rec (IntKind.i64.wrap (x7 + 1)) (x8 ++ ([[.i (((x5.getD x7.toNat []).getD 0 (.i 0)).toI), .i (((x5.getD x7.toNat []).getD 1 (.i 0)).toI), .i (IntKind.i64.wrap ((((x5.getD x7.toNat []).getD 2 (.i 0)).toI) + x6)), .i (((x5.getD x7.toNat []).getD 3 (.i 0)).toI), .i (((x5.getD x7.toNat []).getD 4 (.i 0)).toI), .i (((x5.getD x7.toNat []).getD 5 (.i 0)).toI), .l (((x5.getD x7.toNat []).getD 6 (.i 0)).toL)]] : List (List Cl)))
   else none)
  else bif (((x5.getD x7.toNat []).getD 0 (.i 0)).toI == 3) then (bif decide ((x8.length + 1) * 72 ≤ 140737488355328) then rec (IntKind.i64.wrap (x7 + 1)) (x8 ++ ([[.i (((x5.getD x7.toNat []).getD 0 (.i 0)).toI), .i (((x5.getD x7.toNat []).getD 1 (.i 0)).toI), .i (IntKind.i64.wrap ((((x5.getD x7.toNat []).getD 2 (.i 0)).toI) + x6)), .i (((x5.getD x7.toNat []).getD 3 (.i 0)).toI), .i (((x5.getD x7.toNat []).getD 4 (.i 0)).toI), .i (((x5.getD x7.toNat []).getD 5 (.i 0)).toI), .l (((x5.getD x7.toNat []).getD 6 (.i 0)).toL)]] : List (List Cl)))
   else none)
  else bif decide ((x8.length + 1) * 72 ≤ 140737488355328) then rec (IntKind.i64.wrap (x7 + 1)) (x8 ++ ([[.i (((x5.getD x7.toNat []).getD 0 (.i 0)).toI), .i (((x5.getD x7.toNat []).getD 1 (.i 0)).toI), .i (((x5.getD x7.toNat []).getD 2 (.i 0)).toI), .i (((x5.getD x7.toNat []).getD 3 (.i 0)).toI), .i (((x5.getD x7.toNat []).getD 4 (.i 0)).toI), .i (((x5.getD x7.toNat []).getD 5 (.i 0)).toI), .l (((x5.getD x7.toNat []).getD 6 (.i 0)).toL)]] : List (List Cl)))
  else none)
  else none)
 else k x8
noncomputable def l0 (x5 : List (List Cl)) (x6 : Int) (x9 : List (List Cl)) (x10 : Int) (k : List (List Cl) → Option Res) : Nat → Int → List (List Cl) → Option Res
 | 0, _, _ => none
 | n + 1, x7, x8 => l0s x5 x6 x9 x10 (fun x7 x8 => l0 x5 x6 x9 x10 k n x7 x8) k x7 x8
noncomputable def o0 (x5 : List (List Cl)) (x6 : Int) (x9 : List (List Cl)) (x10 : Int) (y1 : List (List Cl)) : St := ⟨mkT 54 [], [(102401000, ⟨[.int .i64, .int .i64, .int .i64, .int .i64, .int .i64, .int .i64, .ints .i64], .cells y1, false, 0, none⟩)], [(0, [.tr 2 2 [.int .i64, .int .i64] (.cells x9), .int .i64 x10, .ow 102401000])]⟩
noncomputable def p0 (K : Res → Option Res) : List Lf → (St → Option Res) → Option Res
 | [.q (.cells x5), .i x6, .i x7, .q (.cells x8), .q (.cells x9), .i x10], k => l0 x5 x6 x9 x10 (fun y1 => k (o0 x5 x6 x9 x10 y1)) fuel x7 x8
 | _, _ => none
noncomputable def os : List (FuncId × St × (List Lf → (Res → Option Res) → Option Res)) := []
noncomputable def X (K : Res → Option Res) : Ctx := { Γ := Γ0, orc := orcOf os, io := [], share := [], opn := [], shr := [], bun := [], cut := [], own := [], cin := [(0, ⟨[0, 1, 4, 5], [(0, 102401000), (25688, 102401000)], [0], [], [], []⟩)], cout := [(0, ⟨[], [(102401000, 102401000)], [0], [], [], []⟩)], lp := lpOf [(0, s0 [] 0 0 [] [] 0, p0 K)], kl := Env.kl, nk := true, eqs := eqs0, byt := byt0, fin := finK fi K }
noncomputable def b (a1 a2 a3 : List (List Cl)) (a4 : Int) (R : List (List Cl) → Int → List (List Cl) → Option Res) : Option Res :=
 l0 a1 (a2.length : Int) a3 a4 (fun y11 =>
 R a3 a4 y11) fuel 0 a2
theorem gx : ∃ x : List (List Cl) → List (List Cl) → List (List Cl) → Int → (List (List Cl) → Int → List (List Cl) → Option Res) → Option Res, x = b := ⟨_, rfl⟩
noncomputable def g : List (List Cl) → List (List Cl) → List (List Cl) → Int → (List (List Cl) → Int → List (List Cl) → Option Res) → Option Res := Classical.choose gx
theorem e : g = b := Classical.choose_spec gx
noncomputable def run : List Lf → (Res → Option Res) → Option Res
 | [.q (.cells a1), .q (.cells a2), .q (.cells a3), .i a4], K => g a1 a2 a3 a4 (fun r1 r2 r3 => K (m r1 r2 r3))
 | _, _ => none
noncomputable def a (a1 a2 a3 : List (List Cl)) (a4 : Int) : St := argSt [one (.bp 0 0), one (.tr 0 2 [.int .i64, .int .i64, .int .i64, .int .i64, .int .i64, .int .i64, .ints .i64] (.cells a1))] [⟨[.int .i64, .int .i64, .int .i64, .int .i64, .int .i64, .int .i64, .ints .i64], .cells a2, false, 0, none⟩] [[.tr 2 2 [.int .i64, .int .i64] (.cells a3), .int .i64 a4, .ow 0]]
noncomputable def con : FuncId × St × (List Lf → (Res → Option Res) → Option Res) := (116, a [] [] [] 0, run)
theorem cx (K : Res → Option Res) : CtxOk Go.Proofs.Try.prog Γ0 byt0 eqs0 (X K) os := ⟨rfl, rfl, rfl, (fun p hp => by
 cases hp), rfl, rfl, rfl⟩
theorem t0 (K : Res → Option Res) (k : St → Option Res) (it : St → (St → Option Res) → Option Res) (x5 : List (List Cl)) (x6 x7 : Int) (x8 x9 : List (List Cl)) (x10 : Int) : iterS (X K) 0 b0 it (s0 x5 x6 x7 x8 x9 x10) k = l0s x5 x6 x9 x10 (fun x7 x8 => it (s0 x5 x6 x7 x8 x9 x10) k) (fun y1 => k (o0 x5 x6 x9 x10 y1)) x7 x8 := by kernel_rfl
theorem i0 (K : Res → Option Res) (k : St → Option Res) (x5 : List (List Cl)) (x6 : Int) (x9 : List (List Cl)) (x10 : Int) : ∀ (n : Nat) (x7 : Int) (x8 : List (List Cl)), iter (X K) 0 b0 n (s0 x5 x6 x7 x8 x9 x10) k = l0 x5 x6 x9 x10 (fun y1 => k (o0 x5 x6 x9 x10 y1)) n x7 x8
 | 0, _, _ => rfl
 | n + 1, x7, x8 => by
  rw [iter_succ, t0, show (fun x7 x8 => iter (X K) 0 b0 n (s0 x5 x6 x7 x8 x9 x10) k) = (fun x7 x8 => l0 x5 x6 x9 x10 (fun y1 => k (o0 x5 x6 x9 x10 y1)) n x7 x8) from funext fun x7 => funext fun x8 => i0 K k x5 x6 x9 x10 n x7 x8]; rfl
theorem v0 {K : Res → Option Res} {l : List Lf} {k : St → Option Res} {r : Res} (h : p0 K l k = some r) : ∃ x5 x6 x7 x8 x9 x10, l = [.q (.cells x5), .i x6, .i x7, .q (.cells x8), .q (.cells x9), .i x10] ∧ l0 x5 x6 x9 x10 (fun y1 => k (o0 x5 x6 x9 x10 y1)) fuel x7 x8 = some r := by
 unfold p0 at h; split at h
 ·exact ⟨_, _, _, _, _, _, rfl, h⟩
 ·cases h
theorem w0 (K : Res → Option Res) : LpSound Go.Proofs.Try.prog (X K) 0 b0 := lp_ok ((cx K).ok laid) (by rw [show loopsOf b0 = [] from by kernel_rfl]; intro p hp; cases hp) rfl fun p hp hid => by
 rcases List.mem_cons.1 hp with rfl | hp
 ·intro st k r h1 h2; obtain ⟨x5, x6, x7, x8, x9, x10, e, h⟩ := v0 (K := K) h2; have := St.like_eq (y := s0 x5 x6 x7 x8 x9 x10) h1 (by kernel_rfl) e; subst this; exact ⟨fuel, (i0 K k x5 x6 x9 x10 fuel x7 x8).trans h⟩
 cases hp
theorem tie (K : Res → Option Res) (a1 a2 a3 : List (List Cl)) (a4 : Int) : exec (X K) c (entry 54 [one (.bp 0 0), one (.tr 0 2 [.int .i64, .int .i64, .int .i64, .int .i64, .int .i64, .int .i64, .ints .i64] (.cells a1))] [⟨[.int .i64, .int .i64, .int .i64, .int .i64, .int .i64, .int .i64, .ints .i64], .cells a2, false, 0, none⟩] [[.tr 2 2 [.int .i64, .int .i64] (.cells a3), .int .i64 a4, .ow 0]]) (endK (X K)) = g a1 a2 a3 a4 (fun r1 r2 r3 => K (m r1 r2 r3)) := Eq.trans (b := b a1 a2 a3 a4 (fun r1 r2 r3 => K (m r1 r2 r3))) (by kernel_rfl) (by rw [e])
theorem runv {l : List Lf} {K : Res → Option Res} {r : Res} (h : run l K = some r) : ∃ a1 a2 a3 a4, l = [.q (.cells a1), .q (.cells a2), .q (.cells a3), .i a4] ∧ g a1 a2 a3 a4 (fun r1 r2 r3 => K (m r1 r2 r3)) = some r := by
 unfold run at h; split at h
 ·exact ⟨_, _, _, _, rfl, h⟩
 ·cases h
theorem ok : Con Go.Proofs.Try.prog con := con_of (fn := Go.Proofs.Try.f116) (c := c) (Fi := fi) (X := X) (fun_of laid (by kernel_rfl) (by kernel_rfl) (by kernel_rfl) rfl (by kernel_rfl) (by kernel_rfl) cx (fun _ => rfl) (fun _ => rfl) (fun K => by
 rw [show loopsOf c = [(0, b0)] from by kernel_rfl]; intro p hp
 rcases List.mem_cons.1 hp with rfl | hp
 ·exact w0 K
 cases hp)) fun xs rows boxes K r hl hr => by
 obtain ⟨a1, a2, a3, a4, e, h⟩ := runv hr
 have := St.like_eq (y := a a1 a2 a3 a4) hl (by kernel_rfl) e
 obtain ⟨rfl, rfl, rfl⟩ := argSt_inj this
 exact (tie K a1 a2 a3 a4).trans h
end spec_l9Behind_L2
-- GROUP spec_l9Operand spec_l9Line
namespace spec_l9Operand
noncomputable def c : Code := bodyOf Go.Proofs.Try.f115
noncomputable def fi : Fin := ⟨Γ0, [(.tmp 2, 4)], [[1]], [false], [([.sl [.int .i64, .int .i64] 16, .int .i64, .sl [.int .i64, .int .i64, .int .i64, .int .i64, .int .i64, .int .i64, .ints .i64] 72], [0, 1, 11])], []⟩
noncomputable def m (r1 : Bool) (r2 : List (List Cl)) (r3 : Int) (r4 : List (List Cl)) : Res := ⟨[⟨false, [.bool r1]⟩], [none], [⟨[.int .i64, .int .i64, .int .i64, .int .i64, .int .i64, .int .i64, .ints .i64], .cells r4, false, 0, none⟩], [[.tr 2 2 [.int .i64, .int .i64] (.cells r2), .int .i64 r3, .ow 1000]], []⟩
abbrev T : Type := List (List Cl) → List (List Cl) → Int → (Bool → List (List Cl) → Int → List (List Cl) → Option Res) → Option Res
noncomputable def runz (h : T) : List Lf → (Res → Option Res) → Option Res
 | [.q (.cells a1), .q (.cells a2), .i a3], K => h a1 a2 a3 (fun r1 r2 r3 r4 => K (m r1 r2 r3 r4))
 | _, _ => none
noncomputable def a (a1 a2 : List (List Cl)) (a3 : Int) : St := argSt [one (.bp 0 0)] [⟨[.int .i64, .int .i64, .int .i64, .int .i64, .int .i64, .int .i64, .ints .i64], .cells a1, true, 0, none⟩] [[.tr 2 2 [.int .i64, .int .i64] (.cells a2), .int .i64 a3, .ow 0]]
noncomputable def conz (h : T) : FuncId × St × (List Lf → (Res → Option Res) → Option Res) := (115, a [] [] 0, runz h)
end spec_l9Operand
namespace spec_l9Line
noncomputable def c : Code := bodyOf Go.Proofs.Try.f79
noncomputable def fi : Fin := ⟨Γ0, [(.tmp 2, 4)], [[1]], [false], [([.sl [.int .i64, .int .i64] 16, .int .i64, .sl [.int .i64, .int .i64, .int .i64, .int .i64, .int .i64, .int .i64, .ints .i64] 72], [0, 1, 11])], []⟩
noncomputable def m (r1 : Bool) (r2 : List (List Cl)) (r3 : Int) (r4 : List (List Cl)) : Res := ⟨[⟨false, [.bool r1]⟩], [none], [⟨[.int .i64, .int .i64, .int .i64, .int .i64, .int .i64, .int .i64, .ints .i64], .cells r4, false, 0, none⟩], [[.tr 2 2 [.int .i64, .int .i64] (.cells r2), .int .i64 r3, .ow 1000]], []⟩
abbrev T : Type := List (List Cl) → List (List Cl) → Int → (Bool → List (List Cl) → Int → List (List Cl) → Option Res) → Option Res
noncomputable def runz (h : T) : List Lf → (Res → Option Res) → Option Res
 | [.q (.cells a1), .q (.cells a2), .i a3], K => h a1 a2 a3 (fun r1 r2 r3 r4 => K (m r1 r2 r3 r4))
 | _, _ => none
noncomputable def a (a1 a2 : List (List Cl)) (a3 : Int) : St := argSt [one (.bp 0 0)] [⟨[.int .i64, .int .i64, .int .i64, .int .i64, .int .i64, .int .i64, .ints .i64], .cells a1, true, 0, none⟩] [[.tr 2 2 [.int .i64, .int .i64] (.cells a2), .int .i64 a3, .ow 0]]
noncomputable def conz (h : T) : FuncId × St × (List Lf → (Res → Option Res) → Option Res) := (79, a [] [] 0, runz h)
end spec_l9Line
abbrev Z_spec_l9Operand : Type := spec_l9Operand.T × spec_l9Line.T
def Gd_spec_l9Operand (z : Z_spec_l9Operand) : Prop := Con Go.Proofs.Try.prog (spec_l9Operand.conz z.1) ∧ Con Go.Proofs.Try.prog (spec_l9Line.conz z.2)
namespace spec_l9Operand
noncomputable def b1 : Code := codeAt c [1, 0, 1, 0, 1, 0, 1, 0, 0, 0]
noncomputable def s1 (x5 : List (List Cl)) (x6 : List Int) (x7 : List (List Cl)) (x8 x9 x10 x11 x12 x13 x14 : Int) : St := ⟨mkT 103 [(0, one (.bp 0 0)), (3, one (.bp 7160 0))], [(0, ⟨[.int .i64, .int .i64, .int .i64, .int .i64, .int .i64, .int .i64, .ints .i64], .cells x5, true, 0, none⟩), (7158, ⟨[.int .i64], .ints x6, true, 0, none⟩)], [(0, [.tr 2 2 [.int .i64, .int .i64] (.cells x7), .int .i64 x8, .ow 0]), (7160, [.int .i64 x9, .int .i64 x10, .int .i64 x11, .int .i64 x12, .int .i64 x13, .int .i64 x14, .ow 7158])]⟩
noncomputable def l1s (x5 x7 : List (List Cl)) (x9 x10 x11 x12 x13 x14 : Int) (rec : List Int → Int → Option Res) (k : List Int → Int → Option Res) (x6 : List Int) (x8 : Int) : Option Res :=
 spec_l9Kind.g 0 x5 x7 x8 fun r15 =>
 bif (r15 == 1) then (bif decide (0 ≤ x8) && decide (x8 < (x7.length : Int)) then (bif decide ((x6.length + 1) * 8 ≤ 140737488355328) then rec (x6 ++ ([((x7.getD x8.toNat []).getD 1 (.i 0)).toI] : List Int)) (IntKind.i64.wrap (x8 + 1))
  else none)
  else none)
 else k x6 x8
noncomputable def l1 (x5 x7 : List (List Cl)) (x9 x10 x11 x12 x13 x14 : Int) (k : List Int → Int → Option Res) : Nat → List Int → Int → Option Res
 | 0, _, _ => none
 | n + 1, x6, x8 => l1s x5 x7 x9 x10 x11 x12 x13 x14 (fun x6 x8 => l1 x5 x7 x9 x10 x11 x12 x13 x14 k n x6 x8) k x6 x8
noncomputable def o1 (x5 x7 : List (List Cl)) (x9 x10 x11 x12 x13 x14 : Int) (y2 : List Int) (y4 : Int) : St := ⟨mkT 103 [(0, one (.bp 0 0)), (3, one (.bp 7160 0))], [(0, ⟨[.int .i64, .int .i64, .int .i64, .int .i64, .int .i64, .int .i64, .ints .i64], .cells x5, true, 0, none⟩), (7158, ⟨[.int .i64], .ints y2, true, 0, none⟩)], [(0, [.tr 2 2 [.int .i64, .int .i64] (.cells x7), .int .i64 y4, .ow 0]), (7160, [.int .i64 x9, .int .i64 x10, .int .i64 x11, .int .i64 x12, .int .i64 x13, .int .i64 x14, .ow 7158])]⟩
noncomputable def p1 (K : Res → Option Res) : List Lf → (St → Option Res) → Option Res
 | [.q (.cells x5), .q (.ints x6), .q (.cells x7), .i x8, .i x9, .i x10, .i x11, .i x12, .i x13, .i x14], k => l1 x5 x7 x9 x10 x11 x12 x13 x14 (fun y2 y4 => k (o1 x5 x7 x9 x10 x11 x12 x13 x14 y2 y4)) fuel x6 x8
 | _, _ => none
noncomputable def os (z : Z_spec_l9Operand) : List (FuncId × St × (List Lf → (Res → Option Res) → Option Res)) := [spec_l9Kind.con, spec_l9Line.conz z.2, spec_l9Kind_L2.con]
noncomputable def X (z : Z_spec_l9Operand) (K : Res → Option Res) : Ctx := { Γ := Γ0, orc := orcOf (os z), io := [], share := [], opn := [], shr := [], bun := [], cut := [], own := [(3, 0, 6, [.int .i64])], cin := [(1, ⟨[0, 3], [(0, 0), (7158, 7158), (11464, 7158)], [0, 7160], [], [], []⟩)], cout := [(1, ⟨[0, 3], [(0, 0), (7158, 7158)], [0, 7160], [], [], []⟩)], lp := lpOf [(1, s1 [] [] [] 0 0 0 0 0 0 0, p1 K)], kl := Env.kl, nk := true, eqs := eqs0, byt := byt0, fin := finK fi K }
noncomputable def g (z : Z_spec_l9Operand) (a1 a2 : List (List Cl)) (a3 : Int) (R : Bool → List (List Cl) → Int → List (List Cl) → Option Res) : Option Res :=
 spec_l9Kind.g 0 a1 a2 a3 fun r4 =>
 bif (r4 == 1) then (l1 a1 a2 1 0 0 0 0 0 (fun y16 y17 =>
  bif decide ((a1.length + 1) * 72 ≤ 140737488355328) then R true a2 y17 (a1 ++ ([[.i 1, .i 0, .i 0, .i 0, .i 0, .i 0, .l y16]] : List (List Cl)))
  else none) fuel ([] : List Int) a3)
 else bif (r4 == 2) then (bif decide (0 ≤ a3) && decide (a3 < (a2.length : Int)) then (bif decide ((a1.length + 1) * 72 ≤ 140737488355328) then R true a2 (IntKind.i64.wrap (a3 + 1)) (a1 ++ ([[.i 2, .i (((a2.getD a3.toNat []).getD 1 (.i 0)).toI), .i 0, .i 0, .i 0, .i 0, .l ([] : List Int)]] : List (List Cl)))
  else none)
  else none)
 else bif (r4 == 4) then (z.2 a1 a2 (IntKind.i64.wrap (a3 + 1)) fun r18 r19 r20 r21 =>
  bif !r18 then R false r19 r20 r21
  else (spec_l9Kind_L2.g 0 r21 r19 r20 fun r22 =>
  bif (r22 != 5) then R false r19 r20 r21
  else R true r19 (IntKind.i64.wrap (r20 + 1)) r21))
 else R false a2 a3 a1
theorem cx (z : Z_spec_l9Operand) (hz : Gd_spec_l9Operand z) (K : Res → Option Res) : CtxOk Go.Proofs.Try.prog Γ0 byt0 eqs0 (X z K) (os z) := ⟨rfl, rfl, rfl, (fun p hp => by
 rcases List.mem_cons.1 hp with rfl | hp
 ·exact spec_l9Kind.ok
 rcases List.mem_cons.1 hp with rfl | hp
 ·exact hz.2
 rcases List.mem_cons.1 hp with rfl | hp
 ·exact spec_l9Kind_L2.ok
 cases hp), rfl, rfl, rfl⟩
theorem t1 (z : Z_spec_l9Operand) (K : Res → Option Res) (k : St → Option Res) (it : St → (St → Option Res) → Option Res) (x5 : List (List Cl)) (x6 : List Int) (x7 : List (List Cl)) (x8 x9 x10 x11 x12 x13 x14 : Int) : iterS (X z K) 1 b1 it (s1 x5 x6 x7 x8 x9 x10 x11 x12 x13 x14) k = l1s x5 x7 x9 x10 x11 x12 x13 x14 (fun x6 x8 => it (s1 x5 x6 x7 x8 x9 x10 x11 x12 x13 x14) k) (fun y2 y4 => k (o1 x5 x7 x9 x10 x11 x12 x13 x14 y2 y4)) x6 x8 := by kernel_rfl
theorem i1 (z : Z_spec_l9Operand) (K : Res → Option Res) (k : St → Option Res) (x5 x7 : List (List Cl)) (x9 x10 x11 x12 x13 x14 : Int) : ∀ (n : Nat) (x6 : List Int) (x8 : Int), iter (X z K) 1 b1 n (s1 x5 x6 x7 x8 x9 x10 x11 x12 x13 x14) k = l1 x5 x7 x9 x10 x11 x12 x13 x14 (fun y2 y4 => k (o1 x5 x7 x9 x10 x11 x12 x13 x14 y2 y4)) n x6 x8
 | 0, _, _ => rfl
 | n + 1, x6, x8 => by
  rw [iter_succ, t1 z, show (fun x6 x8 => iter (X z K) 1 b1 n (s1 x5 x6 x7 x8 x9 x10 x11 x12 x13 x14) k) = (fun x6 x8 => l1 x5 x7 x9 x10 x11 x12 x13 x14 (fun y2 y4 => k (o1 x5 x7 x9 x10 x11 x12 x13 x14 y2 y4)) n x6 x8) from funext fun x6 => funext fun x8 => i1 z K k x5 x7 x9 x10 x11 x12 x13 x14 n x6 x8]; rfl
theorem v1 {K : Res → Option Res} {l : List Lf} {k : St → Option Res} {r : Res} (h : p1 K l k = some r) : ∃ x5 x6 x7 x8 x9 x10 x11 x12 x13 x14, l = [.q (.cells x5), .q (.ints x6), .q (.cells x7), .i x8, .i x9, .i x10, .i x11, .i x12, .i x13, .i x14] ∧ l1 x5 x7 x9 x10 x11 x12 x13 x14 (fun y2 y4 => k (o1 x5 x7 x9 x10 x11 x12 x13 x14 y2 y4)) fuel x6 x8 = some r := by
 unfold p1 at h; split at h
 ·exact ⟨_, _, _, _, _, _, _, _, _, _, rfl, h⟩
 ·cases h
theorem w1 (z : Z_spec_l9Operand) (hz : Gd_spec_l9Operand z) (K : Res → Option Res) : LpSound Go.Proofs.Try.prog (X z K) 1 b1 := lp_ok (((cx z hz) K).ok laid) (by rw [show loopsOf b1 = [] from by kernel_rfl]; intro p hp; cases hp) rfl fun p hp hid => by
 rcases List.mem_cons.1 hp with rfl | hp
 ·intro st k r h1 h2; obtain ⟨x5, x6, x7, x8, x9, x10, x11, x12, x13, x14, e, h⟩ := v1 (K := K) h2; have := St.like_eq (y := s1 x5 x6 x7 x8 x9 x10 x11 x12 x13 x14) h1 (by kernel_rfl) e; subst this; exact ⟨fuel, (i1 z K k x5 x7 x9 x10 x11 x12 x13 x14 fuel x6 x8).trans h⟩
 cases hp
theorem tie (z : Z_spec_l9Operand) (K : Res → Option Res) (a1 a2 : List (List Cl)) (a3 : Int) : exec (X z K) c (entry 103 [one (.bp 0 0)] [⟨[.int .i64, .int .i64, .int .i64, .int .i64, .int .i64, .int .i64, .ints .i64], .cells a1, true, 0, none⟩] [[.tr 2 2 [.int .i64, .int .i64] (.cells a2), .int .i64 a3, .ow 0]]) (endK (X z K)) = (g z) a1 a2 a3 (fun r1 r2 r3 r4 => K (m r1 r2 r3 r4)) := by kernel_rfl
theorem runv (z : Z_spec_l9Operand) {l : List Lf} {K : Res → Option Res} {r : Res} (h : runz (g z) l K = some r) : ∃ a1 a2 a3, l = [.q (.cells a1), .q (.cells a2), .i a3] ∧ (g z) a1 a2 a3 (fun r1 r2 r3 r4 => K (m r1 r2 r3 r4)) = some r := by
 unfold runz at h; split at h
 ·exact ⟨_, _, _, rfl, h⟩
 ·cases h
theorem ok (z : Z_spec_l9Operand) (hz : Gd_spec_l9Operand z) : Con Go.Proofs.Try.prog (conz (g z)) := con_of (fn := Go.Proofs.Try.f115) (c := c) (Fi := fi) (X := X z) (fun_of laid (by kernel_rfl) (by kernel_rfl) (by kernel_rfl) rfl (by kernel_rfl) (by kernel_rfl) (cx z hz) (fun _ => rfl) (fun _ => rfl) (fun K => by
 rw [show loopsOf c = [(1, b1)] from by kernel_rfl]; intro p hp
 rcases List.mem_cons.1 hp with rfl | hp
 ·exact w1 z hz K
 cases hp)) fun xs rows boxes K r hl hr => by
 obtain ⟨a1, a2, a3, e, h⟩ := runv z hr
 have := St.like_eq (y := a a1 a2 a3) hl (by kernel_rfl) e
 obtain ⟨rfl, rfl, rfl⟩ := argSt_inj this
 exact (tie z K a1 a2 a3).trans h
end spec_l9Operand
namespace spec_l9Line
noncomputable def os (z : Z_spec_l9Operand) : List (FuncId × St × (List Lf → (Res → Option Res) → Option Res)) := [spec_l9Kind.con, spec_l9Line.conz z.2, spec_l9Fun.con, spec_FunOne.con, spec_l9Operand.conz z.1, spec_l9Behind.con, spec_FunTwo.con, spec_l9Behind_L2.con]
noncomputable def X (z : Z_spec_l9Operand) (K : Res → Option Res) : Ctx := { Γ := Γ0, orc := orcOf (os z), io := [(116, [⟨false, 0, 1⟩, ⟨false, 0, 2⟩])], share := [], opn := [], shr := [], bun := [], cut := [], own := [(15, 8, 2, [.int .i64, .int .i64, .int .i64, .int .i64, .int .i64, .int .i64, .ints .i64])], cin := [], cout := [], lp := lpOf [], kl := Env.kl, nk := true, eqs := eqs0, byt := byt0, fin := finK fi K }
noncomputable def g (z : Z_spec_l9Operand) (a1 a2 : List (List Cl)) (a3 : Int) (R : Bool → List (List Cl) → Int → List (List Cl) → Option Res) : Option Res :=
 spec_l9Kind.g 0 a1 a2 a3 fun r4 =>
 bif (r4 == 2) then (spec_l9Kind.g 1 a1 a2 a3 fun r5 =>
  bif (r5 == 6) then (bif decide (0 ≤ a3) && decide (a3 < (a2.length : Int)) then (z.2 a1 a2 (IntKind.i64.wrap (a3 + 2)) fun r6 r7 r8 r9 =>
   bif !r6 then R false r7 r8 r9
   else bif decide ((r9.length + 1) * 72 ≤ 140737488355328) then R true r7 r8 (r9 ++ ([[.i 3, .i (((a2.getD a3.toNat []).getD 1 (.i 0)).toI), .i (IntKind.i64.wrap ((r9.length : Int) - 1)), .i 0, .i 0, .i 0, .l ([] : List Int)]] : List (List Cl)))
   else none)
   else none)
  else bif (r4 == 3) then (spec_l9Fun.g a1 a2 a3 fun r10 r11 r12 r13 r14 =>
   spec_FunOne.g r10 r11 r12 fun r15 =>
   bif !r15 then R false a2 r14 a1
   else (z.2 a1 a2 r14 fun r16 r17 r18 r19 =>
   bif !r16 then R false r17 r18 r19
   else bif decide ((r19.length + 1) * 72 ≤ 140737488355328) then R true r17 r18 (r19 ++ ([[.i 4, .i 0, .i (IntKind.i64.wrap ((r19.length : Int) - 1)), .i r10, .i r11, .i r12, .l ([] : List Int)]] : List (List Cl)))
   else none))
  else (z.1 ([] : List (List Cl)) a2 a3 fun r20 r21 r22 r23 =>
  bif !r20 then R false a2 a3 a1
  else (spec_l9Fun.g a1 a2 r22 fun r24 r25 r26 r27 r28 =>
  bif !r27 then (spec_l9Behind.g r23 a1 a2 r28 fun r29 r30 r31 =>
   R true r29 r30 r31)
  else (spec_FunTwo.g r24 r25 r26 fun r32 =>
  bif !r32 then R false a2 r28 a1
  else (z.2 a1 a2 r28 fun r33 r34 r35 r36 =>
  bif !r33 then R false r34 r35 r36
  else (spec_l9Behind_L2.g r23 r36 r34 r35 fun r37 r38 r39 =>
  bif decide ((r39.length + 1) * 72 ≤ 140737488355328) then R true r37 r38 (r39 ++ ([[.i 5, .i (IntKind.i64.wrap ((r39.length : Int) - 1)), .i (IntKind.i64.wrap ((r36.length : Int) - 1)), .i r24, .i r25, .i r26, .l ([] : List Int)]] : List (List Cl)))
  else none))))))
 else bif (r4 == 3) then (spec_l9Fun.g a1 a2 a3 fun r40 r41 r42 r43 r44 =>
  spec_FunOne.g r40 r41 r42 fun r45 =>
  bif !r45 then R false a2 r44 a1
  else (z.2 a1 a2 r44 fun r46 r47 r48 r49 =>
  bif !r46 then R false r47 r48 r49
  else bif decide ((r49.length + 1) * 72 ≤ 140737488355328) then R true r47 r48 (r49 ++ ([[.i 4, .i 0, .i (IntKind.i64.wrap ((r49.length : Int) - 1)), .i r40, .i r41, .i r42, .l ([] : List Int)]] : List (List Cl)))
  else none))
 else (z.1 ([] : List (List Cl)) a2 a3 fun r50 r51 r52 r53 =>
 bif !r50 then R false a2 a3 a1
 else (spec_l9Fun.g a1 a2 r52 fun r54 r55 r56 r57 r58 =>
 bif !r57 then (spec_l9Behind.g r53 a1 a2 r58 fun r59 r60 r61 =>
  R true r59 r60 r61)
 else (spec_FunTwo.g r54 r55 r56 fun r62 =>
 bif !r62 then R false a2 r58 a1
 else (z.2 a1 a2 r58 fun r63 r64 r65 r66 =>
 bif !r63 then R false r64 r65 r66
 else (spec_l9Behind_L2.g r53 r66 r64 r65 fun r67 r68 r69 =>
 bif decide ((r69.length + 1) * 72 ≤ 140737488355328) then R true r67 r68 (r69 ++ ([[.i 5, .i (IntKind.i64.wrap ((r69.length : Int) - 1)), .i (IntKind.i64.wrap ((r66.length : Int) - 1)), .i r54, .i r55, .i r56, .l ([] : List Int)]] : List (List Cl)))
 else none)))))
theorem cx (z : Z_spec_l9Operand) (hz : Gd_spec_l9Operand z) (K : Res → Option Res) : CtxOk Go.Proofs.Try.prog Γ0 byt0 eqs0 (X z K) (os z) := ⟨rfl, rfl, rfl, (fun p hp => by
 rcases List.mem_cons.1 hp with rfl | hp
 ·exact spec_l9Kind.ok
 rcases List.mem_cons.1 hp with rfl | hp
 ·exact hz.2
 rcases List.mem_cons.1 hp with rfl | hp
 ·exact spec_l9Fun.ok
 rcases List.mem_cons.1 hp with rfl | hp
 ·exact spec_FunOne.ok
 rcases List.mem_cons.1 hp with rfl | hp
 ·exact hz.1
 rcases List.mem_cons.1 hp with rfl | hp
 ·exact spec_l9Behind.ok
 rcases List.mem_cons.1 hp with rfl | hp
 ·exact spec_FunTwo.ok
 rcases List.mem_cons.1 hp with rfl | hp
 ·exact spec_l9Behind_L2.ok
 cases hp), rfl, rfl, rfl⟩
theorem tie (z : Z_spec_l9Operand) (K : Res → Option Res) (a1 a2 : List (List Cl)) (a3 : Int) : exec (X z K) c (entry 162 [one (.bp 0 0)] [⟨[.int .i64, .int .i64, .int .i64, .int .i64, .int .i64, .int .i64, .ints .i64], .cells a1, true, 0, none⟩] [[.tr 2 2 [.int .i64, .int .i64] (.cells a2), .int .i64 a3, .ow 0]]) (endK (X z K)) = (g z) a1 a2 a3 (fun r1 r2 r3 r4 => K (m r1 r2 r3 r4)) := by kernel_rfl
theorem runv (z : Z_spec_l9Operand) {l : List Lf} {K : Res → Option Res} {r : Res} (h : runz (g z) l K = some r) : ∃ a1 a2 a3, l = [.q (.cells a1), .q (.cells a2), .i a3] ∧ (g z) a1 a2 a3 (fun r1 r2 r3 r4 => K (m r1 r2 r3 r4)) = some r := by
 unfold runz at h; split at h
 ·exact ⟨_, _, _, rfl, h⟩
 ·cases h
theorem ok (z : Z_spec_l9Operand) (hz : Gd_spec_l9Operand z) : Con Go.Proofs.Try.prog (conz (g z)) := con_of (fn := Go.Proofs.Try.f79) (c := c) (Fi := fi) (X := X z) (fun_of laid (by kernel_rfl) (by kernel_rfl) (by kernel_rfl) rfl (by kernel_rfl) (by kernel_rfl) (cx z hz) (fun _ => rfl) (fun _ => rfl) (fun K => by
 rw [show loopsOf c = [] from by kernel_rfl]; intro p hp
 cases hp)) fun xs rows boxes K r hl hr => by
 obtain ⟨a1, a2, a3, e, h⟩ := runv z hr
 have := St.like_eq (y := a a1 a2 a3) hl (by kernel_rfl) e
 obtain ⟨rfl, rfl, rfl⟩ := argSt_inj this
 exact (tie z K a1 a2 a3).trans h
end spec_l9Line
noncomputable def rec_spec_l9Operand : Nat → Z_spec_l9Operand
 | 0 => ((fun _ _ _ _ => none), (fun _ _ _ _ => none))
 | n + 1 => (spec_l9Operand.g (rec_spec_l9Operand n), spec_l9Line.g (rec_spec_l9Operand n))
theorem good_spec_l9Operand : ∀ n, Gd_spec_l9Operand (rec_spec_l9Operand n)
 | 0 => ⟨con_none (fun l K => by show spec_l9Operand.runz (fun _ _ _ _ => none) l K = none; unfold spec_l9Operand.runz; split <;> rfl), con_none (fun l K => by show spec_l9Line.runz (fun _ _ _ _ => none) l K = none; unfold spec_l9Line.runz; split <;> rfl)⟩
 | n + 1 => ⟨spec_l9Operand.ok _ (good_spec_l9Operand n), spec_l9Line.ok _ (good_spec_l9Operand n)⟩
namespace spec_l9Operand
noncomputable def gn (n : Nat) (a1 a2 : List (List Cl)) (a3 : Int) (R : Bool → List (List Cl) → Int → List (List Cl) → Option Res) : Option Res := (rec_spec_l9Operand n).1 a1 a2 a3 R
theorem Gx : ∃ x : T, x = gn fuel := ⟨_, rfl⟩
noncomputable def G : T := Classical.choose Gx
theorem Ge : G = gn fuel := Classical.choose_spec Gx
theorem gn_succ (n : Nat) (a1 a2 : List (List Cl)) (a3 : Int) (R : Bool → List (List Cl) → Int → List (List Cl) → Option Res) : gn (n + 1) a1 a2 a3 R = g (rec_spec_l9Operand n) a1 a2 a3 R := rfl
noncomputable def con : FuncId × St × (List Lf → (Res → Option Res) → Option Res) := conz G
theorem okG : Con Go.Proofs.Try.prog con := by
 unfold con; rw [Ge]; exact (good_spec_l9Operand fuel).1
end spec_l9Operand
namespace spec_l9Line
noncomputable def gn (n : Nat) (a1 a2 : List (List Cl)) (a3 : Int) (R : Bool → List (List Cl) → Int → List (List Cl) → Option Res) : Option Res := (rec_spec_l9Operand n).2 a1 a2 a3 R
theorem Gx : ∃ x : T, x = gn fuel := ⟨_, rfl⟩
noncomputable def G : T := Classical.choose Gx
theorem Ge : G = gn fuel := Classical.choose_spec Gx
theorem gn_succ (n : Nat) (a1 a2 : List (List Cl)) (a3 : Int) (R : Bool → List (List Cl) → Int → List (List Cl) → Option Res) : gn (n + 1) a1 a2 a3 R = g (rec_spec_l9Operand n) a1 a2 a3 R := rfl
noncomputable def con : FuncId × St × (List Lf → (Res → Option Res) → Option Res) := conz G
theorem okG : Con Go.Proofs.Try.prog con := by
 unfold con; rw [Ge]; exact (good_spec_l9Operand fuel).2
end spec_l9Line
-- END GROUP
namespace spec_Parse
noncomputable def c : Code := bodyOf Go.Proofs.Try.f46
noncomputable def fi : Fin := ⟨Γ0, [(.cell 2 53, 53), (.tmp 3, 3)], [[9], [1]], [], [], []⟩
noncomputable def m (r1 : List (List Cl)) (r2 : Int) : Res := ⟨[⟨true, [.ow 1000]⟩, ⟨false, [.int .i64 r2]⟩], [], [⟨[.int .i64, .int .i64, .int .i64, .int .i64, .int .i64, .int .i64, .ints .i64], .cells r1, false, 0, none⟩], [], []⟩
noncomputable def os : List (FuncId × St × (List Lf → (Res → Option Res) → Option Res)) := [spec_l8Tokens.con, spec_l9Line.con]
noncomputable def X (K : Res → Option Res) : Ctx := { Γ := Γ0, orc := orcOf os, io := [], share := [], opn := [], shr := [], bun := [], cut := [], own := [(4, 1, 2, [.int .i64, .int .i64, .int .i64, .int .i64, .int .i64, .int .i64, .ints .i64])], cin := [], cout := [], lp := lpOf [], kl := Env.kl, nk := true, eqs := eqs0, byt := byt0, fin := finK fi K }
noncomputable def b (a1 : List (List Cl)) (R : List (List Cl) → Int → Option Res) : Option Res :=
 spec_l8Tokens.g a1 fun r2 =>
 bif !r2 then R ([] : List (List Cl)) 1
 else (spec_l9Line.G ([] : List (List Cl)) a1 0 fun r3 r4 r5 r6 =>
 bif !r3 then R ([] : List (List Cl)) 8
 else bif (r5 != (a1.length : Int)) then R ([] : List (List Cl)) 8
 else bif decide (60 < (r6.length : Int)) then R ([] : List (List Cl)) 6
 else R r6 0)
theorem gx : ∃ x : List (List Cl) → (List (List Cl) → Int → Option Res) → Option Res, x = b := ⟨_, rfl⟩
noncomputable def g : List (List Cl) → (List (List Cl) → Int → Option Res) → Option Res := Classical.choose gx
theorem e : g = b := Classical.choose_spec gx
noncomputable def run : List Lf → (Res → Option Res) → Option Res
 | [.q (.cells a1)], K => g a1 (fun r1 r2 => K (m r1 r2))
 | _, _ => none
noncomputable def a (a1 : List (List Cl)) : St := argSt [one (.tr 2 2 [.int .i64, .int .i64] (.cells a1))] [] []
noncomputable def con : FuncId × St × (List Lf → (Res → Option Res) → Option Res) := (46, a [], run)
theorem cx (K : Res → Option Res) : CtxOk Go.Proofs.Try.prog Γ0 byt0 eqs0 (X K) os := ⟨rfl, rfl, rfl, (fun p hp => by
 rcases List.mem_cons.1 hp with rfl | hp
 ·exact spec_l8Tokens.ok
 rcases List.mem_cons.1 hp with rfl | hp
 ·exact spec_l9Line.okG
 cases hp), rfl, rfl, rfl⟩
theorem tie (K : Res → Option Res) (a1 : List (List Cl)) : exec (X K) c (entry 41 [one (.tr 2 2 [.int .i64, .int .i64] (.cells a1))] [] []) (endK (X K)) = g a1 (fun r1 r2 => K (m r1 r2)) := Eq.trans (b := b a1 (fun r1 r2 => K (m r1 r2))) (by kernel_rfl) (by rw [e])
theorem runv {l : List Lf} {K : Res → Option Res} {r : Res} (h : run l K = some r) : ∃ a1, l = [.q (.cells a1)] ∧ g a1 (fun r1 r2 => K (m r1 r2)) = some r := by
 unfold run at h; split at h
 ·exact ⟨_, rfl, h⟩
 ·cases h
theorem ok : Con Go.Proofs.Try.prog con := con_of (fn := Go.Proofs.Try.f46) (c := c) (Fi := fi) (X := X) (fun_of laid (by kernel_rfl) (by kernel_rfl) (by kernel_rfl) rfl (by kernel_rfl) (by kernel_rfl) cx (fun _ => rfl) (fun _ => rfl) (fun K => by
 rw [show loopsOf c = [] from by kernel_rfl]; intro p hp
 cases hp)) fun xs rows boxes K r hl hr => by
 obtain ⟨a1, e, h⟩ := runv hr
 have := St.like_eq (y := a a1) hl (by kernel_rfl) e
 obtain ⟨rfl, rfl, rfl⟩ := argSt_inj this
 exact (tie K a1).trans h
end spec_Parse
namespace spec_l9Nums
noncomputable def c : Code := bodyOf Go.Proofs.Try.f72
noncomputable def fi : Fin := ⟨Γ0, [(.tmp 2, 4)], [[1]], [], [], []⟩
noncomputable def m (r1 : Bool) : Res := ⟨[⟨false, [.bool r1]⟩], [], [], [], []⟩
noncomputable def b0 : Code := codeAt c [1, 0, 1, 0, 0]
noncomputable def s0 (x2 : List Int) (x3 : Int) : St := ⟨mkT 19 [(0, one (.tr 0 1 [.int .i64] (.ints x2))), (3, one (.int .i64 x3))], [], []⟩
noncomputable def l0s (x2 : List Int) (rec : Int → Option Res) (k : Option Res) (R : Bool → Option Res) (x3 : Int) : Option Res :=
 bif decide (x3 < (x2.length : Int)) then (bif decide (0 ≤ x3) && decide (x3 < (x2.length : Int)) then (spec_NumOk.g (x2.getD x3.toNat 0) fun r4 =>
  bif !r4 then R false
  else rec (IntKind.i64.wrap (x3 + 1)))
  else none)
 else k
noncomputable def l0 (x2 : List Int) (k : Option Res) (R : Bool → Option Res) : Nat → Int → Option Res
 | 0, _ => none
 | n + 1, x3 => l0s x2 (fun x3 => l0 x2 k R n x3) k R x3
noncomputable def o0 (x2 : List Int) : St := ⟨mkT 19 [(0, one (.tr 0 1 [.int .i64] (.ints x2)))], [], []⟩
noncomputable def p0 (K : Res → Option Res) : List Lf → (St → Option Res) → Option Res
 | [.q (.ints x2), .i x3], k => l0 x2 (k (o0 x2)) (fun r1 => K (m r1)) fuel x3
 | _, _ => none
noncomputable def os : List (FuncId × St × (List Lf → (Res → Option Res) → Option Res)) := [spec_NumOk.con, spec_l1In.con]
noncomputable def X (K : Res → Option Res) : Ctx := { Γ := Γ0, orc := orcOf os, io := [], share := [], opn := [], shr := [], bun := [], cut := [], own := [], cin := [(0, ⟨[0, 3], [], [], [], [], []⟩)], cout := [(0, ⟨[0], [], [], [], [], []⟩)], lp := lpOf [(0, s0 [] 0, p0 K)], kl := Env.kl, nk := true, eqs := eqs0, byt := byt0, fin := finK fi K }
noncomputable def b (a1 : List Int) (R : Bool → Option Res) : Option Res :=
 l0 a1 (
 spec_l1In.g (a1.length : Int) 1 300 fun r5 =>
 R r5) R fuel 0
theorem gx : ∃ x : List Int → (Bool → Option Res) → Option Res, x = b := ⟨_, rfl⟩
noncomputable def g : List Int → (Bool → Option Res) → Option Res := Classical.choose gx
theorem e : g = b := Classical.choose_spec gx
noncomputable def run : List Lf → (Res → Option Res) → Option Res
 | [.q (.ints a1)], K => g a1 (fun r1 => K (m r1))
 | _, _ => none
noncomputable def a (a1 : List Int) : St := argSt [one (.tr 0 1 [.int .i64] (.ints a1))] [] []
noncomputable def con : FuncId × St × (List Lf → (Res → Option Res) → Option Res) := (72, a [], run)
theorem cx (K : Res → Option Res) : CtxOk Go.Proofs.Try.prog Γ0 byt0 eqs0 (X K) os := ⟨rfl, rfl, rfl, (fun p hp => by
 rcases List.mem_cons.1 hp with rfl | hp
 ·exact spec_NumOk.ok
 rcases List.mem_cons.1 hp with rfl | hp
 ·exact spec_l1In.ok
 cases hp), rfl, rfl, rfl⟩
theorem t0 (K : Res → Option Res) (k : St → Option Res) (it : St → (St → Option Res) → Option Res) (x2 : List Int) (x3 : Int) : iterS (X K) 0 b0 it (s0 x2 x3) k = l0s x2 (fun x3 => it (s0 x2 x3) k) (k (o0 x2)) (fun r1 => K (m r1)) x3 := by kernel_rfl
theorem i0 (K : Res → Option Res) (k : St → Option Res) (x2 : List Int) : ∀ (n : Nat) (x3 : Int), iter (X K) 0 b0 n (s0 x2 x3) k = l0 x2 (k (o0 x2)) (fun r1 => K (m r1)) n x3
 | 0, _ => rfl
 | n + 1, x3 => by
  rw [iter_succ, t0, show (fun x3 => iter (X K) 0 b0 n (s0 x2 x3) k) = (fun x3 => l0 x2 (k (o0 x2)) (fun r1 => K (m r1)) n x3) from funext fun x3 => i0 K k x2 n x3]; rfl
theorem v0 {K : Res → Option Res} {l : List Lf} {k : St → Option Res} {r : Res} (h : p0 K l k = some r) : ∃ x2 x3, l = [.q (.ints x2), .i x3] ∧ l0 x2 (k (o0 x2)) (fun r1 => K (m r1)) fuel x3 = some r := by
 unfold p0 at h; split at h
 ·exact ⟨_, _, rfl, h⟩
 ·cases h
theorem w0 (K : Res → Option Res) : LpSound Go.Proofs.Try.prog (X K) 0 b0 := lp_ok ((cx K).ok laid) (by rw [show loopsOf b0 = [] from by kernel_rfl]; intro p hp; cases hp) rfl fun p hp hid => by
 rcases List.mem_cons.1 hp with rfl | hp
 ·intro st k r h1 h2; obtain ⟨x2, x3, e, h⟩ := v0 (K := K) h2; have := St.like_eq (y := s0 x2 x3) h1 (by kernel_rfl) e; subst this; exact ⟨fuel, (i0 K k x2 fuel x3).trans h⟩
 cases hp
theorem tie (K : Res → Option Res) (a1 : List Int) : exec (X K) c (entry 19 [one (.tr 0 1 [.int .i64] (.ints a1))] [] []) (endK (X K)) = g a1 (fun r1 => K (m r1)) := Eq.trans (b := b a1 (fun r1 => K (m r1))) (by kernel_rfl) (by rw [e])
theorem runv {l : List Lf} {K : Res → Option Res} {r : Res} (h : run l K = some r) : ∃ a1, l = [.q (.ints a1)] ∧ g a1 (fun r1 => K (m r1)) = some r := by
 unfold run at h; split at h
 ·exact ⟨_, rfl, h⟩
 ·cases h
theorem ok : Con Go.Proofs.Try.prog con := con_of (fn := Go.Proofs.Try.f72) (c := c) (Fi := fi) (X := X) (fun_of laid (by kernel_rfl) (by kernel_rfl) (by kernel_rfl) rfl (by kernel_rfl) (by kernel_rfl) cx (fun _ => rfl) (fun _ => rfl) (fun K => by
 rw [show loopsOf c = [(0, b0)] from by kernel_rfl]; intro p hp
 rcases List.mem_cons.1 hp with rfl | hp
 ·exact w0 K
 cases hp)) fun xs rows boxes K r hl hr => by
 obtain ⟨a1, e, h⟩ := runv hr
 have := St.like_eq (y := a a1) hl (by kernel_rfl) e
 obtain ⟨rfl, rfl, rfl⟩ := argSt_inj this
 exact (tie K a1).trans h
end spec_l9Nums
namespace spec_l9Node
noncomputable def c : Code := bodyOf Go.Proofs.Try.f117
noncomputable def fi : Fin := ⟨Γ0, [(.tmp 6, 3), (.tmp 7, 4)], [[1], [1]], [], [], []⟩
noncomputable def m (r1 : Int) (r2 : Bool) : Res := ⟨[⟨false, [.int .i64 r1]⟩, ⟨false, [.bool r2]⟩], [], [], [], []⟩
noncomputable def os : List (FuncId × St × (List Lf → (Res → Option Res) → Option Res)) := [spec_l9Nums.con, spec_l1In.con, spec_FunOne.con, spec_FunTwo.con]
noncomputable def X (K : Res → Option Res) : Ctx := { Γ := Γ0, orc := orcOf os, io := [], share := [], opn := [], shr := [], bun := [], cut := [], own := [], cin := [], cout := [], lp := lpOf [], kl := Env.kl, nk := true, eqs := eqs0, byt := byt0, fin := finK fi K }
noncomputable def b (a1 a2 a3 a4 a5 a6 : Int) (a7 : List Int) (a8 : Int) (a9 : List Int) (R : Int → Bool → Option Res) : Option Res :=
 bif (a1 == 1) then (bif (a2 == 0) then (bif (a3 == 0) then (bif ((a4 == 0) && ((a5 == 0) && ((a6 == 0) && true))) then (spec_l9Nums.g a7 fun r10 =>
  R 1 r10)
  else R 1 false)
  else R 1 false)
  else R 1 false)
 else bif (a1 == 2) then (spec_l1In.g a2 0 25 fun r11 =>
  bif r11 then (bif (a3 == 0) then (bif ((a4 == 0) && ((a5 == 0) && ((a6 == 0) && true))) then R 1 ((a7.length : Int) == 0)
   else R 1 false)
   else R 1 false)
  else R 1 false)
 else bif (a1 == 3) then (bif decide (a8 < 1) then R 0 false
  else bif (a3 != IntKind.i64.wrap (a8 - 1)) then R 0 false
  else bif decide (0 ≤ IntKind.i64.wrap (a8 - 1)) && decide (IntKind.i64.wrap (a8 - 1) < (a9.length : Int)) then (spec_l1In.g a2 0 25 fun r12 =>
   bif r12 then (bif ((a4 == 0) && ((a5 == 0) && ((a6 == 0) && true))) then R (IntKind.i64.wrap ((a9.getD ((IntKind.i64.wrap (a8 - 1)).toNat) 0) + 1)) ((a7.length : Int) == 0)
    else R (IntKind.i64.wrap ((a9.getD ((IntKind.i64.wrap (a8 - 1)).toNat) 0) + 1)) false)
   else R (IntKind.i64.wrap ((a9.getD ((IntKind.i64.wrap (a8 - 1)).toNat) 0) + 1)) false)
  else none)
 else bif (a1 == 4) then (bif decide (a8 < 1) then R 0 false
  else bif (a3 != IntKind.i64.wrap (a8 - 1)) then R 0 false
  else bif decide (0 ≤ IntKind.i64.wrap (a8 - 1)) && decide (IntKind.i64.wrap (a8 - 1) < (a9.length : Int)) then (bif (a2 == 0) then (spec_FunOne.g a4 a5 a6 fun r13 =>
   bif r13 then R (IntKind.i64.wrap ((a9.getD ((IntKind.i64.wrap (a8 - 1)).toNat) 0) + 1)) ((a7.length : Int) == 0)
   else R (IntKind.i64.wrap ((a9.getD ((IntKind.i64.wrap (a8 - 1)).toNat) 0) + 1)) false)
   else R (IntKind.i64.wrap ((a9.getD ((IntKind.i64.wrap (a8 - 1)).toNat) 0) + 1)) false)
  else none)
 else bif (a1 == 5) then (bif decide (a8 < 2) then R 0 false
  else bif (a2 != IntKind.i64.wrap (a8 - 1)) then R 0 false
  else bif decide (0 ≤ IntKind.i64.wrap (a8 - 1)) && decide (IntKind.i64.wrap (a8 - 1) < (a9.length : Int)) then (bif (a3 != IntKind.i64.wrap ((IntKind.i64.wrap (a8 - 1)) - (a9.getD ((IntKind.i64.wrap (a8 - 1)).toNat) 0))) then R 0 false
   else bif decide (a3 < 0) then R 0 false
   else bif decide (0 ≤ a2) && decide (a2 < (a9.length : Int)) then (bif decide (0 ≤ a3) && decide (a3 < (a9.length : Int)) then (spec_FunTwo.g a4 a5 a6 fun r14 =>
    bif r14 then R (IntKind.i64.wrap ((IntKind.i64.wrap ((a9.getD a2.toNat 0) + (a9.getD a3.toNat 0))) + 1)) ((a7.length : Int) == 0)
    else R (IntKind.i64.wrap ((IntKind.i64.wrap ((a9.getD a2.toNat 0) + (a9.getD a3.toNat 0))) + 1)) false)
    else none)
   else none)
  else none)
 else R 0 false
theorem gx : ∃ x : Int → Int → Int → Int → Int → Int → List Int → Int → List Int → (Int → Bool → Option Res) → Option Res, x = b := ⟨_, rfl⟩
noncomputable def g : Int → Int → Int → Int → Int → Int → List Int → Int → List Int → (Int → Bool → Option Res) → Option Res := Classical.choose gx
theorem e : g = b := Classical.choose_spec gx
noncomputable def run : List Lf → (Res → Option Res) → Option Res
 | [.i a1, .i a2, .i a3, .i a4, .i a5, .i a6, .q (.ints a7), .i a8, .q (.ints a9)], K => g a1 a2 a3 a4 a5 a6 a7 a8 a9 (fun r1 r2 => K (m r1 r2))
 | _, _ => none
noncomputable def a (a1 a2 a3 a4 a5 a6 : Int) (a7 : List Int) (a8 : Int) (a9 : List Int) : St := argSt [.v ⟨true, [.int .i64 a1, .int .i64 a2, .int .i64 a3, .int .i64 a4, .int .i64 a5, .int .i64 a6, .tr 0 1 [.int .i64] (.ints a7)]⟩, one (.int .i64 a8), one (.tr 0 1 [.int .i64] (.ints a9))] [] []
noncomputable def con : FuncId × St × (List Lf → (Res → Option Res) → Option Res) := (117, a 0 0 0 0 0 0 [] 0 [], run)
theorem cx (K : Res → Option Res) : CtxOk Go.Proofs.Try.prog Γ0 byt0 eqs0 (X K) os := ⟨rfl, rfl, rfl, (fun p hp => by
 rcases List.mem_cons.1 hp with rfl | hp
 ·exact spec_l9Nums.ok
 rcases List.mem_cons.1 hp with rfl | hp
 ·exact spec_l1In.ok
 rcases List.mem_cons.1 hp with rfl | hp
 ·exact spec_FunOne.ok
 rcases List.mem_cons.1 hp with rfl | hp
 ·exact spec_FunTwo.ok
 cases hp), rfl, rfl, rfl⟩
theorem tie (K : Res → Option Res) (a1 a2 a3 a4 a5 a6 : Int) (a7 : List Int) (a8 : Int) (a9 : List Int) : exec (X K) c (entry 168 [.v ⟨true, [.int .i64 a1, .int .i64 a2, .int .i64 a3, .int .i64 a4, .int .i64 a5, .int .i64 a6, .tr 0 1 [.int .i64] (.ints a7)]⟩, one (.int .i64 a8), one (.tr 0 1 [.int .i64] (.ints a9))] [] []) (endK (X K)) = g a1 a2 a3 a4 a5 a6 a7 a8 a9 (fun r1 r2 => K (m r1 r2)) := Eq.trans (b := b a1 a2 a3 a4 a5 a6 a7 a8 a9 (fun r1 r2 => K (m r1 r2))) (by kernel_rfl) (by rw [e])
theorem runv {l : List Lf} {K : Res → Option Res} {r : Res} (h : run l K = some r) : ∃ a1 a2 a3 a4 a5 a6 a7 a8 a9, l = [.i a1, .i a2, .i a3, .i a4, .i a5, .i a6, .q (.ints a7), .i a8, .q (.ints a9)] ∧ g a1 a2 a3 a4 a5 a6 a7 a8 a9 (fun r1 r2 => K (m r1 r2)) = some r := by
 unfold run at h; split at h
 ·exact ⟨_, _, _, _, _, _, _, _, _, rfl, h⟩
 ·cases h
theorem ok : Con Go.Proofs.Try.prog con := con_of (fn := Go.Proofs.Try.f117) (c := c) (Fi := fi) (X := X) (fun_of laid (by kernel_rfl) (by kernel_rfl) (by kernel_rfl) rfl (by kernel_rfl) (by kernel_rfl) cx (fun _ => rfl) (fun _ => rfl) (fun K => by
 rw [show loopsOf c = [] from by kernel_rfl]; intro p hp
 cases hp)) fun xs rows boxes K r hl hr => by
 obtain ⟨a1, a2, a3, a4, a5, a6, a7, a8, a9, e, h⟩ := runv hr
 have := St.like_eq (y := a a1 a2 a3 a4 a5 a6 a7 a8 a9) hl (by kernel_rfl) e
 obtain ⟨rfl, rfl, rfl⟩ := argSt_inj this
 exact (tie K a1 a2 a3 a4 a5 a6 a7 a8 a9).trans h
end spec_l9Node
namespace spec_TreeOk
noncomputable def c : Code := bodyOf Go.Proofs.Try.f80
noncomputable def fi : Fin := ⟨Γ0, [(.tmp 2, 4)], [[1]], [], [], []⟩
noncomputable def m (r1 : Bool) : Res := ⟨[⟨false, [.bool r1]⟩], [], [], [], []⟩
noncomputable def b0 : Code := codeAt c [1, 1, 1, 1, 0, 1, 0, 0]
noncomputable def s0 (x3 x4 : Int) (x5 : List Int) (x6 : List (List Cl)) : St := ⟨mkT 44 [(1, one (.bp 1000 0)), (3, one (.int .i64 x3)), (4, one (.ow 9192)), (5, one (.int .i64 x4))], [(9192, ⟨[.int .i64], .ints x5, true, 0, none⟩)], [(1000, [.tr 0 1 [.int .i64, .int .i64, .int .i64, .int .i64, .int .i64, .int .i64, .ints .i64] (.cells x6)])]⟩
noncomputable def l0s (x3 : Int) (x6 : List (List Cl)) (rec : Int → List Int → Option Res) (k : List Int → Option Res) (R : Bool → Option Res) (x4 : Int) (x5 : List Int) : Option Res :=
 bif decide (x4 < x3) then (bif decide (0 ≤ x4) && decide (x4 < (x6.length : Int)) then (spec_l9Node.g (((x6.getD x4.toNat []).getD 0 (.i 0)).toI) (((x6.getD x4.toNat []).getD 1 (.i 0)).toI) (((x6.getD x4.toNat []).getD 2 (.i 0)).toI) (((x6.getD x4.toNat []).getD 3 (.i 0)).toI) (((x6.getD x4.toNat []).getD 4 (.i 0)).toI) (((x6.getD x4.toNat []).getD 5 (.i 0)).toI) (((x6.getD x4.toNat []).getD 6 (.i 0)).toL) x4 x5 fun r7 r8 =>
  bif !r8 then R false
  else bif decide ((x5.length + 1) * 8 ≤ 140737488355328) then rec (IntKind.i64.wrap (x4 + 1)) (x5 ++ ([r7] : List Int))
  else none)
  else none)
 else k x5
noncomputable def l0 (x3 : Int) (x6 : List (List Cl)) (k : List Int → Option Res) (R : Bool → Option Res) : Nat → Int → List Int → Option Res
 | 0, _, _ => none
 | n + 1, x4, x5 => l0s x3 x6 (fun x4 x5 => l0 x3 x6 k R n x4 x5) k R x4 x5
noncomputable def o0 (x3 : Int) (x6 : List (List Cl)) (y2 : List Int) : St := ⟨mkT 44 [(3, one (.int .i64 x3)), (4, one (.ow 9192))], [(9192, ⟨[.int .i64], .ints y2, true, 0, none⟩)], []⟩
noncomputable def p0 (K : Res → Option Res) : List Lf → (St → Option Res) → Option Res
 | [.i x3, .i x4, .q (.ints x5), .q (.cells x6)], k => l0 x3 x6 (fun y2 => k (o0 x3 x6 y2)) (fun r1 => K (m r1)) fuel x4 x5
 | _, _ => none
noncomputable def os : List (FuncId × St × (List Lf → (Res → Option Res) → Option Res)) := [spec_l1In.con, spec_l9Node.con]
noncomputable def X (K : Res → Option Res) : Ctx := { Γ := Γ0, orc := orcOf os, io := [], share := [], opn := [], shr := [], bun := [], cut := [], own := [], cin := [(0, ⟨[1, 3, 4, 5], [(9192, 9192), (23576, 9192)], [1000], [], [], []⟩)], cout := [(0, ⟨[3, 4], [(9192, 9192)], [], [], [], []⟩)], lp := lpOf [(0, s0 0 0 [] [], p0 K)], kl := Env.kl, nk := true, eqs := eqs0, byt := byt0, fin := finK fi K }
noncomputable def b (a1 : List (List Cl)) (R : Bool → Option Res) : Option Res :=
 spec_l1In.g (a1.length : Int) 1 60 fun r2 =>
 bif !r2 then R false
 else (l0 (a1.length : Int) a1 (fun y9 =>
 bif decide (0 ≤ IntKind.i64.wrap ((a1.length : Int) - 1)) && decide (IntKind.i64.wrap ((a1.length : Int) - 1) < (y9.length : Int)) then R (y9.getD ((IntKind.i64.wrap ((a1.length : Int) - 1)).toNat) 0 == (a1.length : Int))
 else none) R fuel 0 ([] : List Int))
theorem gx : ∃ x : List (List Cl) → (Bool → Option Res) → Option Res, x = b := ⟨_, rfl⟩
noncomputable def g : List (List Cl) → (Bool → Option Res) → Option Res := Classical.choose gx
theorem e : g = b := Classical.choose_spec gx
noncomputable def run : List Lf → (Res → Option Res) → Option Res
 | [.q (.cells a1)], K => g a1 (fun r1 => K (m r1))
 | _, _ => none
noncomputable def a (a1 : List (List Cl)) : St := argSt [.v ⟨true, [.tr 0 1 [.int .i64, .int .i64, .int .i64, .int .i64, .int .i64, .int .i64, .ints .i64] (.cells a1)]⟩] [] []
noncomputable def con : FuncId × St × (List Lf → (Res → Option Res) → Option Res) := (80, a [], run)
theorem cx (K : Res → Option Res) : CtxOk Go.Proofs.Try.prog Γ0 byt0 eqs0 (X K) os := ⟨rfl, rfl, rfl, (fun p hp => by
 rcases List.mem_cons.1 hp with rfl | hp
 ·exact spec_l1In.ok
 rcases List.mem_cons.1 hp with rfl | hp
 ·exact spec_l9Node.ok
 cases hp), rfl, rfl, rfl⟩
theorem t0 (K : Res → Option Res) (k : St → Option Res) (it : St → (St → Option Res) → Option Res) (x3 x4 : Int) (x5 : List Int) (x6 : List (List Cl)) : iterS (X K) 0 b0 it (s0 x3 x4 x5 x6) k = l0s x3 x6 (fun x4 x5 => it (s0 x3 x4 x5 x6) k) (fun y2 => k (o0 x3 x6 y2)) (fun r1 => K (m r1)) x4 x5 := by kernel_rfl
theorem i0 (K : Res → Option Res) (k : St → Option Res) (x3 : Int) (x6 : List (List Cl)) : ∀ (n : Nat) (x4 : Int) (x5 : List Int), iter (X K) 0 b0 n (s0 x3 x4 x5 x6) k = l0 x3 x6 (fun y2 => k (o0 x3 x6 y2)) (fun r1 => K (m r1)) n x4 x5
 | 0, _, _ => rfl
 | n + 1, x4, x5 => by
  rw [iter_succ, t0, show (fun x4 x5 => iter (X K) 0 b0 n (s0 x3 x4 x5 x6) k) = (fun x4 x5 => l0 x3 x6 (fun y2 => k (o0 x3 x6 y2)) (fun r1 => K (m r1)) n x4 x5) from funext fun x4 => funext fun x5 => i0 K k x3 x6 n x4 x5]; rfl
theorem v0 {K : Res → Option Res} {l : List Lf} {k : St → Option Res} {r : Res} (h : p0 K l k = some r) : ∃ x3 x4 x5 x6, l = [.i x3, .i x4, .q (.ints x5), .q (.cells x6)] ∧ l0 x3 x6 (fun y2 => k (o0 x3 x6 y2)) (fun r1 => K (m r1)) fuel x4 x5 = some r := by
 unfold p0 at h; split at h
 ·exact ⟨_, _, _, _, rfl, h⟩
 ·cases h
theorem w0 (K : Res → Option Res) : LpSound Go.Proofs.Try.prog (X K) 0 b0 := lp_ok ((cx K).ok laid) (by rw [show loopsOf b0 = [] from by kernel_rfl]; intro p hp; cases hp) rfl fun p hp hid => by
 rcases List.mem_cons.1 hp with rfl | hp
 ·intro st k r h1 h2; obtain ⟨x3, x4, x5, x6, e, h⟩ := v0 (K := K) h2; have := St.like_eq (y := s0 x3 x4 x5 x6) h1 (by kernel_rfl) e; subst this; exact ⟨fuel, (i0 K k x3 x6 fuel x4 x5).trans h⟩
 cases hp
theorem tie (K : Res → Option Res) (a1 : List (List Cl)) : exec (X K) c (entry 44 [.v ⟨true, [.tr 0 1 [.int .i64, .int .i64, .int .i64, .int .i64, .int .i64, .int .i64, .ints .i64] (.cells a1)]⟩] [] []) (endK (X K)) = g a1 (fun r1 => K (m r1)) := Eq.trans (b := b a1 (fun r1 => K (m r1))) (by kernel_rfl) (by rw [e])
theorem runv {l : List Lf} {K : Res → Option Res} {r : Res} (h : run l K = some r) : ∃ a1, l = [.q (.cells a1)] ∧ g a1 (fun r1 => K (m r1)) = some r := by
 unfold run at h; split at h
 ·exact ⟨_, rfl, h⟩
 ·cases h
theorem ok : Con Go.Proofs.Try.prog con := con_of (fn := Go.Proofs.Try.f80) (c := c) (Fi := fi) (X := X) (fun_of laid (by kernel_rfl) (by kernel_rfl) (by kernel_rfl) rfl (by kernel_rfl) (by kernel_rfl) cx (fun _ => rfl) (fun _ => rfl) (fun K => by
 rw [show loopsOf c = [(0, b0)] from by kernel_rfl]; intro p hp
 rcases List.mem_cons.1 hp with rfl | hp
 ·exact w0 K
 cases hp)) fun xs rows boxes K r hl hr => by
 obtain ⟨a1, e, h⟩ := runv hr
 have := St.like_eq (y := a a1) hl (by kernel_rfl) e
 obtain ⟨rfl, rfl, rfl⟩ := argSt_inj this
 exact (tie K a1).trans h
end spec_TreeOk
namespace spec_Compile
noncomputable def c : Code := bodyOf Go.Proofs.Try.f47
noncomputable def fi : Fin := ⟨Γ0, [(.tmp 2, 26), (.tmp 3, 4)], [[1], [1]], [], [], []⟩
noncomputable def m (r1 : List (List Cl)) (r2 : Bool) : Res := ⟨[⟨false, [.ow 1000]⟩, ⟨false, [.bool r2]⟩], [], [⟨[.int .i64, .int .i64, .int .i64, .int .i64, .int .i64, .ints .i64], .cells r1, true, 0, none⟩], [], []⟩
noncomputable def b0 : Code := codeAt c [1, 1, 1, 0, 1, 0, 0]
noncomputable def s0 (x3 : Int) (x4 x5 : List (List Cl)) : St := ⟨mkT 69 [(1, one (.bp 1000 0)), (4, one (.ow 3048)), (5, one (.int .i64 x3))], [(3048, ⟨[.int .i64, .int .i64, .int .i64, .int .i64, .int .i64, .ints .i64], .cells x4, true, 0, none⟩)], [(1000, [.tr 0 1 [.int .i64, .int .i64, .int .i64, .int .i64, .int .i64, .int .i64, .ints .i64] (.cells x5)])]⟩
noncomputable def l0s (x5 : List (List Cl)) (rec : Int → List (List Cl) → Option Res) (k : List (List Cl) → Option Res) (x3 : Int) (x4 : List (List Cl)) : Option Res :=
 bif decide (x3 < (x5.length : Int)) then (bif decide (0 ≤ x3) && decide (x3 < (x5.length : Int)) then (bif (((x5.getD x3.toNat []).getD 0 (.i 0)).toI == 1) then (bif decide ((0 + (((x5.getD x3.toNat []).getD 6 (.i 0)).toL).length) * 8 ≤ 140737488355328) then (bif decide ((x4.length + 1) * 64 ≤ 140737488355328) then rec (IntKind.i64.wrap (x3 + 1)) (x4 ++ ([[.i 1, .i 0, .i 0, .i 0, .i 0, .l (([] : List Int) ++ (((x5.getD x3.toNat []).getD 6 (.i 0)).toL))]] : List (List Cl)))
  else none)
  else none)
  else bif (((x5.getD x3.toNat []).getD 0 (.i 0)).toI == 2) then (bif decide ((x4.length + 1) * 64 ≤ 140737488355328) then rec (IntKind.i64.wrap (x3 + 1)) (x4 ++ ([[.i 2, .i (((x5.getD x3.toNat []).getD 1 (.i 0)).toI), .i 0, .i 0, .i 0, .l ([] : List Int)]] : List (List Cl)))
   else none)
  else bif (((x5.getD x3.toNat []).getD 0 (.i 0)).toI == 3) then (bif decide ((x4.length + 1) * 64 ≤ 140737488355328) then rec (IntKind.i64.wrap (x3 + 1)) (x4 ++ ([[.i 3, .i (((x5.getD x3.toNat []).getD 1 (.i 0)).toI), .i 0, .i 0, .i 0, .l ([] : List Int)]] : List (List Cl)))
   else none)
  else bif (((x5.getD x3.toNat []).getD 0 (.i 0)).toI == 4) then (bif decide ((x4.length + 1) * 64 ≤ 140737488355328) then rec (IntKind.i64.wrap (x3 + 1)) (x4 ++ ([[.i 4, .i 0, .i (((x5.getD x3.toNat []).getD 3 (.i 0)).toI), .i (((x5.getD x3.toNat []).getD 4 (.i 0)).toI), .i (((x5.getD x3.toNat []).getD 5 (.i 0)).toI), .l ([] : List Int)]] : List (List Cl)))
   else none)
  else bif (((x5.getD x3.toNat []).getD 0 (.i 0)).toI == 5) then (bif decide ((x4.length + 1) * 64 ≤ 140737488355328) then rec (IntKind.i64.wrap (x3 + 1)) (x4 ++ ([[.i 5, .i 0, .i (((x5.getD x3.toNat []).getD 3 (.i 0)).toI), .i (((x5.getD x3.toNat []).getD 4 (.i 0)).toI), .i (((x5.getD x3.toNat []).getD 5 (.i 0)).toI), .l ([] : List Int)]] : List (List Cl)))
   else none)
  else rec (IntKind.i64.wrap (x3 + 1)) x4)
  else none)
 else k x4
noncomputable def l0 (x5 : List (List Cl)) (k : List (List Cl) → Option Res) : Nat → Int → List (List Cl) → Option Res
 | 0, _, _ => none
 | n + 1, x3, x4 => l0s x5 (fun x3 x4 => l0 x5 k n x3 x4) k x3 x4
noncomputable def o0 (x5 y1 : List (List Cl)) : St := ⟨mkT 69 [(4, one (.ow 3048))], [(3048, ⟨[.int .i64, .int .i64, .int .i64, .int .i64, .int .i64, .ints .i64], .cells y1, true, 0, none⟩)], []⟩
noncomputable def p0 (K : Res → Option Res) : List Lf → (St → Option Res) → Option Res
 | [.i x3, .q (.cells x4), .q (.cells x5)], k => l0 x5 (fun y1 => k (o0 x5 y1)) fuel x3 x4
 | _, _ => none
noncomputable def os : List (FuncId × St × (List Lf → (Res → Option Res) → Option Res)) := [spec_TreeOk.con]
noncomputable def X (K : Res → Option Res) : Ctx := { Γ := Γ0, orc := orcOf os, io := [], share := [], opn := [], shr := [], bun := [], cut := [], own := [], cin := [(0, ⟨[1, 4, 5], [(3048, 3048), (21592, 3048), (25656, 3048), (29752, 3048), (33848, 3048), (37944, 3048)], [1000], [], [], []⟩)], cout := [(0, ⟨[4], [(3048, 3048)], [], [], [], []⟩)], lp := lpOf [(0, s0 0 [] [], p0 K)], kl := Env.kl, nk := true, eqs := eqs0, byt := byt0, fin := finK fi K }
noncomputable def b (a1 : List (List Cl)) (R : List (List Cl) → Bool → Option Res) : Option Res :=
 spec_TreeOk.g a1 fun r2 =>
 bif !r2 then R ([] : List (List Cl)) false
 else (l0 a1 (fun y6 =>
 R y6 true) fuel 0 ([] : List (List Cl)))
theorem gx : ∃ x : List (List Cl) → (List (List Cl) → Bool → Option Res) → Option Res, x = b := ⟨_, rfl⟩
noncomputable def g : List (List Cl) → (List (List Cl) → Bool → Option Res) → Option Res := Classical.choose gx
theorem e : g = b := Classical.choose_spec gx
noncomputable def run : List Lf → (Res → Option Res) → Option Res
 | [.q (.cells a1)], K => g a1 (fun r1 r2 => K (m r1 r2))
 | _, _ => none
noncomputable def a (a1 : List (List Cl)) : St := argSt [.v ⟨true, [.tr 0 1 [.int .i64, .int .i64, .int .i64, .int .i64, .int .i64, .int .i64, .ints .i64] (.cells a1)]⟩] [] []
noncomputable def con : FuncId × St × (List Lf → (Res → Option Res) → Option Res) := (47, a [], run)
theorem cx (K : Res → Option Res) : CtxOk Go.Proofs.Try.prog Γ0 byt0 eqs0 (X K) os := ⟨rfl, rfl, rfl, (fun p hp => by
 rcases List.mem_cons.1 hp with rfl | hp
 ·exact spec_TreeOk.ok
 cases hp), rfl, rfl, rfl⟩
theorem t0 (K : Res → Option Res) (k : St → Option Res) (it : St → (St → Option Res) → Option Res) (x3 : Int) (x4 x5 : List (List Cl)) : iterS (X K) 0 b0 it (s0 x3 x4 x5) k = l0s x5 (fun x3 x4 => it (s0 x3 x4 x5) k) (fun y1 => k (o0 x5 y1)) x3 x4 := by kernel_rfl
theorem i0 (K : Res → Option Res) (k : St → Option Res) (x5 : List (List Cl)) : ∀ (n : Nat) (x3 : Int) (x4 : List (List Cl)), iter (X K) 0 b0 n (s0 x3 x4 x5) k = l0 x5 (fun y1 => k (o0 x5 y1)) n x3 x4
 | 0, _, _ => rfl
 | n + 1, x3, x4 => by
  rw [iter_succ, t0, show (fun x3 x4 => iter (X K) 0 b0 n (s0 x3 x4 x5) k) = (fun x3 x4 => l0 x5 (fun y1 => k (o0 x5 y1)) n x3 x4) from funext fun x3 => funext fun x4 => i0 K k x5 n x3 x4]; rfl
theorem v0 {K : Res → Option Res} {l : List Lf} {k : St → Option Res} {r : Res} (h : p0 K l k = some r) : ∃ x3 x4 x5, l = [.i x3, .q (.cells x4), .q (.cells x5)] ∧ l0 x5 (fun y1 => k (o0 x5 y1)) fuel x3 x4 = some r := by
 unfold p0 at h; split at h
 ·exact ⟨_, _, _, rfl, h⟩
 ·cases h
theorem w0 (K : Res → Option Res) : LpSound Go.Proofs.Try.prog (X K) 0 b0 := lp_ok ((cx K).ok laid) (by rw [show loopsOf b0 = [] from by kernel_rfl]; intro p hp; cases hp) rfl fun p hp hid => by
 rcases List.mem_cons.1 hp with rfl | hp
 ·intro st k r h1 h2; obtain ⟨x3, x4, x5, e, h⟩ := v0 (K := K) h2; have := St.like_eq (y := s0 x3 x4 x5) h1 (by kernel_rfl) e; subst this; exact ⟨fuel, (i0 K k x5 fuel x3 x4).trans h⟩
 cases hp
theorem tie (K : Res → Option Res) (a1 : List (List Cl)) : exec (X K) c (entry 69 [.v ⟨true, [.tr 0 1 [.int .i64, .int .i64, .int .i64, .int .i64, .int .i64, .int .i64, .ints .i64] (.cells a1)]⟩] [] []) (endK (X K)) = g a1 (fun r1 r2 => K (m r1 r2)) := Eq.trans (b := b a1 (fun r1 r2 => K (m r1 r2))) (by kernel_rfl) (by rw [e])
theorem runv {l : List Lf} {K : Res → Option Res} {r : Res} (h : run l K = some r) : ∃ a1, l = [.q (.cells a1)] ∧ g a1 (fun r1 r2 => K (m r1 r2)) = some r := by
 unfold run at h; split at h
 ·exact ⟨_, rfl, h⟩
 ·cases h
theorem ok : Con Go.Proofs.Try.prog con := con_of (fn := Go.Proofs.Try.f47) (c := c) (Fi := fi) (X := X) (fun_of laid (by kernel_rfl) (by kernel_rfl) (by kernel_rfl) rfl (by kernel_rfl) (by kernel_rfl) cx (fun _ => rfl) (fun _ => rfl) (fun K => by
 rw [show loopsOf c = [(0, b0)] from by kernel_rfl]; intro p hp
 rcases List.mem_cons.1 hp with rfl | hp
 ·exact w0 K
 cases hp)) fun xs rows boxes K r hl hr => by
 obtain ⟨a1, e, h⟩ := runv hr
 have := St.like_eq (y := a a1) hl (by kernel_rfl) e
 obtain ⟨rfl, rfl, rfl⟩ := argSt_inj this
 exact (tie K a1).trans h
end spec_Compile
namespace impl_instrOk
noncomputable def c : Code := bodyOf Go.Proofs.Try.f40
noncomputable def fi : Fin := ⟨Γ0, [(.tmp 2, 4)], [[1]], [], [], []⟩
noncomputable def m (r1 : Bool) : Res := ⟨[⟨false, [.bool r1]⟩], [], [], [], []⟩
noncomputable def os : List (FuncId × St × (List Lf → (Res → Option Res) → Option Res)) := [impl_numsOk.con, impl_within.con, impl_FunOne.con, impl_FunTwo.con]
noncomputable def X (K : Res → Option Res) : Ctx := { Γ := Γ0, orc := orcOf os, io := [], share := [], opn := [], shr := [], bun := [], cut := [], own := [], cin := [], cout := [], lp := lpOf [], kl := Env.kl, nk := true, eqs := eqs0, byt := byt0, fin := finK fi K }
noncomputable def b (a1 a2 a3 a4 a5 : Int) (a6 : List Int) (R : Bool → Option Res) : Option Res :=
 bif (a1 == 1) then (impl_numsOk.g a6 fun r7 =>
  bif (a2 == 0) then (bif ((a3 == 0) && ((a4 == 0) && ((a5 == 0) && true))) then R r7
   else R false)
  else R false)
 else bif (a1 == 2) then (impl_within.g a2 0 25 fun r8 =>
  bif r8 then (bif ((a3 == 0) && ((a4 == 0) && ((a5 == 0) && true))) then R ((a6.length : Int) == 0)
   else R false)
  else R false)
 else bif (a1 == 3) then (impl_within.g a2 0 25 fun r9 =>
  bif r9 then (bif ((a3 == 0) && ((a4 == 0) && ((a5 == 0) && true))) then R ((a6.length : Int) == 0)
   else R false)
  else R false)
 else bif (a1 == 4) then (impl_FunOne.g a3 a4 a5 fun r10 =>
  bif (a2 == 0) then (bif r10 then R ((a6.length : Int) == 0)
   else R false)
  else R false)
 else bif (a1 == 5) then (impl_FunTwo.g a3 a4 a5 fun r11 =>
  bif (a2 == 0) then (bif r11 then R ((a6.length : Int) == 0)
   else R false)
  else R false)
 else R false
theorem gx : ∃ x : Int → Int → Int → Int → Int → List Int → (Bool → Option Res) → Option Res, x = b := ⟨_, rfl⟩
noncomputable def g : Int → Int → Int → Int → Int → List Int → (Bool → Option Res) → Option Res := Classical.choose gx
theorem e : g = b := Classical.choose_spec gx
noncomputable def run : List Lf → (Res → Option Res) → Option Res
 | [.i a1, .i a2, .i a3, .i a4, .i a5, .q (.ints a6)], K => g a1 a2 a3 a4 a5 a6 (fun r1 => K (m r1))
 | _, _ => none
noncomputable def a (a1 a2 a3 a4 a5 : Int) (a6 : List Int) : St := argSt [.v ⟨true, [.int .i64 a1, .int .i64 a2, .int .i64 a3, .int .i64 a4, .int .i64 a5, .tr 0 1 [.int .i64] (.ints a6)]⟩] [] []
noncomputable def con : FuncId × St × (List Lf → (Res → Option Res) → Option Res) := (40, a 0 0 0 0 0 [], run)
theorem cx (K : Res → Option Res) : CtxOk Go.Proofs.Try.prog Γ0 byt0 eqs0 (X K) os := ⟨rfl, rfl, rfl, (fun p hp => by
 rcases List.mem_cons.1 hp with rfl | hp
 ·exact impl_numsOk.ok
 rcases List.mem_cons.1 hp with rfl | hp
 ·exact impl_within.ok
 rcases List.mem_cons.1 hp with rfl | hp
 ·exact impl_FunOne.ok
 rcases List.mem_cons.1 hp with rfl | hp
 ·exact impl_FunTwo.ok
 cases hp), rfl, rfl, rfl⟩
theorem tie (K : Res → Option Res) (a1 a2 a3 a4 a5 : Int) (a6 : List Int) : exec (X K) c (entry 47 [.v ⟨true, [.int .i64 a1, .int .i64 a2, .int .i64 a3, .int .i64 a4, .int .i64 a5, .tr 0 1 [.int .i64] (.ints a6)]⟩] [] []) (endK (X K)) = g a1 a2 a3 a4 a5 a6 (fun r1 => K (m r1)) := Eq.trans (b := b a1 a2 a3 a4 a5 a6 (fun r1 => K (m r1))) (by kernel_rfl) (by rw [e])
theorem runv {l : List Lf} {K : Res → Option Res} {r : Res} (h : run l K = some r) : ∃ a1 a2 a3 a4 a5 a6, l = [.i a1, .i a2, .i a3, .i a4, .i a5, .q (.ints a6)] ∧ g a1 a2 a3 a4 a5 a6 (fun r1 => K (m r1)) = some r := by
 unfold run at h; split at h
 ·exact ⟨_, _, _, _, _, _, rfl, h⟩
 ·cases h
theorem ok : Con Go.Proofs.Try.prog con := con_of (fn := Go.Proofs.Try.f40) (c := c) (Fi := fi) (X := X) (fun_of laid (by kernel_rfl) (by kernel_rfl) (by kernel_rfl) rfl (by kernel_rfl) (by kernel_rfl) cx (fun _ => rfl) (fun _ => rfl) (fun K => by
 rw [show loopsOf c = [] from by kernel_rfl]; intro p hp
 cases hp)) fun xs rows boxes K r hl hr => by
 obtain ⟨a1, a2, a3, a4, a5, a6, e, h⟩ := runv hr
 have := St.like_eq (y := a a1 a2 a3 a4 a5 a6) hl (by kernel_rfl) e
 obtain ⟨rfl, rfl, rfl⟩ := argSt_inj this
 exact (tie K a1 a2 a3 a4 a5 a6).trans h
end impl_instrOk
namespace impl_CodeOk_1
noncomputable def c : Code := bodyOf Go.Proofs.Try.f39
noncomputable def fi : Fin := ⟨Γ0, [(.tmp 2, 4)], [[1]], [], [], []⟩
noncomputable def m (r1 : Bool) : Res := ⟨[⟨false, [.bool r1]⟩], [], [], [], []⟩
noncomputable def os : List (FuncId × St × (List Lf → (Res → Option Res) → Option Res)) := [impl_instrOk.con]
noncomputable def X (K : Res → Option Res) : Ctx := { Γ := Γ0, orc := orcOf os, io := [], share := [], opn := [], shr := [], bun := [], cut := [], own := [], cin := [], cout := [], lp := lpOf [], kl := Env.kl, nk := true, eqs := eqs0, byt := byt0, fin := finK fi K }
noncomputable def b (a1 a2 a3 a4 a5 : Int) (a6 : List Int) (R : Bool → Option Res) : Option Res :=
 impl_instrOk.g a1 a2 a3 a4 a5 a6 fun r7 =>
 R (!r7)
theorem gx : ∃ x : Int → Int → Int → Int → Int → List Int → (Bool → Option Res) → Option Res, x = b := ⟨_, rfl⟩
noncomputable def g : Int → Int → Int → Int → Int → List Int → (Bool → Option Res) → Option Res := Classical.choose gx
theorem e : g = b := Classical.choose_spec gx
noncomputable def run : List Lf → (Res → Option Res) → Option Res
 | [.i a1, .i a2, .i a3, .i a4, .i a5, .q (.ints a6)], K => g a1 a2 a3 a4 a5 a6 (fun r1 => K (m r1))
 | _, _ => none
noncomputable def a (a1 a2 a3 a4 a5 : Int) (a6 : List Int) : St := argSt [.v ⟨true, [.int .i64 a1, .int .i64 a2, .int .i64 a3, .int .i64 a4, .int .i64 a5, .tr 0 1 [.int .i64] (.ints a6)]⟩] [] []
noncomputable def con : FuncId × St × (List Lf → (Res → Option Res) → Option Res) := (39, a 0 0 0 0 0 [], run)
theorem cx (K : Res → Option Res) : CtxOk Go.Proofs.Try.prog Γ0 byt0 eqs0 (X K) os := ⟨rfl, rfl, rfl, (fun p hp => by
 rcases List.mem_cons.1 hp with rfl | hp
 ·exact impl_instrOk.ok
 cases hp), rfl, rfl, rfl⟩
theorem tie (K : Res → Option Res) (a1 a2 a3 a4 a5 : Int) (a6 : List Int) : exec (X K) c (entry 6 [.v ⟨true, [.int .i64 a1, .int .i64 a2, .int .i64 a3, .int .i64 a4, .int .i64 a5, .tr 0 1 [.int .i64] (.ints a6)]⟩] [] []) (endK (X K)) = g a1 a2 a3 a4 a5 a6 (fun r1 => K (m r1)) := Eq.trans (b := b a1 a2 a3 a4 a5 a6 (fun r1 => K (m r1))) (by kernel_rfl) (by rw [e])
theorem runv {l : List Lf} {K : Res → Option Res} {r : Res} (h : run l K = some r) : ∃ a1 a2 a3 a4 a5 a6, l = [.i a1, .i a2, .i a3, .i a4, .i a5, .q (.ints a6)] ∧ g a1 a2 a3 a4 a5 a6 (fun r1 => K (m r1)) = some r := by
 unfold run at h; split at h
 ·exact ⟨_, _, _, _, _, _, rfl, h⟩
 ·cases h
theorem ok : Con Go.Proofs.Try.prog con := con_of (fn := Go.Proofs.Try.f39) (c := c) (Fi := fi) (X := X) (fun_of laid (by kernel_rfl) (by kernel_rfl) (by kernel_rfl) rfl (by kernel_rfl) (by kernel_rfl) cx (fun _ => rfl) (fun _ => rfl) (fun K => by
 rw [show loopsOf c = [] from by kernel_rfl]; intro p hp
 cases hp)) fun xs rows boxes K r hl hr => by
 obtain ⟨a1, a2, a3, a4, a5, a6, e, h⟩ := runv hr
 have := St.like_eq (y := a a1 a2 a3 a4 a5 a6) hl (by kernel_rfl) e
 obtain ⟨rfl, rfl, rfl⟩ := argSt_inj this
 exact (tie K a1 a2 a3 a4 a5 a6).trans h
end impl_CodeOk_1
namespace slices_IndexFunc_impl_Instr_impl_Instr
noncomputable def c : Code := bodyOf Go.Proofs.Try.f68
noncomputable def fi : Fin := ⟨Γ0, [(.tmp 4, 3)], [[1]], [], [], []⟩
noncomputable def m (r1 : Int) : Res := ⟨[⟨false, [.int .i64 r1]⟩], [], [], [], []⟩
noncomputable def b0 : Code := codeAt c [1, 0, 1, 0, 0]
noncomputable def s0 (x2 : List (List Cl)) (x3 x4 : Int) : St := ⟨mkT 19 [(0, one (.tr 0 1 [.int .i64, .int .i64, .int .i64, .int .i64, .int .i64, .ints .i64] (.cells x2))), (1, one (.fn 39 [])), (7, one (.int .i64 x3)), (8, one (.int .i64 x4))], [], []⟩
noncomputable def l0s (x2 : List (List Cl)) (x3 : Int) (rec : Int → Option Res) (k : Option Res) (R : Int → Option Res) (x4 : Int) : Option Res :=
 bif decide (x4 < x3) then (bif decide (0 ≤ x4) && decide (x4 < (x2.length : Int)) then (impl_CodeOk_1.g (((x2.getD x4.toNat []).getD 0 (.i 0)).toI) (((x2.getD x4.toNat []).getD 1 (.i 0)).toI) (((x2.getD x4.toNat []).getD 2 (.i 0)).toI) (((x2.getD x4.toNat []).getD 3 (.i 0)).toI) (((x2.getD x4.toNat []).getD 4 (.i 0)).toI) (((x2.getD x4.toNat []).getD 5 (.i 0)).toL) fun r5 =>
  bif r5 then R x4
  else rec (IntKind.i64.wrap (x4 + 1)))
  else none)
 else k
noncomputable def l0 (x2 : List (List Cl)) (x3 : Int) (k : Option Res) (R : Int → Option Res) : Nat → Int → Option Res
 | 0, _ => none
 | n + 1, x4 => l0s x2 x3 (fun x4 => l0 x2 x3 k R n x4) k R x4
noncomputable def o0 (x2 : List (List Cl)) (x3 : Int) : St := ⟨mkT 19 [], [], []⟩
noncomputable def p0 (K : Res → Option Res) : List Lf → (St → Option Res) → Option Res
 | [.q (.cells x2), .i x3, .i x4], k => l0 x2 x3 (k (o0 x2 x3)) (fun r1 => K (m r1)) fuel x4
 | _, _ => none
noncomputable def os : List (FuncId × St × (List Lf → (Res → Option Res) → Option Res)) := [impl_CodeOk_1.con]
noncomputable def X (K : Res → Option Res) : Ctx := { Γ := Γ0, orc := orcOf os, io := [], share := [], opn := [], shr := [], bun := [], cut := [], own := [], cin := [(0, ⟨[0, 1, 7, 8], [], [], [], [], []⟩)], cout := [(0, ⟨[], [], [], [], [], []⟩)], lp := lpOf [(0, s0 [] 0 0, p0 K)], kl := Env.kl, nk := true, eqs := eqs0, byt := byt0, fin := finK fi K }
noncomputable def b (a1 : List (List Cl)) (R : Int → Option Res) : Option Res :=
 l0 a1 (a1.length : Int) (
 R (-1)) R fuel 0
theorem gx : ∃ x : List (List Cl) → (Int → Option Res) → Option Res, x = b := ⟨_, rfl⟩
noncomputable def g : List (List Cl) → (Int → Option Res) → Option Res := Classical.choose gx
theorem e : g = b := Classical.choose_spec gx
noncomputable def run : List Lf → (Res → Option Res) → Option Res
 | [.q (.cells a1)], K => g a1 (fun r1 => K (m r1))
 | _, _ => none
noncomputable def a (a1 : List (List Cl)) : St := argSt [one (.tr 0 1 [.int .i64, .int .i64, .int .i64, .int .i64, .int .i64, .ints .i64] (.cells a1)), one (.fn 39 [])] [] []
noncomputable def con : FuncId × St × (List Lf → (Res → Option Res) → Option Res) := (68, a [], run)
theorem cx (K : Res → Option Res) : CtxOk Go.Proofs.Try.prog Γ0 byt0 eqs0 (X K) os := ⟨rfl, rfl, rfl, (fun p hp => by
 rcases List.mem_cons.1 hp with rfl | hp
 ·exact impl_CodeOk_1.ok
 cases hp), rfl, rfl, rfl⟩
theorem t0 (K : Res → Option Res) (k : St → Option Res) (it : St → (St → Option Res) → Option Res) (x2 : List (List Cl)) (x3 x4 : Int) : iterS (X K) 0 b0 it (s0 x2 x3 x4) k = l0s x2 x3 (fun x4 => it (s0 x2 x3 x4) k) (k (o0 x2 x3)) (fun r1 => K (m r1)) x4 := by kernel_rfl
theorem i0 (K : Res → Option Res) (k : St → Option Res) (x2 : List (List Cl)) (x3 : Int) : ∀ (n : Nat) (x4 : Int), iter (X K) 0 b0 n (s0 x2 x3 x4) k = l0 x2 x3 (k (o0 x2 x3)) (fun r1 => K (m r1)) n x4
 | 0, _ => rfl
 | n + 1, x4 => by
  rw [iter_succ, t0, show (fun x4 => iter (X K) 0 b0 n (s0 x2 x3 x4) k) = (fun x4 => l0 x2 x3 (k (o0 x2 x3)) (fun r1 => K (m r1)) n x4) from funext fun x4 => i0 K k x2 x3 n x4]; rfl
theorem v0 {K : Res → Option Res} {l : List Lf} {k : St → Option Res} {r : Res} (h : p0 K l k = some r) : ∃ x2 x3 x4, l = [.q (.cells x2), .i x3, .i x4] ∧ l0 x2 x3 (k (o0 x2 x3)) (fun r1 => K (m r1)) fuel x4 = some r := by
 unfold p0 at h; split at h
 ·exact ⟨_, _, _, rfl, h⟩
 ·cases h
theorem w0 (K : Res → Option Res) : LpSound Go.Proofs.Try.prog (X K) 0 b0 := lp_ok ((cx K).ok laid) (by rw [show loopsOf b0 = [] from by kernel_rfl]; intro p hp; cases hp) rfl fun p hp hid => by
 rcases List.mem_cons.1 hp with rfl | hp
 ·intro st k r h1 h2; obtain ⟨x2, x3, x4, e, h⟩ := v0 (K := K) h2; have := St.like_eq (y := s0 x2 x3 x4) h1 (by kernel_rfl) e; subst this; exact ⟨fuel, (i0 K k x2 x3 fuel x4).trans h⟩
 cases hp
theorem tie (K : Res → Option Res) (a1 : List (List Cl)) : exec (X K) c (entry 19 [one (.tr 0 1 [.int .i64, .int .i64, .int .i64, .int .i64, .int .i64, .ints .i64] (.cells a1)), one (.fn 39 [])] [] []) (endK (X K)) = g a1 (fun r1 => K (m r1)) := Eq.trans (b := b a1 (fun r1 => K (m r1))) (by kernel_rfl) (by rw [e])
theorem runv {l : List Lf} {K : Res → Option Res} {r : Res} (h : run l K = some r) : ∃ a1, l = [.q (.cells a1)] ∧ g a1 (fun r1 => K (m r1)) = some r := by
 unfold run at h; split at h
 ·exact ⟨_, rfl, h⟩
 ·cases h
theorem ok : Con Go.Proofs.Try.prog con := con_of (fn := Go.Proofs.Try.f68) (c := c) (Fi := fi) (X := X) (fun_of laid (by kernel_rfl) (by kernel_rfl) (by kernel_rfl) rfl (by kernel_rfl) (by kernel_rfl) cx (fun _ => rfl) (fun _ => rfl) (fun K => by
 rw [show loopsOf c = [(0, b0)] from by kernel_rfl]; intro p hp
 rcases List.mem_cons.1 hp with rfl | hp
 ·exact w0 K
 cases hp)) fun xs rows boxes K r hl hr => by
 obtain ⟨a1, e, h⟩ := runv hr
 have := St.like_eq (y := a a1) hl (by kernel_rfl) e
 obtain ⟨rfl, rfl, rfl⟩ := argSt_inj this
 exact (tie K a1).trans h
end slices_IndexFunc_impl_Instr_impl_Instr
namespace slices_ContainsFunc_impl_Instr_impl_Instr
noncomputable def c : Code := bodyOf Go.Proofs.Try.f38
noncomputable def fi : Fin := ⟨Γ0, [(.tmp 4, 4)], [[1]], [], [], []⟩
noncomputable def m (r1 : Bool) : Res := ⟨[⟨false, [.bool r1]⟩], [], [], [], []⟩
noncomputable def os : List (FuncId × St × (List Lf → (Res → Option Res) → Option Res)) := [slices_IndexFunc_impl_Instr_impl_Instr.con]
noncomputable def X (K : Res → Option Res) : Ctx := { Γ := Γ0, orc := orcOf os, io := [], share := [], opn := [], shr := [], bun := [], cut := [], own := [], cin := [], cout := [], lp := lpOf [], kl := Env.kl, nk := true, eqs := eqs0, byt := byt0, fin := finK fi K }
noncomputable def b (a1 : List (List Cl)) (R : Bool → Option Res) : Option Res :=
 slices_IndexFunc_impl_Instr_impl_Instr.g a1 fun r2 =>
 R (decide (0 ≤ r2))
theorem gx : ∃ x : List (List Cl) → (Bool → Option Res) → Option Res, x = b := ⟨_, rfl⟩
noncomputable def g : List (List Cl) → (Bool → Option Res) → Option Res := Classical.choose gx
theorem e : g = b := Classical.choose_spec gx
noncomputable def run : List Lf → (Res → Option Res) → Option Res
 | [.q (.cells a1)], K => g a1 (fun r1 => K (m r1))
 | _, _ => none
noncomputable def a (a1 : List (List Cl)) : St := argSt [one (.tr 0 1 [.int .i64, .int .i64, .int .i64, .int .i64, .int .i64, .ints .i64] (.cells a1)), one (.fn 39 [])] [] []
noncomputable def con : FuncId × St × (List Lf → (Res → Option Res) → Option Res) := (38, a [], run)
theorem cx (K : Res → Option Res) : CtxOk Go.Proofs.Try.prog Γ0 byt0 eqs0 (X K) os := ⟨rfl, rfl, rfl, (fun p hp => by
 rcases List.mem_cons.1 hp with rfl | hp
 ·exact slices_IndexFunc_impl_Instr_impl_Instr.ok
 cases hp), rfl, rfl, rfl⟩
theorem tie (K : Res → Option Res) (a1 : List (List Cl)) : exec (X K) c (entry 9 [one (.tr 0 1 [.int .i64, .int .i64, .int .i64, .int .i64, .int .i64, .ints .i64] (.cells a1)), one (.fn 39 [])] [] []) (endK (X K)) = g a1 (fun r1 => K (m r1)) := Eq.trans (b := b a1 (fun r1 => K (m r1))) (by kernel_rfl) (by rw [e])
theorem runv {l : List Lf} {K : Res → Option Res} {r : Res} (h : run l K = some r) : ∃ a1, l = [.q (.cells a1)] ∧ g a1 (fun r1 => K (m r1)) = some r := by
 unfold run at h; split at h
 ·exact ⟨_, rfl, h⟩
 ·cases h
theorem ok : Con Go.Proofs.Try.prog con := con_of (fn := Go.Proofs.Try.f38) (c := c) (Fi := fi) (X := X) (fun_of laid (by kernel_rfl) (by kernel_rfl) (by kernel_rfl) rfl (by kernel_rfl) (by kernel_rfl) cx (fun _ => rfl) (fun _ => rfl) (fun K => by
 rw [show loopsOf c = [] from by kernel_rfl]; intro p hp
 cases hp)) fun xs rows boxes K r hl hr => by
 obtain ⟨a1, e, h⟩ := runv hr
 have := St.like_eq (y := a a1) hl (by kernel_rfl) e
 obtain ⟨rfl, rfl, rfl⟩ := argSt_inj this
 exact (tie K a1).trans h
end slices_ContainsFunc_impl_Instr_impl_Instr
namespace impl_takes
noncomputable def c : Code := bodyOf Go.Proofs.Try.f61
noncomputable def fi : Fin := ⟨Γ0, [(.tmp 2, 3)], [[1]], [], [], []⟩
noncomputable def m (r1 : Int) : Res := ⟨[⟨false, [.int .i64 r1]⟩], [], [], [], []⟩
noncomputable def os : List (FuncId × St × (List Lf → (Res → Option Res) → Option Res)) := []
noncomputable def X (K : Res → Option Res) : Ctx := { Γ := Γ0, orc := orcOf os, io := [], share := [], opn := [], shr := [], bun := [], cut := [], own := [], cin := [], cout := [], lp := lpOf [], kl := Env.kl, nk := true, eqs := eqs0, byt := byt0, fin := finK fi K }
noncomputable def b (a1 a2 a3 a4 a5 : Int) (a6 : List Int) (R : Int → Option Res) : Option Res :=
 bif (a1 == 3) then R 1
 else bif (a1 == 4) then R 1
 else bif (a1 == 5) then R 2
 else R 0
theorem gx : ∃ x : Int → Int → Int → Int → Int → List Int → (Int → Option Res) → Option Res, x = b := ⟨_, rfl⟩
noncomputable def g : Int → Int → Int → Int → Int → List Int → (Int → Option Res) → Option Res := Classical.choose gx
theorem e : g = b := Classical.choose_spec gx
noncomputable def run : List Lf → (Res → Option Res) → Option Res
 | [.i a1, .i a2, .i a3, .i a4, .i a5, .q (.ints a6)], K => g a1 a2 a3 a4 a5 a6 (fun r1 => K (m r1))
 | _, _ => none
noncomputable def a (a1 a2 a3 a4 a5 : Int) (a6 : List Int) : St := argSt [.v ⟨true, [.int .i64 a1, .int .i64 a2, .int .i64 a3, .int .i64 a4, .int .i64 a5, .tr 0 1 [.int .i64] (.ints a6)]⟩] [] []
noncomputable def con : FuncId × St × (List Lf → (Res → Option Res) → Option Res) := (61, a 0 0 0 0 0 [], run)
theorem cx (K : Res → Option Res) : CtxOk Go.Proofs.Try.prog Γ0 byt0 eqs0 (X K) os := ⟨rfl, rfl, rfl, (fun p hp => by
 cases hp), rfl, rfl, rfl⟩
theorem tie (K : Res → Option Res) (a1 a2 a3 a4 a5 : Int) (a6 : List Int) : exec (X K) c (entry 10 [.v ⟨true, [.int .i64 a1, .int .i64 a2, .int .i64 a3, .int .i64 a4, .int .i64 a5, .tr 0 1 [.int .i64] (.ints a6)]⟩] [] []) (endK (X K)) = g a1 a2 a3 a4 a5 a6 (fun r1 => K (m r1)) := Eq.trans (b := b a1 a2 a3 a4 a5 a6 (fun r1 => K (m r1))) (by kernel_rfl) (by rw [e])
theorem runv {l : List Lf} {K : Res → Option Res} {r : Res} (h : run l K = some r) : ∃ a1 a2 a3 a4 a5 a6, l = [.i a1, .i a2, .i a3, .i a4, .i a5, .q (.ints a6)] ∧ g a1 a2 a3 a4 a5 a6 (fun r1 => K (m r1)) = some r := by
 unfold run at h; split at h
 ·exact ⟨_, _, _, _, _, _, rfl, h⟩
 ·cases h
theorem ok : Con Go.Proofs.Try.prog con := con_of (fn := Go.Proofs.Try.f61) (c := c) (Fi := fi) (X := X) (fun_of laid (by kernel_rfl) (by kernel_rfl) (by kernel_rfl) rfl (by kernel_rfl) (by kernel_rfl) cx (fun _ => rfl) (fun _ => rfl) (fun K => by
 rw [show loopsOf c = [] from by kernel_rfl]; intro p hp
 cases hp)) fun xs rows boxes K r hl hr => by
 obtain ⟨a1, a2, a3, a4, a5, a6, e, h⟩ := runv hr
 have := St.like_eq (y := a a1 a2 a3 a4 a5 a6) hl (by kernel_rfl) e
 obtain ⟨rfl, rfl, rfl⟩ := argSt_inj this
 exact (tie K a1 a2 a3 a4 a5 a6).trans h
end impl_takes
namespace impl_deep
noncomputable def c : Code := bodyOf Go.Proofs.Try.f41
noncomputable def fi : Fin := ⟨Γ0, [(.tmp 2, 41), (.tmp 3, 4)], [[1], [1]], [], [], []⟩
noncomputable def m (r1 : List Int) (r2 : Bool) : Res := ⟨[⟨false, [.ow 1000]⟩, ⟨false, [.bool r2]⟩], [], [⟨[.int .i64], .ints r1, true, 0, none⟩], [], []⟩
noncomputable def b0 : Code := codeAt c [1, 1, 0, 1, 0, 0]
noncomputable def s0 (x2 : List (List Cl)) (x3 x4 : Int) (x5 : List Int) : St := ⟨mkT 35 [(4, one (.ow 3048)), (8, one (.tr 0 1 [.int .i64, .int .i64, .int .i64, .int .i64, .int .i64, .ints .i64] (.cells x2))), (9, one (.int .i64 x3)), (10, one (.int .i64 x4))], [(3048, ⟨[.int .i64], .ints x5, true, 0, none⟩)], []⟩
noncomputable def l0s (x2 : List (List Cl)) (x3 : Int) (rec : Int → List Int → Option Res) (k : List Int → Option Res) (R : List Int → Bool → Option Res) (x4 : Int) (x5 : List Int) : Option Res :=
 bif decide (x4 < x3) then (bif decide (0 ≤ x4) && decide (x4 < (x2.length : Int)) then (bif decide (0 ≤ x4) && decide (x4 < (x5.length : Int)) then (impl_takes.g (((x2.getD x4.toNat []).getD 0 (.i 0)).toI) (((x2.getD x4.toNat []).getD 1 (.i 0)).toI) (((x2.getD x4.toNat []).getD 2 (.i 0)).toI) (((x2.getD x4.toNat []).getD 3 (.i 0)).toI) (((x2.getD x4.toNat []).getD 4 (.i 0)).toI) (((x2.getD x4.toNat []).getD 5 (.i 0)).toL) fun r6 =>
  bif decide (x5.getD x4.toNat 0 < r6) then R ([] : List Int) false
  else bif decide (0 ≤ x4) && decide (x4 < (x5.length : Int)) then (impl_takes.g (((x2.getD x4.toNat []).getD 0 (.i 0)).toI) (((x2.getD x4.toNat []).getD 1 (.i 0)).toI) (((x2.getD x4.toNat []).getD 2 (.i 0)).toI) (((x2.getD x4.toNat []).getD 3 (.i 0)).toI) (((x2.getD x4.toNat []).getD 4 (.i 0)).toI) (((x2.getD x4.toNat []).getD 5 (.i 0)).toL) fun r7 =>
   bif decide ((x5.length + 1) * 8 ≤ 140737488355328) then rec (IntKind.i64.wrap (x4 + 1)) (x5 ++ ([IntKind.i64.wrap ((IntKind.i64.wrap ((x5.getD x4.toNat 0) - r7)) + 1)] : List Int))
   else none)
  else none)
  else none)
  else none)
 else k x5
noncomputable def l0 (x2 : List (List Cl)) (x3 : Int) (k : List Int → Option Res) (R : List Int → Bool → Option Res) : Nat → Int → List Int → Option Res
 | 0, _, _ => none
 | n + 1, x4, x5 => l0s x2 x3 (fun x4 x5 => l0 x2 x3 k R n x4 x5) k R x4 x5
noncomputable def o0 (x2 : List (List Cl)) (x3 : Int) (y1 : List Int) : St := ⟨mkT 35 [(4, one (.ow 3048))], [(3048, ⟨[.int .i64], .ints y1, true, 0, none⟩)], []⟩
noncomputable def p0 (K : Res → Option Res) : List Lf → (St → Option Res) → Option Res
 | [.q (.cells x2), .i x3, .i x4, .q (.ints x5)], k => l0 x2 x3 (fun y1 => k (o0 x2 x3 y1)) (fun r1 r2 => K (m r1 r2)) fuel x4 x5
 | _, _ => none
noncomputable def os : List (FuncId × St × (List Lf → (Res → Option Res) → Option Res)) := [impl_takes.con]
noncomputable def X (K : Res → Option Res) : Ctx := { Γ := Γ0, orc := orcOf os, io := [], share := [], opn := [], shr := [], bun := [], cut := [], own := [], cin := [(0, ⟨[4, 8, 9, 10], [(3048, 3048), (15496, 3048)], [], [], [], []⟩)], cout := [(0, ⟨[4], [(3048, 3048)], [], [], [], []⟩)], lp := lpOf [(0, s0 [] 0 0 [], p0 K)], kl := Env.kl, nk := true, eqs := eqs0, byt := byt0, fin := finK fi K }
noncomputable def b (a1 : List (List Cl)) (R : List Int → Bool → Option Res) : Option Res :=
 l0 a1 (a1.length : Int) (fun y8 =>
 R y8 true) R fuel 0 ([0] : List Int)
theorem gx : ∃ x : List (List Cl) → (List Int → Bool → Option Res) → Option Res, x = b := ⟨_, rfl⟩
noncomputable def g : List (List Cl) → (List Int → Bool → Option Res) → Option Res := Classical.choose gx
theorem e : g = b := Classical.choose_spec gx
noncomputable def run : List Lf → (Res → Option Res) → Option Res
 | [.q (.cells a1)], K => g a1 (fun r1 r2 => K (m r1 r2))
 | _, _ => none
noncomputable def a (a1 : List (List Cl)) : St := argSt [one (.tr 0 1 [.int .i64, .int .i64, .int .i64, .int .i64, .int .i64, .ints .i64] (.cells a1))] [] []
noncomputable def con : FuncId × St × (List Lf → (Res → Option Res) → Option Res) := (41, a [], run)
theorem cx (K : Res → Option Res) : CtxOk Go.Proofs.Try.prog Γ0 byt0 eqs0 (X K) os := ⟨rfl, rfl, rfl, (fun p hp => by
 rcases List.mem_cons.1 hp with rfl | hp
 ·exact impl_takes.ok
 cases hp), rfl, rfl, rfl⟩
theorem t0 (K : Res → Option Res) (k : St → Option Res) (it : St → (St → Option Res) → Option Res) (x2 : List (List Cl)) (x3 x4 : Int) (x5 : List Int) : iterS (X K) 0 b0 it (s0 x2 x3 x4 x5) k = l0s x2 x3 (fun x4 x5 => it (s0 x2 x3 x4 x5) k) (fun y1 => k (o0 x2 x3 y1)) (fun r1 r2 => K (m r1 r2)) x4 x5 := by kernel_rfl
theorem i0 (K : Res → Option Res) (k : St → Option Res) (x2 : List (List Cl)) (x3 : Int) : ∀ (n : Nat) (x4 : Int) (x5 : List Int), iter (X K) 0 b0 n (s0 x2 x3 x4 x5) k = l0 x2 x3 (fun y1 => k (o0 x2 x3 y1)) (fun r1 r2 => K (m r1 r2)) n x4 x5
 | 0, _, _ => rfl
 | n + 1, x4, x5 => by
  rw [iter_succ, t0, show (fun x4 x5 => iter (X K) 0 b0 n (s0 x2 x3 x4 x5) k) = (fun x4 x5 => l0 x2 x3 (fun y1 => k (o0 x2 x3 y1)) (fun r1 r2 => K (m r1 r2)) n x4 x5) from funext fun x4 => funext fun x5 => i0 K k x2 x3 n x4 x5]; rfl
theorem v0 {K : Res → Option Res} {l : List Lf} {k : St → Option Res} {r : Res} (h : p0 K l k = some r) : ∃ x2 x3 x4 x5, l = [.q (.cells x2), .i x3, .i x4, .q (.ints x5)] ∧ l0 x2 x3 (fun y1 => k (o0 x2 x3 y1)) (fun r1 r2 => K (m r1 r2)) fuel x4 x5 = some r := by
 unfold p0 at h; split at h
 ·exact ⟨_, _, _, _, rfl, h⟩
 ·cases h
theorem w0 (K : Res → Option Res) : LpSound Go.Proofs.Try.prog (X K) 0 b0 := lp_ok ((cx K).ok laid) (by rw [show loopsOf b0 = [] from by kernel_rfl]; intro p hp; cases hp) rfl fun p hp hid => by
 rcases List.mem_cons.1 hp with rfl | hp
 ·intro st k r h1 h2; obtain ⟨x2, x3, x4, x5, e, h⟩ := v0 (K := K) h2; have := St.like_eq (y := s0 x2 x3 x4 x5) h1 (by kernel_rfl) e; subst this; exact ⟨fuel, (i0 K k x2 x3 fuel x4 x5).trans h⟩
 cases hp
theorem tie (K : Res → Option Res) (a1 : List (List Cl)) : exec (X K) c (entry 35 [one (.tr 0 1 [.int .i64, .int .i64, .int .i64, .int .i64, .int .i64, .ints .i64] (.cells a1))] [] []) (endK (X K)) = g a1 (fun r1 r2 => K (m r1 r2)) := Eq.trans (b := b a1 (fun r1 r2 => K (m r1 r2))) (by kernel_rfl) (by rw [e])
theorem runv {l : List Lf} {K : Res → Option Res} {r : Res} (h : run l K = some r) : ∃ a1, l = [.q (.cells a1)] ∧ g a1 (fun r1 r2 => K (m r1 r2)) = some r := by
 unfold run at h; split at h
 ·exact ⟨_, rfl, h⟩
 ·cases h
theorem ok : Con Go.Proofs.Try.prog con := con_of (fn := Go.Proofs.Try.f41) (c := c) (Fi := fi) (X := X) (fun_of laid (by kernel_rfl) (by kernel_rfl) (by kernel_rfl) rfl (by kernel_rfl) (by kernel_rfl) cx (fun _ => rfl) (fun _ => rfl) (fun K => by
 rw [show loopsOf c = [(0, b0)] from by kernel_rfl]; intro p hp
 rcases List.mem_cons.1 hp with rfl | hp
 ·exact w0 K
 cases hp)) fun xs rows boxes K r hl hr => by
 obtain ⟨a1, e, h⟩ := runv hr
 have := St.like_eq (y := a a1) hl (by kernel_rfl) e
 obtain ⟨rfl, rfl, rfl⟩ := argSt_inj this
 exact (tie K a1).trans h
end impl_deep
end Go.Tv.F
