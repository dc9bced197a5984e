/- The law's functions, printed by a program of ours, each with its contract. They hold without condition. -/
import Derived.Test.YtbocgpagaacpoabProg
import Derived.Test.YtbocgpagaacpoabTvC
set_option linter.unusedVariables false
set_option linter.unusedSimpArgs false
set_option linter.unnecessarySimpa false
set_option maxRecDepth 100000
set_option autoImplicit false
namespace Go.Tv.F
open Go Go.Tv
noncomputable def Γ0 : List (Nat × TI) := [(3, ⟨false, [.int .i64], []⟩),
 (4, ⟨false, [.bool], []⟩),
 (5, ⟨false, [.int .u8], []⟩),
 (9, ⟨false, [.str], []⟩),
 (22, ⟨false, [.sl [.int .u8] 1], []⟩),
 (33, ⟨false, [.sl [.int .i64] 8], []⟩),
 (36, ⟨false, [.sl [.int .i64, .int .i64, .bool] 24], []⟩),
 (38, ⟨true, [.sl [.int .i64] 8, .int .i64, .sl [.int .i64, .int .i64, .bool] 24], [(0, 1, false), (1, 1, false), (2, 1, false)]⟩),
 (44, ⟨true, [.sl [.int .i64] 8, .sl [.int .i64] 8], [(0, 1, false), (1, 1, false)]⟩),
 (49, ⟨true, [.int .i64, .int .i64, .bool], [(0, 1, false), (1, 1, false), (2, 1, false)]⟩),
 (57, ⟨false, [.sl [.int .i64, .int .i64, .bool] 24], []⟩),
 (59, ⟨true, [.sl [.int .i64] 8, .int .i64, .sl [.int .i64, .int .i64, .bool] 24], [(0, 1, false), (1, 1, false), (2, 1, false)]⟩),
 (60, ⟨true, [.sl [.int .i64] 8, .sl [.int .i64] 8], [(0, 1, false), (1, 1, false)]⟩),
 (86, ⟨false, [.ptr], []⟩),
 (98, ⟨false, [.sl [.bool] 1], []⟩),
 (106, ⟨false, [.fn], []⟩),
 (127, ⟨true, [.sl [.int .u8] 1, .int .i64, .int .i64], [(0, 1, false), (1, 1, false), (2, 1, false)]⟩),
 (136, ⟨false, [.fn], []⟩),
 (138, ⟨false, [.fn], []⟩),
 (149, ⟨true, [.int .i64, .int .i64, .bool], [(0, 1, false), (1, 1, false), (2, 1, false)]⟩),
 (172, ⟨false, [.int .u64], []⟩),
 (179, ⟨false, [.sl [.ints .i64] 24], []⟩),
 (188, ⟨false, [.int .i64], []⟩),
 (197, ⟨false, [.int .u64], []⟩),
 (199, ⟨false, [.int .u64], []⟩),
 (203, ⟨false, [.ptr], []⟩)]
noncomputable def byt0 : List TypeId := [22]
noncomputable def eqs0 : List TypeId := [49, 149]
theorem laid : Laid Go.Proofs.Try.prog Γ0 byt0 eqs0 := ⟨by kernel_rfl, by kernel_rfl, by kernel_rfl, by kernel_rfl⟩
namespace laws_big
noncomputable def c : Code := bodyOf Go.Proofs.Try.f10
noncomputable def fi : Fin := ⟨Γ0, [(.tmp 2, 4)], [[1]], [], [], []⟩
noncomputable def m (r1 : Bool) : Res := ⟨[⟨false, [.bool r1]⟩], [], [], [], []⟩
noncomputable def os : List (FuncId × St × (List Lf → (Res → Option Res) → Option Res)) := []
noncomputable def X (K : Res → Option Res) : Ctx := { Γ := Γ0, orc := orcOf os, io := [], share := [], mvl := [], bun := [], cut := [], own := [], cin := [], cout := [], lp := lpOf [], kl := [], nk := true, eqs := eqs0, byt := byt0, fin := finK fi K }
noncomputable def b (a1 : List Int) (R : Bool → Option Res) : Option Res :=
 R (decide (1048576 < (a1.length : Int)))
theorem gx : ∃ x : List Int → (Bool → Option Res) → Option Res, x = b := ⟨_, rfl⟩
noncomputable def g : List Int → (Bool → Option Res) → Option Res := Classical.choose gx
theorem e : g = b := Classical.choose_spec gx
noncomputable def run : List Lf → (Res → Option Res) → Option Res
 | [.q (.ints a1)], K => g a1 (fun r1 => K (m r1))
 | _, _ => none
noncomputable def a (a1 : List Int) : St := argSt [one (.tr 0 1 [.int .u8] (.ints a1))] [] []
noncomputable def con : FuncId × St × (List Lf → (Res → Option Res) → Option Res) := (10, a [], run)
theorem cx (K : Res → Option Res) : CtxOk Go.Proofs.Try.prog Γ0 byt0 eqs0 (X K) os := ⟨rfl, rfl, rfl, (fun p hp => by
 cases hp), rfl, rfl, rfl, rfl⟩
theorem tie (K : Res → Option Res) (a1 : List Int) : exec (X K) c (entry 6 [one (.tr 0 1 [.int .u8] (.ints a1))] [] []) (endK (X K)) = g a1 (fun r1 => K (m r1)) := Eq.trans (b := b a1 (fun r1 => K (m r1))) (by kernel_rfl) (by rw [e])
theorem runv {l : List Lf} {K : Res → Option Res} {r : Res} (h : run l K = some r) : ∃ a1, l = [.q (.ints a1)] ∧ g a1 (fun r1 => K (m r1)) = some r := by
 unfold run at h; split at h
 ·exact ⟨_, rfl, h⟩
 ·cases h
theorem ok : Con Go.Proofs.Try.prog con := con_of (fn := Go.Proofs.Try.f10) (c := c) (Fi := fi) (X := X) (fun_of laid (by kernel_rfl) (by kernel_rfl) (by kernel_rfl) rfl (by kernel_rfl) (by kernel_rfl) cx (fun _ => rfl) (fun _ => rfl) (fun K => by
 rw [show loopsOf c = [] from by kernel_rfl]; intro p hp
 cases hp)) fun xs rows boxes K r hl hr => by
 obtain ⟨a1, e, h⟩ := runv hr
 have := St.like_eq (y := a a1) hl (by kernel_rfl) e
 obtain ⟨rfl, rfl, rfl⟩ := argSt_inj this
 exact (tie K a1).trans h
end laws_big
namespace spec_l1New
noncomputable def c : Code := bodyOf Go.Proofs.Try.f51
noncomputable def fi : Fin := ⟨Γ0, [(.tmp 2, 86)], [[1]], [], [], [(2, [.sl [.int .u8] 1, .int .i64, .int .i64], [0, 1, 1])]⟩
noncomputable def m (r1 : List Int) (r2 r3 : Int) : Res := ⟨[⟨false, [.bp 1000 0]⟩], [], [], [], [[.tr 2 2 [.int .u8] (.ints r1), .int .i64 r2, .int .i64 r3]]⟩
noncomputable def b0 : Code := codeAt c [1, 1, 0, 1, 0, 0]
noncomputable def s0 (x2 : List Int) (x3 x4 : Int) : St := ⟨mkT 32 [(0, one (.tr 2 1 [.int .u8] (.ints x2))), (3, one (.int .i64 x3)), (4, one (.int .i64 x4))], [], []⟩
noncomputable def l0s (x2 : List Int) (rec : Int → Int → Option Res) (k : Int → Option Res) (x3 x4 : Int) : Option Res :=
 bif decide (x4 < (x2.length : Int)) then (bif decide (x4 < 4000) then (bif decide (0 ≤ x4) && decide (x4 < (x2.length : Int)) then rec (arith.bits .and .i64 (IntKind.i64.wrap ((IntKind.i64.wrap ((IntKind.i64.wrap (x3 * 131)) + (IntKind.i64.wrap (x2.getD x4.toNat 0)))) + 7)) 1073741823) (IntKind.i64.wrap (x4 + 1))
  else none)
  else k x3)
 else k x3
noncomputable def l0 (x2 : List Int) (k : Int → Option Res) : Nat → Int → Int → Option Res
 | 0, _, _ => none
 | n + 1, x3, x4 => l0s x2 (fun x3 x4 => l0 x2 k n x3 x4) k x3 x4
noncomputable def o0 (x2 : List Int) (y2 : Int) : St := ⟨mkT 32 [(0, one (.tr 2 1 [.int .u8] (.ints x2))), (3, one (.int .i64 y2))], [], []⟩
noncomputable def p0 (K : Res → Option Res) : List Lf → (St → Option Res) → Option Res
 | [.q (.ints x2), .i x3, .i x4], k => l0 x2 (fun y2 => k (o0 x2 y2)) fuel x3 x4
 | _, _ => none
noncomputable def os : List (FuncId × St × (List Lf → (Res → Option Res) → Option Res)) := []
noncomputable def X (K : Res → Option Res) : Ctx := { Γ := Γ0, orc := orcOf os, io := [], share := [], mvl := [], bun := [], cut := [], own := [], cin := [(0, ⟨[0, 3, 4], [], [], [], [], []⟩)], cout := [(0, ⟨[0, 3], [], [], [], [], []⟩)], lp := lpOf [(0, s0 [] 0 0, p0 K)], kl := [], nk := true, eqs := eqs0, byt := byt0, fin := finK fi K }
noncomputable def b (a1 : List Int) (R : List Int → Int → Int → Option Res) : Option Res :=
 l0 a1 (fun y5 =>
 R a1 0 y5) fuel (IntKind.i64.wrap (18218 + (a1.length : Int))) 0
theorem gx : ∃ x : List Int → (List Int → Int → Int → Option Res) → Option Res, x = b := ⟨_, rfl⟩
noncomputable def g : List Int → (List Int → Int → Int → Option Res) → Option Res := Classical.choose gx
theorem e : g = b := Classical.choose_spec gx
noncomputable def run : List Lf → (Res → Option Res) → Option Res
 | [.q (.ints a1)], K => g a1 (fun r1 r2 r3 => K (m r1 r2 r3))
 | _, _ => none
noncomputable def a (a1 : List Int) : St := argSt [one (.tr 2 1 [.int .u8] (.ints a1))] [] []
noncomputable def con : FuncId × St × (List Lf → (Res → Option Res) → Option Res) := (51, a [], run)
theorem cx (K : Res → Option Res) : CtxOk Go.Proofs.Try.prog Γ0 byt0 eqs0 (X K) os := ⟨rfl, rfl, rfl, (fun p hp => by
 cases hp), rfl, rfl, rfl, rfl⟩
theorem t0 (K : Res → Option Res) (k : St → Option Res) (it : St → (St → Option Res) → Option Res) (x2 : List Int) (x3 x4 : Int) : iterS (X K) 0 b0 it (s0 x2 x3 x4) k = l0s x2 (fun x3 x4 => it (s0 x2 x3 x4) k) (fun y2 => k (o0 x2 y2)) x3 x4 := by kernel_rfl
theorem i0 (K : Res → Option Res) (k : St → Option Res) (x2 : List Int) : ∀ (n : Nat) (x3 x4 : Int), iter (X K) 0 b0 n (s0 x2 x3 x4) k = l0 x2 (fun y2 => k (o0 x2 y2)) n x3 x4
 | 0, _, _ => rfl
 | n + 1, x3, x4 => by
  rw [iter_succ, t0, show (fun x3 x4 => iter (X K) 0 b0 n (s0 x2 x3 x4) k) = (fun x3 x4 => l0 x2 (fun y2 => k (o0 x2 y2)) n x3 x4) from funext fun x3 => funext fun x4 => i0 K k x2 n x3 x4]; rfl
theorem v0 {K : Res → Option Res} {l : List Lf} {k : St → Option Res} {r : Res} (h : p0 K l k = some r) : ∃ x2 x3 x4, l = [.q (.ints x2), .i x3, .i x4] ∧ l0 x2 (fun y2 => k (o0 x2 y2)) fuel x3 x4 = some r := by
 unfold p0 at h; split at h
 ·exact ⟨_, _, _, rfl, h⟩
 ·cases h
theorem w0 (K : Res → Option Res) : LpSound Go.Proofs.Try.prog (X K) 0 b0 := lp_ok ((cx K).ok laid) (by rw [show loopsOf b0 = [] from by kernel_rfl]; intro p hp; cases hp) rfl fun p hp hid => by
 rcases List.mem_cons.1 hp with rfl | hp
 ·intro st k r h1 h2; obtain ⟨x2, x3, x4, e, h⟩ := v0 (K := K) h2; have := St.like_eq (y := s0 x2 x3 x4) h1 (by kernel_rfl) e; subst this; exact ⟨fuel, (i0 K k x2 fuel x3 x4).trans h⟩
 cases hp
theorem tie (K : Res → Option Res) (a1 : List Int) : exec (X K) c (entry 32 [one (.tr 2 1 [.int .u8] (.ints a1))] [] []) (endK (X K)) = g a1 (fun r1 r2 r3 => K (m r1 r2 r3)) := Eq.trans (b := b a1 (fun r1 r2 r3 => K (m r1 r2 r3))) (by kernel_rfl) (by rw [e])
theorem runv {l : List Lf} {K : Res → Option Res} {r : Res} (h : run l K = some r) : ∃ a1, l = [.q (.ints a1)] ∧ g a1 (fun r1 r2 r3 => K (m r1 r2 r3)) = some r := by
 unfold run at h; split at h
 ·exact ⟨_, rfl, h⟩
 ·cases h
theorem ok : Con Go.Proofs.Try.prog con := con_of (fn := Go.Proofs.Try.f51) (c := c) (Fi := fi) (X := X) (fun_of laid (by kernel_rfl) (by kernel_rfl) (by kernel_rfl) rfl (by kernel_rfl) (by kernel_rfl) cx (fun _ => rfl) (fun _ => rfl) (fun K => by
 rw [show loopsOf c = [(0, b0)] from by kernel_rfl]; intro p hp
 rcases List.mem_cons.1 hp with rfl | hp
 ·exact w0 K
 cases hp)) fun xs rows boxes K r hl hr => by
 obtain ⟨a1, e, h⟩ := runv hr
 have := St.like_eq (y := a a1) hl (by kernel_rfl) e
 obtain ⟨rfl, rfl, rfl⟩ := argSt_inj this
 exact (tie K a1).trans h
end spec_l1New
namespace spec_l1Byte
noncomputable def c : Code := bodyOf Go.Proofs.Try.f155
noncomputable def fi : Fin := ⟨Γ0, [(.tmp 2, 3)], [[1]], [], [([.sl [.int .u8] 1, .int .i64, .int .i64], [0, 1, 1])], []⟩
noncomputable def m (a1 : List Int) (r1 r3 r4 : Int) : Res := ⟨[⟨false, [.int .i64 r1]⟩], [], [], [[.tr 2 2 [.int .u8] (.ints a1), .int .i64 r3, .int .i64 r4]], []⟩
noncomputable def os : List (FuncId × St × (List Lf → (Res → Option Res) → Option Res)) := []
noncomputable def X (K : Res → Option Res) : Ctx := { Γ := Γ0, orc := orcOf os, io := [], share := [], mvl := [], bun := [], cut := [], own := [], cin := [], cout := [], lp := lpOf [], kl := [], nk := true, eqs := eqs0, byt := byt0, fin := finK fi K }
noncomputable def b (a1 : List Int) (a2 a3 : Int) (R : Int → Int → Int → Option Res) : Option Res :=
 bif decide (a2 < (a1.length : Int)) then (bif decide (0 ≤ a2) && decide (a2 < (a1.length : Int)) then R (arith.bits .and .i64 (IntKind.i64.wrap ((arith.bits .and .i64 (arith.bits .xor .i64 ((IntKind.i64.wrap ((IntKind.i64.wrap (a3 * 6364136223846793005)) + 1442695040888963407)).fdiv (2 ^ 33)) ((IntKind.i64.wrap ((IntKind.i64.wrap (a3 * 6364136223846793005)) + 1442695040888963407)).fdiv (2 ^ 45))) 255) + (IntKind.i64.wrap (a1.getD a2.toNat 0)))) 255) (IntKind.i64.wrap (a2 + 1)) (IntKind.i64.wrap ((IntKind.i64.wrap (a3 * 6364136223846793005)) + 1442695040888963407))
  else none)
 else R (arith.bits .and .i64 (arith.bits .xor .i64 ((IntKind.i64.wrap ((IntKind.i64.wrap (a3 * 6364136223846793005)) + 1442695040888963407)).fdiv (2 ^ 33)) ((IntKind.i64.wrap ((IntKind.i64.wrap (a3 * 6364136223846793005)) + 1442695040888963407)).fdiv (2 ^ 45))) 255) a2 (IntKind.i64.wrap ((IntKind.i64.wrap (a3 * 6364136223846793005)) + 1442695040888963407))
theorem gx : ∃ x : List Int → Int → Int → (Int → Int → Int → Option Res) → Option Res, x = b := ⟨_, rfl⟩
noncomputable def g : List Int → Int → Int → (Int → Int → Int → Option Res) → Option Res := Classical.choose gx
theorem e : g = b := Classical.choose_spec gx
noncomputable def run : List Lf → (Res → Option Res) → Option Res
 | [.q (.ints a1), .i a2, .i a3], K => g a1 a2 a3 (fun r1 r3 r4 => K (m a1 r1 r3 r4))
 | _, _ => none
noncomputable def a (a1 : List Int) (a2 a3 : Int) : St := argSt [one (.bp 0 0)] [] [[.tr 2 2 [.int .u8] (.ints a1), .int .i64 a2, .int .i64 a3]]
noncomputable def con : FuncId × St × (List Lf → (Res → Option Res) → Option Res) := (155, a [] 0 0, run)
theorem cx (K : Res → Option Res) : CtxOk Go.Proofs.Try.prog Γ0 byt0 eqs0 (X K) os := ⟨rfl, rfl, rfl, (fun p hp => by
 cases hp), rfl, rfl, rfl, rfl⟩
theorem tie (K : Res → Option Res) (a1 : List Int) (a2 a3 : Int) : exec (X K) c (entry 58 [one (.bp 0 0)] [] [[.tr 2 2 [.int .u8] (.ints a1), .int .i64 a2, .int .i64 a3]]) (endK (X K)) = g a1 a2 a3 (fun r1 r3 r4 => K (m a1 r1 r3 r4)) := Eq.trans (b := b a1 a2 a3 (fun r1 r3 r4 => K (m a1 r1 r3 r4))) (by kernel_rfl) (by rw [e])
theorem runv {l : List Lf} {K : Res → Option Res} {r : Res} (h : run l K = some r) : ∃ a1 a2 a3, l = [.q (.ints a1), .i a2, .i a3] ∧ g a1 a2 a3 (fun r1 r3 r4 => K (m a1 r1 r3 r4)) = some r := by
 unfold run at h; split at h
 ·exact ⟨_, _, _, rfl, h⟩
 ·cases h
theorem ok : Con Go.Proofs.Try.prog con := con_of (fn := Go.Proofs.Try.f155) (c := c) (Fi := fi) (X := X) (fun_of laid (by kernel_rfl) (by kernel_rfl) (by kernel_rfl) rfl (by kernel_rfl) (by kernel_rfl) cx (fun _ => rfl) (fun _ => rfl) (fun K => by
 rw [show loopsOf c = [] from by kernel_rfl]; intro p hp
 cases hp)) fun xs rows boxes K r hl hr => by
 obtain ⟨a1, a2, a3, e, h⟩ := runv hr
 have := St.like_eq (y := a a1 a2 a3) hl (by kernel_rfl) e
 obtain ⟨rfl, rfl, rfl⟩ := argSt_inj this
 exact (tie K a1 a2 a3).trans h
end spec_l1Byte
namespace spec_l1Below
noncomputable def c : Code := bodyOf Go.Proofs.Try.f98
noncomputable def fi : Fin := ⟨Γ0, [(.tmp 4, 3)], [[1]], [], [([.sl [.int .u8] 1, .int .i64, .int .i64], [0, 1, 1])], []⟩
noncomputable def m (a2 : List Int) (r1 r3 r4 : Int) : Res := ⟨[⟨false, [.int .i64 r1]⟩], [], [], [[.tr 2 2 [.int .u8] (.ints a2), .int .i64 r3, .int .i64 r4]], []⟩
noncomputable def os : List (FuncId × St × (List Lf → (Res → Option Res) → Option Res)) := [spec_l1Byte.con]
noncomputable def X (K : Res → Option Res) : Ctx := { Γ := Γ0, orc := orcOf os, io := [], share := [], mvl := [], bun := [], cut := [], own := [], cin := [], cout := [], lp := lpOf [], kl := [], nk := true, eqs := eqs0, byt := byt0, fin := finK fi K }
noncomputable def b (a1 : Int) (a2 : List Int) (a3 a4 : Int) (R : Int → Int → Int → Option Res) : Option Res :=
 bif decide (a1 ≤ 0) then R 0 a3 a4
 else bif decide (a1 ≤ 256) then (spec_l1Byte.g a2 a3 a4 fun r5 r6 r7 =>
  bif decide (a1 = 0) then none
  else R (r5.tmod a1) r6 r7)
 else (spec_l1Byte.g a2 a3 a4 fun r8 r9 r10 =>
 spec_l1Byte.g a2 r9 r10 fun r11 r12 r13 =>
 spec_l1Byte.g a2 r12 r13 fun r14 r15 r16 =>
 spec_l1Byte.g a2 r15 r16 fun r17 r18 r19 =>
 bif decide (a1 = 0) then none
 else R ((IntKind.i64.wrap ((IntKind.i64.wrap ((IntKind.i64.wrap ((IntKind.i64.wrap (r8 * 16777216)) + (IntKind.i64.wrap (r11 * 65536)))) + (IntKind.i64.wrap (r14 * 256)))) + r17)).tmod a1) r18 r19)
theorem gx : ∃ x : Int → List Int → Int → Int → (Int → Int → Int → Option Res) → Option Res, x = b := ⟨_, rfl⟩
noncomputable def g : Int → List Int → Int → Int → (Int → Int → Int → Option Res) → Option Res := Classical.choose gx
theorem e : g = b := Classical.choose_spec gx
noncomputable def run : List Lf → (Res → Option Res) → Option Res
 | [.i a1, .q (.ints a2), .i a3, .i a4], K => g a1 a2 a3 a4 (fun r1 r3 r4 => K (m a2 r1 r3 r4))
 | _, _ => none
noncomputable def a (a1 : Int) (a2 : List Int) (a3 a4 : Int) : St := argSt [one (.bp 0 0), one (.int .i64 a1)] [] [[.tr 2 2 [.int .u8] (.ints a2), .int .i64 a3, .int .i64 a4]]
noncomputable def con : FuncId × St × (List Lf → (Res → Option Res) → Option Res) := (98, a 0 [] 0 0, run)
theorem cx (K : Res → Option Res) : CtxOk Go.Proofs.Try.prog Γ0 byt0 eqs0 (X K) os := ⟨rfl, rfl, rfl, (fun p hp => by
 rcases List.mem_cons.1 hp with rfl | hp
 ·exact spec_l1Byte.ok
 cases hp), rfl, rfl, rfl, rfl⟩
theorem tie (K : Res → Option Res) (a1 : Int) (a2 : List Int) (a3 a4 : Int) : exec (X K) c (entry 37 [one (.bp 0 0), one (.int .i64 a1)] [] [[.tr 2 2 [.int .u8] (.ints a2), .int .i64 a3, .int .i64 a4]]) (endK (X K)) = g a1 a2 a3 a4 (fun r1 r3 r4 => K (m a2 r1 r3 r4)) := Eq.trans (b := b a1 a2 a3 a4 (fun r1 r3 r4 => K (m a2 r1 r3 r4))) (by kernel_rfl) (by rw [e])
theorem runv {l : List Lf} {K : Res → Option Res} {r : Res} (h : run l K = some r) : ∃ a1 a2 a3 a4, l = [.i a1, .q (.ints a2), .i a3, .i a4] ∧ g a1 a2 a3 a4 (fun r1 r3 r4 => K (m a2 r1 r3 r4)) = some r := by
 unfold run at h; split at h
 ·exact ⟨_, _, _, _, rfl, h⟩
 ·cases h
theorem ok : Con Go.Proofs.Try.prog con := con_of (fn := Go.Proofs.Try.f98) (c := c) (Fi := fi) (X := X) (fun_of laid (by kernel_rfl) (by kernel_rfl) (by kernel_rfl) rfl (by kernel_rfl) (by kernel_rfl) cx (fun _ => rfl) (fun _ => rfl) (fun K => by
 rw [show loopsOf c = [] from by kernel_rfl]; intro p hp
 cases hp)) fun xs rows boxes K r hl hr => by
 obtain ⟨a1, a2, a3, a4, e, h⟩ := runv hr
 have := St.like_eq (y := a a1 a2 a3 a4) hl (by kernel_rfl) e
 obtain ⟨rfl, rfl, rfl⟩ := argSt_inj this
 exact (tie K a1 a2 a3 a4).trans h
end spec_l1Below
namespace spec_l1PickInt
noncomputable def c : Code := bodyOf Go.Proofs.Try.f156
noncomputable def fi : Fin := ⟨Γ0, [(.tmp 4, 3)], [[1]], [], [([.sl [.int .u8] 1, .int .i64, .int .i64], [0, 1, 1])], []⟩
noncomputable def m (a2 : List Int) (r1 r3 r4 : Int) : Res := ⟨[⟨false, [.int .i64 r1]⟩], [], [], [[.tr 2 2 [.int .u8] (.ints a2), .int .i64 r3, .int .i64 r4]], []⟩
noncomputable def os : List (FuncId × St × (List Lf → (Res → Option Res) → Option Res)) := [spec_l1Below.con]
noncomputable def X (K : Res → Option Res) : Ctx := { Γ := Γ0, orc := orcOf os, io := [], share := [], mvl := [], bun := [], cut := [], own := [], cin := [], cout := [], lp := lpOf [], kl := [], nk := true, eqs := eqs0, byt := byt0, fin := finK fi K }
noncomputable def b (a1 a2 : List Int) (a3 a4 : Int) (R : Int → Int → Int → Option Res) : Option Res :=
 spec_l1Below.g (a1.length : Int) a2 a3 a4 fun r5 r6 r7 =>
 bif decide (0 ≤ r5) && decide (r5 < (a1.length : Int)) then R (a1.getD r5.toNat 0) r6 r7
 else none
theorem gx : ∃ x : List Int → List Int → Int → Int → (Int → Int → Int → Option Res) → Option Res, x = b := ⟨_, rfl⟩
noncomputable def g : List Int → List Int → Int → Int → (Int → Int → Int → Option Res) → Option Res := Classical.choose gx
theorem e : g = b := Classical.choose_spec gx
noncomputable def run : List Lf → (Res → Option Res) → Option Res
 | [.q (.ints a1), .q (.ints a2), .i a3, .i a4], K => g a1 a2 a3 a4 (fun r1 r3 r4 => K (m a2 r1 r3 r4))
 | _, _ => none
noncomputable def a (a1 a2 : List Int) (a3 a4 : Int) : St := argSt [one (.bp 0 0), one (.tr 0 1 [.int .i64] (.ints a1))] [] [[.tr 2 2 [.int .u8] (.ints a2), .int .i64 a3, .int .i64 a4]]
noncomputable def con : FuncId × St × (List Lf → (Res → Option Res) → Option Res) := (156, a [] [] 0 0, run)
theorem cx (K : Res → Option Res) : CtxOk Go.Proofs.Try.prog Γ0 byt0 eqs0 (X K) os := ⟨rfl, rfl, rfl, (fun p hp => by
 rcases List.mem_cons.1 hp with rfl | hp
 ·exact spec_l1Below.ok
 cases hp), rfl, rfl, rfl, rfl⟩
theorem tie (K : Res → Option Res) (a1 a2 : List Int) (a3 a4 : Int) : exec (X K) c (entry 12 [one (.bp 0 0), one (.tr 0 1 [.int .i64] (.ints a1))] [] [[.tr 2 2 [.int .u8] (.ints a2), .int .i64 a3, .int .i64 a4]]) (endK (X K)) = g a1 a2 a3 a4 (fun r1 r3 r4 => K (m a2 r1 r3 r4)) := Eq.trans (b := b a1 a2 a3 a4 (fun r1 r3 r4 => K (m a2 r1 r3 r4))) (by kernel_rfl) (by rw [e])
theorem runv {l : List Lf} {K : Res → Option Res} {r : Res} (h : run l K = some r) : ∃ a1 a2 a3 a4, l = [.q (.ints a1), .q (.ints a2), .i a3, .i a4] ∧ g a1 a2 a3 a4 (fun r1 r3 r4 => K (m a2 r1 r3 r4)) = some r := by
 unfold run at h; split at h
 ·exact ⟨_, _, _, _, rfl, h⟩
 ·cases h
theorem ok : Con Go.Proofs.Try.prog con := con_of (fn := Go.Proofs.Try.f156) (c := c) (Fi := fi) (X := X) (fun_of laid (by kernel_rfl) (by kernel_rfl) (by kernel_rfl) rfl (by kernel_rfl) (by kernel_rfl) cx (fun _ => rfl) (fun _ => rfl) (fun K => by
 rw [show loopsOf c = [] from by kernel_rfl]; intro p hp
 cases hp)) fun xs rows boxes K r hl hr => by
 obtain ⟨a1, a2, a3, a4, e, h⟩ := runv hr
 have := St.like_eq (y := a a1 a2 a3 a4) hl (by kernel_rfl) e
 obtain ⟨rfl, rfl, rfl⟩ := argSt_inj this
 exact (tie K a1 a2 a3 a4).trans h
end spec_l1PickInt
namespace spec_l1In
noncomputable def c : Code := bodyOf Go.Proofs.Try.f57
noncomputable def fi : Fin := ⟨Γ0, [(.tmp 6, 4)], [[1]], [], [], []⟩
noncomputable def m (r1 : Bool) : Res := ⟨[⟨false, [.bool r1]⟩], [], [], [], []⟩
noncomputable def os : List (FuncId × St × (List Lf → (Res → Option Res) → Option Res)) := []
noncomputable def X (K : Res → Option Res) : Ctx := { Γ := Γ0, orc := orcOf os, io := [], share := [], mvl := [], bun := [], cut := [], own := [], cin := [], cout := [], lp := lpOf [], kl := [], nk := true, eqs := eqs0, byt := byt0, fin := finK fi K }
noncomputable def b (a1 a2 a3 : Int) (R : Bool → Option Res) : Option Res :=
 bif decide (a2 ≤ a1) then R (decide (a1 ≤ a3))
 else R false
theorem gx : ∃ x : Int → Int → Int → (Bool → Option Res) → Option Res, x = b := ⟨_, rfl⟩
noncomputable def g : Int → Int → Int → (Bool → Option Res) → Option Res := Classical.choose gx
theorem e : g = b := Classical.choose_spec gx
noncomputable def run : List Lf → (Res → Option Res) → Option Res
 | [.i a1, .i a2, .i a3], K => g a1 a2 a3 (fun r1 => K (m r1))
 | _, _ => none
noncomputable def a (a1 a2 a3 : Int) : St := argSt [one (.int .i64 a1), one (.int .i64 a2), one (.int .i64 a3)] [] []
noncomputable def con : FuncId × St × (List Lf → (Res → Option Res) → Option Res) := (57, a 0 0 0, run)
theorem cx (K : Res → Option Res) : CtxOk Go.Proofs.Try.prog Γ0 byt0 eqs0 (X K) os := ⟨rfl, rfl, rfl, (fun p hp => by
 cases hp), rfl, rfl, rfl, rfl⟩
theorem tie (K : Res → Option Res) (a1 a2 a3 : Int) : exec (X K) c (entry 15 [one (.int .i64 a1), one (.int .i64 a2), one (.int .i64 a3)] [] []) (endK (X K)) = g a1 a2 a3 (fun r1 => K (m r1)) := Eq.trans (b := b a1 a2 a3 (fun r1 => K (m r1))) (by kernel_rfl) (by rw [e])
theorem runv {l : List Lf} {K : Res → Option Res} {r : Res} (h : run l K = some r) : ∃ a1 a2 a3, l = [.i a1, .i a2, .i a3] ∧ g a1 a2 a3 (fun r1 => K (m r1)) = some r := by
 unfold run at h; split at h
 ·exact ⟨_, _, _, rfl, h⟩
 ·cases h
theorem ok : Con Go.Proofs.Try.prog con := con_of (fn := Go.Proofs.Try.f57) (c := c) (Fi := fi) (X := X) (fun_of laid (by kernel_rfl) (by kernel_rfl) (by kernel_rfl) rfl (by kernel_rfl) (by kernel_rfl) cx (fun _ => rfl) (fun _ => rfl) (fun K => by
 rw [show loopsOf c = [] from by kernel_rfl]; intro p hp
 cases hp)) fun xs rows boxes K r hl hr => by
 obtain ⟨a1, a2, a3, e, h⟩ := runv hr
 have := St.like_eq (y := a a1 a2 a3) hl (by kernel_rfl) e
 obtain ⟨rfl, rfl, rfl⟩ := argSt_inj this
 exact (tie K a1 a2 a3).trans h
end spec_l1In
namespace spec_HeapNew
noncomputable def c : Code := bodyOf Go.Proofs.Try.f163
noncomputable def fi : Fin := ⟨Γ0, [(.cell 2 38, 38), (.tmp 3, 4)], [[1, 1, 1], [1]], [], [], []⟩
noncomputable def m (r1 : List Int) (r2 : Int) (r3 : List (List Cl)) (r4 : Bool) : Res := ⟨[⟨true, [.ow 1000, .int .i64 r2, .ow 1001]⟩, ⟨false, [.bool r4]⟩], [], [⟨[.int .i64], .ints r1, true, 0⟩, ⟨[.int .i64, .int .i64, .bool], .cells r3, true, 0⟩], [], []⟩
noncomputable def os : List (FuncId × St × (List Lf → (Res → Option Res) → Option Res)) := [spec_l1In.con]
noncomputable def X (K : Res → Option Res) : Ctx := { Γ := Γ0, orc := orcOf os, io := [], share := [], mvl := [], bun := [], cut := [], own := [], cin := [], cout := [], lp := lpOf [], kl := [], nk := true, eqs := eqs0, byt := byt0, fin := finK fi K }
noncomputable def b (a1 : Int) (R : List Int → Int → List (List Cl) → Bool → Option Res) : Option Res :=
 spec_l1In.g a1 0 6000 fun r2 =>
 bif !r2 then R ([] : List Int) 0 ([] : List (List Cl)) false
 else bif decide (a1 = a1) && decide (0 ≤ a1) && decide (a1 * 8 ≤ 140737488355328) then R (List.replicate a1.toNat 0) 0 ([] : List (List Cl)) true
 else none
theorem gx : ∃ x : Int → (List Int → Int → List (List Cl) → Bool → Option Res) → Option Res, x = b := ⟨_, rfl⟩
noncomputable def g : Int → (List Int → Int → List (List Cl) → Bool → Option Res) → Option Res := Classical.choose gx
theorem e : g = b := Classical.choose_spec gx
noncomputable def run : List Lf → (Res → Option Res) → Option Res
 | [.i a1], K => g a1 (fun r1 r2 r3 r4 => K (m r1 r2 r3 r4))
 | _, _ => none
noncomputable def a (a1 : Int) : St := argSt [one (.int .i64 a1)] [] []
noncomputable def con : FuncId × St × (List Lf → (Res → Option Res) → Option Res) := (163, a 0, run)
theorem cx (K : Res → Option Res) : CtxOk Go.Proofs.Try.prog Γ0 byt0 eqs0 (X K) os := ⟨rfl, rfl, rfl, (fun p hp => by
 rcases List.mem_cons.1 hp with rfl | hp
 ·exact spec_l1In.ok
 cases hp), rfl, rfl, rfl, rfl⟩
theorem tie (K : Res → Option Res) (a1 : Int) : exec (X K) c (entry 11 [one (.int .i64 a1)] [] []) (endK (X K)) = g a1 (fun r1 r2 r3 r4 => K (m r1 r2 r3 r4)) := Eq.trans (b := b a1 (fun r1 r2 r3 r4 => K (m r1 r2 r3 r4))) (by kernel_rfl) (by rw [e])
theorem runv {l : List Lf} {K : Res → Option Res} {r : Res} (h : run l K = some r) : ∃ a1, l = [.i a1] ∧ g a1 (fun r1 r2 r3 r4 => K (m r1 r2 r3 r4)) = some r := by
 unfold run at h; split at h
 ·exact ⟨_, rfl, h⟩
 ·cases h
theorem ok : Con Go.Proofs.Try.prog con := con_of (fn := Go.Proofs.Try.f163) (c := c) (Fi := fi) (X := X) (fun_of laid (by kernel_rfl) (by kernel_rfl) (by kernel_rfl) rfl (by kernel_rfl) (by kernel_rfl) cx (fun _ => rfl) (fun _ => rfl) (fun K => by
 rw [show loopsOf c = [] from by kernel_rfl]; intro p hp
 cases hp)) fun xs rows boxes K r hl hr => by
 obtain ⟨a1, e, h⟩ := runv hr
 have := St.like_eq (y := a a1) hl (by kernel_rfl) e
 obtain ⟨rfl, rfl, rfl⟩ := argSt_inj this
 exact (tie K a1).trans h
end spec_HeapNew
namespace spec_l2DrawRight
noncomputable def c : Code := bodyOf Go.Proofs.Try.f179
noncomputable def fi : Fin := ⟨Γ0, [(.tmp 2, 33)], [[1]], [], [([.sl [.int .u8] 1, .int .i64, .int .i64], [0, 1, 1])], []⟩
noncomputable def m (a1 r1 : List Int) (r3 r4 : Int) : Res := ⟨[⟨false, [.ow 1000]⟩], [], [⟨[.int .i64], .ints r1, true, 0⟩], [[.tr 2 2 [.int .u8] (.ints a1), .int .i64 r3, .int .i64 r4]], []⟩
noncomputable def os : List (FuncId × St × (List Lf → (Res → Option Res) → Option Res)) := [spec_l1Below.con]
noncomputable def X (K : Res → Option Res) : Ctx := { Γ := Γ0, orc := orcOf os, io := [], share := [], mvl := [], bun := [], cut := [], own := [], cin := [], cout := [], lp := lpOf [], kl := [], nk := true, eqs := eqs0, byt := byt0, fin := finK fi K }
noncomputable def b (a1 : List Int) (a2 a3 : Int) (R : List Int → Int → Int → Option Res) : Option Res :=
 spec_l1Below.g 5 a1 a2 a3 fun r4 r5 r6 =>
 bif (r4 == 0) then R ([] : List Int) r5 r6
 else bif (r4 == 1) then (spec_l1Below.g 6 a1 r5 r6 fun r7 r8 r9 =>
  R ([r7] : List Int) r8 r9)
 else bif (r4 == 2) then (spec_l1Below.g 6 a1 r5 r6 fun r10 r11 r12 =>
  R ([r10] : List Int) r11 r12)
 else bif (r4 == 3) then (spec_l1Below.g 4 a1 r5 r6 fun r13 r14 r15 =>
  spec_l1Below.g 3 a1 r14 r15 fun r16 r17 r18 =>
  R ([r13, IntKind.i64.wrap (1 + r16)] : List Int) r17 r18)
 else (spec_l1Below.g 3 a1 r5 r6 fun r19 r20 r21 =>
 spec_l1Below.g 2 a1 r20 r21 fun r22 r23 r24 =>
 spec_l1Below.g 4 a1 r23 r24 fun r25 r26 r27 =>
 R ([IntKind.i64.wrap (1 + r19), IntKind.i64.wrap (1 + r22), r25] : List Int) r26 r27)
theorem gx : ∃ x : List Int → Int → Int → (List Int → Int → Int → Option Res) → Option Res, x = b := ⟨_, rfl⟩
noncomputable def g : List Int → Int → Int → (List Int → Int → Int → Option Res) → Option Res := Classical.choose gx
theorem e : g = b := Classical.choose_spec gx
noncomputable def run : List Lf → (Res → Option Res) → Option Res
 | [.q (.ints a1), .i a2, .i a3], K => g a1 a2 a3 (fun r1 r3 r4 => K (m a1 r1 r3 r4))
 | _, _ => none
noncomputable def a (a1 : List Int) (a2 a3 : Int) : St := argSt [one (.bp 0 0)] [] [[.tr 2 2 [.int .u8] (.ints a1), .int .i64 a2, .int .i64 a3]]
noncomputable def con : FuncId × St × (List Lf → (Res → Option Res) → Option Res) := (179, a [] 0 0, run)
theorem cx (K : Res → Option Res) : CtxOk Go.Proofs.Try.prog Γ0 byt0 eqs0 (X K) os := ⟨rfl, rfl, rfl, (fun p hp => by
 rcases List.mem_cons.1 hp with rfl | hp
 ·exact spec_l1Below.ok
 cases hp), rfl, rfl, rfl, rfl⟩
theorem tie (K : Res → Option Res) (a1 : List Int) (a2 a3 : Int) : exec (X K) c (entry 31 [one (.bp 0 0)] [] [[.tr 2 2 [.int .u8] (.ints a1), .int .i64 a2, .int .i64 a3]]) (endK (X K)) = g a1 a2 a3 (fun r1 r3 r4 => K (m a1 r1 r3 r4)) := Eq.trans (b := b a1 a2 a3 (fun r1 r3 r4 => K (m a1 r1 r3 r4))) (by kernel_rfl) (by rw [e])
theorem runv {l : List Lf} {K : Res → Option Res} {r : Res} (h : run l K = some r) : ∃ a1 a2 a3, l = [.q (.ints a1), .i a2, .i a3] ∧ g a1 a2 a3 (fun r1 r3 r4 => K (m a1 r1 r3 r4)) = some r := by
 unfold run at h; split at h
 ·exact ⟨_, _, _, rfl, h⟩
 ·cases h
theorem ok : Con Go.Proofs.Try.prog con := con_of (fn := Go.Proofs.Try.f179) (c := c) (Fi := fi) (X := X) (fun_of laid (by kernel_rfl) (by kernel_rfl) (by kernel_rfl) rfl (by kernel_rfl) (by kernel_rfl) cx (fun _ => rfl) (fun _ => rfl) (fun K => by
 rw [show loopsOf c = [] from by kernel_rfl]; intro p hp
 cases hp)) fun xs rows boxes K r hl hr => by
 obtain ⟨a1, a2, a3, e, h⟩ := runv hr
 have := St.like_eq (y := a a1 a2 a3) hl (by kernel_rfl) e
 obtain ⟨rfl, rfl, rfl⟩ := argSt_inj this
 exact (tie K a1 a2 a3).trans h
end spec_l2DrawRight
namespace spec_SizeOf
noncomputable def c : Code := bodyOf Go.Proofs.Try.f118
noncomputable def fi : Fin := ⟨Γ0, [(.tmp 2, 3)], [[1]], [], [], []⟩
noncomputable def m (r1 : Int) : Res := ⟨[⟨false, [.int .i64 r1]⟩], [], [], [], []⟩
noncomputable def b0 : Code := codeAt c [1, 1, 1, 0, 1, 0, 0]
noncomputable def b2 : Code := codeAt c [1, 1, 1, 1, 1, 0, 1, 0, 0]
noncomputable def s0 (x2 : List Int) (x3 : Bool) (x4 : Int) : St := ⟨mkT 49 [(0, one (.tr 0 1 [.int .i64] (.ints x2))), (3, one (.bool x3)), (4, one (.int .i64 x4))], [], []⟩
noncomputable def l0s (x2 : List Int) (rec : Bool → Int → Option Res) (k : Bool → Option Res) (R : Int → Option Res) (x3 : Bool) (x4 : Int) : Option Res :=
 bif decide (x4 < (x2.length : Int)) then (bif decide (0 ≤ x4) && decide (x4 < (x2.length : Int)) then (spec_l1In.g (x2.getD x4.toNat 0) 0 300 fun r5 =>
  bif !r5 then R (-1)
  else bif x3 then rec true (IntKind.i64.wrap (x4 + 1))
  else bif decide (0 ≤ x4) && decide (x4 < (x2.length : Int)) then rec (x2.getD x4.toNat 0 == 0) (IntKind.i64.wrap (x4 + 1))
  else none)
  else none)
 else k x3
noncomputable def l0 (x2 : List Int) (k : Bool → Option Res) (R : Int → Option Res) : Nat → Bool → Int → Option Res
 | 0, _, _ => none
 | n + 1, x3, x4 => l0s x2 (fun x3 x4 => l0 x2 k R n x3 x4) k R x3 x4
noncomputable def o0 (x2 : List Int) (y2 : Bool) : St := ⟨mkT 49 [(0, one (.tr 0 1 [.int .i64] (.ints x2))), (3, one (.bool y2))], [], []⟩
noncomputable def p0 (K : Res → Option Res) : List Lf → (St → Option Res) → Option Res
 | [.q (.ints x2), .b x3, .i x4], k => l0 x2 (fun y2 => k (o0 x2 y2)) (fun r1 => K (m r1)) fuel x3 x4
 | _, _ => none
noncomputable def s2 (x7 : List Int) (x8 : Bool) (x9 x10 : Int) : St := ⟨mkT 49 [(0, one (.tr 0 1 [.int .i64] (.ints x7))), (3, one (.bool x8)), (5, one (.int .i64 x9)), (6, one (.int .i64 x10))], [], []⟩
noncomputable def l2s (x7 : List Int) (x8 : Bool) (rec : Int → Int → Option Res) (k : Int → Option Res) (x9 x10 : Int) : Option Res :=
 bif decide (x10 < (x7.length : Int)) then (bif decide (0 ≤ x10) && decide (x10 < (x7.length : Int)) then rec (IntKind.i64.wrap (x9 * (x7.getD x10.toNat 0))) (IntKind.i64.wrap (x10 + 1))
  else none)
 else k x9
noncomputable def l2 (x7 : List Int) (x8 : Bool) (k : Int → Option Res) : Nat → Int → Int → Option Res
 | 0, _, _ => none
 | n + 1, x9, x10 => l2s x7 x8 (fun x9 x10 => l2 x7 x8 k n x9 x10) k x9 x10
noncomputable def o2 (x7 : List Int) (x8 : Bool) (y2 : Int) : St := ⟨mkT 49 [(3, one (.bool x8)), (5, one (.int .i64 y2))], [], []⟩
noncomputable def p2 (K : Res → Option Res) : List Lf → (St → Option Res) → Option Res
 | [.q (.ints x7), .b x8, .i x9, .i x10], k => l2 x7 x8 (fun y2 => k (o2 x7 x8 y2)) fuel x9 x10
 | _, _ => none
noncomputable def os : List (FuncId × St × (List Lf → (Res → Option Res) → Option Res)) := [spec_l1In.con]
noncomputable def X (K : Res → Option Res) : Ctx := { Γ := Γ0, orc := orcOf os, io := [], share := [], mvl := [], bun := [], cut := [], own := [], cin := [(0, ⟨[0, 3, 4], [], [], [], [], []⟩), (2, ⟨[0, 3, 5, 6], [], [], [], [], []⟩)], cout := [(0, ⟨[0, 3], [], [], [], [], []⟩), (2, ⟨[3, 5], [], [], [], [], []⟩)], lp := lpOf [(0, s0 [] false 0, p0 K), (2, s2 [] false 0 0, p2 K)], kl := [], nk := true, eqs := eqs0, byt := byt0, fin := finK fi K }
noncomputable def b (a1 : List Int) (R : Int → Option Res) : Option Res :=
 bif decide (3 < (a1.length : Int)) then R (-1)
 else (l0 a1 (fun y6 =>
 l2 a1 y6 (fun y11 =>
 bif decide (300 < y11) then (bif !y6 then R (-1)
  else R y11)
 else R y11) fuel 1 0) R fuel false 0)
theorem gx : ∃ x : List Int → (Int → Option Res) → Option Res, x = b := ⟨_, rfl⟩
noncomputable def g : List Int → (Int → Option Res) → Option Res := Classical.choose gx
theorem e : g = b := Classical.choose_spec gx
noncomputable def run : List Lf → (Res → Option Res) → Option Res
 | [.q (.ints a1)], K => g a1 (fun r1 => K (m r1))
 | _, _ => none
noncomputable def a (a1 : List Int) : St := argSt [one (.tr 0 1 [.int .i64] (.ints a1))] [] []
noncomputable def con : FuncId × St × (List Lf → (Res → Option Res) → Option Res) := (118, a [], run)
theorem cx (K : Res → Option Res) : CtxOk Go.Proofs.Try.prog Γ0 byt0 eqs0 (X K) os := ⟨rfl, rfl, rfl, (fun p hp => by
 rcases List.mem_cons.1 hp with rfl | hp
 ·exact spec_l1In.ok
 cases hp), rfl, rfl, rfl, rfl⟩
theorem t0 (K : Res → Option Res) (k : St → Option Res) (it : St → (St → Option Res) → Option Res) (x2 : List Int) (x3 : Bool) (x4 : Int) : iterS (X K) 0 b0 it (s0 x2 x3 x4) k = l0s x2 (fun x3 x4 => it (s0 x2 x3 x4) k) (fun y2 => k (o0 x2 y2)) (fun r1 => K (m r1)) x3 x4 := by kernel_rfl
theorem i0 (K : Res → Option Res) (k : St → Option Res) (x2 : List Int) : ∀ (n : Nat) (x3 : Bool) (x4 : Int), iter (X K) 0 b0 n (s0 x2 x3 x4) k = l0 x2 (fun y2 => k (o0 x2 y2)) (fun r1 => K (m r1)) n x3 x4
 | 0, _, _ => rfl
 | n + 1, x3, x4 => by
  rw [iter_succ, t0, show (fun x3 x4 => iter (X K) 0 b0 n (s0 x2 x3 x4) k) = (fun x3 x4 => l0 x2 (fun y2 => k (o0 x2 y2)) (fun r1 => K (m r1)) n x3 x4) from funext fun x3 => funext fun x4 => i0 K k x2 n x3 x4]; rfl
theorem v0 {K : Res → Option Res} {l : List Lf} {k : St → Option Res} {r : Res} (h : p0 K l k = some r) : ∃ x2 x3 x4, l = [.q (.ints x2), .b x3, .i x4] ∧ l0 x2 (fun y2 => k (o0 x2 y2)) (fun r1 => K (m r1)) fuel x3 x4 = some r := by
 unfold p0 at h; split at h
 ·exact ⟨_, _, _, rfl, h⟩
 ·cases h
theorem t2 (K : Res → Option Res) (k : St → Option Res) (it : St → (St → Option Res) → Option Res) (x7 : List Int) (x8 : Bool) (x9 x10 : Int) : iterS (X K) 2 b2 it (s2 x7 x8 x9 x10) k = l2s x7 x8 (fun x9 x10 => it (s2 x7 x8 x9 x10) k) (fun y2 => k (o2 x7 x8 y2)) x9 x10 := by kernel_rfl
theorem i2 (K : Res → Option Res) (k : St → Option Res) (x7 : List Int) (x8 : Bool) : ∀ (n : Nat) (x9 x10 : Int), iter (X K) 2 b2 n (s2 x7 x8 x9 x10) k = l2 x7 x8 (fun y2 => k (o2 x7 x8 y2)) n x9 x10
 | 0, _, _ => rfl
 | n + 1, x9, x10 => by
  rw [iter_succ, t2, show (fun x9 x10 => iter (X K) 2 b2 n (s2 x7 x8 x9 x10) k) = (fun x9 x10 => l2 x7 x8 (fun y2 => k (o2 x7 x8 y2)) n x9 x10) from funext fun x9 => funext fun x10 => i2 K k x7 x8 n x9 x10]; rfl
theorem v2 {K : Res → Option Res} {l : List Lf} {k : St → Option Res} {r : Res} (h : p2 K l k = some r) : ∃ x7 x8 x9 x10, l = [.q (.ints x7), .b x8, .i x9, .i x10] ∧ l2 x7 x8 (fun y2 => k (o2 x7 x8 y2)) fuel x9 x10 = some r := by
 unfold p2 at h; split at h
 ·exact ⟨_, _, _, _, rfl, h⟩
 ·cases h
theorem w2 (K : Res → Option Res) : LpSound Go.Proofs.Try.prog (X K) 2 b2 := lp_ok ((cx K).ok laid) (by rw [show loopsOf b2 = [] from by kernel_rfl]; intro p hp; cases hp) rfl fun p hp hid => by
 rcases List.mem_cons.1 hp with rfl | hp
 ·exact absurd hid (by simp)
 rcases List.mem_cons.1 hp with rfl | hp
 ·intro st k r h1 h2; obtain ⟨x7, x8, x9, x10, e, h⟩ := v2 (K := K) h2; have := St.like_eq (y := s2 x7 x8 x9 x10) h1 (by kernel_rfl) e; subst this; exact ⟨fuel, (i2 K k x7 x8 fuel x9 x10).trans h⟩
 cases hp
theorem w0 (K : Res → Option Res) : LpSound Go.Proofs.Try.prog (X K) 0 b0 := lp_ok ((cx K).ok laid) (by rw [show loopsOf b0 = [] from by kernel_rfl]; intro p hp; cases hp) rfl fun p hp hid => by
 rcases List.mem_cons.1 hp with rfl | hp
 ·intro st k r h1 h2; obtain ⟨x2, x3, x4, e, h⟩ := v0 (K := K) h2; have := St.like_eq (y := s0 x2 x3 x4) h1 (by kernel_rfl) e; subst this; exact ⟨fuel, (i0 K k x2 fuel x3 x4).trans h⟩
 rcases List.mem_cons.1 hp with rfl | hp
 ·exact absurd hid (by simp)
 cases hp
theorem tie (K : Res → Option Res) (a1 : List Int) : exec (X K) c (entry 49 [one (.tr 0 1 [.int .i64] (.ints a1))] [] []) (endK (X K)) = g a1 (fun r1 => K (m r1)) := Eq.trans (b := b a1 (fun r1 => K (m r1))) (by kernel_rfl) (by rw [e])
theorem runv {l : List Lf} {K : Res → Option Res} {r : Res} (h : run l K = some r) : ∃ a1, l = [.q (.ints a1)] ∧ g a1 (fun r1 => K (m r1)) = some r := by
 unfold run at h; split at h
 ·exact ⟨_, rfl, h⟩
 ·cases h
theorem ok : Con Go.Proofs.Try.prog con := con_of (fn := Go.Proofs.Try.f118) (c := c) (Fi := fi) (X := X) (fun_of laid (by kernel_rfl) (by kernel_rfl) (by kernel_rfl) rfl (by kernel_rfl) (by kernel_rfl) cx (fun _ => rfl) (fun _ => rfl) (fun K => by
 rw [show loopsOf c = [(0, b0), (2, b2)] from by kernel_rfl]; intro p hp
 rcases List.mem_cons.1 hp with rfl | hp
 ·exact w0 K
 rcases List.mem_cons.1 hp with rfl | hp
 ·exact w2 K
 cases hp)) fun xs rows boxes K r hl hr => by
 obtain ⟨a1, e, h⟩ := runv hr
 have := St.like_eq (y := a a1) hl (by kernel_rfl) e
 obtain ⟨rfl, rfl, rfl⟩ := argSt_inj this
 exact (tie K a1).trans h
end spec_SizeOf
namespace spec_l1Once
noncomputable def c : Code := bodyOf Go.Proofs.Try.f113
noncomputable def fi : Fin := ⟨Γ0, [(.tmp 4, 4)], [[1]], [], [([.sl [.int .u8] 1, .int .i64, .int .i64], [0, 1, 1])], []⟩
noncomputable def m (a2 : List Int) (r1 : Bool) (r3 r4 : Int) : Res := ⟨[⟨false, [.bool r1]⟩], [], [], [[.tr 2 2 [.int .u8] (.ints a2), .int .i64 r3, .int .i64 r4]], []⟩
noncomputable def os : List (FuncId × St × (List Lf → (Res → Option Res) → Option Res)) := [spec_l1Below.con]
noncomputable def X (K : Res → Option Res) : Ctx := { Γ := Γ0, orc := orcOf os, io := [], share := [], mvl := [], bun := [], cut := [], own := [], cin := [], cout := [], lp := lpOf [], kl := [], nk := true, eqs := eqs0, byt := byt0, fin := finK fi K }
noncomputable def b (a1 : Int) (a2 : List Int) (a3 a4 : Int) (R : Bool → Int → Int → Option Res) : Option Res :=
 spec_l1Below.g a1 a2 a3 a4 fun r5 r6 r7 =>
 R (r5 == 0) r6 r7
theorem gx : ∃ x : Int → List Int → Int → Int → (Bool → Int → Int → Option Res) → Option Res, x = b := ⟨_, rfl⟩
noncomputable def g : Int → List Int → Int → Int → (Bool → Int → Int → Option Res) → Option Res := Classical.choose gx
theorem e : g = b := Classical.choose_spec gx
noncomputable def run : List Lf → (Res → Option Res) → Option Res
 | [.i a1, .q (.ints a2), .i a3, .i a4], K => g a1 a2 a3 a4 (fun r1 r3 r4 => K (m a2 r1 r3 r4))
 | _, _ => none
noncomputable def a (a1 : Int) (a2 : List Int) (a3 a4 : Int) : St := argSt [one (.bp 0 0), one (.int .i64 a1)] [] [[.tr 2 2 [.int .u8] (.ints a2), .int .i64 a3, .int .i64 a4]]
noncomputable def con : FuncId × St × (List Lf → (Res → Option Res) → Option Res) := (113, a 0 [] 0 0, run)
theorem cx (K : Res → Option Res) : CtxOk Go.Proofs.Try.prog Γ0 byt0 eqs0 (X K) os := ⟨rfl, rfl, rfl, (fun p hp => by
 rcases List.mem_cons.1 hp with rfl | hp
 ·exact spec_l1Below.ok
 cases hp), rfl, rfl, rfl, rfl⟩
theorem tie (K : Res → Option Res) (a1 : Int) (a2 : List Int) (a3 a4 : Int) : exec (X K) c (entry 9 [one (.bp 0 0), one (.int .i64 a1)] [] [[.tr 2 2 [.int .u8] (.ints a2), .int .i64 a3, .int .i64 a4]]) (endK (X K)) = g a1 a2 a3 a4 (fun r1 r3 r4 => K (m a2 r1 r3 r4)) := Eq.trans (b := b a1 a2 a3 a4 (fun r1 r3 r4 => K (m a2 r1 r3 r4))) (by kernel_rfl) (by rw [e])
theorem runv {l : List Lf} {K : Res → Option Res} {r : Res} (h : run l K = some r) : ∃ a1 a2 a3 a4, l = [.i a1, .q (.ints a2), .i a3, .i a4] ∧ g a1 a2 a3 a4 (fun r1 r3 r4 => K (m a2 r1 r3 r4)) = some r := by
 unfold run at h; split at h
 ·exact ⟨_, _, _, _, rfl, h⟩
 ·cases h
theorem ok : Con Go.Proofs.Try.prog con := con_of (fn := Go.Proofs.Try.f113) (c := c) (Fi := fi) (X := X) (fun_of laid (by kernel_rfl) (by kernel_rfl) (by kernel_rfl) rfl (by kernel_rfl) (by kernel_rfl) cx (fun _ => rfl) (fun _ => rfl) (fun K => by
 rw [show loopsOf c = [] from by kernel_rfl]; intro p hp
 cases hp)) fun xs rows boxes K r hl hr => by
 obtain ⟨a1, a2, a3, a4, e, h⟩ := runv hr
 have := St.like_eq (y := a a1 a2 a3 a4) hl (by kernel_rfl) e
 obtain ⟨rfl, rfl, rfl⟩ := argSt_inj this
 exact (tie K a1 a2 a3 a4).trans h
end spec_l1Once
namespace spec_l1DrawNum
noncomputable def c : Code := bodyOf Go.Proofs.Try.f157
noncomputable def fi : Fin := ⟨Γ0, [(.tmp 2, 3)], [[1]], [], [([.sl [.int .u8] 1, .int .i64, .int .i64], [0, 1, 1])], []⟩
noncomputable def m (a1 : List Int) (r1 r3 r4 : Int) : Res := ⟨[⟨false, [.int .i64 r1]⟩], [], [], [[.tr 2 2 [.int .u8] (.ints a1), .int .i64 r3, .int .i64 r4]], []⟩
noncomputable def os : List (FuncId × St × (List Lf → (Res → Option Res) → Option Res)) := [spec_l1Once.con, spec_l1PickInt.con, spec_l1Below.con]
noncomputable def X (K : Res → Option Res) : Ctx := { Γ := Γ0, orc := orcOf os, io := [], share := [], mvl := [], bun := [], cut := [], own := [], cin := [], cout := [], lp := lpOf [], kl := [], nk := true, eqs := eqs0, byt := byt0, fin := finK fi K }
noncomputable def b (a1 : List Int) (a2 a3 : Int) (R : Int → Int → Int → Option Res) : Option Res :=
 spec_l1Once.g 12 a1 a2 a3 fun r4 r5 r6 =>
 bif r4 then (spec_l1PickInt.g ([1000000000000, (-1000000000000), 999999999999, 1000000, (-1000000), 1000001, 999999999999] : List Int) a1 r5 r6 fun r7 r8 r9 =>
  R r7 r8 r9)
 else (spec_l1Below.g 20 a1 r5 r6 fun r10 r11 r12 =>
 R (IntKind.i64.wrap (r10 - 6)) r11 r12)
theorem gx : ∃ x : List Int → Int → Int → (Int → Int → Int → Option Res) → Option Res, x = b := ⟨_, rfl⟩
noncomputable def g : List Int → Int → Int → (Int → Int → Int → Option Res) → Option Res := Classical.choose gx
theorem e : g = b := Classical.choose_spec gx
noncomputable def run : List Lf → (Res → Option Res) → Option Res
 | [.q (.ints a1), .i a2, .i a3], K => g a1 a2 a3 (fun r1 r3 r4 => K (m a1 r1 r3 r4))
 | _, _ => none
noncomputable def a (a1 : List Int) (a2 a3 : Int) : St := argSt [one (.bp 0 0)] [] [[.tr 2 2 [.int .u8] (.ints a1), .int .i64 a2, .int .i64 a3]]
noncomputable def con : FuncId × St × (List Lf → (Res → Option Res) → Option Res) := (157, a [] 0 0, run)
theorem cx (K : Res → Option Res) : CtxOk Go.Proofs.Try.prog Γ0 byt0 eqs0 (X K) os := ⟨rfl, rfl, rfl, (fun p hp => by
 rcases List.mem_cons.1 hp with rfl | hp
 ·exact spec_l1Once.ok
 rcases List.mem_cons.1 hp with rfl | hp
 ·exact spec_l1PickInt.ok
 rcases List.mem_cons.1 hp with rfl | hp
 ·exact spec_l1Below.ok
 cases hp), rfl, rfl, rfl, rfl⟩
theorem tie (K : Res → Option Res) (a1 : List Int) (a2 a3 : Int) : exec (X K) c (entry 11 [one (.bp 0 0)] [] [[.tr 2 2 [.int .u8] (.ints a1), .int .i64 a2, .int .i64 a3]]) (endK (X K)) = g a1 a2 a3 (fun r1 r3 r4 => K (m a1 r1 r3 r4)) := Eq.trans (b := b a1 a2 a3 (fun r1 r3 r4 => K (m a1 r1 r3 r4))) (by kernel_rfl) (by rw [e])
theorem runv {l : List Lf} {K : Res → Option Res} {r : Res} (h : run l K = some r) : ∃ a1 a2 a3, l = [.q (.ints a1), .i a2, .i a3] ∧ g a1 a2 a3 (fun r1 r3 r4 => K (m a1 r1 r3 r4)) = some r := by
 unfold run at h; split at h
 ·exact ⟨_, _, _, rfl, h⟩
 ·cases h
theorem ok : Con Go.Proofs.Try.prog con := con_of (fn := Go.Proofs.Try.f157) (c := c) (Fi := fi) (X := X) (fun_of laid (by kernel_rfl) (by kernel_rfl) (by kernel_rfl) rfl (by kernel_rfl) (by kernel_rfl) cx (fun _ => rfl) (fun _ => rfl) (fun K => by
 rw [show loopsOf c = [] from by kernel_rfl]; intro p hp
 cases hp)) fun xs rows boxes K r hl hr => by
 obtain ⟨a1, a2, a3, e, h⟩ := runv hr
 have := St.like_eq (y := a a1 a2 a3) hl (by kernel_rfl) e
 obtain ⟨rfl, rfl, rfl⟩ := argSt_inj this
 exact (tie K a1 a2 a3).trans h
end spec_l1DrawNum
namespace spec_l3Fill
noncomputable def c : Code := bodyOf Go.Proofs.Try.f178
noncomputable def fi : Fin := ⟨Γ0, [(.cell 4 44, 44)], [[1, 1]], [], [([.sl [.int .u8] 1, .int .i64, .int .i64], [0, 1, 1])], []⟩
noncomputable def m (r1 r2 r3 : List Int) (r4 r5 : Int) : Res := ⟨[⟨true, [.ow 1000, .ow 1001]⟩], [], [⟨[.int .i64], .ints r1, true, 0⟩, ⟨[.int .i64], .ints r2, true, 0⟩], [[.tr 2 2 [.int .u8] (.ints r3), .int .i64 r4, .int .i64 r5]], []⟩
noncomputable def b0 : Code := codeAt c [1, 1, 0, 1, 0, 0]
noncomputable def s0 (x5 : List Int) (x6 : Int) (x7 x8 x9 : List Int) (x10 x11 : Int) : St := ⟨mkT 25 [(0, one (.bp 0 0)), (1, one (.tr 0 1 [.int .i64] (.ints x5))), (4, one (.bp 1000 0)), (5, one (.bp 3112 0)), (6, one (.int .i64 x6))], [(3080, ⟨[.int .i64], .ints x7, true, 0⟩), (3105, ⟨[.int .i64], .ints x8, true, 0⟩)], [(0, [.tr 2 2 [.int .u8] (.ints x9), .int .i64 x10, .int .i64 x11]), (1000, [.nil, .nil]), (3112, [.ow 3080, .ow 3105])]⟩
noncomputable def l0s (x5 x7 x9 : List Int) (rec : Int → List Int → Int → Int → Option Res) (k : List Int → Int → Int → Option Res) (x6 : Int) (x8 : List Int) (x10 x11 : Int) : Option Res :=
 spec_SizeOf.g x5 fun r12 =>
 bif decide (x6 < r12) then (spec_l1DrawNum.g x9 x10 x11 fun r13 r14 r15 =>
  bif decide ((x8.length + 1) * 8 ≤ 140737488355328) then rec (IntKind.i64.wrap (x6 + 1)) (x8 ++ ([r13] : List Int)) r14 r15
  else none)
 else k x8 x10 x11
noncomputable def l0 (x5 x7 x9 : List Int) (k : List Int → Int → Int → Option Res) : Nat → Int → List Int → Int → Int → Option Res
 | 0, _, _, _, _ => none
 | n + 1, x6, x8, x10, x11 => l0s x5 x7 x9 (fun x6 x8 x10 x11 => l0 x5 x7 x9 k n x6 x8 x10 x11) k x6 x8 x10 x11
noncomputable def o0 (x5 x7 x9 y2 : List Int) (y4 y5 : Int) : St := ⟨mkT 25 [(4, one (.bp 1000 0)), (5, one (.bp 3112 0))], [(3080, ⟨[.int .i64], .ints x7, true, 0⟩), (3105, ⟨[.int .i64], .ints y2, true, 0⟩)], [(1000, [.nil, .nil]), (3112, [.ow 3080, .ow 3105]), (0, [.tr 2 2 [.int .u8] (.ints x9), .int .i64 y4, .int .i64 y5])]⟩
noncomputable def p0 (K : Res → Option Res) : List Lf → (St → Option Res) → Option Res
 | [.q (.ints x5), .i x6, .q (.ints x7), .q (.ints x8), .q (.ints x9), .i x10, .i x11], k => l0 x5 x7 x9 (fun y2 y4 y5 => k (o0 x5 x7 x9 y2 y4 y5)) fuel x6 x8 x10 x11
 | _, _ => none
noncomputable def os : List (FuncId × St × (List Lf → (Res → Option Res) → Option Res)) := [spec_SizeOf.con, spec_l1DrawNum.con]
noncomputable def X (K : Res → Option Res) : Ctx := { Γ := Γ0, orc := orcOf os, io := [], share := [], mvl := [], bun := [], cut := [], own := [(1, 3, 1, [.int .i64])], cin := [(0, ⟨[0, 1, 4, 5, 6], [(3080, 3080), (3105, 3105), (11320, 3105)], [0, 1000, 3112], [], [], []⟩)], cout := [(0, ⟨[4, 5], [(3080, 3080), (3105, 3105)], [1000, 3112, 0], [], [], []⟩)], lp := lpOf [(0, s0 [] 0 [] [] [] 0 0, p0 K)], kl := [], nk := true, eqs := eqs0, byt := byt0, fin := finK fi K }
noncomputable def b (a1 a2 : List Int) (a3 a4 : Int) (R : List Int → List Int → List Int → Int → Int → Option Res) : Option Res :=
 bif decide ((0 + a1.length) * 8 ≤ 140737488355328) then (l0 a1 (([] : List Int) ++ a1) a2 (fun y16 y17 y18 =>
  R (([] : List Int) ++ a1) y16 a2 y17 y18) fuel 0 ([] : List Int) a3 a4)
 else none
theorem gx : ∃ x : List Int → List Int → Int → Int → (List Int → List Int → List Int → Int → Int → Option Res) → Option Res, x = b := ⟨_, rfl⟩
noncomputable def g : List Int → List Int → Int → Int → (List Int → List Int → List Int → Int → Int → Option Res) → Option Res := Classical.choose gx
theorem e : g = b := Classical.choose_spec gx
noncomputable def run : List Lf → (Res → Option Res) → Option Res
 | [.q (.ints a1), .q (.ints a2), .i a3, .i a4], K => g a1 a2 a3 a4 (fun r1 r2 r3 r4 r5 => K (m r1 r2 r3 r4 r5))
 | _, _ => none
noncomputable def a (a1 a2 : List Int) (a3 a4 : Int) : St := argSt [one (.bp 0 0), one (.tr 0 1 [.int .i64] (.ints a1))] [] [[.tr 2 2 [.int .u8] (.ints a2), .int .i64 a3, .int .i64 a4]]
noncomputable def con : FuncId × St × (List Lf → (Res → Option Res) → Option Res) := (178, a [] [] 0 0, run)
theorem cx (K : Res → Option Res) : CtxOk Go.Proofs.Try.prog Γ0 byt0 eqs0 (X K) os := ⟨rfl, rfl, rfl, (fun p hp => by
 rcases List.mem_cons.1 hp with rfl | hp
 ·exact spec_SizeOf.ok
 rcases List.mem_cons.1 hp with rfl | hp
 ·exact spec_l1DrawNum.ok
 cases hp), rfl, rfl, rfl, rfl⟩
theorem t0 (K : Res → Option Res) (k : St → Option Res) (it : St → (St → Option Res) → Option Res) (x5 : List Int) (x6 : Int) (x7 x8 x9 : List Int) (x10 x11 : Int) : iterS (X K) 0 b0 it (s0 x5 x6 x7 x8 x9 x10 x11) k = l0s x5 x7 x9 (fun x6 x8 x10 x11 => it (s0 x5 x6 x7 x8 x9 x10 x11) k) (fun y2 y4 y5 => k (o0 x5 x7 x9 y2 y4 y5)) x6 x8 x10 x11 := by kernel_rfl
theorem i0 (K : Res → Option Res) (k : St → Option Res) (x5 x7 x9 : List Int) : ∀ (n : Nat) (x6 : Int) (x8 : List Int) (x10 x11 : Int), iter (X K) 0 b0 n (s0 x5 x6 x7 x8 x9 x10 x11) k = l0 x5 x7 x9 (fun y2 y4 y5 => k (o0 x5 x7 x9 y2 y4 y5)) n x6 x8 x10 x11
 | 0, _, _, _, _ => rfl
 | n + 1, x6, x8, x10, x11 => by
  rw [iter_succ, t0, show (fun x6 x8 x10 x11 => iter (X K) 0 b0 n (s0 x5 x6 x7 x8 x9 x10 x11) k) = (fun x6 x8 x10 x11 => l0 x5 x7 x9 (fun y2 y4 y5 => k (o0 x5 x7 x9 y2 y4 y5)) n x6 x8 x10 x11) from funext fun x6 => funext fun x8 => funext fun x10 => funext fun x11 => i0 K k x5 x7 x9 n x6 x8 x10 x11]; rfl
theorem v0 {K : Res → Option Res} {l : List Lf} {k : St → Option Res} {r : Res} (h : p0 K l k = some r) : ∃ x5 x6 x7 x8 x9 x10 x11, l = [.q (.ints x5), .i x6, .q (.ints x7), .q (.ints x8), .q (.ints x9), .i x10, .i x11] ∧ l0 x5 x7 x9 (fun y2 y4 y5 => k (o0 x5 x7 x9 y2 y4 y5)) fuel x6 x8 x10 x11 = some r := by
 unfold p0 at h; split at h
 ·exact ⟨_, _, _, _, _, _, _, rfl, h⟩
 ·cases h
theorem w0 (K : Res → Option Res) : LpSound Go.Proofs.Try.prog (X K) 0 b0 := lp_ok ((cx K).ok laid) (by rw [show loopsOf b0 = [] from by kernel_rfl]; intro p hp; cases hp) rfl fun p hp hid => by
 rcases List.mem_cons.1 hp with rfl | hp
 ·intro st k r h1 h2; obtain ⟨x5, x6, x7, x8, x9, x10, x11, e, h⟩ := v0 (K := K) h2; have := St.like_eq (y := s0 x5 x6 x7 x8 x9 x10 x11) h1 (by kernel_rfl) e; subst this; exact ⟨fuel, (i0 K k x5 x7 x9 fuel x6 x8 x10 x11).trans h⟩
 cases hp
theorem tie (K : Res → Option Res) (a1 a2 : List Int) (a3 a4 : Int) : exec (X K) c (entry 25 [one (.bp 0 0), one (.tr 0 1 [.int .i64] (.ints a1))] [] [[.tr 2 2 [.int .u8] (.ints a2), .int .i64 a3, .int .i64 a4]]) (endK (X K)) = g a1 a2 a3 a4 (fun r1 r2 r3 r4 r5 => K (m r1 r2 r3 r4 r5)) := Eq.trans (b := b a1 a2 a3 a4 (fun r1 r2 r3 r4 r5 => K (m r1 r2 r3 r4 r5))) (by kernel_rfl) (by rw [e])
theorem runv {l : List Lf} {K : Res → Option Res} {r : Res} (h : run l K = some r) : ∃ a1 a2 a3 a4, l = [.q (.ints a1), .q (.ints a2), .i a3, .i a4] ∧ g a1 a2 a3 a4 (fun r1 r2 r3 r4 r5 => K (m r1 r2 r3 r4 r5)) = some r := by
 unfold run at h; split at h
 ·exact ⟨_, _, _, _, rfl, h⟩
 ·cases h
theorem ok : Con Go.Proofs.Try.prog con := con_of (fn := Go.Proofs.Try.f178) (c := c) (Fi := fi) (X := X) (fun_of laid (by kernel_rfl) (by kernel_rfl) (by kernel_rfl) rfl (by kernel_rfl) (by kernel_rfl) cx (fun _ => rfl) (fun _ => rfl) (fun K => by
 rw [show loopsOf c = [(0, b0)] from by kernel_rfl]; intro p hp
 rcases List.mem_cons.1 hp with rfl | hp
 ·exact w0 K
 cases hp)) fun xs rows boxes K r hl hr => by
 obtain ⟨a1, a2, a3, a4, e, h⟩ := runv hr
 have := St.like_eq (y := a a1 a2 a3 a4) hl (by kernel_rfl) e
 obtain ⟨rfl, rfl, rfl⟩ := argSt_inj this
 exact (tie K a1 a2 a3 a4).trans h
end spec_l3Fill
namespace spec_l3DrawRight
noncomputable def c : Code := bodyOf Go.Proofs.Try.f135
noncomputable def fi : Fin := ⟨Γ0, [(.cell 2 44, 44)], [[1, 1]], [], [([.sl [.int .u8] 1, .int .i64, .int .i64], [0, 1, 1])], []⟩
noncomputable def m (r1 r2 r3 : List Int) (r4 r5 : Int) : Res := ⟨[⟨true, [.ow 1000, .ow 1001]⟩], [], [⟨[.int .i64], .ints r1, true, 0⟩, ⟨[.int .i64], .ints r2, true, 0⟩], [[.tr 2 2 [.int .u8] (.ints r3), .int .i64 r4, .int .i64 r5]], []⟩
noncomputable def os : List (FuncId × St × (List Lf → (Res → Option Res) → Option Res)) := [spec_l2DrawRight.con, spec_l3Fill.con]
noncomputable def X (K : Res → Option Res) : Ctx := { Γ := Γ0, orc := orcOf os, io := [], share := [], mvl := [], bun := [], cut := [], own := [], cin := [], cout := [], lp := lpOf [], kl := [], nk := true, eqs := eqs0, byt := byt0, fin := finK fi K }
noncomputable def b (a1 : List Int) (a2 a3 : Int) (R : List Int → List Int → List Int → Int → Int → Option Res) : Option Res :=
 spec_l2DrawRight.g a1 a2 a3 fun r4 r5 r6 =>
 spec_l3Fill.g r4 a1 r5 r6 fun r7 r8 r9 r10 r11 =>
 R r7 r8 r9 r10 r11
theorem gx : ∃ x : List Int → Int → Int → (List Int → List Int → List Int → Int → Int → Option Res) → Option Res, x = b := ⟨_, rfl⟩
noncomputable def g : List Int → Int → Int → (List Int → List Int → List Int → Int → Int → Option Res) → Option Res := Classical.choose gx
theorem e : g = b := Classical.choose_spec gx
noncomputable def run : List Lf → (Res → Option Res) → Option Res
 | [.q (.ints a1), .i a2, .i a3], K => g a1 a2 a3 (fun r1 r2 r3 r4 r5 => K (m r1 r2 r3 r4 r5))
 | _, _ => none
noncomputable def a (a1 : List Int) (a2 a3 : Int) : St := argSt [one (.bp 0 0)] [] [[.tr 2 2 [.int .u8] (.ints a1), .int .i64 a2, .int .i64 a3]]
noncomputable def con : FuncId × St × (List Lf → (Res → Option Res) → Option Res) := (135, a [] 0 0, run)
theorem cx (K : Res → Option Res) : CtxOk Go.Proofs.Try.prog Γ0 byt0 eqs0 (X K) os := ⟨rfl, rfl, rfl, (fun p hp => by
 rcases List.mem_cons.1 hp with rfl | hp
 ·exact spec_l2DrawRight.ok
 rcases List.mem_cons.1 hp with rfl | hp
 ·exact spec_l3Fill.ok
 cases hp), rfl, rfl, rfl, rfl⟩
theorem tie (K : Res → Option Res) (a1 : List Int) (a2 a3 : Int) : exec (X K) c (entry 7 [one (.bp 0 0)] [] [[.tr 2 2 [.int .u8] (.ints a1), .int .i64 a2, .int .i64 a3]]) (endK (X K)) = g a1 a2 a3 (fun r1 r2 r3 r4 r5 => K (m r1 r2 r3 r4 r5)) := Eq.trans (b := b a1 a2 a3 (fun r1 r2 r3 r4 r5 => K (m r1 r2 r3 r4 r5))) (by kernel_rfl) (by rw [e])
theorem runv {l : List Lf} {K : Res → Option Res} {r : Res} (h : run l K = some r) : ∃ a1 a2 a3, l = [.q (.ints a1), .i a2, .i a3] ∧ g a1 a2 a3 (fun r1 r2 r3 r4 r5 => K (m r1 r2 r3 r4 r5)) = some r := by
 unfold run at h; split at h
 ·exact ⟨_, _, _, rfl, h⟩
 ·cases h
theorem ok : Con Go.Proofs.Try.prog con := con_of (fn := Go.Proofs.Try.f135) (c := c) (Fi := fi) (X := X) (fun_of laid (by kernel_rfl) (by kernel_rfl) (by kernel_rfl) rfl (by kernel_rfl) (by kernel_rfl) cx (fun _ => rfl) (fun _ => rfl) (fun K => by
 rw [show loopsOf c = [] from by kernel_rfl]; intro p hp
 cases hp)) fun xs rows boxes K r hl hr => by
 obtain ⟨a1, a2, a3, e, h⟩ := runv hr
 have := St.like_eq (y := a a1 a2 a3) hl (by kernel_rfl) e
 obtain ⟨rfl, rfl, rfl⟩ := argSt_inj this
 exact (tie K a1 a2 a3).trans h
end spec_l3DrawRight
namespace spec_HeapOk
noncomputable def c : Code := bodyOf Go.Proofs.Try.f43
noncomputable def fi : Fin := ⟨Γ0, [(.tmp 2, 4)], [[1]], [], [], []⟩
noncomputable def m (r1 : Bool) : Res := ⟨[⟨false, [.bool r1]⟩], [], [], [], []⟩
noncomputable def b0 : Code := codeAt c [1, 1, 1, 0, 1, 0, 0]
noncomputable def b2 : Code := codeAt c [1, 1, 1, 0, 1, 0, 0, 1, 0, 0, 1, 1, 1, 1, 0, 0]
noncomputable def s2 (x12 x13 : Int) (x14 : List Bool) (x15 : List Int) (x16 : Int) (x17 : List (List Cl)) (x18 x19 : Int) (x20 : Bool) : St := ⟨mkT 87 [(1, one (.bp 1000 0)), (3, one (.ow 7176)), (4, one (.int .i64 x12)), (5, one (.bp 15416 0)), (6, one (.int .i64 x13))], [(7176, ⟨[.bool], .bools x14, true, 0⟩)], [(1000, [.tr 0 1 [.int .i64] (.ints x15), .int .i64 x16, .tr 0 1 [.int .i64, .int .i64, .bool] (.cells x17)]), (15416, [.int .i64 x18, .int .i64 x19, .bool x20])]⟩
noncomputable def l2s (x12 : Int) (x15 : List Int) (x16 : Int) (x17 : List (List Cl)) (x18 x19 : Int) (x20 : Bool) (rec : Int → List Bool → Option Res) (k : List Bool → Option Res) (R : Bool → Option Res) (x13 : Int) (x14 : List Bool) : Option Res :=
 bif decide (x13 < IntKind.i64.wrap (x18 + x19)) then (bif decide (0 ≤ x13) && decide (x13 < (x14.length : Int)) then (bif x14.getD x13.toNat false then R false
  else bif decide (0 ≤ x13) && decide (x13 < (x14.length : Int)) then rec (IntKind.i64.wrap (x13 + 1)) (x14.set x13.toNat true)
  else none)
  else none)
 else k x14
noncomputable def l2 (x12 : Int) (x15 : List Int) (x16 : Int) (x17 : List (List Cl)) (x18 x19 : Int) (x20 : Bool) (k : List Bool → Option Res) (R : Bool → Option Res) : Nat → Int → List Bool → Option Res
 | 0, _, _ => none
 | n + 1, x13, x14 => l2s x12 x15 x16 x17 x18 x19 x20 (fun x13 x14 => l2 x12 x15 x16 x17 x18 x19 x20 k R n x13 x14) k R x13 x14
noncomputable def o2 (x12 : Int) (x15 : List Int) (x16 : Int) (x17 : List (List Cl)) (x18 x19 : Int) (x20 : Bool) (y2 : List Bool) : St := ⟨mkT 87 [(1, one (.bp 1000 0)), (3, one (.ow 7176)), (4, one (.int .i64 x12))], [(7176, ⟨[.bool], .bools y2, true, 0⟩)], [(1000, [.tr 0 1 [.int .i64] (.ints x15), .int .i64 x16, .tr 0 1 [.int .i64, .int .i64, .bool] (.cells x17)])]⟩
noncomputable def p2 (K : Res → Option Res) : List Lf → (St → Option Res) → Option Res
 | [.i x12, .i x13, .q (.bools x14), .q (.ints x15), .i x16, .q (.cells x17), .i x18, .i x19, .b x20], k => l2 x12 x15 x16 x17 x18 x19 x20 (fun y2 => k (o2 x12 x15 x16 x17 x18 x19 x20 y2)) (fun r1 => K (m r1)) fuel x13 x14
 | _, _ => none
noncomputable def s0 (x5 : Int) (x6 : List Bool) (x7 : List Int) (x8 : Int) (x9 : List (List Cl)) : St := ⟨mkT 87 [(1, one (.bp 1000 0)), (3, one (.ow 7176)), (4, one (.int .i64 x5))], [(7176, ⟨[.bool], .bools x6, true, 0⟩)], [(1000, [.tr 0 1 [.int .i64] (.ints x7), .int .i64 x8, .tr 0 1 [.int .i64, .int .i64, .bool] (.cells x9)])]⟩
noncomputable def l0s (x7 : List Int) (x8 : Int) (x9 : List (List Cl)) (rec : Int → List Bool → Option Res) (k : Option Res) (R : Bool → Option Res) (x5 : Int) (x6 : List Bool) : Option Res :=
 bif decide (x5 < (x9.length : Int)) then (bif decide (0 ≤ x5) && decide (x5 < (x9.length : Int)) then (bif !(((x9.getD x5.toNat []).getD 2 (.i 0)).toB) then (bif (((x9.getD x5.toNat []).getD 0 (.i 0)).toI != 0) then R false
  else bif (((x9.getD x5.toNat []).getD 1 (.i 0)).toI != 0) then R false
  else rec (IntKind.i64.wrap (x5 + 1)) x6)
  else (spec_l1In.g (((x9.getD x5.toNat []).getD 0 (.i 0)).toI) 0 x8 fun r10 =>
  bif !r10 then R false
  else (spec_l1In.g (((x9.getD x5.toNat []).getD 1 (.i 0)).toI) 1 (IntKind.i64.wrap (x8 - (((x9.getD x5.toNat []).getD 0 (.i 0)).toI))) fun r11 =>
  bif !r11 then R false
  else (l2 x5 x7 x8 x9 (((x9.getD x5.toNat []).getD 0 (.i 0)).toI) (((x9.getD x5.toNat []).getD 1 (.i 0)).toI) (((x9.getD x5.toNat []).getD 2 (.i 0)).toB) (fun y21 =>
  rec (IntKind.i64.wrap (x5 + 1)) y21) R fuel (((x9.getD x5.toNat []).getD 0 (.i 0)).toI) x6))))
  else none)
 else k
noncomputable def l0 (x7 : List Int) (x8 : Int) (x9 : List (List Cl)) (k : Option Res) (R : Bool → Option Res) : Nat → Int → List Bool → Option Res
 | 0, _, _ => none
 | n + 1, x5, x6 => l0s x7 x8 x9 (fun x5 x6 => l0 x7 x8 x9 k R n x5 x6) k R x5 x6
noncomputable def o0 (x7 : List Int) (x8 : Int) (x9 : List (List Cl)) : St := ⟨mkT 87 [], [], []⟩
noncomputable def p0 (K : Res → Option Res) : List Lf → (St → Option Res) → Option Res
 | [.i x5, .q (.bools x6), .q (.ints x7), .i x8, .q (.cells x9)], k => l0 x7 x8 x9 (k (o0 x7 x8 x9)) (fun r1 => K (m r1)) fuel x5 x6
 | _, _ => none
noncomputable def os : List (FuncId × St × (List Lf → (Res → Option Res) → Option Res)) := [spec_l1In.con]
noncomputable def X (K : Res → Option Res) : Ctx := { Γ := Γ0, orc := orcOf os, io := [], share := [], mvl := [], bun := [], cut := [], own := [], cin := [(2, ⟨[1, 3, 4, 5, 6], [(7176, 7176)], [1000, 15416], [], [], []⟩), (0, ⟨[1, 3, 4], [(7176, 7176)], [1000], [], [], []⟩)], cout := [(2, ⟨[1, 3, 4], [(7176, 7176)], [1000], [], [], []⟩), (0, ⟨[], [], [], [], [], []⟩)], lp := lpOf [(2, s2 0 0 [] [] 0 [] 0 0 false, p2 K), (0, s0 0 [] [] 0 [], p0 K)], kl := [], nk := true, eqs := eqs0, byt := byt0, fin := finK fi K }
noncomputable def b (a1 : List Int) (a2 : Int) (a3 : List (List Cl)) (R : Bool → Option Res) : Option Res :=
 bif decide (6000 < (a1.length : Int)) then R false
 else (spec_l1In.g a2 0 (a1.length : Int) fun r4 =>
 bif !r4 then R false
 else bif decide (200 < (a3.length : Int)) then R false
 else bif decide (a2 = a2) && decide (0 ≤ a2) && decide (a2 * 1 ≤ 140737488355328) then (l0 a1 a2 a3 (
  R true) R fuel 0 (List.replicate a2.toNat false))
 else none)
theorem gx : ∃ x : List Int → Int → List (List Cl) → (Bool → Option Res) → Option Res, x = b := ⟨_, rfl⟩
noncomputable def g : List Int → Int → List (List Cl) → (Bool → Option Res) → Option Res := Classical.choose gx
theorem e : g = b := Classical.choose_spec gx
noncomputable def run : List Lf → (Res → Option Res) → Option Res
 | [.q (.ints a1), .i a2, .q (.cells a3)], K => g a1 a2 a3 (fun r1 => K (m r1))
 | _, _ => none
noncomputable def a (a1 : List Int) (a2 : Int) (a3 : List (List Cl)) : St := argSt [.v ⟨true, [.tr 0 1 [.int .i64] (.ints a1), .int .i64 a2, .tr 0 1 [.int .i64, .int .i64, .bool] (.cells a3)]⟩] [] []
noncomputable def con : FuncId × St × (List Lf → (Res → Option Res) → Option Res) := (43, a [] 0 [], run)
theorem cx (K : Res → Option Res) : CtxOk Go.Proofs.Try.prog Γ0 byt0 eqs0 (X K) os := ⟨rfl, rfl, rfl, (fun p hp => by
 rcases List.mem_cons.1 hp with rfl | hp
 ·exact spec_l1In.ok
 cases hp), rfl, rfl, rfl, rfl⟩
theorem t2 (K : Res → Option Res) (k : St → Option Res) (it : St → (St → Option Res) → Option Res) (x12 x13 : Int) (x14 : List Bool) (x15 : List Int) (x16 : Int) (x17 : List (List Cl)) (x18 x19 : Int) (x20 : Bool) : iterS (X K) 2 b2 it (s2 x12 x13 x14 x15 x16 x17 x18 x19 x20) k = l2s x12 x15 x16 x17 x18 x19 x20 (fun x13 x14 => it (s2 x12 x13 x14 x15 x16 x17 x18 x19 x20) k) (fun y2 => k (o2 x12 x15 x16 x17 x18 x19 x20 y2)) (fun r1 => K (m r1)) x13 x14 := by kernel_rfl
theorem i2 (K : Res → Option Res) (k : St → Option Res) (x12 : Int) (x15 : List Int) (x16 : Int) (x17 : List (List Cl)) (x18 x19 : Int) (x20 : Bool) : ∀ (n : Nat) (x13 : Int) (x14 : List Bool), iter (X K) 2 b2 n (s2 x12 x13 x14 x15 x16 x17 x18 x19 x20) k = l2 x12 x15 x16 x17 x18 x19 x20 (fun y2 => k (o2 x12 x15 x16 x17 x18 x19 x20 y2)) (fun r1 => K (m r1)) n x13 x14
 | 0, _, _ => rfl
 | n + 1, x13, x14 => by
  rw [iter_succ, t2, show (fun x13 x14 => iter (X K) 2 b2 n (s2 x12 x13 x14 x15 x16 x17 x18 x19 x20) k) = (fun x13 x14 => l2 x12 x15 x16 x17 x18 x19 x20 (fun y2 => k (o2 x12 x15 x16 x17 x18 x19 x20 y2)) (fun r1 => K (m r1)) n x13 x14) from funext fun x13 => funext fun x14 => i2 K k x12 x15 x16 x17 x18 x19 x20 n x13 x14]; rfl
theorem v2 {K : Res → Option Res} {l : List Lf} {k : St → Option Res} {r : Res} (h : p2 K l k = some r) : ∃ x12 x13 x14 x15 x16 x17 x18 x19 x20, l = [.i x12, .i x13, .q (.bools x14), .q (.ints x15), .i x16, .q (.cells x17), .i x18, .i x19, .b x20] ∧ l2 x12 x15 x16 x17 x18 x19 x20 (fun y2 => k (o2 x12 x15 x16 x17 x18 x19 x20 y2)) (fun r1 => K (m r1)) fuel x13 x14 = some r := by
 unfold p2 at h; split at h
 ·exact ⟨_, _, _, _, _, _, _, _, _, rfl, h⟩
 ·cases h
theorem t0 (K : Res → Option Res) (k : St → Option Res) (it : St → (St → Option Res) → Option Res) (x5 : Int) (x6 : List Bool) (x7 : List Int) (x8 : Int) (x9 : List (List Cl)) : iterS (X K) 0 b0 it (s0 x5 x6 x7 x8 x9) k = l0s x7 x8 x9 (fun x5 x6 => it (s0 x5 x6 x7 x8 x9) k) (k (o0 x7 x8 x9)) (fun r1 => K (m r1)) x5 x6 := by kernel_rfl
theorem i0 (K : Res → Option Res) (k : St → Option Res) (x7 : List Int) (x8 : Int) (x9 : List (List Cl)) : ∀ (n : Nat) (x5 : Int) (x6 : List Bool), iter (X K) 0 b0 n (s0 x5 x6 x7 x8 x9) k = l0 x7 x8 x9 (k (o0 x7 x8 x9)) (fun r1 => K (m r1)) n x5 x6
 | 0, _, _ => rfl
 | n + 1, x5, x6 => by
  rw [iter_succ, t0, show (fun x5 x6 => iter (X K) 0 b0 n (s0 x5 x6 x7 x8 x9) k) = (fun x5 x6 => l0 x7 x8 x9 (k (o0 x7 x8 x9)) (fun r1 => K (m r1)) n x5 x6) from funext fun x5 => funext fun x6 => i0 K k x7 x8 x9 n x5 x6]; rfl
theorem v0 {K : Res → Option Res} {l : List Lf} {k : St → Option Res} {r : Res} (h : p0 K l k = some r) : ∃ x5 x6 x7 x8 x9, l = [.i x5, .q (.bools x6), .q (.ints x7), .i x8, .q (.cells x9)] ∧ l0 x7 x8 x9 (k (o0 x7 x8 x9)) (fun r1 => K (m r1)) fuel x5 x6 = some r := by
 unfold p0 at h; split at h
 ·exact ⟨_, _, _, _, _, rfl, h⟩
 ·cases h
theorem w2 (K : Res → Option Res) : LpSound Go.Proofs.Try.prog (X K) 2 b2 := lp_ok ((cx K).ok laid) (by rw [show loopsOf b2 = [] from by kernel_rfl]; intro p hp; cases hp) rfl fun p hp hid => by
 rcases List.mem_cons.1 hp with rfl | hp
 ·intro st k r h1 h2; obtain ⟨x12, x13, x14, x15, x16, x17, x18, x19, x20, e, h⟩ := v2 (K := K) h2; have := St.like_eq (y := s2 x12 x13 x14 x15 x16 x17 x18 x19 x20) h1 (by kernel_rfl) e; subst this; exact ⟨fuel, (i2 K k x12 x15 x16 x17 x18 x19 x20 fuel x13 x14).trans h⟩
 rcases List.mem_cons.1 hp with rfl | hp
 ·exact absurd hid (by simp)
 cases hp
theorem w0 (K : Res → Option Res) : LpSound Go.Proofs.Try.prog (X K) 0 b0 := lp_ok ((cx K).ok laid) (by
 rw [show loopsOf b0 = [(2, b2)] from by kernel_rfl]; intro p hp
 rcases List.mem_cons.1 hp with rfl | hp
 ·exact w2 K
 cases hp) rfl fun p hp hid => by
 rcases List.mem_cons.1 hp with rfl | hp
 ·exact absurd hid (by simp)
 rcases List.mem_cons.1 hp with rfl | hp
 ·intro st k r h1 h2; obtain ⟨x5, x6, x7, x8, x9, e, h⟩ := v0 (K := K) h2; have := St.like_eq (y := s0 x5 x6 x7 x8 x9) h1 (by kernel_rfl) e; subst this; exact ⟨fuel, (i0 K k x7 x8 x9 fuel x5 x6).trans h⟩
 cases hp
theorem tie (K : Res → Option Res) (a1 : List Int) (a2 : Int) (a3 : List (List Cl)) : exec (X K) c (entry 87 [.v ⟨true, [.tr 0 1 [.int .i64] (.ints a1), .int .i64 a2, .tr 0 1 [.int .i64, .int .i64, .bool] (.cells a3)]⟩] [] []) (endK (X K)) = g a1 a2 a3 (fun r1 => K (m r1)) := Eq.trans (b := b a1 a2 a3 (fun r1 => K (m r1))) (by kernel_rfl) (by rw [e])
theorem runv {l : List Lf} {K : Res → Option Res} {r : Res} (h : run l K = some r) : ∃ a1 a2 a3, l = [.q (.ints a1), .i a2, .q (.cells a3)] ∧ g a1 a2 a3 (fun r1 => K (m r1)) = some r := by
 unfold run at h; split at h
 ·exact ⟨_, _, _, rfl, h⟩
 ·cases h
theorem ok : Con Go.Proofs.Try.prog con := con_of (fn := Go.Proofs.Try.f43) (c := c) (Fi := fi) (X := X) (fun_of laid (by kernel_rfl) (by kernel_rfl) (by kernel_rfl) rfl (by kernel_rfl) (by kernel_rfl) cx (fun _ => rfl) (fun _ => rfl) (fun K => by
 rw [show loopsOf c = [(0, b0), (2, b2)] from by kernel_rfl]; intro p hp
 rcases List.mem_cons.1 hp with rfl | hp
 ·exact w0 K
 rcases List.mem_cons.1 hp with rfl | hp
 ·exact w2 K
 cases hp)) fun xs rows boxes K r hl hr => by
 obtain ⟨a1, a2, a3, e, h⟩ := runv hr
 have := St.like_eq (y := a a1 a2 a3) hl (by kernel_rfl) e
 obtain ⟨rfl, rfl, rfl⟩ := argSt_inj this
 exact (tie K a1 a2 a3).trans h
end spec_HeapOk
namespace spec_NumOk
noncomputable def c : Code := bodyOf Go.Proofs.Try.f119
noncomputable def fi : Fin := ⟨Γ0, [(.tmp 2, 4)], [[1]], [], [], []⟩
noncomputable def m (r1 : Bool) : Res := ⟨[⟨false, [.bool r1]⟩], [], [], [], []⟩
noncomputable def os : List (FuncId × St × (List Lf → (Res → Option Res) → Option Res)) := [spec_l1In.con]
noncomputable def X (K : Res → Option Res) : Ctx := { Γ := Γ0, orc := orcOf os, io := [], share := [], mvl := [], bun := [], cut := [], own := [], cin := [], cout := [], lp := lpOf [], kl := [], nk := true, eqs := eqs0, byt := byt0, fin := finK fi K }
noncomputable def b (a1 : Int) (R : Bool → Option Res) : Option Res :=
 spec_l1In.g a1 (-1000000000000) 1000000000000 fun r2 =>
 R r2
theorem gx : ∃ x : Int → (Bool → Option Res) → Option Res, x = b := ⟨_, rfl⟩
noncomputable def g : Int → (Bool → Option Res) → Option Res := Classical.choose gx
theorem e : g = b := Classical.choose_spec gx
noncomputable def run : List Lf → (Res → Option Res) → Option Res
 | [.i a1], K => g a1 (fun r1 => K (m r1))
 | _, _ => none
noncomputable def a (a1 : Int) : St := argSt [one (.int .i64 a1)] [] []
noncomputable def con : FuncId × St × (List Lf → (Res → Option Res) → Option Res) := (119, a 0, run)
theorem cx (K : Res → Option Res) : CtxOk Go.Proofs.Try.prog Γ0 byt0 eqs0 (X K) os := ⟨rfl, rfl, rfl, (fun p hp => by
 rcases List.mem_cons.1 hp with rfl | hp
 ·exact spec_l1In.ok
 cases hp), rfl, rfl, rfl, rfl⟩
theorem tie (K : Res → Option Res) (a1 : Int) : exec (X K) c (entry 5 [one (.int .i64 a1)] [] []) (endK (X K)) = g a1 (fun r1 => K (m r1)) := Eq.trans (b := b a1 (fun r1 => K (m r1))) (by kernel_rfl) (by rw [e])
theorem runv {l : List Lf} {K : Res → Option Res} {r : Res} (h : run l K = some r) : ∃ a1, l = [.i a1] ∧ g a1 (fun r1 => K (m r1)) = some r := by
 unfold run at h; split at h
 ·exact ⟨_, rfl, h⟩
 ·cases h
theorem ok : Con Go.Proofs.Try.prog con := con_of (fn := Go.Proofs.Try.f119) (c := c) (Fi := fi) (X := X) (fun_of laid (by kernel_rfl) (by kernel_rfl) (by kernel_rfl) rfl (by kernel_rfl) (by kernel_rfl) cx (fun _ => rfl) (fun _ => rfl) (fun K => by
 rw [show loopsOf c = [] from by kernel_rfl]; intro p hp
 cases hp)) fun xs rows boxes K r hl hr => by
 obtain ⟨a1, e, h⟩ := runv hr
 have := St.like_eq (y := a a1) hl (by kernel_rfl) e
 obtain ⟨rfl, rfl, rfl⟩ := argSt_inj this
 exact (tie K a1).trans h
end spec_NumOk
namespace spec_ArrayOk
noncomputable def c : Code := bodyOf Go.Proofs.Try.f67
noncomputable def fi : Fin := ⟨Γ0, [(.tmp 2, 4)], [[1]], [], [], []⟩
noncomputable def m (r1 : Bool) : Res := ⟨[⟨false, [.bool r1]⟩], [], [], [], []⟩
noncomputable def b0 : Code := codeAt c [1, 1, 0, 1, 0, 0]
noncomputable def s0 (x4 : Int) (x5 x6 : List Int) : St := ⟨mkT 25 [(1, one (.bp 1000 0)), (3, one (.int .i64 x4))], [], [(1000, [.tr 0 1 [.int .i64] (.ints x5), .tr 0 1 [.int .i64] (.ints x6)])]⟩
noncomputable def l0s (x5 x6 : List Int) (rec : Int → Option Res) (k : Option Res) (R : Bool → Option Res) (x4 : Int) : Option Res :=
 bif decide (x4 < (x6.length : Int)) then (bif decide (0 ≤ x4) && decide (x4 < (x6.length : Int)) then (spec_NumOk.g (x6.getD x4.toNat 0) fun r7 =>
  bif !r7 then R false
  else rec (IntKind.i64.wrap (x4 + 1)))
  else none)
 else k
noncomputable def l0 (x5 x6 : List Int) (k : Option Res) (R : Bool → Option Res) : Nat → Int → Option Res
 | 0, _ => none
 | n + 1, x4 => l0s x5 x6 (fun x4 => l0 x5 x6 k R n x4) k R x4
noncomputable def o0 (x5 x6 : List Int) : St := ⟨mkT 25 [], [], []⟩
noncomputable def p0 (K : Res → Option Res) : List Lf → (St → Option Res) → Option Res
 | [.i x4, .q (.ints x5), .q (.ints x6)], k => l0 x5 x6 (k (o0 x5 x6)) (fun r1 => K (m r1)) fuel x4
 | _, _ => none
noncomputable def os : List (FuncId × St × (List Lf → (Res → Option Res) → Option Res)) := [spec_SizeOf.con, spec_NumOk.con]
noncomputable def X (K : Res → Option Res) : Ctx := { Γ := Γ0, orc := orcOf os, io := [], share := [], mvl := [], bun := [], cut := [], own := [], cin := [(0, ⟨[1, 3], [], [1000], [], [], []⟩)], cout := [(0, ⟨[], [], [], [], [], []⟩)], lp := lpOf [(0, s0 0 [] [], p0 K)], kl := [], nk := true, eqs := eqs0, byt := byt0, fin := finK fi K }
noncomputable def b (a1 a2 : List Int) (R : Bool → Option Res) : Option Res :=
 spec_SizeOf.g a1 fun r3 =>
 bif (r3 != (a2.length : Int)) then R false
 else (l0 a1 a2 (
 R true) R fuel 0)
theorem gx : ∃ x : List Int → List Int → (Bool → Option Res) → Option Res, x = b := ⟨_, rfl⟩
noncomputable def g : List Int → List Int → (Bool → Option Res) → Option Res := Classical.choose gx
theorem e : g = b := Classical.choose_spec gx
noncomputable def run : List Lf → (Res → Option Res) → Option Res
 | [.q (.ints a1), .q (.ints a2)], K => g a1 a2 (fun r1 => K (m r1))
 | _, _ => none
noncomputable def a (a1 a2 : List Int) : St := argSt [.v ⟨true, [.tr 0 1 [.int .i64] (.ints a1), .tr 0 1 [.int .i64] (.ints a2)]⟩] [] []
noncomputable def con : FuncId × St × (List Lf → (Res → Option Res) → Option Res) := (67, a [] [], run)
theorem cx (K : Res → Option Res) : CtxOk Go.Proofs.Try.prog Γ0 byt0 eqs0 (X K) os := ⟨rfl, rfl, rfl, (fun p hp => by
 rcases List.mem_cons.1 hp with rfl | hp
 ·exact spec_SizeOf.ok
 rcases List.mem_cons.1 hp with rfl | hp
 ·exact spec_NumOk.ok
 cases hp), rfl, rfl, rfl, rfl⟩
theorem t0 (K : Res → Option Res) (k : St → Option Res) (it : St → (St → Option Res) → Option Res) (x4 : Int) (x5 x6 : List Int) : iterS (X K) 0 b0 it (s0 x4 x5 x6) k = l0s x5 x6 (fun x4 => it (s0 x4 x5 x6) k) (k (o0 x5 x6)) (fun r1 => K (m r1)) x4 := by kernel_rfl
theorem i0 (K : Res → Option Res) (k : St → Option Res) (x5 x6 : List Int) : ∀ (n : Nat) (x4 : Int), iter (X K) 0 b0 n (s0 x4 x5 x6) k = l0 x5 x6 (k (o0 x5 x6)) (fun r1 => K (m r1)) n x4
 | 0, _ => rfl
 | n + 1, x4 => by
  rw [iter_succ, t0, show (fun x4 => iter (X K) 0 b0 n (s0 x4 x5 x6) k) = (fun x4 => l0 x5 x6 (k (o0 x5 x6)) (fun r1 => K (m r1)) n x4) from funext fun x4 => i0 K k x5 x6 n x4]; rfl
theorem v0 {K : Res → Option Res} {l : List Lf} {k : St → Option Res} {r : Res} (h : p0 K l k = some r) : ∃ x4 x5 x6, l = [.i x4, .q (.ints x5), .q (.ints x6)] ∧ l0 x5 x6 (k (o0 x5 x6)) (fun r1 => K (m r1)) fuel x4 = some r := by
 unfold p0 at h; split at h
 ·exact ⟨_, _, _, rfl, h⟩
 ·cases h
theorem w0 (K : Res → Option Res) : LpSound Go.Proofs.Try.prog (X K) 0 b0 := lp_ok ((cx K).ok laid) (by rw [show loopsOf b0 = [] from by kernel_rfl]; intro p hp; cases hp) rfl fun p hp hid => by
 rcases List.mem_cons.1 hp with rfl | hp
 ·intro st k r h1 h2; obtain ⟨x4, x5, x6, e, h⟩ := v0 (K := K) h2; have := St.like_eq (y := s0 x4 x5 x6) h1 (by kernel_rfl) e; subst this; exact ⟨fuel, (i0 K k x5 x6 fuel x4).trans h⟩
 cases hp
theorem tie (K : Res → Option Res) (a1 a2 : List Int) : exec (X K) c (entry 25 [.v ⟨true, [.tr 0 1 [.int .i64] (.ints a1), .tr 0 1 [.int .i64] (.ints a2)]⟩] [] []) (endK (X K)) = g a1 a2 (fun r1 => K (m r1)) := Eq.trans (b := b a1 a2 (fun r1 => K (m r1))) (by kernel_rfl) (by rw [e])
theorem runv {l : List Lf} {K : Res → Option Res} {r : Res} (h : run l K = some r) : ∃ a1 a2, l = [.q (.ints a1), .q (.ints a2)] ∧ g a1 a2 (fun r1 => K (m r1)) = some r := by
 unfold run at h; split at h
 ·exact ⟨_, _, rfl, h⟩
 ·cases h
theorem ok : Con Go.Proofs.Try.prog con := con_of (fn := Go.Proofs.Try.f67) (c := c) (Fi := fi) (X := X) (fun_of laid (by kernel_rfl) (by kernel_rfl) (by kernel_rfl) rfl (by kernel_rfl) (by kernel_rfl) cx (fun _ => rfl) (fun _ => rfl) (fun K => by
 rw [show loopsOf c = [(0, b0)] from by kernel_rfl]; intro p hp
 rcases List.mem_cons.1 hp with rfl | hp
 ·exact w0 K
 cases hp)) fun xs rows boxes K r hl hr => by
 obtain ⟨a1, a2, e, h⟩ := runv hr
 have := St.like_eq (y := a a1 a2) hl (by kernel_rfl) e
 obtain ⟨rfl, rfl, rfl⟩ := argSt_inj this
 exact (tie K a1 a2).trans h
end spec_ArrayOk
namespace spec_l13Copy
noncomputable def c : Code := bodyOf Go.Proofs.Try.f79
noncomputable def fi : Fin := ⟨Γ0, [(.cell 2 38, 38)], [[1, 1, 1]], [], [], []⟩
noncomputable def m (a2 : Int) (r1 : List Int) (r3 : List (List Cl)) : Res := ⟨[⟨true, [.ow 1000, .int .i64 a2, .ow 1001]⟩], [], [⟨[.int .i64], .ints r1, true, 0⟩, ⟨[.int .i64, .int .i64, .bool], .cells r3, true, 0⟩], [], []⟩
noncomputable def os : List (FuncId × St × (List Lf → (Res → Option Res) → Option Res)) := []
noncomputable def X (K : Res → Option Res) : Ctx := { Γ := Γ0, orc := orcOf os, io := [], share := [], mvl := [], bun := [], cut := [], own := [], cin := [], cout := [], lp := lpOf [], kl := [], nk := true, eqs := eqs0, byt := byt0, fin := finK fi K }
noncomputable def b (a1 : List Int) (a2 : Int) (a3 : List (List Cl)) (R : List Int → List (List Cl) → Option Res) : Option Res :=
 bif decide ((0 + a1.length) * 8 ≤ 140737488355328) then (bif decide ((0 + a3.length) * 24 ≤ 140737488355328) then R (([] : List Int) ++ a1) (([] : List (List Cl)) ++ a3)
  else none)
 else none
theorem gx : ∃ x : List Int → Int → List (List Cl) → (List Int → List (List Cl) → Option Res) → Option Res, x = b := ⟨_, rfl⟩
noncomputable def g : List Int → Int → List (List Cl) → (List Int → List (List Cl) → Option Res) → Option Res := Classical.choose gx
theorem e : g = b := Classical.choose_spec gx
noncomputable def run : List Lf → (Res → Option Res) → Option Res
 | [.q (.ints a1), .i a2, .q (.cells a3)], K => g a1 a2 a3 (fun r1 r3 => K (m a2 r1 r3))
 | _, _ => none
noncomputable def a (a1 : List Int) (a2 : Int) (a3 : List (List Cl)) : St := argSt [.v ⟨true, [.tr 0 1 [.int .i64] (.ints a1), .int .i64 a2, .tr 0 1 [.int .i64, .int .i64, .bool] (.cells a3)]⟩] [] []
noncomputable def con : FuncId × St × (List Lf → (Res → Option Res) → Option Res) := (79, a [] 0 [], run)
theorem cx (K : Res → Option Res) : CtxOk Go.Proofs.Try.prog Γ0 byt0 eqs0 (X K) os := ⟨rfl, rfl, rfl, (fun p hp => by
 cases hp), rfl, rfl, rfl, rfl⟩
theorem tie (K : Res → Option Res) (a1 : List Int) (a2 : Int) (a3 : List (List Cl)) : exec (X K) c (entry 14 [.v ⟨true, [.tr 0 1 [.int .i64] (.ints a1), .int .i64 a2, .tr 0 1 [.int .i64, .int .i64, .bool] (.cells a3)]⟩] [] []) (endK (X K)) = g a1 a2 a3 (fun r1 r3 => K (m a2 r1 r3)) := Eq.trans (b := b a1 a2 a3 (fun r1 r3 => K (m a2 r1 r3))) (by kernel_rfl) (by rw [e])
theorem runv {l : List Lf} {K : Res → Option Res} {r : Res} (h : run l K = some r) : ∃ a1 a2 a3, l = [.q (.ints a1), .i a2, .q (.cells a3)] ∧ g a1 a2 a3 (fun r1 r3 => K (m a2 r1 r3)) = some r := by
 unfold run at h; split at h
 ·exact ⟨_, _, _, rfl, h⟩
 ·cases h
theorem ok : Con Go.Proofs.Try.prog con := con_of (fn := Go.Proofs.Try.f79) (c := c) (Fi := fi) (X := X) (fun_of laid (by kernel_rfl) (by kernel_rfl) (by kernel_rfl) rfl (by kernel_rfl) (by kernel_rfl) cx (fun _ => rfl) (fun _ => rfl) (fun K => by
 rw [show loopsOf c = [] from by kernel_rfl]; intro p hp
 cases hp)) fun xs rows boxes K r hl hr => by
 obtain ⟨a1, a2, a3, e, h⟩ := runv hr
 have := St.like_eq (y := a a1 a2 a3) hl (by kernel_rfl) e
 obtain ⟨rfl, rfl, rfl⟩ := argSt_inj this
 exact (tie K a1 a2 a3).trans h
end spec_l13Copy
namespace spec_l13Words
noncomputable def c : Code := bodyOf Go.Proofs.Try.f131
noncomputable def fi : Fin := ⟨Γ0, [(.tmp 2, 33)], [[1]], [], [], []⟩
noncomputable def m (r1 : List Int) : Res := ⟨[⟨false, [.ow 1000]⟩], [], [⟨[.int .i64], .ints r1, true, 0⟩], [], []⟩
noncomputable def os : List (FuncId × St × (List Lf → (Res → Option Res) → Option Res)) := []
noncomputable def X (K : Res → Option Res) : Ctx := { Γ := Γ0, orc := orcOf os, io := [], share := [], mvl := [], bun := [], cut := [], own := [], cin := [], cout := [], lp := lpOf [], kl := [], nk := true, eqs := eqs0, byt := byt0, fin := finK fi K }
noncomputable def b (a1 a2 : List Int) (R : List Int → Option Res) : Option Res :=
 bif decide ((1 + a1.length) * 8 ≤ 140737488355328) then (bif decide (((([(a1.length : Int)] : List Int) ++ a1).length + a2.length) * 8 ≤ 140737488355328) then R ((([(a1.length : Int)] : List Int) ++ a1) ++ a2)
  else none)
 else none
theorem gx : ∃ x : List Int → List Int → (List Int → Option Res) → Option Res, x = b := ⟨_, rfl⟩
noncomputable def g : List Int → List Int → (List Int → Option Res) → Option Res := Classical.choose gx
theorem e : g = b := Classical.choose_spec gx
noncomputable def run : List Lf → (Res → Option Res) → Option Res
 | [.q (.ints a1), .q (.ints a2)], K => g a1 a2 (fun r1 => K (m r1))
 | _, _ => none
noncomputable def a (a1 a2 : List Int) : St := argSt [.v ⟨true, [.tr 0 1 [.int .i64] (.ints a1), .tr 0 1 [.int .i64] (.ints a2)]⟩] [] []
noncomputable def con : FuncId × St × (List Lf → (Res → Option Res) → Option Res) := (131, a [] [], run)
theorem cx (K : Res → Option Res) : CtxOk Go.Proofs.Try.prog Γ0 byt0 eqs0 (X K) os := ⟨rfl, rfl, rfl, (fun p hp => by
 cases hp), rfl, rfl, rfl, rfl⟩
theorem tie (K : Res → Option Res) (a1 a2 : List Int) : exec (X K) c (entry 15 [.v ⟨true, [.tr 0 1 [.int .i64] (.ints a1), .tr 0 1 [.int .i64] (.ints a2)]⟩] [] []) (endK (X K)) = g a1 a2 (fun r1 => K (m r1)) := Eq.trans (b := b a1 a2 (fun r1 => K (m r1))) (by kernel_rfl) (by rw [e])
theorem runv {l : List Lf} {K : Res → Option Res} {r : Res} (h : run l K = some r) : ∃ a1 a2, l = [.q (.ints a1), .q (.ints a2)] ∧ g a1 a2 (fun r1 => K (m r1)) = some r := by
 unfold run at h; split at h
 ·exact ⟨_, _, rfl, h⟩
 ·cases h
theorem ok : Con Go.Proofs.Try.prog con := con_of (fn := Go.Proofs.Try.f131) (c := c) (Fi := fi) (X := X) (fun_of laid (by kernel_rfl) (by kernel_rfl) (by kernel_rfl) rfl (by kernel_rfl) (by kernel_rfl) cx (fun _ => rfl) (fun _ => rfl) (fun K => by
 rw [show loopsOf c = [] from by kernel_rfl]; intro p hp
 cases hp)) fun xs rows boxes K r hl hr => by
 obtain ⟨a1, a2, e, h⟩ := runv hr
 have := St.like_eq (y := a a1 a2) hl (by kernel_rfl) e
 obtain ⟨rfl, rfl, rfl⟩ := argSt_inj this
 exact (tie K a1 a2).trans h
end spec_l13Words
namespace spec_l13Next
noncomputable def c : Code := bodyOf Go.Proofs.Try.f117
noncomputable def fi : Fin := ⟨Γ0, [(.tmp 4, 3)], [[1]], [], [], []⟩
noncomputable def m (r1 : Int) : Res := ⟨[⟨false, [.int .i64 r1]⟩], [], [], [], []⟩
noncomputable def b0 : Code := codeAt c [1, 1, 0, 1, 0, 0]
noncomputable def s0 (x5 x6 x7 : Int) (x8 : List Int) (x9 : Int) (x10 : List (List Cl)) : St := ⟨mkT 45 [(1, one (.int .i64 x5)), (2, one (.bp 1000 0)), (5, one (.int .i64 x6)), (6, one (.int .i64 x7))], [], [(1000, [.tr 0 1 [.int .i64] (.ints x8), .int .i64 x9, .tr 0 1 [.int .i64, .int .i64, .bool] (.cells x10)])]⟩
noncomputable def l0s (x5 : Int) (x8 : List Int) (x9 : Int) (x10 : List (List Cl)) (rec : Int → Int → Option Res) (k : Int → Option Res) (x6 x7 : Int) : Option Res :=
 bif decide (x7 < (x10.length : Int)) then (bif decide (0 ≤ x7) && decide (x7 < (x10.length : Int)) then (bif ((x10.getD x7.toNat []).getD 2 (.i 0)).toB then (bif decide (x5 ≤ ((x10.getD x7.toNat []).getD 0 (.i 0)).toI) then (bif decide (x6 < 0) then rec x7 (IntKind.i64.wrap (x7 + 1))
  else bif decide (0 ≤ x6) && decide (x6 < (x10.length : Int)) then (bif decide (((x10.getD x7.toNat []).getD 0 (.i 0)).toI < ((x10.getD x6.toNat []).getD 0 (.i 0)).toI) then rec x7 (IntKind.i64.wrap (x7 + 1))
   else rec x6 (IntKind.i64.wrap (x7 + 1)))
  else none)
  else rec x6 (IntKind.i64.wrap (x7 + 1)))
  else rec x6 (IntKind.i64.wrap (x7 + 1)))
  else none)
 else k x6
noncomputable def l0 (x5 : Int) (x8 : List Int) (x9 : Int) (x10 : List (List Cl)) (k : Int → Option Res) : Nat → Int → Int → Option Res
 | 0, _, _ => none
 | n + 1, x6, x7 => l0s x5 x8 x9 x10 (fun x6 x7 => l0 x5 x8 x9 x10 k n x6 x7) k x6 x7
noncomputable def o0 (x5 : Int) (x8 : List Int) (x9 : Int) (x10 : List (List Cl)) (y1 : Int) : St := ⟨mkT 45 [(5, one (.int .i64 y1))], [], []⟩
noncomputable def p0 (K : Res → Option Res) : List Lf → (St → Option Res) → Option Res
 | [.i x5, .i x6, .i x7, .q (.ints x8), .i x9, .q (.cells x10)], k => l0 x5 x8 x9 x10 (fun y1 => k (o0 x5 x8 x9 x10 y1)) fuel x6 x7
 | _, _ => none
noncomputable def os : List (FuncId × St × (List Lf → (Res → Option Res) → Option Res)) := []
noncomputable def X (K : Res → Option Res) : Ctx := { Γ := Γ0, orc := orcOf os, io := [], share := [], mvl := [], bun := [], cut := [], own := [], cin := [(0, ⟨[1, 2, 5, 6], [], [1000], [], [], []⟩)], cout := [(0, ⟨[5], [], [], [], [], []⟩)], lp := lpOf [(0, s0 0 0 0 [] 0 [], p0 K)], kl := [], nk := true, eqs := eqs0, byt := byt0, fin := finK fi K }
noncomputable def b (a1 : List Int) (a2 : Int) (a3 : List (List Cl)) (a4 : Int) (R : Int → Option Res) : Option Res :=
 l0 a4 a1 a2 a3 (fun y11 =>
 R y11) fuel (-1) 0
theorem gx : ∃ x : List Int → Int → List (List Cl) → Int → (Int → Option Res) → Option Res, x = b := ⟨_, rfl⟩
noncomputable def g : List Int → Int → List (List Cl) → Int → (Int → Option Res) → Option Res := Classical.choose gx
theorem e : g = b := Classical.choose_spec gx
noncomputable def run : List Lf → (Res → Option Res) → Option Res
 | [.q (.ints a1), .i a2, .q (.cells a3), .i a4], K => g a1 a2 a3 a4 (fun r1 => K (m r1))
 | _, _ => none
noncomputable def a (a1 : List Int) (a2 : Int) (a3 : List (List Cl)) (a4 : Int) : St := argSt [.v ⟨true, [.tr 0 1 [.int .i64] (.ints a1), .int .i64 a2, .tr 0 1 [.int .i64, .int .i64, .bool] (.cells a3)]⟩, one (.int .i64 a4)] [] []
noncomputable def con : FuncId × St × (List Lf → (Res → Option Res) → Option Res) := (117, a [] 0 [] 0, run)
theorem cx (K : Res → Option Res) : CtxOk Go.Proofs.Try.prog Γ0 byt0 eqs0 (X K) os := ⟨rfl, rfl, rfl, (fun p hp => by
 cases hp), rfl, rfl, rfl, rfl⟩
theorem t0 (K : Res → Option Res) (k : St → Option Res) (it : St → (St → Option Res) → Option Res) (x5 x6 x7 : Int) (x8 : List Int) (x9 : Int) (x10 : List (List Cl)) : iterS (X K) 0 b0 it (s0 x5 x6 x7 x8 x9 x10) k = l0s x5 x8 x9 x10 (fun x6 x7 => it (s0 x5 x6 x7 x8 x9 x10) k) (fun y1 => k (o0 x5 x8 x9 x10 y1)) x6 x7 := by kernel_rfl
theorem i0 (K : Res → Option Res) (k : St → Option Res) (x5 : Int) (x8 : List Int) (x9 : Int) (x10 : List (List Cl)) : ∀ (n : Nat) (x6 x7 : Int), iter (X K) 0 b0 n (s0 x5 x6 x7 x8 x9 x10) k = l0 x5 x8 x9 x10 (fun y1 => k (o0 x5 x8 x9 x10 y1)) n x6 x7
 | 0, _, _ => rfl
 | n + 1, x6, x7 => by
  rw [iter_succ, t0, show (fun x6 x7 => iter (X K) 0 b0 n (s0 x5 x6 x7 x8 x9 x10) k) = (fun x6 x7 => l0 x5 x8 x9 x10 (fun y1 => k (o0 x5 x8 x9 x10 y1)) n x6 x7) from funext fun x6 => funext fun x7 => i0 K k x5 x8 x9 x10 n x6 x7]; rfl
theorem v0 {K : Res → Option Res} {l : List Lf} {k : St → Option Res} {r : Res} (h : p0 K l k = some r) : ∃ x5 x6 x7 x8 x9 x10, l = [.i x5, .i x6, .i x7, .q (.ints x8), .i x9, .q (.cells x10)] ∧ l0 x5 x8 x9 x10 (fun y1 => k (o0 x5 x8 x9 x10 y1)) fuel x6 x7 = some r := by
 unfold p0 at h; split at h
 ·exact ⟨_, _, _, _, _, _, rfl, h⟩
 ·cases h
theorem w0 (K : Res → Option Res) : LpSound Go.Proofs.Try.prog (X K) 0 b0 := lp_ok ((cx K).ok laid) (by rw [show loopsOf b0 = [] from by kernel_rfl]; intro p hp; cases hp) rfl fun p hp hid => by
 rcases List.mem_cons.1 hp with rfl | hp
 ·intro st k r h1 h2; obtain ⟨x5, x6, x7, x8, x9, x10, e, h⟩ := v0 (K := K) h2; have := St.like_eq (y := s0 x5 x6 x7 x8 x9 x10) h1 (by kernel_rfl) e; subst this; exact ⟨fuel, (i0 K k x5 x8 x9 x10 fuel x6 x7).trans h⟩
 cases hp
theorem tie (K : Res → Option Res) (a1 : List Int) (a2 : Int) (a3 : List (List Cl)) (a4 : Int) : exec (X K) c (entry 45 [.v ⟨true, [.tr 0 1 [.int .i64] (.ints a1), .int .i64 a2, .tr 0 1 [.int .i64, .int .i64, .bool] (.cells a3)]⟩, one (.int .i64 a4)] [] []) (endK (X K)) = g a1 a2 a3 a4 (fun r1 => K (m r1)) := Eq.trans (b := b a1 a2 a3 a4 (fun r1 => K (m r1))) (by kernel_rfl) (by rw [e])
theorem runv {l : List Lf} {K : Res → Option Res} {r : Res} (h : run l K = some r) : ∃ a1 a2 a3 a4, l = [.q (.ints a1), .i a2, .q (.cells a3), .i a4] ∧ g a1 a2 a3 a4 (fun r1 => K (m r1)) = some r := by
 unfold run at h; split at h
 ·exact ⟨_, _, _, _, rfl, h⟩
 ·cases h
theorem ok : Con Go.Proofs.Try.prog con := con_of (fn := Go.Proofs.Try.f117) (c := c) (Fi := fi) (X := X) (fun_of laid (by kernel_rfl) (by kernel_rfl) (by kernel_rfl) rfl (by kernel_rfl) (by kernel_rfl) cx (fun _ => rfl) (fun _ => rfl) (fun K => by
 rw [show loopsOf c = [(0, b0)] from by kernel_rfl]; intro p hp
 rcases List.mem_cons.1 hp with rfl | hp
 ·exact w0 K
 cases hp)) fun xs rows boxes K r hl hr => by
 obtain ⟨a1, a2, a3, a4, e, h⟩ := runv hr
 have := St.like_eq (y := a a1 a2 a3 a4) hl (by kernel_rfl) e
 obtain ⟨rfl, rfl, rfl⟩ := argSt_inj this
 exact (tie K a1 a2 a3 a4).trans h
end spec_l13Next
namespace spec_l13Pack
noncomputable def c : Code := bodyOf Go.Proofs.Try.f64
noncomputable def fi : Fin := ⟨Γ0, [(.cell 2 38, 38)], [[1, 1, 1]], [], [], []⟩
noncomputable def m (r1 : List Int) (r2 : Int) (r3 : List (List Cl)) : Res := ⟨[⟨true, [.ow 1000, .int .i64 r2, .ow 1001]⟩], [], [⟨[.int .i64], .ints r1, true, 0⟩, ⟨[.int .i64, .int .i64, .bool], .cells r3, true, 0⟩], [], []⟩
noncomputable def b0 : Code := codeAt c [1, 1, 1, 0, 0, 0]
noncomputable def b2 : Code := codeAt c [1, 1, 1, 0, 0, 0, 1, 0, 1, 0, 1, 0, 0]
noncomputable def s2 (x13 x14 : Int) (x15 : List Int) (x16 : List (List Cl)) (x17 : List Int) (x18 : Int) (x19 : List (List Cl)) (x20 x21 x22 x23 : Int) (x24 : Bool) : St := ⟨mkT 67 [(1, one (.bp 1000 0)), (2, one (.bp 1016 0)), (3, one (.bp 3192 0)), (4, one (.int .i64 x13)), (5, one (.bp 9272 0)), (6, one (.int .i64 x14))], [(3096, ⟨[.int .i64], .ints x15, true, 0⟩), (3160, ⟨[.int .i64, .int .i64, .bool], .cells x16, true, 0⟩)], [(1000, [.tr 0 1 [.int .i64] (.ints x17), .int .i64 x18, .tr 0 1 [.int .i64, .int .i64, .bool] (.cells x19)]), (1016, [.nil, .int .i64 x20, .nil]), (3192, [.ow 3096, .int .i64 x21, .ow 3160]), (9272, [.int .i64 x22, .int .i64 x23, .bool x24])]⟩
noncomputable def l2s (x13 : Int) (x16 : List (List Cl)) (x17 : List Int) (x18 : Int) (x19 : List (List Cl)) (x20 x21 x22 x23 : Int) (x24 : Bool) (rec : Int → List Int → Option Res) (k : List Int → Option Res) (x14 : Int) (x15 : List Int) : Option Res :=
 bif decide (x14 < x23) then (bif decide (0 ≤ IntKind.i64.wrap (x22 + x14)) && decide (IntKind.i64.wrap (x22 + x14) < (x17.length : Int)) then (bif decide (0 ≤ IntKind.i64.wrap (x21 + x14)) && decide (IntKind.i64.wrap (x21 + x14) < (x15.length : Int)) then rec (IntKind.i64.wrap (x14 + 1)) (x15.set ((IntKind.i64.wrap (x21 + x14)).toNat) (x17.getD ((IntKind.i64.wrap (x22 + x14)).toNat) 0))
  else none)
  else none)
 else k x15
noncomputable def l2 (x13 : Int) (x16 : List (List Cl)) (x17 : List Int) (x18 : Int) (x19 : List (List Cl)) (x20 x21 x22 x23 : Int) (x24 : Bool) (k : List Int → Option Res) : Nat → Int → List Int → Option Res
 | 0, _, _ => none
 | n + 1, x14, x15 => l2s x13 x16 x17 x18 x19 x20 x21 x22 x23 x24 (fun x14 x15 => l2 x13 x16 x17 x18 x19 x20 x21 x22 x23 x24 k n x14 x15) k x14 x15
noncomputable def o2 (x13 : Int) (x16 : List (List Cl)) (x17 : List Int) (x18 : Int) (x19 : List (List Cl)) (x20 x21 x22 x23 : Int) (x24 : Bool) (y2 : List Int) : St := ⟨mkT 67 [(1, one (.bp 1000 0)), (2, one (.bp 1016 0)), (3, one (.bp 3192 0)), (4, one (.int .i64 x13)), (5, one (.bp 9272 0))], [(3096, ⟨[.int .i64], .ints y2, true, 0⟩), (3160, ⟨[.int .i64, .int .i64, .bool], .cells x16, true, 0⟩)], [(1000, [.tr 0 1 [.int .i64] (.ints x17), .int .i64 x18, .tr 0 1 [.int .i64, .int .i64, .bool] (.cells x19)]), (1016, [.nil, .int .i64 x20, .nil]), (3192, [.ow 3096, .int .i64 x21, .ow 3160]), (9272, [.int .i64 x22, .int .i64 x23, .bool x24])]⟩
noncomputable def p2 (K : Res → Option Res) : List Lf → (St → Option Res) → Option Res
 | [.i x13, .i x14, .q (.ints x15), .q (.cells x16), .q (.ints x17), .i x18, .q (.cells x19), .i x20, .i x21, .i x22, .i x23, .b x24], k => l2 x13 x16 x17 x18 x19 x20 x21 x22 x23 x24 (fun y2 => k (o2 x13 x16 x17 x18 x19 x20 x21 x22 x23 x24 y2)) fuel x14 x15
 | _, _ => none
noncomputable def s0 (x5 : Int) (x6 : List Int) (x7 : List (List Cl)) (x8 : List Int) (x9 : Int) (x10 : List (List Cl)) (x11 x12 : Int) : St := ⟨mkT 67 [(1, one (.bp 1000 0)), (2, one (.bp 1016 0)), (3, one (.bp 3192 0)), (4, one (.int .i64 x5))], [(3096, ⟨[.int .i64], .ints x6, true, 0⟩), (3160, ⟨[.int .i64, .int .i64, .bool], .cells x7, true, 0⟩)], [(1000, [.tr 0 1 [.int .i64] (.ints x8), .int .i64 x9, .tr 0 1 [.int .i64, .int .i64, .bool] (.cells x10)]), (1016, [.nil, .int .i64 x11, .nil]), (3192, [.ow 3096, .int .i64 x12, .ow 3160])]⟩
noncomputable def l0s (x8 : List Int) (x9 : Int) (x10 : List (List Cl)) (x11 : Int) (rec : Int → List Int → List (List Cl) → Int → Option Res) (k : List Int → List (List Cl) → Int → Option Res) (x5 : Int) (x6 : List Int) (x7 : List (List Cl)) (x12 : Int) : Option Res :=
 bif decide (0 ≤ x5) then (bif decide (0 ≤ x5) && decide (x5 < (x10.length : Int)) then (l2 x5 x7 x8 x9 x10 x11 x12 (((x10.getD x5.toNat []).getD 0 (.i 0)).toI) (((x10.getD x5.toNat []).getD 1 (.i 0)).toI) (((x10.getD x5.toNat []).getD 2 (.i 0)).toB) (fun y25 =>
  bif decide (0 ≤ x5) && decide (x5 < (x7.length : Int)) then (spec_l13Next.g x8 x9 x10 (IntKind.i64.wrap ((((x10.getD x5.toNat []).getD 0 (.i 0)).toI) + (((x10.getD x5.toNat []).getD 1 (.i 0)).toI))) fun r26 =>
   rec r26 y25 (x7.set x5.toNat (splice (x7.getD x5.toNat []) 0 [.i x12])) (IntKind.i64.wrap (x12 + (((x10.getD x5.toNat []).getD 1 (.i 0)).toI))))
  else none) fuel 0 x6)
  else none)
 else k x6 x7 x12
noncomputable def l0 (x8 : List Int) (x9 : Int) (x10 : List (List Cl)) (x11 : Int) (k : List Int → List (List Cl) → Int → Option Res) : Nat → Int → List Int → List (List Cl) → Int → Option Res
 | 0, _, _, _, _ => none
 | n + 1, x5, x6, x7, x12 => l0s x8 x9 x10 x11 (fun x5 x6 x7 x12 => l0 x8 x9 x10 x11 k n x5 x6 x7 x12) k x5 x6 x7 x12
noncomputable def o0 (x8 : List Int) (x9 : Int) (x10 : List (List Cl)) (x11 : Int) (y1 : List Int) (y2 : List (List Cl)) (y4 : Int) : St := ⟨mkT 67 [(2, one (.bp 1016 0)), (3, one (.bp 3192 0))], [(3096, ⟨[.int .i64], .ints y1, true, 0⟩), (3160, ⟨[.int .i64, .int .i64, .bool], .cells y2, true, 0⟩)], [(1016, [.nil, .int .i64 x11, .nil]), (3192, [.ow 3096, .int .i64 y4, .ow 3160])]⟩
noncomputable def p0 (K : Res → Option Res) : List Lf → (St → Option Res) → Option Res
 | [.i x5, .q (.ints x6), .q (.cells x7), .q (.ints x8), .i x9, .q (.cells x10), .i x11, .i x12], k => l0 x8 x9 x10 x11 (fun y1 y2 y4 => k (o0 x8 x9 x10 x11 y1 y2 y4)) fuel x5 x6 x7 x12
 | _, _ => none
noncomputable def os : List (FuncId × St × (List Lf → (Res → Option Res) → Option Res)) := [spec_l13Next.con]
noncomputable def X (K : Res → Option Res) : Ctx := { Γ := Γ0, orc := orcOf os, io := [], share := [], mvl := [], bun := [], cut := [], own := [], cin := [(2, ⟨[1, 2, 3, 4, 5, 6], [(3096, 3096), (3160, 3160)], [1000, 1016, 3192, 9272], [], [], []⟩), (0, ⟨[1, 2, 3, 4], [(3096, 3096), (3160, 3160)], [1000, 1016, 3192], [], [], []⟩)], cout := [(2, ⟨[1, 2, 3, 4, 5], [(3096, 3096), (3160, 3160)], [1000, 1016, 3192, 9272], [], [], []⟩), (0, ⟨[2, 3], [(3096, 3096), (3160, 3160)], [1016, 3192], [], [], []⟩)], lp := lpOf [(2, s2 0 0 [] [] [] 0 [] 0 0 0 0 false, p2 K), (0, s0 0 [] [] [] 0 [] 0 0, p0 K)], kl := [], nk := true, eqs := eqs0, byt := byt0, fin := finK fi K }
noncomputable def b (a1 : List Int) (a2 : Int) (a3 : List (List Cl)) (R : List Int → Int → List (List Cl) → Option Res) : Option Res :=
 bif decide ((a1.length : Int) = (a1.length : Int)) && decide (0 ≤ (a1.length : Int)) && decide ((a1.length : Int) * 8 ≤ 140737488355328) then (bif decide ((0 + a3.length) * 24 ≤ 140737488355328) then (spec_l13Next.g a1 a2 a3 0 fun r4 =>
  l0 a1 a2 a3 0 (fun y27 y28 y29 =>
  R y27 y29 y28) fuel r4 (List.replicate ((a1.length : Int).toNat) 0) (([] : List (List Cl)) ++ a3) 0)
  else none)
 else none
theorem gx : ∃ x : List Int → Int → List (List Cl) → (List Int → Int → List (List Cl) → Option Res) → Option Res, x = b := ⟨_, rfl⟩
noncomputable def g : List Int → Int → List (List Cl) → (List Int → Int → List (List Cl) → Option Res) → Option Res := Classical.choose gx
theorem e : g = b := Classical.choose_spec gx
noncomputable def run : List Lf → (Res → Option Res) → Option Res
 | [.q (.ints a1), .i a2, .q (.cells a3)], K => g a1 a2 a3 (fun r1 r2 r3 => K (m r1 r2 r3))
 | _, _ => none
noncomputable def a (a1 : List Int) (a2 : Int) (a3 : List (List Cl)) : St := argSt [.v ⟨true, [.tr 0 1 [.int .i64] (.ints a1), .int .i64 a2, .tr 0 1 [.int .i64, .int .i64, .bool] (.cells a3)]⟩] [] []
noncomputable def con : FuncId × St × (List Lf → (Res → Option Res) → Option Res) := (64, a [] 0 [], run)
theorem cx (K : Res → Option Res) : CtxOk Go.Proofs.Try.prog Γ0 byt0 eqs0 (X K) os := ⟨rfl, rfl, rfl, (fun p hp => by
 rcases List.mem_cons.1 hp with rfl | hp
 ·exact spec_l13Next.ok
 cases hp), rfl, rfl, rfl, rfl⟩
theorem t2 (K : Res → Option Res) (k : St → Option Res) (it : St → (St → Option Res) → Option Res) (x13 x14 : Int) (x15 : List Int) (x16 : List (List Cl)) (x17 : List Int) (x18 : Int) (x19 : List (List Cl)) (x20 x21 x22 x23 : Int) (x24 : Bool) : iterS (X K) 2 b2 it (s2 x13 x14 x15 x16 x17 x18 x19 x20 x21 x22 x23 x24) k = l2s x13 x16 x17 x18 x19 x20 x21 x22 x23 x24 (fun x14 x15 => it (s2 x13 x14 x15 x16 x17 x18 x19 x20 x21 x22 x23 x24) k) (fun y2 => k (o2 x13 x16 x17 x18 x19 x20 x21 x22 x23 x24 y2)) x14 x15 := by kernel_rfl
theorem i2 (K : Res → Option Res) (k : St → Option Res) (x13 : Int) (x16 : List (List Cl)) (x17 : List Int) (x18 : Int) (x19 : List (List Cl)) (x20 x21 x22 x23 : Int) (x24 : Bool) : ∀ (n : Nat) (x14 : Int) (x15 : List Int), iter (X K) 2 b2 n (s2 x13 x14 x15 x16 x17 x18 x19 x20 x21 x22 x23 x24) k = l2 x13 x16 x17 x18 x19 x20 x21 x22 x23 x24 (fun y2 => k (o2 x13 x16 x17 x18 x19 x20 x21 x22 x23 x24 y2)) n x14 x15
 | 0, _, _ => rfl
 | n + 1, x14, x15 => by
  rw [iter_succ, t2, show (fun x14 x15 => iter (X K) 2 b2 n (s2 x13 x14 x15 x16 x17 x18 x19 x20 x21 x22 x23 x24) k) = (fun x14 x15 => l2 x13 x16 x17 x18 x19 x20 x21 x22 x23 x24 (fun y2 => k (o2 x13 x16 x17 x18 x19 x20 x21 x22 x23 x24 y2)) n x14 x15) from funext fun x14 => funext fun x15 => i2 K k x13 x16 x17 x18 x19 x20 x21 x22 x23 x24 n x14 x15]; rfl
theorem v2 {K : Res → Option Res} {l : List Lf} {k : St → Option Res} {r : Res} (h : p2 K l k = some r) : ∃ x13 x14 x15 x16 x17 x18 x19 x20 x21 x22 x23 x24, l = [.i x13, .i x14, .q (.ints x15), .q (.cells x16), .q (.ints x17), .i x18, .q (.cells x19), .i x20, .i x21, .i x22, .i x23, .b x24] ∧ l2 x13 x16 x17 x18 x19 x20 x21 x22 x23 x24 (fun y2 => k (o2 x13 x16 x17 x18 x19 x20 x21 x22 x23 x24 y2)) fuel x14 x15 = some r := by
 unfold p2 at h; split at h
 ·exact ⟨_, _, _, _, _, _, _, _, _, _, _, _, rfl, h⟩
 ·cases h
theorem t0 (K : Res → Option Res) (k : St → Option Res) (it : St → (St → Option Res) → Option Res) (x5 : Int) (x6 : List Int) (x7 : List (List Cl)) (x8 : List Int) (x9 : Int) (x10 : List (List Cl)) (x11 x12 : Int) : iterS (X K) 0 b0 it (s0 x5 x6 x7 x8 x9 x10 x11 x12) k = l0s x8 x9 x10 x11 (fun x5 x6 x7 x12 => it (s0 x5 x6 x7 x8 x9 x10 x11 x12) k) (fun y1 y2 y4 => k (o0 x8 x9 x10 x11 y1 y2 y4)) x5 x6 x7 x12 := by kernel_rfl
theorem i0 (K : Res → Option Res) (k : St → Option Res) (x8 : List Int) (x9 : Int) (x10 : List (List Cl)) (x11 : Int) : ∀ (n : Nat) (x5 : Int) (x6 : List Int) (x7 : List (List Cl)) (x12 : Int), iter (X K) 0 b0 n (s0 x5 x6 x7 x8 x9 x10 x11 x12) k = l0 x8 x9 x10 x11 (fun y1 y2 y4 => k (o0 x8 x9 x10 x11 y1 y2 y4)) n x5 x6 x7 x12
 | 0, _, _, _, _ => rfl
 | n + 1, x5, x6, x7, x12 => by
  rw [iter_succ, t0, show (fun x5 x6 x7 x12 => iter (X K) 0 b0 n (s0 x5 x6 x7 x8 x9 x10 x11 x12) k) = (fun x5 x6 x7 x12 => l0 x8 x9 x10 x11 (fun y1 y2 y4 => k (o0 x8 x9 x10 x11 y1 y2 y4)) n x5 x6 x7 x12) from funext fun x5 => funext fun x6 => funext fun x7 => funext fun x12 => i0 K k x8 x9 x10 x11 n x5 x6 x7 x12]; rfl
theorem v0 {K : Res → Option Res} {l : List Lf} {k : St → Option Res} {r : Res} (h : p0 K l k = some r) : ∃ x5 x6 x7 x8 x9 x10 x11 x12, l = [.i x5, .q (.ints x6), .q (.cells x7), .q (.ints x8), .i x9, .q (.cells x10), .i x11, .i x12] ∧ l0 x8 x9 x10 x11 (fun y1 y2 y4 => k (o0 x8 x9 x10 x11 y1 y2 y4)) fuel x5 x6 x7 x12 = some r := by
 unfold p0 at h; split at h
 ·exact ⟨_, _, _, _, _, _, _, _, rfl, h⟩
 ·cases h
theorem w2 (K : Res → Option Res) : LpSound Go.Proofs.Try.prog (X K) 2 b2 := lp_ok ((cx K).ok laid) (by rw [show loopsOf b2 = [] from by kernel_rfl]; intro p hp; cases hp) rfl fun p hp hid => by
 rcases List.mem_cons.1 hp with rfl | hp
 ·intro st k r h1 h2; obtain ⟨x13, x14, x15, x16, x17, x18, x19, x20, x21, x22, x23, x24, e, h⟩ := v2 (K := K) h2; have := St.like_eq (y := s2 x13 x14 x15 x16 x17 x18 x19 x20 x21 x22 x23 x24) h1 (by kernel_rfl) e; subst this; exact ⟨fuel, (i2 K k x13 x16 x17 x18 x19 x20 x21 x22 x23 x24 fuel x14 x15).trans h⟩
 rcases List.mem_cons.1 hp with rfl | hp
 ·exact absurd hid (by simp)
 cases hp
theorem w0 (K : Res → Option Res) : LpSound Go.Proofs.Try.prog (X K) 0 b0 := lp_ok ((cx K).ok laid) (by
 rw [show loopsOf b0 = [(2, b2)] from by kernel_rfl]; intro p hp
 rcases List.mem_cons.1 hp with rfl | hp
 ·exact w2 K
 cases hp) rfl fun p hp hid => by
 rcases List.mem_cons.1 hp with rfl | hp
 ·exact absurd hid (by simp)
 rcases List.mem_cons.1 hp with rfl | hp
 ·intro st k r h1 h2; obtain ⟨x5, x6, x7, x8, x9, x10, x11, x12, e, h⟩ := v0 (K := K) h2; have := St.like_eq (y := s0 x5 x6 x7 x8 x9 x10 x11 x12) h1 (by kernel_rfl) e; subst this; exact ⟨fuel, (i0 K k x8 x9 x10 x11 fuel x5 x6 x7 x12).trans h⟩
 cases hp
theorem tie (K : Res → Option Res) (a1 : List Int) (a2 : Int) (a3 : List (List Cl)) : exec (X K) c (entry 67 [.v ⟨true, [.tr 0 1 [.int .i64] (.ints a1), .int .i64 a2, .tr 0 1 [.int .i64, .int .i64, .bool] (.cells a3)]⟩] [] []) (endK (X K)) = g a1 a2 a3 (fun r1 r2 r3 => K (m r1 r2 r3)) := Eq.trans (b := b a1 a2 a3 (fun r1 r2 r3 => K (m r1 r2 r3))) (by kernel_rfl) (by rw [e])
theorem runv {l : List Lf} {K : Res → Option Res} {r : Res} (h : run l K = some r) : ∃ a1 a2 a3, l = [.q (.ints a1), .i a2, .q (.cells a3)] ∧ g a1 a2 a3 (fun r1 r2 r3 => K (m r1 r2 r3)) = some r := by
 unfold run at h; split at h
 ·exact ⟨_, _, _, rfl, h⟩
 ·cases h
theorem ok : Con Go.Proofs.Try.prog con := con_of (fn := Go.Proofs.Try.f64) (c := c) (Fi := fi) (X := X) (fun_of laid (by kernel_rfl) (by kernel_rfl) (by kernel_rfl) rfl (by kernel_rfl) (by kernel_rfl) cx (fun _ => rfl) (fun _ => rfl) (fun K => by
 rw [show loopsOf c = [(0, b0), (2, b2)] from by kernel_rfl]; intro p hp
 rcases List.mem_cons.1 hp with rfl | hp
 ·exact w0 K
 rcases List.mem_cons.1 hp with rfl | hp
 ·exact w2 K
 cases hp)) fun xs rows boxes K r hl hr => by
 obtain ⟨a1, a2, a3, e, h⟩ := runv hr
 have := St.like_eq (y := a a1 a2 a3) hl (by kernel_rfl) e
 obtain ⟨rfl, rfl, rfl⟩ := argSt_inj this
 exact (tie K a1 a2 a3).trans h
end spec_l13Pack
namespace spec_l13Put
noncomputable def c : Code := bodyOf Go.Proofs.Try.f80
noncomputable def fi : Fin := ⟨Γ0, [(.cell 4 38, 38), (.tmp 5, 3), (.tmp 6, 4)], [[3, 1, 3], [1], [1]], [false, false], [], []⟩
noncomputable def m (r1 : List Int) (r2 : Int) (r3 : List (List Cl)) (r4 : Int) (r5 : Bool) : Res := ⟨[⟨true, [.ow 1000, .int .i64 r2, .ow 1001]⟩, ⟨false, [.int .i64 r4]⟩, ⟨false, [.bool r5]⟩], [none, none], [⟨[.int .i64], .ints r1, true, 0⟩, ⟨[.int .i64, .int .i64, .bool], .cells r3, true, 0⟩], [], []⟩
noncomputable def b0 : Code := codeAt c [1, 1, 1, 1, 0, 0, 0]
noncomputable def b2 : Code := codeAt c [1, 1, 1, 1, 1, 1, 1, 1, 0, 1, 0, 0]
noncomputable def s0 (x10 : Int) (x11 x12 : List Int) (x13 : List (List Cl)) (x14 : List Int) (x15 : List (List Cl)) (x16 x17 : Int) : St := ⟨mkT 97 [(2, one (.bp 1000 0)), (4, one (.bp 1032 0)), (7, one (.ow 3065)), (8, one (.int .i64 x10))], [(3065, ⟨[.int .i64], .ints x11, true, 0⟩), (0, ⟨[.int .i64], .ints x12, true, 0⟩), (1, ⟨[.int .i64, .int .i64, .bool], .cells x13, true, 0⟩), (7161, ⟨[.int .i64], .ints x14, true, 0⟩), (7162, ⟨[.int .i64, .int .i64, .bool], .cells x15, true, 0⟩)], [(1000, [.ow 7161, .int .i64 x16, .ow 7162]), (1032, [.nil, .int .i64 x17, .nil])]⟩
noncomputable def l0s (x11 x12 : List Int) (x13 : List (List Cl)) (x14 : List Int) (x15 : List (List Cl)) (x16 x17 : Int) (rec : Int → Option Res) (k : Int → Option Res) (x10 : Int) : Option Res :=
 bif decide (x10 < (x15.length : Int)) then (bif decide (0 ≤ x10) && decide (x10 < (x15.length : Int)) then (bif ((x15.getD x10.toNat []).getD 2 (.i 0)).toB then rec (IntKind.i64.wrap (x10 + 1))
  else k x10)
  else none)
 else k x10
noncomputable def l0 (x11 x12 : List Int) (x13 : List (List Cl)) (x14 : List Int) (x15 : List (List Cl)) (x16 x17 : Int) (k : Int → Option Res) : Nat → Int → Option Res
 | 0, _ => none
 | n + 1, x10 => l0s x11 x12 x13 x14 x15 x16 x17 (fun x10 => l0 x11 x12 x13 x14 x15 x16 x17 k n x10) k x10
noncomputable def o0 (x11 x12 : List Int) (x13 : List (List Cl)) (x14 : List Int) (x15 : List (List Cl)) (x16 x17 y1 : Int) : St := ⟨mkT 97 [(2, one (.bp 1000 0)), (4, one (.bp 1032 0)), (7, one (.ow 3065)), (8, one (.int .i64 y1))], [(3065, ⟨[.int .i64], .ints x11, true, 0⟩), (0, ⟨[.int .i64], .ints x12, true, 0⟩), (1, ⟨[.int .i64, .int .i64, .bool], .cells x13, true, 0⟩), (7161, ⟨[.int .i64], .ints x14, true, 0⟩), (7162, ⟨[.int .i64, .int .i64, .bool], .cells x15, true, 0⟩)], [(1000, [.ow 7161, .int .i64 x16, .ow 7162]), (1032, [.nil, .int .i64 x17, .nil])]⟩
noncomputable def p0 (K : Res → Option Res) : List Lf → (St → Option Res) → Option Res
 | [.i x10, .q (.ints x11), .q (.ints x12), .q (.cells x13), .q (.ints x14), .q (.cells x15), .i x16, .i x17], k => l0 x11 x12 x13 x14 x15 x16 x17 (fun y1 => k (o0 x11 x12 x13 x14 x15 x16 x17 y1)) fuel x10
 | _, _ => none
noncomputable def s2 (x19 x20 : Int) (x21 x22 : List Int) (x23 : List (List Cl)) (x24 : List Int) (x25 : List (List Cl)) (x26 x27 : Int) : St := ⟨mkT 97 [(2, one (.bp 1000 0)), (4, one (.bp 1032 0)), (7, one (.ow 3065)), (8, one (.int .i64 x19)), (9, one (.int .i64 x20))], [(3065, ⟨[.int .i64], .ints x21, true, 0⟩), (0, ⟨[.int .i64], .ints x22, true, 0⟩), (1, ⟨[.int .i64, .int .i64, .bool], .cells x23, true, 0⟩), (7161, ⟨[.int .i64], .ints x24, true, 0⟩), (21544, ⟨[.int .i64, .int .i64, .bool], .cells x25, true, 0⟩)], [(1000, [.ow 7161, .int .i64 x26, .ow 21544]), (1032, [.nil, .int .i64 x27, .nil])]⟩
noncomputable def l2s (x19 : Int) (x21 x22 : List Int) (x23 x25 : List (List Cl)) (x26 x27 : Int) (rec : Int → List Int → Option Res) (k : List Int → Option Res) (x20 : Int) (x24 : List Int) : Option Res :=
 bif decide (x20 < (x21.length : Int)) then (bif decide (0 ≤ x20) && decide (x20 < (x21.length : Int)) then (bif decide (0 ≤ IntKind.i64.wrap (x26 + x20)) && decide (IntKind.i64.wrap (x26 + x20) < (x24.length : Int)) then rec (IntKind.i64.wrap (x20 + 1)) (x24.set ((IntKind.i64.wrap (x26 + x20)).toNat) (x21.getD x20.toNat 0))
  else none)
  else none)
 else k x24
noncomputable def l2 (x19 : Int) (x21 x22 : List Int) (x23 x25 : List (List Cl)) (x26 x27 : Int) (k : List Int → Option Res) : Nat → Int → List Int → Option Res
 | 0, _, _ => none
 | n + 1, x20, x24 => l2s x19 x21 x22 x23 x25 x26 x27 (fun x20 x24 => l2 x19 x21 x22 x23 x25 x26 x27 k n x20 x24) k x20 x24
noncomputable def o2 (x19 : Int) (x21 x22 : List Int) (x23 x25 : List (List Cl)) (x26 x27 : Int) (y5 : List Int) : St := ⟨mkT 97 [(2, one (.bp 1000 0)), (4, one (.bp 1032 0)), (7, one (.ow 3065)), (8, one (.int .i64 x19))], [(3065, ⟨[.int .i64], .ints x21, true, 0⟩), (0, ⟨[.int .i64], .ints x22, true, 0⟩), (1, ⟨[.int .i64, .int .i64, .bool], .cells x23, true, 0⟩), (7161, ⟨[.int .i64], .ints y5, true, 0⟩), (21544, ⟨[.int .i64, .int .i64, .bool], .cells x25, true, 0⟩)], [(1000, [.ow 7161, .int .i64 x26, .ow 21544]), (1032, [.nil, .int .i64 x27, .nil])]⟩
noncomputable def p2 (K : Res → Option Res) : List Lf → (St → Option Res) → Option Res
 | [.i x19, .i x20, .q (.ints x21), .q (.ints x22), .q (.cells x23), .q (.ints x24), .q (.cells x25), .i x26, .i x27], k => l2 x19 x21 x22 x23 x25 x26 x27 (fun y5 => k (o2 x19 x21 x22 x23 x25 x26 x27 y5)) fuel x20 x24
 | _, _ => none
noncomputable def s2_2 (x29 x30 : Int) (x31 x32 : List Int) (x33 : List (List Cl)) (x34 : List Int) (x35 : List (List Cl)) (x36 x37 : Int) : St := ⟨mkT 97 [(2, one (.bp 1000 0)), (4, one (.bp 1032 0)), (7, one (.ow 3065)), (8, one (.int .i64 x29)), (9, one (.int .i64 x30))], [(3065, ⟨[.int .i64], .ints x31, true, 0⟩), (0, ⟨[.int .i64], .ints x32, true, 0⟩), (1, ⟨[.int .i64, .int .i64, .bool], .cells x33, true, 0⟩), (7161, ⟨[.int .i64], .ints x34, true, 0⟩), (7162, ⟨[.int .i64, .int .i64, .bool], .cells x35, true, 0⟩)], [(1000, [.ow 7161, .int .i64 x36, .ow 7162]), (1032, [.nil, .int .i64 x37, .nil])]⟩
noncomputable def l2_2s (x29 : Int) (x31 x32 : List Int) (x33 x35 : List (List Cl)) (x36 x37 : Int) (rec : Int → List Int → Option Res) (k : List Int → Option Res) (x30 : Int) (x34 : List Int) : Option Res :=
 bif decide (x30 < (x31.length : Int)) then (bif decide (0 ≤ x30) && decide (x30 < (x31.length : Int)) then (bif decide (0 ≤ IntKind.i64.wrap (x36 + x30)) && decide (IntKind.i64.wrap (x36 + x30) < (x34.length : Int)) then rec (IntKind.i64.wrap (x30 + 1)) (x34.set ((IntKind.i64.wrap (x36 + x30)).toNat) (x31.getD x30.toNat 0))
  else none)
  else none)
 else k x34
noncomputable def l2_2 (x29 : Int) (x31 x32 : List Int) (x33 x35 : List (List Cl)) (x36 x37 : Int) (k : List Int → Option Res) : Nat → Int → List Int → Option Res
 | 0, _, _ => none
 | n + 1, x30, x34 => l2_2s x29 x31 x32 x33 x35 x36 x37 (fun x30 x34 => l2_2 x29 x31 x32 x33 x35 x36 x37 k n x30 x34) k x30 x34
noncomputable def o2_2 (x29 : Int) (x31 x32 : List Int) (x33 x35 : List (List Cl)) (x36 x37 : Int) (y5 : List Int) : St := ⟨mkT 97 [(2, one (.bp 1000 0)), (4, one (.bp 1032 0)), (7, one (.ow 3065)), (8, one (.int .i64 x29))], [(3065, ⟨[.int .i64], .ints x31, true, 0⟩), (0, ⟨[.int .i64], .ints x32, true, 0⟩), (1, ⟨[.int .i64, .int .i64, .bool], .cells x33, true, 0⟩), (7161, ⟨[.int .i64], .ints y5, true, 0⟩), (7162, ⟨[.int .i64, .int .i64, .bool], .cells x35, true, 0⟩)], [(1000, [.ow 7161, .int .i64 x36, .ow 7162]), (1032, [.nil, .int .i64 x37, .nil])]⟩
noncomputable def p2_2 (K : Res → Option Res) : List Lf → (St → Option Res) → Option Res
 | [.i x29, .i x30, .q (.ints x31), .q (.ints x32), .q (.cells x33), .q (.ints x34), .q (.cells x35), .i x36, .i x37], k => l2_2 x29 x31 x32 x33 x35 x36 x37 (fun y5 => k (o2_2 x29 x31 x32 x33 x35 x36 x37 y5)) fuel x30 x34
 | _, _ => none
noncomputable def s0_2 (x39 : Int) (x40 x41 : List Int) (x42 : List (List Cl)) (x43 x44 : Int) : St := ⟨mkT 97 [(2, one (.bp 1000 0)), (4, one (.bp 1032 0)), (7, one (.ow 3065)), (8, one (.int .i64 x39))], [(3065, ⟨[.int .i64], .ints x40, true, 0⟩), (0, ⟨[.int .i64], .ints x41, true, 0⟩), (1, ⟨[.int .i64, .int .i64, .bool], .cells x42, true, 0⟩)], [(1000, [.ow 0, .int .i64 x43, .ow 1]), (1032, [.nil, .int .i64 x44, .nil])]⟩
noncomputable def l0_2s (x40 x41 : List Int) (x42 : List (List Cl)) (x43 x44 : Int) (rec : Int → Option Res) (k : Int → Option Res) (x39 : Int) : Option Res :=
 bif decide (x39 < (x42.length : Int)) then (bif decide (0 ≤ x39) && decide (x39 < (x42.length : Int)) then (bif ((x42.getD x39.toNat []).getD 2 (.i 0)).toB then rec (IntKind.i64.wrap (x39 + 1))
  else k x39)
  else none)
 else k x39
noncomputable def l0_2 (x40 x41 : List Int) (x42 : List (List Cl)) (x43 x44 : Int) (k : Int → Option Res) : Nat → Int → Option Res
 | 0, _ => none
 | n + 1, x39 => l0_2s x40 x41 x42 x43 x44 (fun x39 => l0_2 x40 x41 x42 x43 x44 k n x39) k x39
noncomputable def o0_2 (x40 x41 : List Int) (x42 : List (List Cl)) (x43 x44 y1 : Int) : St := ⟨mkT 97 [(2, one (.bp 1000 0)), (4, one (.bp 1032 0)), (7, one (.ow 3065)), (8, one (.int .i64 y1))], [(3065, ⟨[.int .i64], .ints x40, true, 0⟩), (0, ⟨[.int .i64], .ints x41, true, 0⟩), (1, ⟨[.int .i64, .int .i64, .bool], .cells x42, true, 0⟩)], [(1000, [.ow 0, .int .i64 x43, .ow 1]), (1032, [.nil, .int .i64 x44, .nil])]⟩
noncomputable def p0_2 (K : Res → Option Res) : List Lf → (St → Option Res) → Option Res
 | [.i x39, .q (.ints x40), .q (.ints x41), .q (.cells x42), .i x43, .i x44], k => l0_2 x40 x41 x42 x43 x44 (fun y1 => k (o0_2 x40 x41 x42 x43 x44 y1)) fuel x39
 | _, _ => none
noncomputable def s2_3 (x46 x47 : Int) (x48 x49 : List Int) (x50 : List (List Cl)) (x51 x52 : Int) : St := ⟨mkT 97 [(2, one (.bp 1000 0)), (4, one (.bp 1032 0)), (7, one (.ow 3065)), (8, one (.int .i64 x46)), (9, one (.int .i64 x47))], [(3065, ⟨[.int .i64], .ints x48, true, 0⟩), (0, ⟨[.int .i64], .ints x49, true, 0⟩), (21544, ⟨[.int .i64, .int .i64, .bool], .cells x50, true, 0⟩)], [(1000, [.ow 0, .int .i64 x51, .ow 21544]), (1032, [.nil, .int .i64 x52, .nil])]⟩
noncomputable def l2_3s (x46 : Int) (x48 : List Int) (x50 : List (List Cl)) (x51 x52 : Int) (rec : Int → List Int → Option Res) (k : List Int → Option Res) (x47 : Int) (x49 : List Int) : Option Res :=
 bif decide (x47 < (x48.length : Int)) then (bif decide (0 ≤ x47) && decide (x47 < (x48.length : Int)) then (bif decide (0 ≤ IntKind.i64.wrap (x51 + x47)) && decide (IntKind.i64.wrap (x51 + x47) < (x49.length : Int)) then rec (IntKind.i64.wrap (x47 + 1)) (x49.set ((IntKind.i64.wrap (x51 + x47)).toNat) (x48.getD x47.toNat 0))
  else none)
  else none)
 else k x49
noncomputable def l2_3 (x46 : Int) (x48 : List Int) (x50 : List (List Cl)) (x51 x52 : Int) (k : List Int → Option Res) : Nat → Int → List Int → Option Res
 | 0, _, _ => none
 | n + 1, x47, x49 => l2_3s x46 x48 x50 x51 x52 (fun x47 x49 => l2_3 x46 x48 x50 x51 x52 k n x47 x49) k x47 x49
noncomputable def o2_3 (x46 : Int) (x48 : List Int) (x50 : List (List Cl)) (x51 x52 : Int) (y3 : List Int) : St := ⟨mkT 97 [(2, one (.bp 1000 0)), (4, one (.bp 1032 0)), (7, one (.ow 3065)), (8, one (.int .i64 x46))], [(3065, ⟨[.int .i64], .ints x48, true, 0⟩), (0, ⟨[.int .i64], .ints y3, true, 0⟩), (21544, ⟨[.int .i64, .int .i64, .bool], .cells x50, true, 0⟩)], [(1000, [.ow 0, .int .i64 x51, .ow 21544]), (1032, [.nil, .int .i64 x52, .nil])]⟩
noncomputable def p2_3 (K : Res → Option Res) : List Lf → (St → Option Res) → Option Res
 | [.i x46, .i x47, .q (.ints x48), .q (.ints x49), .q (.cells x50), .i x51, .i x52], k => l2_3 x46 x48 x50 x51 x52 (fun y3 => k (o2_3 x46 x48 x50 x51 x52 y3)) fuel x47 x49
 | _, _ => none
noncomputable def s2_4 (x54 x55 : Int) (x56 x57 : List Int) (x58 : List (List Cl)) (x59 x60 : Int) : St := ⟨mkT 97 [(2, one (.bp 1000 0)), (4, one (.bp 1032 0)), (7, one (.ow 3065)), (8, one (.int .i64 x54)), (9, one (.int .i64 x55))], [(3065, ⟨[.int .i64], .ints x56, true, 0⟩), (0, ⟨[.int .i64], .ints x57, true, 0⟩), (1, ⟨[.int .i64, .int .i64, .bool], .cells x58, true, 0⟩)], [(1000, [.ow 0, .int .i64 x59, .ow 1]), (1032, [.nil, .int .i64 x60, .nil])]⟩
noncomputable def l2_4s (x54 : Int) (x56 : List Int) (x58 : List (List Cl)) (x59 x60 : Int) (rec : Int → List Int → Option Res) (k : List Int → Option Res) (x55 : Int) (x57 : List Int) : Option Res :=
 bif decide (x55 < (x56.length : Int)) then (bif decide (0 ≤ x55) && decide (x55 < (x56.length : Int)) then (bif decide (0 ≤ IntKind.i64.wrap (x59 + x55)) && decide (IntKind.i64.wrap (x59 + x55) < (x57.length : Int)) then rec (IntKind.i64.wrap (x55 + 1)) (x57.set ((IntKind.i64.wrap (x59 + x55)).toNat) (x56.getD x55.toNat 0))
  else none)
  else none)
 else k x57
noncomputable def l2_4 (x54 : Int) (x56 : List Int) (x58 : List (List Cl)) (x59 x60 : Int) (k : List Int → Option Res) : Nat → Int → List Int → Option Res
 | 0, _, _ => none
 | n + 1, x55, x57 => l2_4s x54 x56 x58 x59 x60 (fun x55 x57 => l2_4 x54 x56 x58 x59 x60 k n x55 x57) k x55 x57
noncomputable def o2_4 (x54 : Int) (x56 : List Int) (x58 : List (List Cl)) (x59 x60 : Int) (y3 : List Int) : St := ⟨mkT 97 [(2, one (.bp 1000 0)), (4, one (.bp 1032 0)), (7, one (.ow 3065)), (8, one (.int .i64 x54))], [(3065, ⟨[.int .i64], .ints x56, true, 0⟩), (0, ⟨[.int .i64], .ints y3, true, 0⟩), (1, ⟨[.int .i64, .int .i64, .bool], .cells x58, true, 0⟩)], [(1000, [.ow 0, .int .i64 x59, .ow 1]), (1032, [.nil, .int .i64 x60, .nil])]⟩
noncomputable def p2_4 (K : Res → Option Res) : List Lf → (St → Option Res) → Option Res
 | [.i x54, .i x55, .q (.ints x56), .q (.ints x57), .q (.cells x58), .i x59, .i x60], k => l2_4 x54 x56 x58 x59 x60 (fun y3 => k (o2_4 x54 x56 x58 x59 x60 y3)) fuel x55 x57
 | _, _ => none
noncomputable def os : List (FuncId × St × (List Lf → (Res → Option Res) → Option Res)) := [spec_l13Words.con, spec_l13Pack.con]
noncomputable def X (K : Res → Option Res) : Ctx := { Γ := Γ0, orc := orcOf os, io := [], share := [], mvl := [], bun := [], cut := [], own := [], cin := [(0, ⟨[2, 4, 7, 8], [(3065, 3065), (0, 0), (1, 1), (7161, 7161), (7162, 7162)], [1000, 1032], [], [], []⟩), (2, ⟨[2, 4, 7, 8, 9], [(3065, 3065), (0, 0), (1, 1), (7161, 7161), (21544, 21544), (7162, 7162)], [1000, 1032], [], [], []⟩)], cout := [(0, ⟨[2, 4, 7, 8], [(3065, 3065), (0, 0), (1, 1), (7161, 7161), (7162, 7162)], [1000, 1032], [], [], []⟩), (2, ⟨[2, 4, 7, 8], [(3065, 3065), (0, 0), (1, 1), (7161, 7161), (21544, 21544), (7162, 7162)], [1000, 1032], [], [], []⟩)], lp := lpOf [(0, s0 0 [] [] [] [] [] 0 0, p0 K), (2, s2 0 0 [] [] [] [] [] 0 0, p2 K), (2, s2_2 0 0 [] [] [] [] [] 0 0, p2_2 K), (0, s0_2 0 [] [] [] 0 0, p0_2 K), (2, s2_3 0 0 [] [] [] 0 0, p2_3 K), (2, s2_4 0 0 [] [] [] 0 0, p2_4 K)], kl := [], nk := true, eqs := eqs0, byt := byt0, fin := finK fi K }
noncomputable def b (a1 : Int) (a2 a3 a4 : List Int) (a5 : List (List Cl)) (R : List Int → Int → List (List Cl) → Int → Bool → Option Res) : Option Res :=
 spec_l13Words.g a2 a3 fun r6 =>
 bif decide (IntKind.i64.wrap ((a4.length : Int) - a1) < (r6.length : Int)) then (spec_l13Pack.g a4 a1 a5 fun r7 r8 r9 =>
  l0 r6 a4 a5 r7 r9 r8 0 (fun y18 =>
  bif decide (IntKind.i64.wrap ((r7.length : Int) - r8) < (r6.length : Int)) then R r7 r8 r9 (-1) false
  else bif (y18 == 200) then R r7 r8 r9 (-1) false
  else bif (y18 == (r9.length : Int)) then (bif decide ((r9.length + 1) * 24 ≤ 140737488355328) then (bif decide (0 ≤ y18) && decide (y18 < ((r9 ++ ([[.i 0, .i 0, .b false]] : List (List Cl))).length : Int)) then (l2 y18 r6 a4 a5 ((r9 ++ ([[.i 0, .i 0, .b false]] : List (List Cl))).set y18.toNat [.i r8, .i (r6.length : Int), .b true]) r8 0 (fun y28 =>
   R y28 (IntKind.i64.wrap (r8 + (r6.length : Int))) ((r9 ++ ([[.i 0, .i 0, .b false]] : List (List Cl))).set y18.toNat [.i r8, .i (r6.length : Int), .b true]) y18 true) fuel 0 r7)
   else none)
   else none)
  else bif decide (0 ≤ y18) && decide (y18 < (r9.length : Int)) then (l2_2 y18 r6 a4 a5 (r9.set y18.toNat [.i r8, .i (r6.length : Int), .b true]) r8 0 (fun y38 =>
   R y38 (IntKind.i64.wrap (r8 + (r6.length : Int))) (r9.set y18.toNat [.i r8, .i (r6.length : Int), .b true]) y18 true) fuel 0 r7)
  else none) fuel 0)
 else (l0_2 r6 a4 a5 a1 0 (fun y45 =>
 bif decide (IntKind.i64.wrap ((a4.length : Int) - a1) < (r6.length : Int)) then R a4 a1 a5 (-1) false
 else bif (y45 == 200) then R a4 a1 a5 (-1) false
 else bif (y45 == (a5.length : Int)) then (bif decide ((a5.length + 1) * 24 ≤ 140737488355328) then (bif decide (0 ≤ y45) && decide (y45 < ((a5 ++ ([[.i 0, .i 0, .b false]] : List (List Cl))).length : Int)) then (l2_3 y45 r6 ((a5 ++ ([[.i 0, .i 0, .b false]] : List (List Cl))).set y45.toNat [.i a1, .i (r6.length : Int), .b true]) a1 0 (fun y53 =>
  R y53 (IntKind.i64.wrap (a1 + (r6.length : Int))) ((a5 ++ ([[.i 0, .i 0, .b false]] : List (List Cl))).set y45.toNat [.i a1, .i (r6.length : Int), .b true]) y45 true) fuel 0 a4)
  else none)
  else none)
 else bif decide (0 ≤ y45) && decide (y45 < (a5.length : Int)) then (l2_4 y45 r6 (a5.set y45.toNat [.i a1, .i (r6.length : Int), .b true]) a1 0 (fun y61 =>
  R y61 (IntKind.i64.wrap (a1 + (r6.length : Int))) (a5.set y45.toNat [.i a1, .i (r6.length : Int), .b true]) y45 true) fuel 0 a4)
 else none) fuel 0)
theorem gx : ∃ x : Int → List Int → List Int → List Int → List (List Cl) → (List Int → Int → List (List Cl) → Int → Bool → Option Res) → Option Res, x = b := ⟨_, rfl⟩
noncomputable def g : Int → List Int → List Int → List Int → List (List Cl) → (List Int → Int → List (List Cl) → Int → Bool → Option Res) → Option Res := Classical.choose gx
theorem e : g = b := Classical.choose_spec gx
noncomputable def run : List Lf → (Res → Option Res) → Option Res
 | [.i a1, .q (.ints a2), .q (.ints a3), .q (.ints a4), .q (.cells a5)], K => g a1 a2 a3 a4 a5 (fun r1 r2 r3 r4 r5 => K (m r1 r2 r3 r4 r5))
 | _, _ => none
noncomputable def a (a1 : Int) (a2 a3 a4 : List Int) (a5 : List (List Cl)) : St := argSt [.v ⟨true, [.ow 0, .int .i64 a1, .ow 1]⟩, .v ⟨true, [.tr 0 1 [.int .i64] (.ints a2), .tr 0 1 [.int .i64] (.ints a3)]⟩] [⟨[.int .i64], .ints a4, true, 0⟩, ⟨[.int .i64, .int .i64, .bool], .cells a5, true, 0⟩] []
noncomputable def con : FuncId × St × (List Lf → (Res → Option Res) → Option Res) := (80, a 0 [] [] [] [], run)
theorem cx (K : Res → Option Res) : CtxOk Go.Proofs.Try.prog Γ0 byt0 eqs0 (X K) os := ⟨rfl, rfl, rfl, (fun p hp => by
 rcases List.mem_cons.1 hp with rfl | hp
 ·exact spec_l13Words.ok
 rcases List.mem_cons.1 hp with rfl | hp
 ·exact spec_l13Pack.ok
 cases hp), rfl, rfl, rfl, rfl⟩
theorem t0 (K : Res → Option Res) (k : St → Option Res) (it : St → (St → Option Res) → Option Res) (x10 : Int) (x11 x12 : List Int) (x13 : List (List Cl)) (x14 : List Int) (x15 : List (List Cl)) (x16 x17 : Int) : iterS (X K) 0 b0 it (s0 x10 x11 x12 x13 x14 x15 x16 x17) k = l0s x11 x12 x13 x14 x15 x16 x17 (fun x10 => it (s0 x10 x11 x12 x13 x14 x15 x16 x17) k) (fun y1 => k (o0 x11 x12 x13 x14 x15 x16 x17 y1)) x10 := by kernel_rfl
theorem i0 (K : Res → Option Res) (k : St → Option Res) (x11 x12 : List Int) (x13 : List (List Cl)) (x14 : List Int) (x15 : List (List Cl)) (x16 x17 : Int) : ∀ (n : Nat) (x10 : Int), iter (X K) 0 b0 n (s0 x10 x11 x12 x13 x14 x15 x16 x17) k = l0 x11 x12 x13 x14 x15 x16 x17 (fun y1 => k (o0 x11 x12 x13 x14 x15 x16 x17 y1)) n x10
 | 0, _ => rfl
 | n + 1, x10 => by
  rw [iter_succ, t0, show (fun x10 => iter (X K) 0 b0 n (s0 x10 x11 x12 x13 x14 x15 x16 x17) k) = (fun x10 => l0 x11 x12 x13 x14 x15 x16 x17 (fun y1 => k (o0 x11 x12 x13 x14 x15 x16 x17 y1)) n x10) from funext fun x10 => i0 K k x11 x12 x13 x14 x15 x16 x17 n x10]; rfl
theorem v0 {K : Res → Option Res} {l : List Lf} {k : St → Option Res} {r : Res} (h : p0 K l k = some r) : ∃ x10 x11 x12 x13 x14 x15 x16 x17, l = [.i x10, .q (.ints x11), .q (.ints x12), .q (.cells x13), .q (.ints x14), .q (.cells x15), .i x16, .i x17] ∧ l0 x11 x12 x13 x14 x15 x16 x17 (fun y1 => k (o0 x11 x12 x13 x14 x15 x16 x17 y1)) fuel x10 = some r := by
 unfold p0 at h; split at h
 ·exact ⟨_, _, _, _, _, _, _, _, rfl, h⟩
 ·cases h
theorem t2 (K : Res → Option Res) (k : St → Option Res) (it : St → (St → Option Res) → Option Res) (x19 x20 : Int) (x21 x22 : List Int) (x23 : List (List Cl)) (x24 : List Int) (x25 : List (List Cl)) (x26 x27 : Int) : iterS (X K) 2 b2 it (s2 x19 x20 x21 x22 x23 x24 x25 x26 x27) k = l2s x19 x21 x22 x23 x25 x26 x27 (fun x20 x24 => it (s2 x19 x20 x21 x22 x23 x24 x25 x26 x27) k) (fun y5 => k (o2 x19 x21 x22 x23 x25 x26 x27 y5)) x20 x24 := by kernel_rfl
theorem i2 (K : Res → Option Res) (k : St → Option Res) (x19 : Int) (x21 x22 : List Int) (x23 x25 : List (List Cl)) (x26 x27 : Int) : ∀ (n : Nat) (x20 : Int) (x24 : List Int), iter (X K) 2 b2 n (s2 x19 x20 x21 x22 x23 x24 x25 x26 x27) k = l2 x19 x21 x22 x23 x25 x26 x27 (fun y5 => k (o2 x19 x21 x22 x23 x25 x26 x27 y5)) n x20 x24
 | 0, _, _ => rfl
 | n + 1, x20, x24 => by
  rw [iter_succ, t2, show (fun x20 x24 => iter (X K) 2 b2 n (s2 x19 x20 x21 x22 x23 x24 x25 x26 x27) k) = (fun x20 x24 => l2 x19 x21 x22 x23 x25 x26 x27 (fun y5 => k (o2 x19 x21 x22 x23 x25 x26 x27 y5)) n x20 x24) from funext fun x20 => funext fun x24 => i2 K k x19 x21 x22 x23 x25 x26 x27 n x20 x24]; rfl
theorem v2 {K : Res → Option Res} {l : List Lf} {k : St → Option Res} {r : Res} (h : p2 K l k = some r) : ∃ x19 x20 x21 x22 x23 x24 x25 x26 x27, l = [.i x19, .i x20, .q (.ints x21), .q (.ints x22), .q (.cells x23), .q (.ints x24), .q (.cells x25), .i x26, .i x27] ∧ l2 x19 x21 x22 x23 x25 x26 x27 (fun y5 => k (o2 x19 x21 x22 x23 x25 x26 x27 y5)) fuel x20 x24 = some r := by
 unfold p2 at h; split at h
 ·exact ⟨_, _, _, _, _, _, _, _, _, rfl, h⟩
 ·cases h
theorem t2_2 (K : Res → Option Res) (k : St → Option Res) (it : St → (St → Option Res) → Option Res) (x29 x30 : Int) (x31 x32 : List Int) (x33 : List (List Cl)) (x34 : List Int) (x35 : List (List Cl)) (x36 x37 : Int) : iterS (X K) 2 b2 it (s2_2 x29 x30 x31 x32 x33 x34 x35 x36 x37) k = l2_2s x29 x31 x32 x33 x35 x36 x37 (fun x30 x34 => it (s2_2 x29 x30 x31 x32 x33 x34 x35 x36 x37) k) (fun y5 => k (o2_2 x29 x31 x32 x33 x35 x36 x37 y5)) x30 x34 := by kernel_rfl
theorem i2_2 (K : Res → Option Res) (k : St → Option Res) (x29 : Int) (x31 x32 : List Int) (x33 x35 : List (List Cl)) (x36 x37 : Int) : ∀ (n : Nat) (x30 : Int) (x34 : List Int), iter (X K) 2 b2 n (s2_2 x29 x30 x31 x32 x33 x34 x35 x36 x37) k = l2_2 x29 x31 x32 x33 x35 x36 x37 (fun y5 => k (o2_2 x29 x31 x32 x33 x35 x36 x37 y5)) n x30 x34
 | 0, _, _ => rfl
 | n + 1, x30, x34 => by
  rw [iter_succ, t2_2, show (fun x30 x34 => iter (X K) 2 b2 n (s2_2 x29 x30 x31 x32 x33 x34 x35 x36 x37) k) = (fun x30 x34 => l2_2 x29 x31 x32 x33 x35 x36 x37 (fun y5 => k (o2_2 x29 x31 x32 x33 x35 x36 x37 y5)) n x30 x34) from funext fun x30 => funext fun x34 => i2_2 K k x29 x31 x32 x33 x35 x36 x37 n x30 x34]; rfl
theorem v2_2 {K : Res → Option Res} {l : List Lf} {k : St → Option Res} {r : Res} (h : p2_2 K l k = some r) : ∃ x29 x30 x31 x32 x33 x34 x35 x36 x37, l = [.i x29, .i x30, .q (.ints x31), .q (.ints x32), .q (.cells x33), .q (.ints x34), .q (.cells x35), .i x36, .i x37] ∧ l2_2 x29 x31 x32 x33 x35 x36 x37 (fun y5 => k (o2_2 x29 x31 x32 x33 x35 x36 x37 y5)) fuel x30 x34 = some r := by
 unfold p2_2 at h; split at h
 ·exact ⟨_, _, _, _, _, _, _, _, _, rfl, h⟩
 ·cases h
theorem t0_2 (K : Res → Option Res) (k : St → Option Res) (it : St → (St → Option Res) → Option Res) (x39 : Int) (x40 x41 : List Int) (x42 : List (List Cl)) (x43 x44 : Int) : iterS (X K) 0 b0 it (s0_2 x39 x40 x41 x42 x43 x44) k = l0_2s x40 x41 x42 x43 x44 (fun x39 => it (s0_2 x39 x40 x41 x42 x43 x44) k) (fun y1 => k (o0_2 x40 x41 x42 x43 x44 y1)) x39 := by kernel_rfl
theorem i0_2 (K : Res → Option Res) (k : St → Option Res) (x40 x41 : List Int) (x42 : List (List Cl)) (x43 x44 : Int) : ∀ (n : Nat) (x39 : Int), iter (X K) 0 b0 n (s0_2 x39 x40 x41 x42 x43 x44) k = l0_2 x40 x41 x42 x43 x44 (fun y1 => k (o0_2 x40 x41 x42 x43 x44 y1)) n x39
 | 0, _ => rfl
 | n + 1, x39 => by
  rw [iter_succ, t0_2, show (fun x39 => iter (X K) 0 b0 n (s0_2 x39 x40 x41 x42 x43 x44) k) = (fun x39 => l0_2 x40 x41 x42 x43 x44 (fun y1 => k (o0_2 x40 x41 x42 x43 x44 y1)) n x39) from funext fun x39 => i0_2 K k x40 x41 x42 x43 x44 n x39]; rfl
theorem v0_2 {K : Res → Option Res} {l : List Lf} {k : St → Option Res} {r : Res} (h : p0_2 K l k = some r) : ∃ x39 x40 x41 x42 x43 x44, l = [.i x39, .q (.ints x40), .q (.ints x41), .q (.cells x42), .i x43, .i x44] ∧ l0_2 x40 x41 x42 x43 x44 (fun y1 => k (o0_2 x40 x41 x42 x43 x44 y1)) fuel x39 = some r := by
 unfold p0_2 at h; split at h
 ·exact ⟨_, _, _, _, _, _, rfl, h⟩
 ·cases h
theorem t2_3 (K : Res → Option Res) (k : St → Option Res) (it : St → (St → Option Res) → Option Res) (x46 x47 : Int) (x48 x49 : List Int) (x50 : List (List Cl)) (x51 x52 : Int) : iterS (X K) 2 b2 it (s2_3 x46 x47 x48 x49 x50 x51 x52) k = l2_3s x46 x48 x50 x51 x52 (fun x47 x49 => it (s2_3 x46 x47 x48 x49 x50 x51 x52) k) (fun y3 => k (o2_3 x46 x48 x50 x51 x52 y3)) x47 x49 := by kernel_rfl
theorem i2_3 (K : Res → Option Res) (k : St → Option Res) (x46 : Int) (x48 : List Int) (x50 : List (List Cl)) (x51 x52 : Int) : ∀ (n : Nat) (x47 : Int) (x49 : List Int), iter (X K) 2 b2 n (s2_3 x46 x47 x48 x49 x50 x51 x52) k = l2_3 x46 x48 x50 x51 x52 (fun y3 => k (o2_3 x46 x48 x50 x51 x52 y3)) n x47 x49
 | 0, _, _ => rfl
 | n + 1, x47, x49 => by
  rw [iter_succ, t2_3, show (fun x47 x49 => iter (X K) 2 b2 n (s2_3 x46 x47 x48 x49 x50 x51 x52) k) = (fun x47 x49 => l2_3 x46 x48 x50 x51 x52 (fun y3 => k (o2_3 x46 x48 x50 x51 x52 y3)) n x47 x49) from funext fun x47 => funext fun x49 => i2_3 K k x46 x48 x50 x51 x52 n x47 x49]; rfl
theorem v2_3 {K : Res → Option Res} {l : List Lf} {k : St → Option Res} {r : Res} (h : p2_3 K l k = some r) : ∃ x46 x47 x48 x49 x50 x51 x52, l = [.i x46, .i x47, .q (.ints x48), .q (.ints x49), .q (.cells x50), .i x51, .i x52] ∧ l2_3 x46 x48 x50 x51 x52 (fun y3 => k (o2_3 x46 x48 x50 x51 x52 y3)) fuel x47 x49 = some r := by
 unfold p2_3 at h; split at h
 ·exact ⟨_, _, _, _, _, _, _, rfl, h⟩
 ·cases h
theorem t2_4 (K : Res → Option Res) (k : St → Option Res) (it : St → (St → Option Res) → Option Res) (x54 x55 : Int) (x56 x57 : List Int) (x58 : List (List Cl)) (x59 x60 : Int) : iterS (X K) 2 b2 it (s2_4 x54 x55 x56 x57 x58 x59 x60) k = l2_4s x54 x56 x58 x59 x60 (fun x55 x57 => it (s2_4 x54 x55 x56 x57 x58 x59 x60) k) (fun y3 => k (o2_4 x54 x56 x58 x59 x60 y3)) x55 x57 := by kernel_rfl
theorem i2_4 (K : Res → Option Res) (k : St → Option Res) (x54 : Int) (x56 : List Int) (x58 : List (List Cl)) (x59 x60 : Int) : ∀ (n : Nat) (x55 : Int) (x57 : List Int), iter (X K) 2 b2 n (s2_4 x54 x55 x56 x57 x58 x59 x60) k = l2_4 x54 x56 x58 x59 x60 (fun y3 => k (o2_4 x54 x56 x58 x59 x60 y3)) n x55 x57
 | 0, _, _ => rfl
 | n + 1, x55, x57 => by
  rw [iter_succ, t2_4, show (fun x55 x57 => iter (X K) 2 b2 n (s2_4 x54 x55 x56 x57 x58 x59 x60) k) = (fun x55 x57 => l2_4 x54 x56 x58 x59 x60 (fun y3 => k (o2_4 x54 x56 x58 x59 x60 y3)) n x55 x57) from funext fun x55 => funext fun x57 => i2_4 K k x54 x56 x58 x59 x60 n x55 x57]; rfl
theorem v2_4 {K : Res → Option Res} {l : List Lf} {k : St → Option Res} {r : Res} (h : p2_4 K l k = some r) : ∃ x54 x55 x56 x57 x58 x59 x60, l = [.i x54, .i x55, .q (.ints x56), .q (.ints x57), .q (.cells x58), .i x59, .i x60] ∧ l2_4 x54 x56 x58 x59 x60 (fun y3 => k (o2_4 x54 x56 x58 x59 x60 y3)) fuel x55 x57 = some r := by
 unfold p2_4 at h; split at h
 ·exact ⟨_, _, _, _, _, _, _, rfl, h⟩
 ·cases h
theorem w2 (K : Res → Option Res) : LpSound Go.Proofs.Try.prog (X K) 2 b2 := lp_ok ((cx K).ok laid) (by rw [show loopsOf b2 = [] from by kernel_rfl]; intro p hp; cases hp) rfl fun p hp hid => by
 rcases List.mem_cons.1 hp with rfl | hp
 ·exact absurd hid (by simp)
 rcases List.mem_cons.1 hp with rfl | hp
 ·intro st k r h1 h2; obtain ⟨x19, x20, x21, x22, x23, x24, x25, x26, x27, e, h⟩ := v2 (K := K) h2; have := St.like_eq (y := s2 x19 x20 x21 x22 x23 x24 x25 x26 x27) h1 (by kernel_rfl) e; subst this; exact ⟨fuel, (i2 K k x19 x21 x22 x23 x25 x26 x27 fuel x20 x24).trans h⟩
 rcases List.mem_cons.1 hp with rfl | hp
 ·intro st k r h1 h2; obtain ⟨x29, x30, x31, x32, x33, x34, x35, x36, x37, e, h⟩ := v2_2 (K := K) h2; have := St.like_eq (y := s2_2 x29 x30 x31 x32 x33 x34 x35 x36 x37) h1 (by kernel_rfl) e; subst this; exact ⟨fuel, (i2_2 K k x29 x31 x32 x33 x35 x36 x37 fuel x30 x34).trans h⟩
 rcases List.mem_cons.1 hp with rfl | hp
 ·exact absurd hid (by simp)
 rcases List.mem_cons.1 hp with rfl | hp
 ·intro st k r h1 h2; obtain ⟨x46, x47, x48, x49, x50, x51, x52, e, h⟩ := v2_3 (K := K) h2; have := St.like_eq (y := s2_3 x46 x47 x48 x49 x50 x51 x52) h1 (by kernel_rfl) e; subst this; exact ⟨fuel, (i2_3 K k x46 x48 x50 x51 x52 fuel x47 x49).trans h⟩
 rcases List.mem_cons.1 hp with rfl | hp
 ·intro st k r h1 h2; obtain ⟨x54, x55, x56, x57, x58, x59, x60, e, h⟩ := v2_4 (K := K) h2; have := St.like_eq (y := s2_4 x54 x55 x56 x57 x58 x59 x60) h1 (by kernel_rfl) e; subst this; exact ⟨fuel, (i2_4 K k x54 x56 x58 x59 x60 fuel x55 x57).trans h⟩
 cases hp
theorem w0 (K : Res → Option Res) : LpSound Go.Proofs.Try.prog (X K) 0 b0 := lp_ok ((cx K).ok laid) (by rw [show loopsOf b0 = [] from by kernel_rfl]; intro p hp; cases hp) rfl fun p hp hid => by
 rcases List.mem_cons.1 hp with rfl | hp
 ·intro st k r h1 h2; obtain ⟨x10, x11, x12, x13, x14, x15, x16, x17, e, h⟩ := v0 (K := K) h2; have := St.like_eq (y := s0 x10 x11 x12 x13 x14 x15 x16 x17) h1 (by kernel_rfl) e; subst this; exact ⟨fuel, (i0 K k x11 x12 x13 x14 x15 x16 x17 fuel x10).trans h⟩
 rcases List.mem_cons.1 hp with rfl | hp
 ·exact absurd hid (by simp)
 rcases List.mem_cons.1 hp with rfl | hp
 ·exact absurd hid (by simp)
 rcases List.mem_cons.1 hp with rfl | hp
 ·intro st k r h1 h2; obtain ⟨x39, x40, x41, x42, x43, x44, e, h⟩ := v0_2 (K := K) h2; have := St.like_eq (y := s0_2 x39 x40 x41 x42 x43 x44) h1 (by kernel_rfl) e; subst this; exact ⟨fuel, (i0_2 K k x40 x41 x42 x43 x44 fuel x39).trans h⟩
 rcases List.mem_cons.1 hp with rfl | hp
 ·exact absurd hid (by simp)
 rcases List.mem_cons.1 hp with rfl | hp
 ·exact absurd hid (by simp)
 cases hp
theorem tie (K : Res → Option Res) (a1 : Int) (a2 a3 a4 : List Int) (a5 : List (List Cl)) : exec (X K) c (entry 97 [.v ⟨true, [.ow 0, .int .i64 a1, .ow 1]⟩, .v ⟨true, [.tr 0 1 [.int .i64] (.ints a2), .tr 0 1 [.int .i64] (.ints a3)]⟩] [⟨[.int .i64], .ints a4, true, 0⟩, ⟨[.int .i64, .int .i64, .bool], .cells a5, true, 0⟩] []) (endK (X K)) = g a1 a2 a3 a4 a5 (fun r1 r2 r3 r4 r5 => K (m r1 r2 r3 r4 r5)) := Eq.trans (b := b a1 a2 a3 a4 a5 (fun r1 r2 r3 r4 r5 => K (m r1 r2 r3 r4 r5))) (by kernel_rfl) (by rw [e])
theorem runv {l : List Lf} {K : Res → Option Res} {r : Res} (h : run l K = some r) : ∃ a1 a2 a3 a4 a5, l = [.i a1, .q (.ints a2), .q (.ints a3), .q (.ints a4), .q (.cells a5)] ∧ g a1 a2 a3 a4 a5 (fun r1 r2 r3 r4 r5 => K (m r1 r2 r3 r4 r5)) = some r := by
 unfold run at h; split at h
 ·exact ⟨_, _, _, _, _, rfl, h⟩
 ·cases h
theorem ok : Con Go.Proofs.Try.prog con := con_of (fn := Go.Proofs.Try.f80) (c := c) (Fi := fi) (X := X) (fun_of laid (by kernel_rfl) (by kernel_rfl) (by kernel_rfl) rfl (by kernel_rfl) (by kernel_rfl) cx (fun _ => rfl) (fun _ => rfl) (fun K => by
 rw [show loopsOf c = [(0, b0), (2, b2)] from by kernel_rfl]; intro p hp
 rcases List.mem_cons.1 hp with rfl | hp
 ·exact w0 K
 rcases List.mem_cons.1 hp with rfl | hp
 ·exact w2 K
 cases hp)) fun xs rows boxes K r hl hr => by
 obtain ⟨a1, a2, a3, a4, a5, e, h⟩ := runv hr
 have := St.like_eq (y := a a1 a2 a3 a4 a5) hl (by kernel_rfl) e
 obtain ⟨rfl, rfl, rfl⟩ := argSt_inj this
 exact (tie K a1 a2 a3 a4 a5).trans h
end spec_l13Put
namespace spec_HeapPut
noncomputable def c : Code := bodyOf Go.Proofs.Try.f33
noncomputable def fi : Fin := ⟨Γ0, [(.cell 4 38, 38), (.tmp 5, 3), (.tmp 6, 4)], [[1, 1, 1], [1], [1]], [], [], []⟩
noncomputable def m (r1 : List Int) (r2 : Int) (r3 : List (List Cl)) (r4 : Int) (r5 : Bool) : Res := ⟨[⟨true, [.ow 1000, .int .i64 r2, .ow 1001]⟩, ⟨false, [.int .i64 r4]⟩, ⟨false, [.bool r5]⟩], [], [⟨[.int .i64], .ints r1, true, 0⟩, ⟨[.int .i64, .int .i64, .bool], .cells r3, true, 0⟩], [], []⟩
noncomputable def os : List (FuncId × St × (List Lf → (Res → Option Res) → Option Res)) := [spec_HeapOk.con, spec_ArrayOk.con, spec_l13Copy.con, spec_l13Put.con]
noncomputable def X (K : Res → Option Res) : Ctx := { Γ := Γ0, orc := orcOf os, io := [(80, [⟨true, 0, 1⟩, ⟨false, 0, 1⟩])], share := [], mvl := [], bun := [], cut := [], own := [], cin := [], cout := [], lp := lpOf [], kl := [], nk := true, eqs := eqs0, byt := byt0, fin := finK fi K }
noncomputable def b (a1 : List Int) (a2 : Int) (a3 : List (List Cl)) (a4 a5 : List Int) (R : List Int → Int → List (List Cl) → Int → Bool → Option Res) : Option Res :=
 spec_HeapOk.g a1 a2 a3 fun r6 =>
 bif !r6 then R ([] : List Int) 0 ([] : List (List Cl)) (-1) false
 else (spec_ArrayOk.g a4 a5 fun r7 =>
 bif !r7 then (spec_l13Copy.g a1 a2 a3 fun r8 r9 =>
  R r8 a2 r9 (-1) false)
 else (spec_l13Copy.g a1 a2 a3 fun r10 r11 =>
 spec_l13Put.g a2 a4 a5 r10 r11 fun r12 r13 r14 r15 r16 =>
 bif !r16 then (spec_l13Copy.g a1 a2 a3 fun r17 r18 =>
  R r17 a2 r18 (-1) false)
 else R r12 r13 r14 r15 true))
theorem gx : ∃ x : List Int → Int → List (List Cl) → List Int → List Int → (List Int → Int → List (List Cl) → Int → Bool → Option Res) → Option Res, x = b := ⟨_, rfl⟩
noncomputable def g : List Int → Int → List (List Cl) → List Int → List Int → (List Int → Int → List (List Cl) → Int → Bool → Option Res) → Option Res := Classical.choose gx
theorem e : g = b := Classical.choose_spec gx
noncomputable def run : List Lf → (Res → Option Res) → Option Res
 | [.q (.ints a1), .i a2, .q (.cells a3), .q (.ints a4), .q (.ints a5)], K => g a1 a2 a3 a4 a5 (fun r1 r2 r3 r4 r5 => K (m r1 r2 r3 r4 r5))
 | _, _ => none
noncomputable def a (a1 : List Int) (a2 : Int) (a3 : List (List Cl)) (a4 a5 : List Int) : St := argSt [.v ⟨true, [.tr 0 1 [.int .i64] (.ints a1), .int .i64 a2, .tr 0 1 [.int .i64, .int .i64, .bool] (.cells a3)]⟩, .v ⟨true, [.tr 0 1 [.int .i64] (.ints a4), .tr 0 1 [.int .i64] (.ints a5)]⟩] [] []
noncomputable def con : FuncId × St × (List Lf → (Res → Option Res) → Option Res) := (33, a [] 0 [] [] [], run)
theorem cx (K : Res → Option Res) : CtxOk Go.Proofs.Try.prog Γ0 byt0 eqs0 (X K) os := ⟨rfl, rfl, rfl, (fun p hp => by
 rcases List.mem_cons.1 hp with rfl | hp
 ·exact spec_HeapOk.ok
 rcases List.mem_cons.1 hp with rfl | hp
 ·exact spec_ArrayOk.ok
 rcases List.mem_cons.1 hp with rfl | hp
 ·exact spec_l13Copy.ok
 rcases List.mem_cons.1 hp with rfl | hp
 ·exact spec_l13Put.ok
 cases hp), rfl, rfl, rfl, rfl⟩
theorem tie (K : Res → Option Res) (a1 : List Int) (a2 : Int) (a3 : List (List Cl)) (a4 a5 : List Int) : exec (X K) c (entry 33 [.v ⟨true, [.tr 0 1 [.int .i64] (.ints a1), .int .i64 a2, .tr 0 1 [.int .i64, .int .i64, .bool] (.cells a3)]⟩, .v ⟨true, [.tr 0 1 [.int .i64] (.ints a4), .tr 0 1 [.int .i64] (.ints a5)]⟩] [] []) (endK (X K)) = g a1 a2 a3 a4 a5 (fun r1 r2 r3 r4 r5 => K (m r1 r2 r3 r4 r5)) := Eq.trans (b := b a1 a2 a3 a4 a5 (fun r1 r2 r3 r4 r5 => K (m r1 r2 r3 r4 r5))) (by kernel_rfl) (by rw [e])
theorem runv {l : List Lf} {K : Res → Option Res} {r : Res} (h : run l K = some r) : ∃ a1 a2 a3 a4 a5, l = [.q (.ints a1), .i a2, .q (.cells a3), .q (.ints a4), .q (.ints a5)] ∧ g a1 a2 a3 a4 a5 (fun r1 r2 r3 r4 r5 => K (m r1 r2 r3 r4 r5)) = some r := by
 unfold run at h; split at h
 ·exact ⟨_, _, _, _, _, rfl, h⟩
 ·cases h
theorem ok : Con Go.Proofs.Try.prog con := con_of (fn := Go.Proofs.Try.f33) (c := c) (Fi := fi) (X := X) (fun_of laid (by kernel_rfl) (by kernel_rfl) (by kernel_rfl) rfl (by kernel_rfl) (by kernel_rfl) cx (fun _ => rfl) (fun _ => rfl) (fun K => by
 rw [show loopsOf c = [] from by kernel_rfl]; intro p hp
 cases hp)) fun xs rows boxes K r hl hr => by
 obtain ⟨a1, a2, a3, a4, a5, e, h⟩ := runv hr
 have := St.like_eq (y := a a1 a2 a3 a4 a5) hl (by kernel_rfl) e
 obtain ⟨rfl, rfl, rfl⟩ := argSt_inj this
 exact (tie K a1 a2 a3 a4 a5).trans h
end spec_HeapPut
namespace spec_l1Max
noncomputable def c : Code := bodyOf Go.Proofs.Try.f165
noncomputable def fi : Fin := ⟨Γ0, [(.tmp 4, 3)], [[1]], [], [], []⟩
noncomputable def m (r1 : Int) : Res := ⟨[⟨false, [.int .i64 r1]⟩], [], [], [], []⟩
noncomputable def os : List (FuncId × St × (List Lf → (Res → Option Res) → Option Res)) := []
noncomputable def X (K : Res → Option Res) : Ctx := { Γ := Γ0, orc := orcOf os, io := [], share := [], mvl := [], bun := [], cut := [], own := [], cin := [], cout := [], lp := lpOf [], kl := [], nk := true, eqs := eqs0, byt := byt0, fin := finK fi K }
noncomputable def b (a1 a2 : Int) (R : Int → Option Res) : Option Res :=
 bif decide (a2 < a1) then R a1
 else R a2
theorem gx : ∃ x : Int → Int → (Int → Option Res) → Option Res, x = b := ⟨_, rfl⟩
noncomputable def g : Int → Int → (Int → Option Res) → Option Res := Classical.choose gx
theorem e : g = b := Classical.choose_spec gx
noncomputable def run : List Lf → (Res → Option Res) → Option Res
 | [.i a1, .i a2], K => g a1 a2 (fun r1 => K (m r1))
 | _, _ => none
noncomputable def a (a1 a2 : Int) : St := argSt [one (.int .i64 a1), one (.int .i64 a2)] [] []
noncomputable def con : FuncId × St × (List Lf → (Res → Option Res) → Option Res) := (165, a 0 0, run)
theorem cx (K : Res → Option Res) : CtxOk Go.Proofs.Try.prog Γ0 byt0 eqs0 (X K) os := ⟨rfl, rfl, rfl, (fun p hp => by
 cases hp), rfl, rfl, rfl, rfl⟩
theorem tie (K : Res → Option Res) (a1 a2 : Int) : exec (X K) c (entry 10 [one (.int .i64 a1), one (.int .i64 a2)] [] []) (endK (X K)) = g a1 a2 (fun r1 => K (m r1)) := Eq.trans (b := b a1 a2 (fun r1 => K (m r1))) (by kernel_rfl) (by rw [e])
theorem runv {l : List Lf} {K : Res → Option Res} {r : Res} (h : run l K = some r) : ∃ a1 a2, l = [.i a1, .i a2] ∧ g a1 a2 (fun r1 => K (m r1)) = some r := by
 unfold run at h; split at h
 ·exact ⟨_, _, rfl, h⟩
 ·cases h
theorem ok : Con Go.Proofs.Try.prog con := con_of (fn := Go.Proofs.Try.f165) (c := c) (Fi := fi) (X := X) (fun_of laid (by kernel_rfl) (by kernel_rfl) (by kernel_rfl) rfl (by kernel_rfl) (by kernel_rfl) cx (fun _ => rfl) (fun _ => rfl) (fun K => by
 rw [show loopsOf c = [] from by kernel_rfl]; intro p hp
 cases hp)) fun xs rows boxes K r hl hr => by
 obtain ⟨a1, a2, e, h⟩ := runv hr
 have := St.like_eq (y := a a1 a2) hl (by kernel_rfl) e
 obtain ⟨rfl, rfl, rfl⟩ := argSt_inj this
 exact (tie K a1 a2).trans h
end spec_l1Max
namespace spec_l13Live
noncomputable def c : Code := bodyOf Go.Proofs.Try.f66
noncomputable def fi : Fin := ⟨Γ0, [(.tmp 4, 4)], [[1]], [], [], []⟩
noncomputable def m (r1 : Bool) : Res := ⟨[⟨false, [.bool r1]⟩], [], [], [], []⟩
noncomputable def os : List (FuncId × St × (List Lf → (Res → Option Res) → Option Res)) := [spec_l1In.con]
noncomputable def X (K : Res → Option Res) : Ctx := { Γ := Γ0, orc := orcOf os, io := [], share := [], mvl := [], bun := [], cut := [], own := [], cin := [], cout := [], lp := lpOf [], kl := [], nk := true, eqs := eqs0, byt := byt0, fin := finK fi K }
noncomputable def b (a1 : List Int) (a2 : Int) (a3 : List (List Cl)) (a4 : Int) (R : Bool → Option Res) : Option Res :=
 spec_l1In.g a4 0 (IntKind.i64.wrap ((a3.length : Int) - 1)) fun r5 =>
 bif r5 then (bif decide (0 ≤ a4) && decide (a4 < (a3.length : Int)) then R (((a3.getD a4.toNat []).getD 2 (.i 0)).toB)
  else none)
 else R false
theorem gx : ∃ x : List Int → Int → List (List Cl) → Int → (Bool → Option Res) → Option Res, x = b := ⟨_, rfl⟩
noncomputable def g : List Int → Int → List (List Cl) → Int → (Bool → Option Res) → Option Res := Classical.choose gx
theorem e : g = b := Classical.choose_spec gx
noncomputable def run : List Lf → (Res → Option Res) → Option Res
 | [.q (.ints a1), .i a2, .q (.cells a3), .i a4], K => g a1 a2 a3 a4 (fun r1 => K (m r1))
 | _, _ => none
noncomputable def a (a1 : List Int) (a2 : Int) (a3 : List (List Cl)) (a4 : Int) : St := argSt [.v ⟨true, [.tr 0 1 [.int .i64] (.ints a1), .int .i64 a2, .tr 0 1 [.int .i64, .int .i64, .bool] (.cells a3)]⟩, one (.int .i64 a4)] [] []
noncomputable def con : FuncId × St × (List Lf → (Res → Option Res) → Option Res) := (66, a [] 0 [] 0, run)
theorem cx (K : Res → Option Res) : CtxOk Go.Proofs.Try.prog Γ0 byt0 eqs0 (X K) os := ⟨rfl, rfl, rfl, (fun p hp => by
 rcases List.mem_cons.1 hp with rfl | hp
 ·exact spec_l1In.ok
 cases hp), rfl, rfl, rfl, rfl⟩
theorem tie (K : Res → Option Res) (a1 : List Int) (a2 : Int) (a3 : List (List Cl)) (a4 : Int) : exec (X K) c (entry 19 [.v ⟨true, [.tr 0 1 [.int .i64] (.ints a1), .int .i64 a2, .tr 0 1 [.int .i64, .int .i64, .bool] (.cells a3)]⟩, one (.int .i64 a4)] [] []) (endK (X K)) = g a1 a2 a3 a4 (fun r1 => K (m r1)) := Eq.trans (b := b a1 a2 a3 a4 (fun r1 => K (m r1))) (by kernel_rfl) (by rw [e])
theorem runv {l : List Lf} {K : Res → Option Res} {r : Res} (h : run l K = some r) : ∃ a1 a2 a3 a4, l = [.q (.ints a1), .i a2, .q (.cells a3), .i a4] ∧ g a1 a2 a3 a4 (fun r1 => K (m r1)) = some r := by
 unfold run at h; split at h
 ·exact ⟨_, _, _, _, rfl, h⟩
 ·cases h
theorem ok : Con Go.Proofs.Try.prog con := con_of (fn := Go.Proofs.Try.f66) (c := c) (Fi := fi) (X := X) (fun_of laid (by kernel_rfl) (by kernel_rfl) (by kernel_rfl) rfl (by kernel_rfl) (by kernel_rfl) cx (fun _ => rfl) (fun _ => rfl) (fun K => by
 rw [show loopsOf c = [] from by kernel_rfl]; intro p hp
 cases hp)) fun xs rows boxes K r hl hr => by
 obtain ⟨a1, a2, a3, a4, e, h⟩ := runv hr
 have := St.like_eq (y := a a1 a2 a3 a4) hl (by kernel_rfl) e
 obtain ⟨rfl, rfl, rfl⟩ := argSt_inj this
 exact (tie K a1 a2 a3 a4).trans h
end spec_l13Live
namespace spec_l13Drop
noncomputable def c : Code := bodyOf Go.Proofs.Try.f186
noncomputable def fi : Fin := ⟨Γ0, [(.cell 4 38, 38)], [[2, 1, 2]], [true, true], [], []⟩
noncomputable def m (a1 : Int) (a3 : List Int) (r3 : List (List Cl)) : Res := ⟨[⟨true, [.ow 0, .int .i64 a1, .ow 1]⟩], [some ⟨[.int .i64], .ints a3, true, 0⟩, some ⟨[.int .i64, .int .i64, .bool], .cells r3, true, 0⟩], [], [], []⟩
noncomputable def os : List (FuncId × St × (List Lf → (Res → Option Res) → Option Res)) := []
noncomputable def X (K : Res → Option Res) : Ctx := { Γ := Γ0, orc := orcOf os, io := [], share := [], mvl := [], bun := [], cut := [], own := [], cin := [], cout := [], lp := lpOf [], kl := [], nk := true, eqs := eqs0, byt := byt0, fin := finK fi K }
noncomputable def b (a1 a2 : Int) (a3 : List Int) (a4 : List (List Cl)) (R : List (List Cl) → Option Res) : Option Res :=
 bif decide (0 ≤ a2) && decide (a2 < (a4.length : Int)) then R (a4.set a2.toNat [.i 0, .i 0, .b false])
 else none
theorem gx : ∃ x : Int → Int → List Int → List (List Cl) → (List (List Cl) → Option Res) → Option Res, x = b := ⟨_, rfl⟩
noncomputable def g : Int → Int → List Int → List (List Cl) → (List (List Cl) → Option Res) → Option Res := Classical.choose gx
theorem e : g = b := Classical.choose_spec gx
noncomputable def run : List Lf → (Res → Option Res) → Option Res
 | [.i a1, .i a2, .q (.ints a3), .q (.cells a4)], K => g a1 a2 a3 a4 (fun r3 => K (m a1 a3 r3))
 | _, _ => none
noncomputable def a (a1 a2 : Int) (a3 : List Int) (a4 : List (List Cl)) : St := argSt [.v ⟨true, [.ow 0, .int .i64 a1, .ow 1]⟩, one (.int .i64 a2)] [⟨[.int .i64], .ints a3, true, 0⟩, ⟨[.int .i64, .int .i64, .bool], .cells a4, true, 0⟩] []
noncomputable def con : FuncId × St × (List Lf → (Res → Option Res) → Option Res) := (186, a 0 0 [] [], run)
theorem cx (K : Res → Option Res) : CtxOk Go.Proofs.Try.prog Γ0 byt0 eqs0 (X K) os := ⟨rfl, rfl, rfl, (fun p hp => by
 cases hp), rfl, rfl, rfl, rfl⟩
theorem tie (K : Res → Option Res) (a1 a2 : Int) (a3 : List Int) (a4 : List (List Cl)) : exec (X K) c (entry 11 [.v ⟨true, [.ow 0, .int .i64 a1, .ow 1]⟩, one (.int .i64 a2)] [⟨[.int .i64], .ints a3, true, 0⟩, ⟨[.int .i64, .int .i64, .bool], .cells a4, true, 0⟩] []) (endK (X K)) = g a1 a2 a3 a4 (fun r3 => K (m a1 a3 r3)) := Eq.trans (b := b a1 a2 a3 a4 (fun r3 => K (m a1 a3 r3))) (by kernel_rfl) (by rw [e])
theorem runv {l : List Lf} {K : Res → Option Res} {r : Res} (h : run l K = some r) : ∃ a1 a2 a3 a4, l = [.i a1, .i a2, .q (.ints a3), .q (.cells a4)] ∧ g a1 a2 a3 a4 (fun r3 => K (m a1 a3 r3)) = some r := by
 unfold run at h; split at h
 ·exact ⟨_, _, _, _, rfl, h⟩
 ·cases h
theorem ok : Con Go.Proofs.Try.prog con := con_of (fn := Go.Proofs.Try.f186) (c := c) (Fi := fi) (X := X) (fun_of laid (by kernel_rfl) (by kernel_rfl) (by kernel_rfl) rfl (by kernel_rfl) (by kernel_rfl) cx (fun _ => rfl) (fun _ => rfl) (fun K => by
 rw [show loopsOf c = [] from by kernel_rfl]; intro p hp
 cases hp)) fun xs rows boxes K r hl hr => by
 obtain ⟨a1, a2, a3, a4, e, h⟩ := runv hr
 have := St.like_eq (y := a a1 a2 a3 a4) hl (by kernel_rfl) e
 obtain ⟨rfl, rfl, rfl⟩ := argSt_inj this
 exact (tie K a1 a2 a3 a4).trans h
end spec_l13Drop
namespace spec_HeapDrop
noncomputable def c : Code := bodyOf Go.Proofs.Try.f164
noncomputable def fi : Fin := ⟨Γ0, [(.cell 4 38, 38), (.tmp 5, 4)], [[1, 1, 1], [1]], [], [], []⟩
noncomputable def m (r1 : List Int) (r2 : Int) (r3 : List (List Cl)) (r4 : Bool) : Res := ⟨[⟨true, [.ow 1000, .int .i64 r2, .ow 1001]⟩, ⟨false, [.bool r4]⟩], [], [⟨[.int .i64], .ints r1, true, 0⟩, ⟨[.int .i64, .int .i64, .bool], .cells r3, true, 0⟩], [], []⟩
noncomputable def os : List (FuncId × St × (List Lf → (Res → Option Res) → Option Res)) := [spec_HeapOk.con, spec_l13Live.con, spec_l13Copy.con, spec_l13Drop.con]
noncomputable def X (K : Res → Option Res) : Ctx := { Γ := Γ0, orc := orcOf os, io := [(186, [⟨true, 0, 1⟩, ⟨false, 0, 1⟩])], share := [], mvl := [], bun := [], cut := [], own := [], cin := [], cout := [], lp := lpOf [], kl := [], nk := true, eqs := eqs0, byt := byt0, fin := finK fi K }
noncomputable def b (a1 : List Int) (a2 : Int) (a3 : List (List Cl)) (a4 : Int) (R : List Int → Int → List (List Cl) → Bool → Option Res) : Option Res :=
 spec_HeapOk.g a1 a2 a3 fun r5 =>
 bif !r5 then R ([] : List Int) 0 ([] : List (List Cl)) false
 else (spec_l13Live.g a1 a2 a3 a4 fun r6 =>
 bif !r6 then (spec_l13Copy.g a1 a2 a3 fun r7 r8 =>
  R r7 a2 r8 false)
 else (spec_l13Copy.g a1 a2 a3 fun r9 r10 =>
 spec_l13Drop.g a2 a4 r9 r10 fun r11 =>
 R r9 a2 r11 true))
theorem gx : ∃ x : List Int → Int → List (List Cl) → Int → (List Int → Int → List (List Cl) → Bool → Option Res) → Option Res, x = b := ⟨_, rfl⟩
noncomputable def g : List Int → Int → List (List Cl) → Int → (List Int → Int → List (List Cl) → Bool → Option Res) → Option Res := Classical.choose gx
theorem e : g = b := Classical.choose_spec gx
noncomputable def run : List Lf → (Res → Option Res) → Option Res
 | [.q (.ints a1), .i a2, .q (.cells a3), .i a4], K => g a1 a2 a3 a4 (fun r1 r2 r3 r4 => K (m r1 r2 r3 r4))
 | _, _ => none
noncomputable def a (a1 : List Int) (a2 : Int) (a3 : List (List Cl)) (a4 : Int) : St := argSt [.v ⟨true, [.tr 0 1 [.int .i64] (.ints a1), .int .i64 a2, .tr 0 1 [.int .i64, .int .i64, .bool] (.cells a3)]⟩, one (.int .i64 a4)] [] []
noncomputable def con : FuncId × St × (List Lf → (Res → Option Res) → Option Res) := (164, a [] 0 [] 0, run)
theorem cx (K : Res → Option Res) : CtxOk Go.Proofs.Try.prog Γ0 byt0 eqs0 (X K) os := ⟨rfl, rfl, rfl, (fun p hp => by
 rcases List.mem_cons.1 hp with rfl | hp
 ·exact spec_HeapOk.ok
 rcases List.mem_cons.1 hp with rfl | hp
 ·exact spec_l13Live.ok
 rcases List.mem_cons.1 hp with rfl | hp
 ·exact spec_l13Copy.ok
 rcases List.mem_cons.1 hp with rfl | hp
 ·exact spec_l13Drop.ok
 cases hp), rfl, rfl, rfl, rfl⟩
theorem tie (K : Res → Option Res) (a1 : List Int) (a2 : Int) (a3 : List (List Cl)) (a4 : Int) : exec (X K) c (entry 20 [.v ⟨true, [.tr 0 1 [.int .i64] (.ints a1), .int .i64 a2, .tr 0 1 [.int .i64, .int .i64, .bool] (.cells a3)]⟩, one (.int .i64 a4)] [] []) (endK (X K)) = g a1 a2 a3 a4 (fun r1 r2 r3 r4 => K (m r1 r2 r3 r4)) := Eq.trans (b := b a1 a2 a3 a4 (fun r1 r2 r3 r4 => K (m r1 r2 r3 r4))) (by kernel_rfl) (by rw [e])
theorem runv {l : List Lf} {K : Res → Option Res} {r : Res} (h : run l K = some r) : ∃ a1 a2 a3 a4, l = [.q (.ints a1), .i a2, .q (.cells a3), .i a4] ∧ g a1 a2 a3 a4 (fun r1 r2 r3 r4 => K (m r1 r2 r3 r4)) = some r := by
 unfold run at h; split at h
 ·exact ⟨_, _, _, _, rfl, h⟩
 ·cases h
theorem ok : Con Go.Proofs.Try.prog con := con_of (fn := Go.Proofs.Try.f164) (c := c) (Fi := fi) (X := X) (fun_of laid (by kernel_rfl) (by kernel_rfl) (by kernel_rfl) rfl (by kernel_rfl) (by kernel_rfl) cx (fun _ => rfl) (fun _ => rfl) (fun K => by
 rw [show loopsOf c = [] from by kernel_rfl]; intro p hp
 cases hp)) fun xs rows boxes K r hl hr => by
 obtain ⟨a1, a2, a3, a4, e, h⟩ := runv hr
 have := St.like_eq (y := a a1 a2 a3 a4) hl (by kernel_rfl) e
 obtain ⟨rfl, rfl, rfl⟩ := argSt_inj this
 exact (tie K a1 a2 a3 a4).trans h
end spec_HeapDrop
namespace spec_HeapPack
noncomputable def c : Code := bodyOf Go.Proofs.Try.f18
noncomputable def fi : Fin := ⟨Γ0, [(.cell 2 38, 38), (.tmp 3, 4)], [[1, 1, 1], [1]], [], [], []⟩
noncomputable def m (r1 : List Int) (r2 : Int) (r3 : List (List Cl)) (r4 : Bool) : Res := ⟨[⟨true, [.ow 1000, .int .i64 r2, .ow 1001]⟩, ⟨false, [.bool r4]⟩], [], [⟨[.int .i64], .ints r1, true, 0⟩, ⟨[.int .i64, .int .i64, .bool], .cells r3, true, 0⟩], [], []⟩
noncomputable def os : List (FuncId × St × (List Lf → (Res → Option Res) → Option Res)) := [spec_HeapOk.con, spec_l13Pack.con]
noncomputable def X (K : Res → Option Res) : Ctx := { Γ := Γ0, orc := orcOf os, io := [], share := [], mvl := [], bun := [], cut := [], own := [], cin := [], cout := [], lp := lpOf [], kl := [], nk := true, eqs := eqs0, byt := byt0, fin := finK fi K }
noncomputable def b (a1 : List Int) (a2 : Int) (a3 : List (List Cl)) (R : List Int → Int → List (List Cl) → Bool → Option Res) : Option Res :=
 spec_HeapOk.g a1 a2 a3 fun r4 =>
 bif !r4 then R ([] : List Int) 0 ([] : List (List Cl)) false
 else (spec_l13Pack.g a1 a2 a3 fun r5 r6 r7 =>
 R r5 r6 r7 true)
theorem gx : ∃ x : List Int → Int → List (List Cl) → (List Int → Int → List (List Cl) → Bool → Option Res) → Option Res, x = b := ⟨_, rfl⟩
noncomputable def g : List Int → Int → List (List Cl) → (List Int → Int → List (List Cl) → Bool → Option Res) → Option Res := Classical.choose gx
theorem e : g = b := Classical.choose_spec gx
noncomputable def run : List Lf → (Res → Option Res) → Option Res
 | [.q (.ints a1), .i a2, .q (.cells a3)], K => g a1 a2 a3 (fun r1 r2 r3 r4 => K (m r1 r2 r3 r4))
 | _, _ => none
noncomputable def a (a1 : List Int) (a2 : Int) (a3 : List (List Cl)) : St := argSt [.v ⟨true, [.tr 0 1 [.int .i64] (.ints a1), .int .i64 a2, .tr 0 1 [.int .i64, .int .i64, .bool] (.cells a3)]⟩] [] []
noncomputable def con : FuncId × St × (List Lf → (Res → Option Res) → Option Res) := (18, a [] 0 [], run)
theorem cx (K : Res → Option Res) : CtxOk Go.Proofs.Try.prog Γ0 byt0 eqs0 (X K) os := ⟨rfl, rfl, rfl, (fun p hp => by
 rcases List.mem_cons.1 hp with rfl | hp
 ·exact spec_HeapOk.ok
 rcases List.mem_cons.1 hp with rfl | hp
 ·exact spec_l13Pack.ok
 cases hp), rfl, rfl, rfl, rfl⟩
theorem tie (K : Res → Option Res) (a1 : List Int) (a2 : Int) (a3 : List (List Cl)) : exec (X K) c (entry 10 [.v ⟨true, [.tr 0 1 [.int .i64] (.ints a1), .int .i64 a2, .tr 0 1 [.int .i64, .int .i64, .bool] (.cells a3)]⟩] [] []) (endK (X K)) = g a1 a2 a3 (fun r1 r2 r3 r4 => K (m r1 r2 r3 r4)) := Eq.trans (b := b a1 a2 a3 (fun r1 r2 r3 r4 => K (m r1 r2 r3 r4))) (by kernel_rfl) (by rw [e])
theorem runv {l : List Lf} {K : Res → Option Res} {r : Res} (h : run l K = some r) : ∃ a1 a2 a3, l = [.q (.ints a1), .i a2, .q (.cells a3)] ∧ g a1 a2 a3 (fun r1 r2 r3 r4 => K (m r1 r2 r3 r4)) = some r := by
 unfold run at h; split at h
 ·exact ⟨_, _, _, rfl, h⟩
 ·cases h
theorem ok : Con Go.Proofs.Try.prog con := con_of (fn := Go.Proofs.Try.f18) (c := c) (Fi := fi) (X := X) (fun_of laid (by kernel_rfl) (by kernel_rfl) (by kernel_rfl) rfl (by kernel_rfl) (by kernel_rfl) cx (fun _ => rfl) (fun _ => rfl) (fun K => by
 rw [show loopsOf c = [] from by kernel_rfl]; intro p hp
 cases hp)) fun xs rows boxes K r hl hr => by
 obtain ⟨a1, a2, a3, e, h⟩ := runv hr
 have := St.like_eq (y := a a1 a2 a3) hl (by kernel_rfl) e
 obtain ⟨rfl, rfl, rfl⟩ := argSt_inj this
 exact (tie K a1 a2 a3).trans h
end spec_HeapPack
namespace spec_l13DrawRight
noncomputable def c : Code := bodyOf Go.Proofs.Try.f112
noncomputable def fi : Fin := ⟨Γ0, [(.cell 2 38, 38)], [[1, 1, 1]], [], [([.sl [.int .u8] 1, .int .i64, .int .i64], [0, 1, 1])], []⟩
noncomputable def m (r1 : List Int) (r2 : Int) (r3 : List (List Cl)) (r4 : List Int) (r5 r6 : Int) : Res := ⟨[⟨true, [.ow 1000, .int .i64 r2, .ow 1001]⟩], [], [⟨[.int .i64], .ints r1, true, 0⟩, ⟨[.int .i64, .int .i64, .bool], .cells r3, true, 0⟩], [[.tr 2 2 [.int .u8] (.ints r4), .int .i64 r5, .int .i64 r6]], []⟩
noncomputable def b0 : Code := codeAt c [1, 1, 0, 1, 0, 0]
noncomputable def s0 (x11 : Int) (x12 : List Int) (x13 : List (List Cl)) (x14 : List Int) (x15 x16 x17 x18 : Int) : St := ⟨mkT 57 [(0, one (.bp 0 0)), (2, one (.bp 1000 0)), (3, one (.bp 3160 0)), (5, one (.int .i64 x11))], [(3097, ⟨[.int .i64], .ints x12, true, 0⟩), (3098, ⟨[.int .i64, .int .i64, .bool], .cells x13, true, 0⟩)], [(0, [.tr 2 2 [.int .u8] (.ints x14), .int .i64 x15, .int .i64 x16]), (1000, [.nil, .int .i64 x17, .nil]), (3160, [.ow 3097, .int .i64 x18, .ow 3098])]⟩
noncomputable def l0s (x17 : Int) (rec : Int → List Int → List (List Cl) → List Int → Int → Int → Int → Option Res) (k : List Int → List (List Cl) → Int → List Int → Int → Int → Option Res) (x11 : Int) (x12 : List Int) (x13 : List (List Cl)) (x14 : List Int) (x15 x16 x18 : Int) : Option Res :=
 spec_l1Below.g 14 x14 x15 x16 fun r19 r20 r21 =>
 bif decide (x11 < r19) then (spec_l3DrawRight.g x14 r20 r21 fun r22 r23 r24 r25 r26 =>
  spec_HeapPut.g x12 x18 x13 r22 r23 fun r27 r28 r29 r30 r31 =>
  spec_l1Below.g 4 r24 r25 r26 fun r32 r33 r34 =>
  bif (r32 == 0) then (spec_l1Max.g (x13.length : Int) 1 fun r35 =>
   spec_l1Below.g r35 r24 r33 r34 fun r36 r37 r38 =>
   spec_HeapDrop.g x12 x18 x13 r36 fun r39 r40 r41 r42 =>
   bif r42 then rec (IntKind.i64.wrap (x11 + 1)) r39 r41 r24 r37 r38 r40
   else rec (IntKind.i64.wrap (x11 + 1)) x12 x13 r24 r37 r38 x18)
  else bif (r32 == 1) then (spec_l1Once.g 4 r24 r33 r34 fun r43 r44 r45 =>
   bif r43 then (spec_HeapPack.g x12 x18 x13 fun r46 r47 r48 r49 =>
    bif r49 then rec (IntKind.i64.wrap (x11 + 1)) r46 r48 r24 r44 r45 r47
    else rec (IntKind.i64.wrap (x11 + 1)) x12 x13 r24 r44 r45 x18)
   else bif r31 then rec (IntKind.i64.wrap (x11 + 1)) r27 r29 r24 r44 r45 r28
   else rec (IntKind.i64.wrap (x11 + 1)) x12 x13 r24 r44 r45 x18)
  else bif r31 then rec (IntKind.i64.wrap (x11 + 1)) r27 r29 r24 r33 r34 r28
  else rec (IntKind.i64.wrap (x11 + 1)) x12 x13 r24 r33 r34 x18)
 else k x12 x13 x18 x14 r20 r21
noncomputable def l0 (x17 : Int) (k : List Int → List (List Cl) → Int → List Int → Int → Int → Option Res) : Nat → Int → List Int → List (List Cl) → List Int → Int → Int → Int → Option Res
 | 0, _, _, _, _, _, _, _ => none
 | n + 1, x11, x12, x13, x14, x15, x16, x18 => l0s x17 (fun x11 x12 x13 x14 x15 x16 x18 => l0 x17 k n x11 x12 x13 x14 x15 x16 x18) k x11 x12 x13 x14 x15 x16 x18
noncomputable def o0 (x17 : Int) (y1 : List Int) (y2 : List (List Cl)) (y4 : Int) (y5 : List Int) (y6 y7 : Int) : St := ⟨mkT 57 [(2, one (.bp 1000 0)), (3, one (.bp 3160 0))], [(3097, ⟨[.int .i64], .ints y1, true, 0⟩), (3098, ⟨[.int .i64, .int .i64, .bool], .cells y2, true, 0⟩)], [(1000, [.nil, .int .i64 x17, .nil]), (3160, [.ow 3097, .int .i64 y4, .ow 3098]), (0, [.tr 2 2 [.int .u8] (.ints y5), .int .i64 y6, .int .i64 y7])]⟩
noncomputable def p0 (K : Res → Option Res) : List Lf → (St → Option Res) → Option Res
 | [.i x11, .q (.ints x12), .q (.cells x13), .q (.ints x14), .i x15, .i x16, .i x17, .i x18], k => l0 x17 (fun y1 y2 y4 y5 y6 y7 => k (o0 x17 y1 y2 y4 y5 y6 y7)) fuel x11 x12 x13 x14 x15 x16 x18
 | _, _ => none
noncomputable def os : List (FuncId × St × (List Lf → (Res → Option Res) → Option Res)) := [spec_l1PickInt.con, spec_HeapNew.con, spec_l1Below.con, spec_l3DrawRight.con, spec_HeapPut.con, spec_l1Max.con, spec_HeapDrop.con, spec_l1Once.con, spec_HeapPack.con]
noncomputable def X (K : Res → Option Res) : Ctx := { Γ := Γ0, orc := orcOf os, io := [], share := [], mvl := [], bun := [], cut := [], own := [], cin := [(0, ⟨[0, 2, 3, 5], [(3097, 3097), (17497, 3097), (23545, 3097), (11289, 3097), (3098, 3098), (17498, 3098), (23546, 3098), (11290, 3098)], [0, 1000, 3160], [], [], []⟩)], cout := [(0, ⟨[2, 3], [(3097, 3097), (3098, 3098)], [1000, 3160, 0], [], [], []⟩)], lp := lpOf [(0, s0 0 [] [] [] 0 0 0 0, p0 K)], kl := [], nk := true, eqs := eqs0, byt := byt0, fin := finK fi K }
noncomputable def b (a1 : List Int) (a2 a3 : Int) (R : List Int → Int → List (List Cl) → List Int → Int → Int → Option Res) : Option Res :=
 spec_l1PickInt.g ([10, 30, 60, 100] : List Int) a1 a2 a3 fun r4 r5 r6 =>
 spec_HeapNew.g r4 fun r7 r8 r9 r10 =>
 l0 0 (fun y50 y51 y52 y53 y54 y55 =>
 R y50 y52 y51 y53 y54 y55) fuel 0 r7 r9 a1 r5 r6 r8
theorem gx : ∃ x : List Int → Int → Int → (List Int → Int → List (List Cl) → List Int → Int → Int → Option Res) → Option Res, x = b := ⟨_, rfl⟩
noncomputable def g : List Int → Int → Int → (List Int → Int → List (List Cl) → List Int → Int → Int → Option Res) → Option Res := Classical.choose gx
theorem e : g = b := Classical.choose_spec gx
noncomputable def run : List Lf → (Res → Option Res) → Option Res
 | [.q (.ints a1), .i a2, .i a3], K => g a1 a2 a3 (fun r1 r2 r3 r4 r5 r6 => K (m r1 r2 r3 r4 r5 r6))
 | _, _ => none
noncomputable def a (a1 : List Int) (a2 a3 : Int) : St := argSt [one (.bp 0 0)] [] [[.tr 2 2 [.int .u8] (.ints a1), .int .i64 a2, .int .i64 a3]]
noncomputable def con : FuncId × St × (List Lf → (Res → Option Res) → Option Res) := (112, a [] 0 0, run)
theorem cx (K : Res → Option Res) : CtxOk Go.Proofs.Try.prog Γ0 byt0 eqs0 (X K) os := ⟨rfl, rfl, rfl, (fun p hp => by
 rcases List.mem_cons.1 hp with rfl | hp
 ·exact spec_l1PickInt.ok
 rcases List.mem_cons.1 hp with rfl | hp
 ·exact spec_HeapNew.ok
 rcases List.mem_cons.1 hp with rfl | hp
 ·exact spec_l1Below.ok
 rcases List.mem_cons.1 hp with rfl | hp
 ·exact spec_l3DrawRight.ok
 rcases List.mem_cons.1 hp with rfl | hp
 ·exact spec_HeapPut.ok
 rcases List.mem_cons.1 hp with rfl | hp
 ·exact spec_l1Max.ok
 rcases List.mem_cons.1 hp with rfl | hp
 ·exact spec_HeapDrop.ok
 rcases List.mem_cons.1 hp with rfl | hp
 ·exact spec_l1Once.ok
 rcases List.mem_cons.1 hp with rfl | hp
 ·exact spec_HeapPack.ok
 cases hp), rfl, rfl, rfl, rfl⟩
theorem t0 (K : Res → Option Res) (k : St → Option Res) (it : St → (St → Option Res) → Option Res) (x11 : Int) (x12 : List Int) (x13 : List (List Cl)) (x14 : List Int) (x15 x16 x17 x18 : Int) : iterS (X K) 0 b0 it (s0 x11 x12 x13 x14 x15 x16 x17 x18) k = l0s x17 (fun x11 x12 x13 x14 x15 x16 x18 => it (s0 x11 x12 x13 x14 x15 x16 x17 x18) k) (fun y1 y2 y4 y5 y6 y7 => k (o0 x17 y1 y2 y4 y5 y6 y7)) x11 x12 x13 x14 x15 x16 x18 := by kernel_rfl
theorem i0 (K : Res → Option Res) (k : St → Option Res) (x17 : Int) : ∀ (n : Nat) (x11 : Int) (x12 : List Int) (x13 : List (List Cl)) (x14 : List Int) (x15 x16 x18 : Int), iter (X K) 0 b0 n (s0 x11 x12 x13 x14 x15 x16 x17 x18) k = l0 x17 (fun y1 y2 y4 y5 y6 y7 => k (o0 x17 y1 y2 y4 y5 y6 y7)) n x11 x12 x13 x14 x15 x16 x18
 | 0, _, _, _, _, _, _, _ => rfl
 | n + 1, x11, x12, x13, x14, x15, x16, x18 => by
  rw [iter_succ, t0, show (fun x11 x12 x13 x14 x15 x16 x18 => iter (X K) 0 b0 n (s0 x11 x12 x13 x14 x15 x16 x17 x18) k) = (fun x11 x12 x13 x14 x15 x16 x18 => l0 x17 (fun y1 y2 y4 y5 y6 y7 => k (o0 x17 y1 y2 y4 y5 y6 y7)) n x11 x12 x13 x14 x15 x16 x18) from funext fun x11 => funext fun x12 => funext fun x13 => funext fun x14 => funext fun x15 => funext fun x16 => funext fun x18 => i0 K k x17 n x11 x12 x13 x14 x15 x16 x18]; rfl
theorem v0 {K : Res → Option Res} {l : List Lf} {k : St → Option Res} {r : Res} (h : p0 K l k = some r) : ∃ x11 x12 x13 x14 x15 x16 x17 x18, l = [.i x11, .q (.ints x12), .q (.cells x13), .q (.ints x14), .i x15, .i x16, .i x17, .i x18] ∧ l0 x17 (fun y1 y2 y4 y5 y6 y7 => k (o0 x17 y1 y2 y4 y5 y6 y7)) fuel x11 x12 x13 x14 x15 x16 x18 = some r := by
 unfold p0 at h; split at h
 ·exact ⟨_, _, _, _, _, _, _, _, rfl, h⟩
 ·cases h
theorem w0 (K : Res → Option Res) : LpSound Go.Proofs.Try.prog (X K) 0 b0 := lp_ok ((cx K).ok laid) (by rw [show loopsOf b0 = [] from by kernel_rfl]; intro p hp; cases hp) rfl fun p hp hid => by
 rcases List.mem_cons.1 hp with rfl | hp
 ·intro st k r h1 h2; obtain ⟨x11, x12, x13, x14, x15, x16, x17, x18, e, h⟩ := v0 (K := K) h2; have := St.like_eq (y := s0 x11 x12 x13 x14 x15 x16 x17 x18) h1 (by kernel_rfl) e; subst this; exact ⟨fuel, (i0 K k x17 fuel x11 x12 x13 x14 x15 x16 x18).trans h⟩
 cases hp
theorem tie (K : Res → Option Res) (a1 : List Int) (a2 a3 : Int) : exec (X K) c (entry 57 [one (.bp 0 0)] [] [[.tr 2 2 [.int .u8] (.ints a1), .int .i64 a2, .int .i64 a3]]) (endK (X K)) = g a1 a2 a3 (fun r1 r2 r3 r4 r5 r6 => K (m r1 r2 r3 r4 r5 r6)) := Eq.trans (b := b a1 a2 a3 (fun r1 r2 r3 r4 r5 r6 => K (m r1 r2 r3 r4 r5 r6))) (by kernel_rfl) (by rw [e])
theorem runv {l : List Lf} {K : Res → Option Res} {r : Res} (h : run l K = some r) : ∃ a1 a2 a3, l = [.q (.ints a1), .i a2, .i a3] ∧ g a1 a2 a3 (fun r1 r2 r3 r4 r5 r6 => K (m r1 r2 r3 r4 r5 r6)) = some r := by
 unfold run at h; split at h
 ·exact ⟨_, _, _, rfl, h⟩
 ·cases h
theorem ok : Con Go.Proofs.Try.prog con := con_of (fn := Go.Proofs.Try.f112) (c := c) (Fi := fi) (X := X) (fun_of laid (by kernel_rfl) (by kernel_rfl) (by kernel_rfl) rfl (by kernel_rfl) (by kernel_rfl) cx (fun _ => rfl) (fun _ => rfl) (fun K => by
 rw [show loopsOf c = [(0, b0)] from by kernel_rfl]; intro p hp
 rcases List.mem_cons.1 hp with rfl | hp
 ·exact w0 K
 cases hp)) fun xs rows boxes K r hl hr => by
 obtain ⟨a1, a2, a3, e, h⟩ := runv hr
 have := St.like_eq (y := a a1 a2 a3) hl (by kernel_rfl) e
 obtain ⟨rfl, rfl, rfl⟩ := argSt_inj this
 exact (tie K a1 a2 a3).trans h
end spec_l13DrawRight
namespace spec_l13Draw
noncomputable def c : Code := bodyOf Go.Proofs.Try.f62
noncomputable def fi : Fin := ⟨Γ0, [(.cell 2 38, 38)], [[1, 1, 1]], [], [([.sl [.int .u8] 1, .int .i64, .int .i64], [0, 1, 1])], []⟩
noncomputable def m (r1 : List Int) (r2 : Int) (r3 : List (List Cl)) (r4 : List Int) (r5 r6 : Int) : Res := ⟨[⟨true, [.ow 1000, .int .i64 r2, .ow 1001]⟩], [], [⟨[.int .i64], .ints r1, true, 0⟩, ⟨[.int .i64, .int .i64, .bool], .cells r3, true, 0⟩], [[.tr 2 2 [.int .u8] (.ints r4), .int .i64 r5, .int .i64 r6]], []⟩
noncomputable def os : List (FuncId × St × (List Lf → (Res → Option Res) → Option Res)) := [spec_l13DrawRight.con, spec_l1Below.con, spec_l1Once.con]
noncomputable def X (K : Res → Option Res) : Ctx := { Γ := Γ0, orc := orcOf os, io := [], share := [], mvl := [], bun := [], cut := [], own := [], cin := [], cout := [], lp := lpOf [], kl := [], nk := true, eqs := eqs0, byt := byt0, fin := finK fi K }
noncomputable def b (a1 : List Int) (a2 a3 : Int) (R : List Int → Int → List (List Cl) → List Int → Int → Int → Option Res) : Option Res :=
 spec_l13DrawRight.g a1 a2 a3 fun r4 r5 r6 r7 r8 r9 =>
 spec_l1Below.g 25 r7 r8 r9 fun r10 r11 r12 =>
 bif (r10 == 0) then (spec_l1Below.g 120 r7 r11 r12 fun r13 r14 r15 =>
  R r4 (IntKind.i64.wrap (r13 - 2)) r6 r7 r14 r15)
 else bif (r10 == 1) then (spec_l1Below.g 20 r7 r11 r12 fun r16 r17 r18 =>
  spec_l1Below.g 9 r7 r17 r18 fun r19 r20 r21 =>
  spec_l1Once.g 2 r7 r20 r21 fun r22 r23 r24 =>
  bif decide ((r6.length + 1) * 24 ≤ 140737488355328) then R r4 r5 (r6 ++ ([[.i (IntKind.i64.wrap (r16 - 1)), .i (IntKind.i64.wrap (r19 - 1)), .b r22]] : List (List Cl))) r7 r23 r24
  else none)
 else bif (r10 == 2) then (bif decide (0 < r5) then (spec_l1Below.g r5 r7 r11 r12 fun r25 r26 r27 =>
  spec_l1Below.g 9 r7 r26 r27 fun r28 r29 r30 =>
  bif decide (0 ≤ r25) && decide (r25 < (r4.length : Int)) then R (r4.set r25.toNat (IntKind.i64.wrap (r28 - 2))) r5 r6 r7 r29 r30
  else none)
  else R r4 r5 r6 r7 r11 r12)
 else bif (r10 == 3) then (spec_l1Below.g 2 r7 r11 r12 fun r31 r32 r33 =>
  bif decide (IntKind.i64.wrap (200 + r31) = IntKind.i64.wrap (200 + r31)) && decide (0 ≤ IntKind.i64.wrap (200 + r31)) && decide (IntKind.i64.wrap (200 + r31) * 24 ≤ 140737488355328) then R r4 r5 (List.replicate ((IntKind.i64.wrap (200 + r31)).toNat) [.i 0, .i 0, .b false]) r7 r32 r33
  else none)
 else R r4 r5 r6 r7 r11 r12
theorem gx : ∃ x : List Int → Int → Int → (List Int → Int → List (List Cl) → List Int → Int → Int → Option Res) → Option Res, x = b := ⟨_, rfl⟩
noncomputable def g : List Int → Int → Int → (List Int → Int → List (List Cl) → List Int → Int → Int → Option Res) → Option Res := Classical.choose gx
theorem e : g = b := Classical.choose_spec gx
noncomputable def run : List Lf → (Res → Option Res) → Option Res
 | [.q (.ints a1), .i a2, .i a3], K => g a1 a2 a3 (fun r1 r2 r3 r4 r5 r6 => K (m r1 r2 r3 r4 r5 r6))
 | _, _ => none
noncomputable def a (a1 : List Int) (a2 a3 : Int) : St := argSt [one (.bp 0 0)] [] [[.tr 2 2 [.int .u8] (.ints a1), .int .i64 a2, .int .i64 a3]]
noncomputable def con : FuncId × St × (List Lf → (Res → Option Res) → Option Res) := (62, a [] 0 0, run)
theorem cx (K : Res → Option Res) : CtxOk Go.Proofs.Try.prog Γ0 byt0 eqs0 (X K) os := ⟨rfl, rfl, rfl, (fun p hp => by
 rcases List.mem_cons.1 hp with rfl | hp
 ·exact spec_l13DrawRight.ok
 rcases List.mem_cons.1 hp with rfl | hp
 ·exact spec_l1Below.ok
 rcases List.mem_cons.1 hp with rfl | hp
 ·exact spec_l1Once.ok
 cases hp), rfl, rfl, rfl, rfl⟩
theorem tie (K : Res → Option Res) (a1 : List Int) (a2 a3 : Int) : exec (X K) c (entry 53 [one (.bp 0 0)] [] [[.tr 2 2 [.int .u8] (.ints a1), .int .i64 a2, .int .i64 a3]]) (endK (X K)) = g a1 a2 a3 (fun r1 r2 r3 r4 r5 r6 => K (m r1 r2 r3 r4 r5 r6)) := Eq.trans (b := b a1 a2 a3 (fun r1 r2 r3 r4 r5 r6 => K (m r1 r2 r3 r4 r5 r6))) (by kernel_rfl) (by rw [e])
theorem runv {l : List Lf} {K : Res → Option Res} {r : Res} (h : run l K = some r) : ∃ a1 a2 a3, l = [.q (.ints a1), .i a2, .i a3] ∧ g a1 a2 a3 (fun r1 r2 r3 r4 r5 r6 => K (m r1 r2 r3 r4 r5 r6)) = some r := by
 unfold run at h; split at h
 ·exact ⟨_, _, _, rfl, h⟩
 ·cases h
theorem ok : Con Go.Proofs.Try.prog con := con_of (fn := Go.Proofs.Try.f62) (c := c) (Fi := fi) (X := X) (fun_of laid (by kernel_rfl) (by kernel_rfl) (by kernel_rfl) rfl (by kernel_rfl) (by kernel_rfl) cx (fun _ => rfl) (fun _ => rfl) (fun K => by
 rw [show loopsOf c = [] from by kernel_rfl]; intro p hp
 cases hp)) fun xs rows boxes K r hl hr => by
 obtain ⟨a1, a2, a3, e, h⟩ := runv hr
 have := St.like_eq (y := a a1 a2 a3) hl (by kernel_rfl) e
 obtain ⟨rfl, rfl, rfl⟩ := argSt_inj this
 exact (tie K a1 a2 a3).trans h
end spec_l13Draw
namespace impl_within
noncomputable def c : Code := bodyOf Go.Proofs.Try.f52
noncomputable def fi : Fin := ⟨Γ0, [(.tmp 6, 4)], [[1]], [], [], []⟩
noncomputable def m (r1 : Bool) : Res := ⟨[⟨false, [.bool r1]⟩], [], [], [], []⟩
noncomputable def os : List (FuncId × St × (List Lf → (Res → Option Res) → Option Res)) := []
noncomputable def X (K : Res → Option Res) : Ctx := { Γ := Γ0, orc := orcOf os, io := [], share := [], mvl := [], bun := [], cut := [], own := [], cin := [], cout := [], lp := lpOf [], kl := [], nk := true, eqs := eqs0, byt := byt0, fin := finK fi K }
noncomputable def b (a1 a2 a3 : Int) (R : Bool → Option Res) : Option Res :=
 bif decide (a2 ≤ a1) then R (decide (a1 ≤ a3))
 else R false
theorem gx : ∃ x : Int → Int → Int → (Bool → Option Res) → Option Res, x = b := ⟨_, rfl⟩
noncomputable def g : Int → Int → Int → (Bool → Option Res) → Option Res := Classical.choose gx
theorem e : g = b := Classical.choose_spec gx
noncomputable def run : List Lf → (Res → Option Res) → Option Res
 | [.i a1, .i a2, .i a3], K => g a1 a2 a3 (fun r1 => K (m r1))
 | _, _ => none
noncomputable def a (a1 a2 a3 : Int) : St := argSt [one (.int .i64 a1), one (.int .i64 a2), one (.int .i64 a3)] [] []
noncomputable def con : FuncId × St × (List Lf → (Res → Option Res) → Option Res) := (52, a 0 0 0, run)
theorem cx (K : Res → Option Res) : CtxOk Go.Proofs.Try.prog Γ0 byt0 eqs0 (X K) os := ⟨rfl, rfl, rfl, (fun p hp => by
 cases hp), rfl, rfl, rfl, rfl⟩
theorem tie (K : Res → Option Res) (a1 a2 a3 : Int) : exec (X K) c (entry 15 [one (.int .i64 a1), one (.int .i64 a2), one (.int .i64 a3)] [] []) (endK (X K)) = g a1 a2 a3 (fun r1 => K (m r1)) := Eq.trans (b := b a1 a2 a3 (fun r1 => K (m r1))) (by kernel_rfl) (by rw [e])
theorem runv {l : List Lf} {K : Res → Option Res} {r : Res} (h : run l K = some r) : ∃ a1 a2 a3, l = [.i a1, .i a2, .i a3] ∧ g a1 a2 a3 (fun r1 => K (m r1)) = some r := by
 unfold run at h; split at h
 ·exact ⟨_, _, _, rfl, h⟩
 ·cases h
theorem ok : Con Go.Proofs.Try.prog con := con_of (fn := Go.Proofs.Try.f52) (c := c) (Fi := fi) (X := X) (fun_of laid (by kernel_rfl) (by kernel_rfl) (by kernel_rfl) rfl (by kernel_rfl) (by kernel_rfl) cx (fun _ => rfl) (fun _ => rfl) (fun K => by
 rw [show loopsOf c = [] from by kernel_rfl]; intro p hp
 cases hp)) fun xs rows boxes K r hl hr => by
 obtain ⟨a1, a2, a3, e, h⟩ := runv hr
 have := St.like_eq (y := a a1 a2 a3) hl (by kernel_rfl) e
 obtain ⟨rfl, rfl, rfl⟩ := argSt_inj this
 exact (tie K a1 a2 a3).trans h
end impl_within
namespace impl_HeapOk
noncomputable def c : Code := bodyOf Go.Proofs.Try.f25
noncomputable def fi : Fin := ⟨Γ0, [(.tmp 2, 4)], [[1]], [], [], []⟩
noncomputable def m (r1 : Bool) : Res := ⟨[⟨false, [.bool r1]⟩], [], [], [], []⟩
noncomputable def b0 : Code := codeAt c [1, 1, 1, 0, 1, 0, 0]
noncomputable def b2 : Code := codeAt c [1, 1, 1, 0, 1, 0, 0, 1, 1, 0, 0, 1, 1, 1, 1, 0, 0]
noncomputable def s2 (x13 : Int) (x14 : List (List Cl)) (x15 x16 : Int) (x17 : List Bool) (x18 : List Int) (x19 : Int) (x20 : List (List Cl)) (x21 x22 : Int) (x23 : Bool) : St := ⟨mkT 83 [(1, one (.bp 1000 0)), (3, one (.ow 7176)), (5, one (.bp 13320 0)), (6, one (.int .i64 x13)), (30, one (.tr 0 1 [.int .i64, .int .i64, .bool] (.cells x14))), (31, one (.int .i64 x15)), (32, one (.int .i64 x16))], [(7176, ⟨[.bool], .bools x17, true, 0⟩)], [(1000, [.tr 0 1 [.int .i64] (.ints x18), .int .i64 x19, .tr 0 1 [.int .i64, .int .i64, .bool] (.cells x20)]), (13320, [.int .i64 x21, .int .i64 x22, .bool x23])]⟩
noncomputable def l2s (x14 : List (List Cl)) (x15 x16 : Int) (x18 : List Int) (x19 : Int) (x20 : List (List Cl)) (x21 x22 : Int) (x23 : Bool) (rec : Int → List Bool → Option Res) (k : List Bool → Option Res) (R : Bool → Option Res) (x13 : Int) (x17 : List Bool) : Option Res :=
 bif decide (x13 < IntKind.i64.wrap (x21 + x22)) then (bif decide (0 ≤ x13) && decide (x13 < (x17.length : Int)) then (bif x17.getD x13.toNat false then R false
  else bif decide (0 ≤ x13) && decide (x13 < (x17.length : Int)) then rec (IntKind.i64.wrap (x13 + 1)) (x17.set x13.toNat true)
  else none)
  else none)
 else k x17
noncomputable def l2 (x14 : List (List Cl)) (x15 x16 : Int) (x18 : List Int) (x19 : Int) (x20 : List (List Cl)) (x21 x22 : Int) (x23 : Bool) (k : List Bool → Option Res) (R : Bool → Option Res) : Nat → Int → List Bool → Option Res
 | 0, _, _ => none
 | n + 1, x13, x17 => l2s x14 x15 x16 x18 x19 x20 x21 x22 x23 (fun x13 x17 => l2 x14 x15 x16 x18 x19 x20 x21 x22 x23 k R n x13 x17) k R x13 x17
noncomputable def o2 (x14 : List (List Cl)) (x15 x16 : Int) (x18 : List Int) (x19 : Int) (x20 : List (List Cl)) (x21 x22 : Int) (x23 : Bool) (y4 : List Bool) : St := ⟨mkT 83 [(1, one (.bp 1000 0)), (3, one (.ow 7176)), (30, one (.tr 0 1 [.int .i64, .int .i64, .bool] (.cells x14))), (31, one (.int .i64 x15)), (32, one (.int .i64 x16))], [(7176, ⟨[.bool], .bools y4, true, 0⟩)], [(1000, [.tr 0 1 [.int .i64] (.ints x18), .int .i64 x19, .tr 0 1 [.int .i64, .int .i64, .bool] (.cells x20)])]⟩
noncomputable def p2 (K : Res → Option Res) : List Lf → (St → Option Res) → Option Res
 | [.i x13, .q (.cells x14), .i x15, .i x16, .q (.bools x17), .q (.ints x18), .i x19, .q (.cells x20), .i x21, .i x22, .b x23], k => l2 x14 x15 x16 x18 x19 x20 x21 x22 x23 (fun y4 => k (o2 x14 x15 x16 x18 x19 x20 x21 x22 x23 y4)) (fun r1 => K (m r1)) fuel x13 x17
 | _, _ => none
noncomputable def s0 (x5 : List (List Cl)) (x6 x7 : Int) (x8 : List Bool) (x9 : List Int) (x10 : Int) (x11 : List (List Cl)) : St := ⟨mkT 83 [(1, one (.bp 1000 0)), (3, one (.ow 7176)), (30, one (.tr 0 1 [.int .i64, .int .i64, .bool] (.cells x5))), (31, one (.int .i64 x6)), (32, one (.int .i64 x7))], [(7176, ⟨[.bool], .bools x8, true, 0⟩)], [(1000, [.tr 0 1 [.int .i64] (.ints x9), .int .i64 x10, .tr 0 1 [.int .i64, .int .i64, .bool] (.cells x11)])]⟩
noncomputable def l0s (x5 : List (List Cl)) (x6 : Int) (x9 : List Int) (x10 : Int) (x11 : List (List Cl)) (rec : Int → List Bool → Option Res) (k : Option Res) (R : Bool → Option Res) (x7 : Int) (x8 : List Bool) : Option Res :=
 bif decide (x7 < x6) then (bif decide (0 ≤ x7) && decide (x7 < (x5.length : Int)) then (bif !(((x5.getD x7.toNat []).getD 2 (.i 0)).toB) then (bif !((((x5.getD x7.toNat []).getD 0 (.i 0)).toI == 0) && ((((x5.getD x7.toNat []).getD 1 (.i 0)).toI == 0) && ((((x5.getD x7.toNat []).getD 2 (.i 0)).toB == false) && true))) then R false
  else rec (IntKind.i64.wrap (x7 + 1)) x8)
  else bif decide (((x5.getD x7.toNat []).getD 1 (.i 0)).toI < 1) then R false
  else (impl_within.g (((x5.getD x7.toNat []).getD 0 (.i 0)).toI) 0 (IntKind.i64.wrap (x10 - 1)) fun r12 =>
  bif !r12 then R false
  else bif decide (IntKind.i64.wrap (x10 - (((x5.getD x7.toNat []).getD 0 (.i 0)).toI)) < ((x5.getD x7.toNat []).getD 1 (.i 0)).toI) then R false
  else (l2 x5 x6 x7 x9 x10 x11 (((x5.getD x7.toNat []).getD 0 (.i 0)).toI) (((x5.getD x7.toNat []).getD 1 (.i 0)).toI) (((x5.getD x7.toNat []).getD 2 (.i 0)).toB) (fun y24 =>
  rec (IntKind.i64.wrap (x7 + 1)) y24) R fuel (((x5.getD x7.toNat []).getD 0 (.i 0)).toI) x8)))
  else none)
 else k
noncomputable def l0 (x5 : List (List Cl)) (x6 : Int) (x9 : List Int) (x10 : Int) (x11 : List (List Cl)) (k : Option Res) (R : Bool → Option Res) : Nat → Int → List Bool → Option Res
 | 0, _, _ => none
 | n + 1, x7, x8 => l0s x5 x6 x9 x10 x11 (fun x7 x8 => l0 x5 x6 x9 x10 x11 k R n x7 x8) k R x7 x8
noncomputable def o0 (x5 : List (List Cl)) (x6 : Int) (x9 : List Int) (x10 : Int) (x11 : List (List Cl)) : St := ⟨mkT 83 [], [], []⟩
noncomputable def p0 (K : Res → Option Res) : List Lf → (St → Option Res) → Option Res
 | [.q (.cells x5), .i x6, .i x7, .q (.bools x8), .q (.ints x9), .i x10, .q (.cells x11)], k => l0 x5 x6 x9 x10 x11 (k (o0 x5 x6 x9 x10 x11)) (fun r1 => K (m r1)) fuel x7 x8
 | _, _ => none
noncomputable def os : List (FuncId × St × (List Lf → (Res → Option Res) → Option Res)) := [impl_within.con]
noncomputable def X (K : Res → Option Res) : Ctx := { Γ := Γ0, orc := orcOf os, io := [], share := [], mvl := [], bun := [], cut := [], own := [], cin := [(2, ⟨[1, 3, 5, 6, 30, 31, 32], [(7176, 7176)], [1000, 13320], [], [], []⟩), (0, ⟨[1, 3, 30, 31, 32], [(7176, 7176)], [1000], [], [], []⟩)], cout := [(2, ⟨[1, 3, 30, 31, 32], [(7176, 7176)], [1000], [], [], []⟩), (0, ⟨[], [], [], [], [], []⟩)], lp := lpOf [(2, s2 0 [] 0 0 [] [] 0 [] 0 0 false, p2 K), (0, s0 [] 0 0 [] [] 0 [], p0 K)], kl := [], nk := true, eqs := eqs0, byt := byt0, fin := finK fi K }
noncomputable def b (a1 : List Int) (a2 : Int) (a3 : List (List Cl)) (R : Bool → Option Res) : Option Res :=
 bif decide (6000 < (a1.length : Int)) then R false
 else (impl_within.g a2 0 (a1.length : Int) fun r4 =>
 bif !r4 then R false
 else bif decide (200 < (a3.length : Int)) then R false
 else bif decide (a2 = a2) && decide (0 ≤ a2) && decide (a2 * 1 ≤ 140737488355328) then (l0 a3 (a3.length : Int) a1 a2 a3 (
  R true) R fuel 0 (List.replicate a2.toNat false))
 else none)
theorem gx : ∃ x : List Int → Int → List (List Cl) → (Bool → Option Res) → Option Res, x = b := ⟨_, rfl⟩
noncomputable def g : List Int → Int → List (List Cl) → (Bool → Option Res) → Option Res := Classical.choose gx
theorem e : g = b := Classical.choose_spec gx
noncomputable def run : List Lf → (Res → Option Res) → Option Res
 | [.q (.ints a1), .i a2, .q (.cells a3)], K => g a1 a2 a3 (fun r1 => K (m r1))
 | _, _ => none
noncomputable def a (a1 : List Int) (a2 : Int) (a3 : List (List Cl)) : St := argSt [.v ⟨true, [.tr 0 1 [.int .i64] (.ints a1), .int .i64 a2, .tr 0 1 [.int .i64, .int .i64, .bool] (.cells a3)]⟩] [] []
noncomputable def con : FuncId × St × (List Lf → (Res → Option Res) → Option Res) := (25, a [] 0 [], run)
theorem cx (K : Res → Option Res) : CtxOk Go.Proofs.Try.prog Γ0 byt0 eqs0 (X K) os := ⟨rfl, rfl, rfl, (fun p hp => by
 rcases List.mem_cons.1 hp with rfl | hp
 ·exact impl_within.ok
 cases hp), rfl, rfl, rfl, rfl⟩
theorem t2 (K : Res → Option Res) (k : St → Option Res) (it : St → (St → Option Res) → Option Res) (x13 : Int) (x14 : List (List Cl)) (x15 x16 : Int) (x17 : List Bool) (x18 : List Int) (x19 : Int) (x20 : List (List Cl)) (x21 x22 : Int) (x23 : Bool) : iterS (X K) 2 b2 it (s2 x13 x14 x15 x16 x17 x18 x19 x20 x21 x22 x23) k = l2s x14 x15 x16 x18 x19 x20 x21 x22 x23 (fun x13 x17 => it (s2 x13 x14 x15 x16 x17 x18 x19 x20 x21 x22 x23) k) (fun y4 => k (o2 x14 x15 x16 x18 x19 x20 x21 x22 x23 y4)) (fun r1 => K (m r1)) x13 x17 := by kernel_rfl
theorem i2 (K : Res → Option Res) (k : St → Option Res) (x14 : List (List Cl)) (x15 x16 : Int) (x18 : List Int) (x19 : Int) (x20 : List (List Cl)) (x21 x22 : Int) (x23 : Bool) : ∀ (n : Nat) (x13 : Int) (x17 : List Bool), iter (X K) 2 b2 n (s2 x13 x14 x15 x16 x17 x18 x19 x20 x21 x22 x23) k = l2 x14 x15 x16 x18 x19 x20 x21 x22 x23 (fun y4 => k (o2 x14 x15 x16 x18 x19 x20 x21 x22 x23 y4)) (fun r1 => K (m r1)) n x13 x17
 | 0, _, _ => rfl
 | n + 1, x13, x17 => by
  rw [iter_succ, t2, show (fun x13 x17 => iter (X K) 2 b2 n (s2 x13 x14 x15 x16 x17 x18 x19 x20 x21 x22 x23) k) = (fun x13 x17 => l2 x14 x15 x16 x18 x19 x20 x21 x22 x23 (fun y4 => k (o2 x14 x15 x16 x18 x19 x20 x21 x22 x23 y4)) (fun r1 => K (m r1)) n x13 x17) from funext fun x13 => funext fun x17 => i2 K k x14 x15 x16 x18 x19 x20 x21 x22 x23 n x13 x17]; rfl
theorem v2 {K : Res → Option Res} {l : List Lf} {k : St → Option Res} {r : Res} (h : p2 K l k = some r) : ∃ x13 x14 x15 x16 x17 x18 x19 x20 x21 x22 x23, l = [.i x13, .q (.cells x14), .i x15, .i x16, .q (.bools x17), .q (.ints x18), .i x19, .q (.cells x20), .i x21, .i x22, .b x23] ∧ l2 x14 x15 x16 x18 x19 x20 x21 x22 x23 (fun y4 => k (o2 x14 x15 x16 x18 x19 x20 x21 x22 x23 y4)) (fun r1 => K (m r1)) fuel x13 x17 = some r := by
 unfold p2 at h; split at h
 ·exact ⟨_, _, _, _, _, _, _, _, _, _, _, rfl, h⟩
 ·cases h
theorem t0 (K : Res → Option Res) (k : St → Option Res) (it : St → (St → Option Res) → Option Res) (x5 : List (List Cl)) (x6 x7 : Int) (x8 : List Bool) (x9 : List Int) (x10 : Int) (x11 : List (List Cl)) : iterS (X K) 0 b0 it (s0 x5 x6 x7 x8 x9 x10 x11) k = l0s x5 x6 x9 x10 x11 (fun x7 x8 => it (s0 x5 x6 x7 x8 x9 x10 x11) k) (k (o0 x5 x6 x9 x10 x11)) (fun r1 => K (m r1)) x7 x8 := by kernel_rfl
theorem i0 (K : Res → Option Res) (k : St → Option Res) (x5 : List (List Cl)) (x6 : Int) (x9 : List Int) (x10 : Int) (x11 : List (List Cl)) : ∀ (n : Nat) (x7 : Int) (x8 : List Bool), iter (X K) 0 b0 n (s0 x5 x6 x7 x8 x9 x10 x11) k = l0 x5 x6 x9 x10 x11 (k (o0 x5 x6 x9 x10 x11)) (fun r1 => K (m r1)) n x7 x8
 | 0, _, _ => rfl
 | n + 1, x7, x8 => by
  rw [iter_succ, t0, show (fun x7 x8 => iter (X K) 0 b0 n (s0 x5 x6 x7 x8 x9 x10 x11) k) = (fun x7 x8 => l0 x5 x6 x9 x10 x11 (k (o0 x5 x6 x9 x10 x11)) (fun r1 => K (m r1)) n x7 x8) from funext fun x7 => funext fun x8 => i0 K k x5 x6 x9 x10 x11 n x7 x8]; rfl
theorem v0 {K : Res → Option Res} {l : List Lf} {k : St → Option Res} {r : Res} (h : p0 K l k = some r) : ∃ x5 x6 x7 x8 x9 x10 x11, l = [.q (.cells x5), .i x6, .i x7, .q (.bools x8), .q (.ints x9), .i x10, .q (.cells x11)] ∧ l0 x5 x6 x9 x10 x11 (k (o0 x5 x6 x9 x10 x11)) (fun r1 => K (m r1)) fuel x7 x8 = some r := by
 unfold p0 at h; split at h
 ·exact ⟨_, _, _, _, _, _, _, rfl, h⟩
 ·cases h
theorem w2 (K : Res → Option Res) : LpSound Go.Proofs.Try.prog (X K) 2 b2 := lp_ok ((cx K).ok laid) (by rw [show loopsOf b2 = [] from by kernel_rfl]; intro p hp; cases hp) rfl fun p hp hid => by
 rcases List.mem_cons.1 hp with rfl | hp
 ·intro st k r h1 h2; obtain ⟨x13, x14, x15, x16, x17, x18, x19, x20, x21, x22, x23, e, h⟩ := v2 (K := K) h2; have := St.like_eq (y := s2 x13 x14 x15 x16 x17 x18 x19 x20 x21 x22 x23) h1 (by kernel_rfl) e; subst this; exact ⟨fuel, (i2 K k x14 x15 x16 x18 x19 x20 x21 x22 x23 fuel x13 x17).trans h⟩
 rcases List.mem_cons.1 hp with rfl | hp
 ·exact absurd hid (by simp)
 cases hp
theorem w0 (K : Res → Option Res) : LpSound Go.Proofs.Try.prog (X K) 0 b0 := lp_ok ((cx K).ok laid) (by
 rw [show loopsOf b0 = [(2, b2)] from by kernel_rfl]; intro p hp
 rcases List.mem_cons.1 hp with rfl | hp
 ·exact w2 K
 cases hp) rfl fun p hp hid => by
 rcases List.mem_cons.1 hp with rfl | hp
 ·exact absurd hid (by simp)
 rcases List.mem_cons.1 hp with rfl | hp
 ·intro st k r h1 h2; obtain ⟨x5, x6, x7, x8, x9, x10, x11, e, h⟩ := v0 (K := K) h2; have := St.like_eq (y := s0 x5 x6 x7 x8 x9 x10 x11) h1 (by kernel_rfl) e; subst this; exact ⟨fuel, (i0 K k x5 x6 x9 x10 x11 fuel x7 x8).trans h⟩
 cases hp
theorem tie (K : Res → Option Res) (a1 : List Int) (a2 : Int) (a3 : List (List Cl)) : exec (X K) c (entry 83 [.v ⟨true, [.tr 0 1 [.int .i64] (.ints a1), .int .i64 a2, .tr 0 1 [.int .i64, .int .i64, .bool] (.cells a3)]⟩] [] []) (endK (X K)) = g a1 a2 a3 (fun r1 => K (m r1)) := Eq.trans (b := b a1 a2 a3 (fun r1 => K (m r1))) (by kernel_rfl) (by rw [e])
theorem runv {l : List Lf} {K : Res → Option Res} {r : Res} (h : run l K = some r) : ∃ a1 a2 a3, l = [.q (.ints a1), .i a2, .q (.cells a3)] ∧ g a1 a2 a3 (fun r1 => K (m r1)) = some r := by
 unfold run at h; split at h
 ·exact ⟨_, _, _, rfl, h⟩
 ·cases h
theorem ok : Con Go.Proofs.Try.prog con := con_of (fn := Go.Proofs.Try.f25) (c := c) (Fi := fi) (X := X) (fun_of laid (by kernel_rfl) (by kernel_rfl) (by kernel_rfl) rfl (by kernel_rfl) (by kernel_rfl) cx (fun _ => rfl) (fun _ => rfl) (fun K => by
 rw [show loopsOf c = [(0, b0), (2, b2)] from by kernel_rfl]; intro p hp
 rcases List.mem_cons.1 hp with rfl | hp
 ·exact w0 K
 rcases List.mem_cons.1 hp with rfl | hp
 ·exact w2 K
 cases hp)) fun xs rows boxes K r hl hr => by
 obtain ⟨a1, a2, a3, e, h⟩ := runv hr
 have := St.like_eq (y := a a1 a2 a3) hl (by kernel_rfl) e
 obtain ⟨rfl, rfl, rfl⟩ := argSt_inj this
 exact (tie K a1 a2 a3).trans h
end impl_HeapOk
namespace bits_Len64
noncomputable def c : Code := bodyOf Go.Proofs.Try.f196
noncomputable def fi : Fin := ⟨Γ0, [(.tmp 2, 3)], [[1]], [], [], []⟩
noncomputable def m (r1 : Int) : Res := ⟨[⟨false, [.int .i64 r1]⟩], [], [], [], []⟩
noncomputable def os : List (FuncId × St × (List Lf → (Res → Option Res) → Option Res)) := []
noncomputable def X (K : Res → Option Res) : Ctx := { Γ := Γ0, orc := orcOf os, io := [], share := [], mvl := [], bun := [], cut := [], own := [], cin := [], cout := [], lp := lpOf [], kl := [], nk := true, eqs := eqs0, byt := byt0, fin := finK fi K }
noncomputable def b (a1 : Int) (R : Int → Option Res) : Option Res :=
 bif decide (4294967296 ≤ a1) then (bif decide (65536 ≤ a1.fdiv (2 ^ 32)) then (bif decide (256 ≤ (a1.fdiv (2 ^ 32)).fdiv (2 ^ 16)) then (bif decide (0 ≤ IntKind.u8.wrap (((a1.fdiv (2 ^ 32)).fdiv (2 ^ 16)).fdiv (2 ^ 8))) && decide (IntKind.u8.wrap (((a1.fdiv (2 ^ 32)).fdiv (2 ^ 16)).fdiv (2 ^ 8)) < 256) then R (IntKind.i64.wrap (56 + (IntKind.i64.wrap ((bytesOf (⟨#[0, 1, 2, 2, 3, 3, 3, 3, 4, 4, 4, 4, 4, 4, 4, 4, 5, 5, 5, 5, 5, 5, 5, 5, 5, 5, 5, 5, 5, 5, 5, 5, 6, 6, 6, 6, 6, 6, 6, 6, 6, 6, 6, 6, 6, 6, 6, 6, 6, 6, 6, 6, 6, 6, 6, 6, 6, 6, 6, 6, 6, 6, 6, 6, 7, 7, 7, 7, 7, 7, 7, 7, 7, 7, 7, 7, 7, 7, 7, 7, 7, 7, 7, 7, 7, 7, 7, 7, 7, 7, 7, 7, 7, 7, 7, 7, 7, 7, 7, 7, 7, 7, 7, 7, 7, 7, 7, 7, 7, 7, 7, 7, 7, 7, 7, 7, 7, 7, 7, 7, 7, 7, 7, 7, 7, 7, 7, 7, 8, 8, 8, 8, 8, 8, 8, 8, 8, 8, 8, 8, 8, 8, 8, 8, 8, 8, 8, 8, 8, 8, 8, 8, 8, 8, 8, 8, 8, 8, 8, 8, 8, 8, 8, 8, 8, 8, 8, 8, 8, 8, 8, 8, 8, 8, 8, 8, 8, 8, 8, 8, 8, 8, 8, 8, 8, 8, 8, 8, 8, 8, 8, 8, 8, 8, 8, 8, 8, 8, 8, 8, 8, 8, 8, 8, 8, 8, 8, 8, 8, 8, 8, 8, 8, 8, 8, 8, 8, 8, 8, 8, 8, 8, 8, 8, 8, 8, 8, 8, 8, 8, 8, 8, 8, 8, 8, 8, 8, 8, 8, 8, 8, 8, 8, 8, 8, 8, 8, 8, 8, 8, 8, 8, 8, 8, 8, 8]⟩ : ByteArray)).getD ((IntKind.u8.wrap (((a1.fdiv (2 ^ 32)).fdiv (2 ^ 16)).fdiv (2 ^ 8))).toNat) 0))))
  else none)
  else bif decide (0 ≤ IntKind.u8.wrap ((a1.fdiv (2 ^ 32)).fdiv (2 ^ 16))) && decide (IntKind.u8.wrap ((a1.fdiv (2 ^ 32)).fdiv (2 ^ 16)) < 256) then R (IntKind.i64.wrap (48 + (IntKind.i64.wrap ((bytesOf (⟨#[0, 1, 2, 2, 3, 3, 3, 3, 4, 4, 4, 4, 4, 4, 4, 4, 5, 5, 5, 5, 5, 5, 5, 5, 5, 5, 5, 5, 5, 5, 5, 5, 6, 6, 6, 6, 6, 6, 6, 6, 6, 6, 6, 6, 6, 6, 6, 6, 6, 6, 6, 6, 6, 6, 6, 6, 6, 6, 6, 6, 6, 6, 6, 6, 7, 7, 7, 7, 7, 7, 7, 7, 7, 7, 7, 7, 7, 7, 7, 7, 7, 7, 7, 7, 7, 7, 7, 7, 7, 7, 7, 7, 7, 7, 7, 7, 7, 7, 7, 7, 7, 7, 7, 7, 7, 7, 7, 7, 7, 7, 7, 7, 7, 7, 7, 7, 7, 7, 7, 7, 7, 7, 7, 7, 7, 7, 7, 7, 8, 8, 8, 8, 8, 8, 8, 8, 8, 8, 8, 8, 8, 8, 8, 8, 8, 8, 8, 8, 8, 8, 8, 8, 8, 8, 8, 8, 8, 8, 8, 8, 8, 8, 8, 8, 8, 8, 8, 8, 8, 8, 8, 8, 8, 8, 8, 8, 8, 8, 8, 8, 8, 8, 8, 8, 8, 8, 8, 8, 8, 8, 8, 8, 8, 8, 8, 8, 8, 8, 8, 8, 8, 8, 8, 8, 8, 8, 8, 8, 8, 8, 8, 8, 8, 8, 8, 8, 8, 8, 8, 8, 8, 8, 8, 8, 8, 8, 8, 8, 8, 8, 8, 8, 8, 8, 8, 8, 8, 8, 8, 8, 8, 8, 8, 8, 8, 8, 8, 8, 8, 8, 8, 8, 8, 8, 8, 8]⟩ : ByteArray)).getD ((IntKind.u8.wrap ((a1.fdiv (2 ^ 32)).fdiv (2 ^ 16))).toNat) 0))))
  else none)
  else bif decide (256 ≤ a1.fdiv (2 ^ 32)) then (bif decide (0 ≤ IntKind.u8.wrap ((a1.fdiv (2 ^ 32)).fdiv (2 ^ 8))) && decide (IntKind.u8.wrap ((a1.fdiv (2 ^ 32)).fdiv (2 ^ 8)) < 256) then R (IntKind.i64.wrap (40 + (IntKind.i64.wrap ((bytesOf (⟨#[0, 1, 2, 2, 3, 3, 3, 3, 4, 4, 4, 4, 4, 4, 4, 4, 5, 5, 5, 5, 5, 5, 5, 5, 5, 5, 5, 5, 5, 5, 5, 5, 6, 6, 6, 6, 6, 6, 6, 6, 6, 6, 6, 6, 6, 6, 6, 6, 6, 6, 6, 6, 6, 6, 6, 6, 6, 6, 6, 6, 6, 6, 6, 6, 7, 7, 7, 7, 7, 7, 7, 7, 7, 7, 7, 7, 7, 7, 7, 7, 7, 7, 7, 7, 7, 7, 7, 7, 7, 7, 7, 7, 7, 7, 7, 7, 7, 7, 7, 7, 7, 7, 7, 7, 7, 7, 7, 7, 7, 7, 7, 7, 7, 7, 7, 7, 7, 7, 7, 7, 7, 7, 7, 7, 7, 7, 7, 7, 8, 8, 8, 8, 8, 8, 8, 8, 8, 8, 8, 8, 8, 8, 8, 8, 8, 8, 8, 8, 8, 8, 8, 8, 8, 8, 8, 8, 8, 8, 8, 8, 8, 8, 8, 8, 8, 8, 8, 8, 8, 8, 8, 8, 8, 8, 8, 8, 8, 8, 8, 8, 8, 8, 8, 8, 8, 8, 8, 8, 8, 8, 8, 8, 8, 8, 8, 8, 8, 8, 8, 8, 8, 8, 8, 8, 8, 8, 8, 8, 8, 8, 8, 8, 8, 8, 8, 8, 8, 8, 8, 8, 8, 8, 8, 8, 8, 8, 8, 8, 8, 8, 8, 8, 8, 8, 8, 8, 8, 8, 8, 8, 8, 8, 8, 8, 8, 8, 8, 8, 8, 8, 8, 8, 8, 8, 8, 8]⟩ : ByteArray)).getD ((IntKind.u8.wrap ((a1.fdiv (2 ^ 32)).fdiv (2 ^ 8))).toNat) 0))))
   else none)
  else bif decide (0 ≤ IntKind.u8.wrap (a1.fdiv (2 ^ 32))) && decide (IntKind.u8.wrap (a1.fdiv (2 ^ 32)) < 256) then R (IntKind.i64.wrap (32 + (IntKind.i64.wrap ((bytesOf (⟨#[0, 1, 2, 2, 3, 3, 3, 3, 4, 4, 4, 4, 4, 4, 4, 4, 5, 5, 5, 5, 5, 5, 5, 5, 5, 5, 5, 5, 5, 5, 5, 5, 6, 6, 6, 6, 6, 6, 6, 6, 6, 6, 6, 6, 6, 6, 6, 6, 6, 6, 6, 6, 6, 6, 6, 6, 6, 6, 6, 6, 6, 6, 6, 6, 7, 7, 7, 7, 7, 7, 7, 7, 7, 7, 7, 7, 7, 7, 7, 7, 7, 7, 7, 7, 7, 7, 7, 7, 7, 7, 7, 7, 7, 7, 7, 7, 7, 7, 7, 7, 7, 7, 7, 7, 7, 7, 7, 7, 7, 7, 7, 7, 7, 7, 7, 7, 7, 7, 7, 7, 7, 7, 7, 7, 7, 7, 7, 7, 8, 8, 8, 8, 8, 8, 8, 8, 8, 8, 8, 8, 8, 8, 8, 8, 8, 8, 8, 8, 8, 8, 8, 8, 8, 8, 8, 8, 8, 8, 8, 8, 8, 8, 8, 8, 8, 8, 8, 8, 8, 8, 8, 8, 8, 8, 8, 8, 8, 8, 8, 8, 8, 8, 8, 8, 8, 8, 8, 8, 8, 8, 8, 8, 8, 8, 8, 8, 8, 8, 8, 8, 8, 8, 8, 8, 8, 8, 8, 8, 8, 8, 8, 8, 8, 8, 8, 8, 8, 8, 8, 8, 8, 8, 8, 8, 8, 8, 8, 8, 8, 8, 8, 8, 8, 8, 8, 8, 8, 8, 8, 8, 8, 8, 8, 8, 8, 8, 8, 8, 8, 8, 8, 8, 8, 8, 8, 8]⟩ : ByteArray)).getD ((IntKind.u8.wrap (a1.fdiv (2 ^ 32))).toNat) 0))))
  else none)
 else bif decide (65536 ≤ a1) then (bif decide (256 ≤ a1.fdiv (2 ^ 16)) then (bif decide (0 ≤ IntKind.u8.wrap ((a1.fdiv (2 ^ 16)).fdiv (2 ^ 8))) && decide (IntKind.u8.wrap ((a1.fdiv (2 ^ 16)).fdiv (2 ^ 8)) < 256) then R (IntKind.i64.wrap (24 + (IntKind.i64.wrap ((bytesOf (⟨#[0, 1, 2, 2, 3, 3, 3, 3, 4, 4, 4, 4, 4, 4, 4, 4, 5, 5, 5, 5, 5, 5, 5, 5, 5, 5, 5, 5, 5, 5, 5, 5, 6, 6, 6, 6, 6, 6, 6, 6, 6, 6, 6, 6, 6, 6, 6, 6, 6, 6, 6, 6, 6, 6, 6, 6, 6, 6, 6, 6, 6, 6, 6, 6, 7, 7, 7, 7, 7, 7, 7, 7, 7, 7, 7, 7, 7, 7, 7, 7, 7, 7, 7, 7, 7, 7, 7, 7, 7, 7, 7, 7, 7, 7, 7, 7, 7, 7, 7, 7, 7, 7, 7, 7, 7, 7, 7, 7, 7, 7, 7, 7, 7, 7, 7, 7, 7, 7, 7, 7, 7, 7, 7, 7, 7, 7, 7, 7, 8, 8, 8, 8, 8, 8, 8, 8, 8, 8, 8, 8, 8, 8, 8, 8, 8, 8, 8, 8, 8, 8, 8, 8, 8, 8, 8, 8, 8, 8, 8, 8, 8, 8, 8, 8, 8, 8, 8, 8, 8, 8, 8, 8, 8, 8, 8, 8, 8, 8, 8, 8, 8, 8, 8, 8, 8, 8, 8, 8, 8, 8, 8, 8, 8, 8, 8, 8, 8, 8, 8, 8, 8, 8, 8, 8, 8, 8, 8, 8, 8, 8, 8, 8, 8, 8, 8, 8, 8, 8, 8, 8, 8, 8, 8, 8, 8, 8, 8, 8, 8, 8, 8, 8, 8, 8, 8, 8, 8, 8, 8, 8, 8, 8, 8, 8, 8, 8, 8, 8, 8, 8, 8, 8, 8, 8, 8, 8]⟩ : ByteArray)).getD ((IntKind.u8.wrap ((a1.fdiv (2 ^ 16)).fdiv (2 ^ 8))).toNat) 0))))
  else none)
  else bif decide (0 ≤ IntKind.u8.wrap (a1.fdiv (2 ^ 16))) && decide (IntKind.u8.wrap (a1.fdiv (2 ^ 16)) < 256) then R (IntKind.i64.wrap (16 + (IntKind.i64.wrap ((bytesOf (⟨#[0, 1, 2, 2, 3, 3, 3, 3, 4, 4, 4, 4, 4, 4, 4, 4, 5, 5, 5, 5, 5, 5, 5, 5, 5, 5, 5, 5, 5, 5, 5, 5, 6, 6, 6, 6, 6, 6, 6, 6, 6, 6, 6, 6, 6, 6, 6, 6, 6, 6, 6, 6, 6, 6, 6, 6, 6, 6, 6, 6, 6, 6, 6, 6, 7, 7, 7, 7, 7, 7, 7, 7, 7, 7, 7, 7, 7, 7, 7, 7, 7, 7, 7, 7, 7, 7, 7, 7, 7, 7, 7, 7, 7, 7, 7, 7, 7, 7, 7, 7, 7, 7, 7, 7, 7, 7, 7, 7, 7, 7, 7, 7, 7, 7, 7, 7, 7, 7, 7, 7, 7, 7, 7, 7, 7, 7, 7, 7, 8, 8, 8, 8, 8, 8, 8, 8, 8, 8, 8, 8, 8, 8, 8, 8, 8, 8, 8, 8, 8, 8, 8, 8, 8, 8, 8, 8, 8, 8, 8, 8, 8, 8, 8, 8, 8, 8, 8, 8, 8, 8, 8, 8, 8, 8, 8, 8, 8, 8, 8, 8, 8, 8, 8, 8, 8, 8, 8, 8, 8, 8, 8, 8, 8, 8, 8, 8, 8, 8, 8, 8, 8, 8, 8, 8, 8, 8, 8, 8, 8, 8, 8, 8, 8, 8, 8, 8, 8, 8, 8, 8, 8, 8, 8, 8, 8, 8, 8, 8, 8, 8, 8, 8, 8, 8, 8, 8, 8, 8, 8, 8, 8, 8, 8, 8, 8, 8, 8, 8, 8, 8, 8, 8, 8, 8, 8, 8]⟩ : ByteArray)).getD ((IntKind.u8.wrap (a1.fdiv (2 ^ 16))).toNat) 0))))
  else none)
 else bif decide (256 ≤ a1) then (bif decide (0 ≤ IntKind.u8.wrap (a1.fdiv (2 ^ 8))) && decide (IntKind.u8.wrap (a1.fdiv (2 ^ 8)) < 256) then R (IntKind.i64.wrap (8 + (IntKind.i64.wrap ((bytesOf (⟨#[0, 1, 2, 2, 3, 3, 3, 3, 4, 4, 4, 4, 4, 4, 4, 4, 5, 5, 5, 5, 5, 5, 5, 5, 5, 5, 5, 5, 5, 5, 5, 5, 6, 6, 6, 6, 6, 6, 6, 6, 6, 6, 6, 6, 6, 6, 6, 6, 6, 6, 6, 6, 6, 6, 6, 6, 6, 6, 6, 6, 6, 6, 6, 6, 7, 7, 7, 7, 7, 7, 7, 7, 7, 7, 7, 7, 7, 7, 7, 7, 7, 7, 7, 7, 7, 7, 7, 7, 7, 7, 7, 7, 7, 7, 7, 7, 7, 7, 7, 7, 7, 7, 7, 7, 7, 7, 7, 7, 7, 7, 7, 7, 7, 7, 7, 7, 7, 7, 7, 7, 7, 7, 7, 7, 7, 7, 7, 7, 8, 8, 8, 8, 8, 8, 8, 8, 8, 8, 8, 8, 8, 8, 8, 8, 8, 8, 8, 8, 8, 8, 8, 8, 8, 8, 8, 8, 8, 8, 8, 8, 8, 8, 8, 8, 8, 8, 8, 8, 8, 8, 8, 8, 8, 8, 8, 8, 8, 8, 8, 8, 8, 8, 8, 8, 8, 8, 8, 8, 8, 8, 8, 8, 8, 8, 8, 8, 8, 8, 8, 8, 8, 8, 8, 8, 8, 8, 8, 8, 8, 8, 8, 8, 8, 8, 8, 8, 8, 8, 8, 8, 8, 8, 8, 8, 8, 8, 8, 8, 8, 8, 8, 8, 8, 8, 8, 8, 8, 8, 8, 8, 8, 8, 8, 8, 8, 8, 8, 8, 8, 8, 8, 8, 8, 8, 8, 8]⟩ : ByteArray)).getD ((IntKind.u8.wrap (a1.fdiv (2 ^ 8))).toNat) 0))))
  else none)
 else bif decide (0 ≤ IntKind.u8.wrap a1) && decide (IntKind.u8.wrap a1 < 256) then R (IntKind.i64.wrap (0 + (IntKind.i64.wrap ((bytesOf (⟨#[0, 1, 2, 2, 3, 3, 3, 3, 4, 4, 4, 4, 4, 4, 4, 4, 5, 5, 5, 5, 5, 5, 5, 5, 5, 5, 5, 5, 5, 5, 5, 5, 6, 6, 6, 6, 6, 6, 6, 6, 6, 6, 6, 6, 6, 6, 6, 6, 6, 6, 6, 6, 6, 6, 6, 6, 6, 6, 6, 6, 6, 6, 6, 6, 7, 7, 7, 7, 7, 7, 7, 7, 7, 7, 7, 7, 7, 7, 7, 7, 7, 7, 7, 7, 7, 7, 7, 7, 7, 7, 7, 7, 7, 7, 7, 7, 7, 7, 7, 7, 7, 7, 7, 7, 7, 7, 7, 7, 7, 7, 7, 7, 7, 7, 7, 7, 7, 7, 7, 7, 7, 7, 7, 7, 7, 7, 7, 7, 8, 8, 8, 8, 8, 8, 8, 8, 8, 8, 8, 8, 8, 8, 8, 8, 8, 8, 8, 8, 8, 8, 8, 8, 8, 8, 8, 8, 8, 8, 8, 8, 8, 8, 8, 8, 8, 8, 8, 8, 8, 8, 8, 8, 8, 8, 8, 8, 8, 8, 8, 8, 8, 8, 8, 8, 8, 8, 8, 8, 8, 8, 8, 8, 8, 8, 8, 8, 8, 8, 8, 8, 8, 8, 8, 8, 8, 8, 8, 8, 8, 8, 8, 8, 8, 8, 8, 8, 8, 8, 8, 8, 8, 8, 8, 8, 8, 8, 8, 8, 8, 8, 8, 8, 8, 8, 8, 8, 8, 8, 8, 8, 8, 8, 8, 8, 8, 8, 8, 8, 8, 8, 8, 8, 8, 8, 8, 8]⟩ : ByteArray)).getD ((IntKind.u8.wrap a1).toNat) 0))))
 else none
theorem gx : ∃ x : Int → (Int → Option Res) → Option Res, x = b := ⟨_, rfl⟩
noncomputable def g : Int → (Int → Option Res) → Option Res := Classical.choose gx
theorem e : g = b := Classical.choose_spec gx
noncomputable def run : List Lf → (Res → Option Res) → Option Res
 | [.i a1], K => g a1 (fun r1 => K (m r1))
 | _, _ => none
noncomputable def a (a1 : Int) : St := argSt [one (.int .u64 a1)] [] []
noncomputable def con : FuncId × St × (List Lf → (Res → Option Res) → Option Res) := (196, a 0, run)
theorem cx (K : Res → Option Res) : CtxOk Go.Proofs.Try.prog Γ0 byt0 eqs0 (X K) os := ⟨rfl, rfl, rfl, (fun p hp => by
 cases hp), rfl, rfl, rfl, rfl⟩
theorem tie (K : Res → Option Res) (a1 : Int) : exec (X K) c (entry 25 [one (.int .u64 a1)] [] []) (endK (X K)) = g a1 (fun r1 => K (m r1)) := Eq.trans (b := b a1 (fun r1 => K (m r1))) (by kernel_rfl) (by rw [e])
theorem runv {l : List Lf} {K : Res → Option Res} {r : Res} (h : run l K = some r) : ∃ a1, l = [.i a1] ∧ g a1 (fun r1 => K (m r1)) = some r := by
 unfold run at h; split at h
 ·exact ⟨_, rfl, h⟩
 ·cases h
theorem ok : Con Go.Proofs.Try.prog con := con_of (fn := Go.Proofs.Try.f196) (c := c) (Fi := fi) (X := X) (fun_of laid (by kernel_rfl) (by kernel_rfl) (by kernel_rfl) rfl (by kernel_rfl) (by kernel_rfl) cx (fun _ => rfl) (fun _ => rfl) (fun K => by
 rw [show loopsOf c = [] from by kernel_rfl]; intro p hp
 cases hp)) fun xs rows boxes K r hl hr => by
 obtain ⟨a1, e, h⟩ := runv hr
 have := St.like_eq (y := a a1) hl (by kernel_rfl) e
 obtain ⟨rfl, rfl, rfl⟩ := argSt_inj this
 exact (tie K a1).trans h
end bits_Len64
namespace bits_Len
noncomputable def c : Code := bodyOf Go.Proofs.Try.f167
noncomputable def fi : Fin := ⟨Γ0, [(.tmp 2, 3)], [[1]], [], [], []⟩
noncomputable def m (r1 : Int) : Res := ⟨[⟨false, [.int .i64 r1]⟩], [], [], [], []⟩
noncomputable def os : List (FuncId × St × (List Lf → (Res → Option Res) → Option Res)) := [bits_Len64.con]
noncomputable def X (K : Res → Option Res) : Ctx := { Γ := Γ0, orc := orcOf os, io := [], share := [], mvl := [], bun := [], cut := [], own := [], cin := [], cout := [], lp := lpOf [], kl := [], nk := true, eqs := eqs0, byt := byt0, fin := finK fi K }
noncomputable def b (a1 : Int) (R : Int → Option Res) : Option Res :=
 bits_Len64.g a1 fun r2 =>
 R r2
theorem gx : ∃ x : Int → (Int → Option Res) → Option Res, x = b := ⟨_, rfl⟩
noncomputable def g : Int → (Int → Option Res) → Option Res := Classical.choose gx
theorem e : g = b := Classical.choose_spec gx
noncomputable def run : List Lf → (Res → Option Res) → Option Res
 | [.i a1], K => g a1 (fun r1 => K (m r1))
 | _, _ => none
noncomputable def a (a1 : Int) : St := argSt [one (.int .u64 a1)] [] []
noncomputable def con : FuncId × St × (List Lf → (Res → Option Res) → Option Res) := (167, a 0, run)
theorem cx (K : Res → Option Res) : CtxOk Go.Proofs.Try.prog Γ0 byt0 eqs0 (X K) os := ⟨rfl, rfl, rfl, (fun p hp => by
 rcases List.mem_cons.1 hp with rfl | hp
 ·exact bits_Len64.ok
 cases hp), rfl, rfl, rfl, rfl⟩
theorem tie (K : Res → Option Res) (a1 : Int) : exec (X K) c (entry 8 [one (.int .u64 a1)] [] []) (endK (X K)) = g a1 (fun r1 => K (m r1)) := Eq.trans (b := b a1 (fun r1 => K (m r1))) (by kernel_rfl) (by rw [e])
theorem runv {l : List Lf} {K : Res → Option Res} {r : Res} (h : run l K = some r) : ∃ a1, l = [.i a1] ∧ g a1 (fun r1 => K (m r1)) = some r := by
 unfold run at h; split at h
 ·exact ⟨_, rfl, h⟩
 ·cases h
theorem ok : Con Go.Proofs.Try.prog con := con_of (fn := Go.Proofs.Try.f167) (c := c) (Fi := fi) (X := X) (fun_of laid (by kernel_rfl) (by kernel_rfl) (by kernel_rfl) rfl (by kernel_rfl) (by kernel_rfl) cx (fun _ => rfl) (fun _ => rfl) (fun K => by
 rw [show loopsOf c = [] from by kernel_rfl]; intro p hp
 cases hp)) fun xs rows boxes K r hl hr => by
 obtain ⟨a1, e, h⟩ := runv hr
 have := St.like_eq (y := a a1) hl (by kernel_rfl) e
 obtain ⟨rfl, rfl, rfl⟩ := argSt_inj this
 exact (tie K a1).trans h
end bits_Len
namespace cmp_isNaN_int
noncomputable def c : Code := bodyOf Go.Proofs.Try.f168
noncomputable def fi : Fin := ⟨Γ0, [(.tmp 2, 4)], [[1]], [], [], []⟩
noncomputable def m (r1 : Bool) : Res := ⟨[⟨false, [.bool r1]⟩], [], [], [], []⟩
noncomputable def os : List (FuncId × St × (List Lf → (Res → Option Res) → Option Res)) := []
noncomputable def X (K : Res → Option Res) : Ctx := { Γ := Γ0, orc := orcOf os, io := [], share := [], mvl := [], bun := [], cut := [], own := [], cin := [], cout := [], lp := lpOf [], kl := [], nk := true, eqs := eqs0, byt := byt0, fin := finK fi K }
noncomputable def b (a1 : Int) (R : Bool → Option Res) : Option Res :=
 R (a1 != a1)
theorem gx : ∃ x : Int → (Bool → Option Res) → Option Res, x = b := ⟨_, rfl⟩
noncomputable def g : Int → (Bool → Option Res) → Option Res := Classical.choose gx
theorem e : g = b := Classical.choose_spec gx
noncomputable def run : List Lf → (Res → Option Res) → Option Res
 | [.i a1], K => g a1 (fun r1 => K (m r1))
 | _, _ => none
noncomputable def a (a1 : Int) : St := argSt [one (.int .i64 a1)] [] []
noncomputable def con : FuncId × St × (List Lf → (Res → Option Res) → Option Res) := (168, a 0, run)
theorem cx (K : Res → Option Res) : CtxOk Go.Proofs.Try.prog Γ0 byt0 eqs0 (X K) os := ⟨rfl, rfl, rfl, (fun p hp => by
 cases hp), rfl, rfl, rfl, rfl⟩
theorem tie (K : Res → Option Res) (a1 : Int) : exec (X K) c (entry 6 [one (.int .i64 a1)] [] []) (endK (X K)) = g a1 (fun r1 => K (m r1)) := Eq.trans (b := b a1 (fun r1 => K (m r1))) (by kernel_rfl) (by rw [e])
theorem runv {l : List Lf} {K : Res → Option Res} {r : Res} (h : run l K = some r) : ∃ a1, l = [.i a1] ∧ g a1 (fun r1 => K (m r1)) = some r := by
 unfold run at h; split at h
 ·exact ⟨_, rfl, h⟩
 ·cases h
theorem ok : Con Go.Proofs.Try.prog con := con_of (fn := Go.Proofs.Try.f168) (c := c) (Fi := fi) (X := X) (fun_of laid (by kernel_rfl) (by kernel_rfl) (by kernel_rfl) rfl (by kernel_rfl) (by kernel_rfl) cx (fun _ => rfl) (fun _ => rfl) (fun K => by
 rw [show loopsOf c = [] from by kernel_rfl]; intro p hp
 cases hp)) fun xs rows boxes K r hl hr => by
 obtain ⟨a1, e, h⟩ := runv hr
 have := St.like_eq (y := a a1) hl (by kernel_rfl) e
 obtain ⟨rfl, rfl, rfl⟩ := argSt_inj this
 exact (tie K a1).trans h
end cmp_isNaN_int
namespace cmp_Compare_int
noncomputable def c : Code := bodyOf Go.Proofs.Try.f116
noncomputable def fi : Fin := ⟨Γ0, [(.tmp 4, 3)], [[1]], [], [], []⟩
noncomputable def m (r1 : Int) : Res := ⟨[⟨false, [.int .i64 r1]⟩], [], [], [], []⟩
noncomputable def os : List (FuncId × St × (List Lf → (Res → Option Res) → Option Res)) := [cmp_isNaN_int.con]
noncomputable def X (K : Res → Option Res) : Ctx := { Γ := Γ0, orc := orcOf os, io := [], share := [], mvl := [], bun := [], cut := [], own := [], cin := [], cout := [], lp := lpOf [], kl := [], nk := true, eqs := eqs0, byt := byt0, fin := finK fi K }
noncomputable def b (a1 a2 : Int) (R : Int → Option Res) : Option Res :=
 cmp_isNaN_int.g a1 fun r3 =>
 cmp_isNaN_int.g a2 fun r4 =>
 bif r3 then (bif r4 then R 0
  else R (-1))
 else bif r4 then R 1
 else bif decide (a1 < a2) then R (-1)
 else bif decide (a2 < a1) then R 1
 else R 0
theorem gx : ∃ x : Int → Int → (Int → Option Res) → Option Res, x = b := ⟨_, rfl⟩
noncomputable def g : Int → Int → (Int → Option Res) → Option Res := Classical.choose gx
theorem e : g = b := Classical.choose_spec gx
noncomputable def run : List Lf → (Res → Option Res) → Option Res
 | [.i a1, .i a2], K => g a1 a2 (fun r1 => K (m r1))
 | _, _ => none
noncomputable def a (a1 a2 : Int) : St := argSt [one (.int .i64 a1), one (.int .i64 a2)] [] []
noncomputable def con : FuncId × St × (List Lf → (Res → Option Res) → Option Res) := (116, a 0 0, run)
theorem cx (K : Res → Option Res) : CtxOk Go.Proofs.Try.prog Γ0 byt0 eqs0 (X K) os := ⟨rfl, rfl, rfl, (fun p hp => by
 rcases List.mem_cons.1 hp with rfl | hp
 ·exact cmp_isNaN_int.ok
 cases hp), rfl, rfl, rfl, rfl⟩
theorem tie (K : Res → Option Res) (a1 a2 : Int) : exec (X K) c (entry 20 [one (.int .i64 a1), one (.int .i64 a2)] [] []) (endK (X K)) = g a1 a2 (fun r1 => K (m r1)) := Eq.trans (b := b a1 a2 (fun r1 => K (m r1))) (by kernel_rfl) (by rw [e])
theorem runv {l : List Lf} {K : Res → Option Res} {r : Res} (h : run l K = some r) : ∃ a1 a2, l = [.i a1, .i a2] ∧ g a1 a2 (fun r1 => K (m r1)) = some r := by
 unfold run at h; split at h
 ·exact ⟨_, _, rfl, h⟩
 ·cases h
theorem ok : Con Go.Proofs.Try.prog con := con_of (fn := Go.Proofs.Try.f116) (c := c) (Fi := fi) (X := X) (fun_of laid (by kernel_rfl) (by kernel_rfl) (by kernel_rfl) rfl (by kernel_rfl) (by kernel_rfl) cx (fun _ => rfl) (fun _ => rfl) (fun K => by
 rw [show loopsOf c = [] from by kernel_rfl]; intro p hp
 cases hp)) fun xs rows boxes K r hl hr => by
 obtain ⟨a1, a2, e, h⟩ := runv hr
 have := St.like_eq (y := a a1 a2) hl (by kernel_rfl) e
 obtain ⟨rfl, rfl, rfl⟩ := argSt_inj this
 exact (tie K a1 a2).trans h
end cmp_Compare_int
namespace impl_packed_1
noncomputable def c : Code := bodyOf Go.Proofs.Try.f115
noncomputable def fi : Fin := ⟨Γ0, [(.tmp 5, 3)], [[1]], [], [([.sl [.int .i64] 8, .int .i64, .sl [.int .i64, .int .i64, .bool] 24], [0, 1, 0])], []⟩
noncomputable def m (a3 : List Int) (a4 : Int) (a5 : List (List Cl)) (r1 : Int) : Res := ⟨[⟨false, [.int .i64 r1]⟩], [], [], [[.tr 2 2 [.int .i64] (.ints a3), .int .i64 a4, .tr 2 2 [.int .i64, .int .i64, .bool] (.cells a5)]], []⟩
noncomputable def os : List (FuncId × St × (List Lf → (Res → Option Res) → Option Res)) := [cmp_Compare_int.con]
noncomputable def X (K : Res → Option Res) : Ctx := { Γ := Γ0, orc := orcOf os, io := [], share := [], mvl := [], bun := [], cut := [], own := [], cin := [], cout := [], lp := lpOf [], kl := [], nk := true, eqs := eqs0, byt := byt0, fin := finK fi K }
noncomputable def b (a1 a2 : Int) (a3 : List Int) (a4 : Int) (a5 : List (List Cl)) (R : Int → Option Res) : Option Res :=
 bif decide (0 ≤ a1) && decide (a1 < (a5.length : Int)) then (bif decide (0 ≤ a2) && decide (a2 < (a5.length : Int)) then (cmp_Compare_int.g (((a5.getD a1.toNat []).getD 0 (.i 0)).toI) (((a5.getD a2.toNat []).getD 0 (.i 0)).toI) fun r6 =>
  R r6)
  else none)
 else none
theorem gx : ∃ x : Int → Int → List Int → Int → List (List Cl) → (Int → Option Res) → Option Res, x = b := ⟨_, rfl⟩
noncomputable def g : Int → Int → List Int → Int → List (List Cl) → (Int → Option Res) → Option Res := Classical.choose gx
theorem e : g = b := Classical.choose_spec gx
noncomputable def run : List Lf → (Res → Option Res) → Option Res
 | [.i a1, .i a2, .q (.ints a3), .i a4, .q (.cells a5)], K => g a1 a2 a3 a4 a5 (fun r1 => K (m a3 a4 a5 r1))
 | _, _ => none
noncomputable def a (a1 a2 : Int) (a3 : List Int) (a4 : Int) (a5 : List (List Cl)) : St := argSt [one (.int .i64 a1), one (.int .i64 a2), one (.bp 0 0)] [] [[.tr 2 2 [.int .i64] (.ints a3), .int .i64 a4, .tr 2 2 [.int .i64, .int .i64, .bool] (.cells a5)]]
noncomputable def con : FuncId × St × (List Lf → (Res → Option Res) → Option Res) := (115, a 0 0 [] 0 [], run)
theorem cx (K : Res → Option Res) : CtxOk Go.Proofs.Try.prog Γ0 byt0 eqs0 (X K) os := ⟨rfl, rfl, rfl, (fun p hp => by
 rcases List.mem_cons.1 hp with rfl | hp
 ·exact cmp_Compare_int.ok
 cases hp), rfl, rfl, rfl, rfl⟩
theorem tie (K : Res → Option Res) (a1 a2 : Int) (a3 : List Int) (a4 : Int) (a5 : List (List Cl)) : exec (X K) c (entry 19 [one (.int .i64 a1), one (.int .i64 a2), one (.bp 0 0)] [] [[.tr 2 2 [.int .i64] (.ints a3), .int .i64 a4, .tr 2 2 [.int .i64, .int .i64, .bool] (.cells a5)]]) (endK (X K)) = g a1 a2 a3 a4 a5 (fun r1 => K (m a3 a4 a5 r1)) := Eq.trans (b := b a1 a2 a3 a4 a5 (fun r1 => K (m a3 a4 a5 r1))) (by kernel_rfl) (by rw [e])
theorem runv {l : List Lf} {K : Res → Option Res} {r : Res} (h : run l K = some r) : ∃ a1 a2 a3 a4 a5, l = [.i a1, .i a2, .q (.ints a3), .i a4, .q (.cells a5)] ∧ g a1 a2 a3 a4 a5 (fun r1 => K (m a3 a4 a5 r1)) = some r := by
 unfold run at h; split at h
 ·exact ⟨_, _, _, _, _, rfl, h⟩
 ·cases h
theorem ok : Con Go.Proofs.Try.prog con := con_of (fn := Go.Proofs.Try.f115) (c := c) (Fi := fi) (X := X) (fun_of laid (by kernel_rfl) (by kernel_rfl) (by kernel_rfl) rfl (by kernel_rfl) (by kernel_rfl) cx (fun _ => rfl) (fun _ => rfl) (fun K => by
 rw [show loopsOf c = [] from by kernel_rfl]; intro p hp
 cases hp)) fun xs rows boxes K r hl hr => by
 obtain ⟨a1, a2, a3, a4, a5, e, h⟩ := runv hr
 have := St.like_eq (y := a a1 a2 a3 a4 a5) hl (by kernel_rfl) e
 obtain ⟨rfl, rfl, rfl⟩ := argSt_inj this
 exact (tie K a1 a2 a3 a4 a5).trans h
end impl_packed_1
namespace slices_insertionSortCmpFunc_int
noncomputable def c : Code := bodyOf Go.Proofs.Try.f187
noncomputable def fi : Fin := ⟨Γ0, [], [], [true], [([.sl [.int .i64] 8, .int .i64, .sl [.int .i64, .int .i64, .bool] 24], [0, 1, 0])], []⟩
noncomputable def m (r1 r2 : List Int) (r3 : Int) (r4 : List (List Cl)) : Res := ⟨[], [some ⟨[.int .i64], .ints r1, true, 0⟩], [], [[.tr 2 2 [.int .i64] (.ints r2), .int .i64 r3, .tr 2 2 [.int .i64, .int .i64, .bool] (.cells r4)]], []⟩
noncomputable def b0 : Code := codeAt c [1, 0, 0]
noncomputable def b2 : Code := codeAt c [1, 0, 0, 1, 0, 0, 1, 0, 0]
noncomputable def s2 (x14 x15 x16 x17 : Int) (x18 x19 : List Int) (x20 : Int) (x21 : List (List Cl)) : St := ⟨mkT 53 [(0, one (.ow 0)), (1, one (.int .i64 x14)), (2, one (.int .i64 x15)), (3, one (.fn 115 [0])), (8, one (.int .i64 x16)), (9, one (.int .i64 x17))], [(0, ⟨[.int .i64], .ints x18, true, 0⟩)], [(0, [.tr 2 2 [.int .i64] (.ints x19), .int .i64 x20, .tr 2 2 [.int .i64, .int .i64, .bool] (.cells x21)])]⟩
noncomputable def l2s (x14 x15 x16 : Int) (x19 : List Int) (x20 : Int) (x21 : List (List Cl)) (rec : Int → List Int → Option Res) (k : List Int → Option Res) (x17 : Int) (x18 : List Int) : Option Res :=
 bif decide (x14 < x17) then (bif decide (0 ≤ x17) && decide (x17 < (x18.length : Int)) then (bif decide (0 ≤ IntKind.i64.wrap (x17 - 1)) && decide (IntKind.i64.wrap (x17 - 1) < (x18.length : Int)) then (impl_packed_1.g (x18.getD x17.toNat 0) (x18.getD ((IntKind.i64.wrap (x17 - 1)).toNat) 0) x19 x20 x21 fun r22 =>
  bif decide (r22 < 0) then (bif decide (0 ≤ IntKind.i64.wrap (x17 - 1)) && decide (IntKind.i64.wrap (x17 - 1) < (x18.length : Int)) then (bif decide (0 ≤ x17) && decide (x17 < (x18.length : Int)) then (bif decide (0 ≤ x17) && decide (x17 < (x18.length : Int)) then (bif decide (0 ≤ IntKind.i64.wrap (x17 - 1)) && decide (IntKind.i64.wrap (x17 - 1) < ((x18.set x17.toNat (x18.getD ((IntKind.i64.wrap (x17 - 1)).toNat) 0)).length : Int)) then rec (IntKind.i64.wrap (x17 - 1)) ((x18.set x17.toNat (x18.getD ((IntKind.i64.wrap (x17 - 1)).toNat) 0)).set ((IntKind.i64.wrap (x17 - 1)).toNat) (x18.getD x17.toNat 0))
   else none)
   else none)
   else none)
   else none)
  else k x18)
  else none)
  else none)
 else k x18
noncomputable def l2 (x14 x15 x16 : Int) (x19 : List Int) (x20 : Int) (x21 : List (List Cl)) (k : List Int → Option Res) : Nat → Int → List Int → Option Res
 | 0, _, _ => none
 | n + 1, x17, x18 => l2s x14 x15 x16 x19 x20 x21 (fun x17 x18 => l2 x14 x15 x16 x19 x20 x21 k n x17 x18) k x17 x18
noncomputable def o2 (x14 x15 x16 : Int) (x19 : List Int) (x20 : Int) (x21 : List (List Cl)) (y4 : List Int) : St := ⟨mkT 53 [(0, one (.ow 0)), (1, one (.int .i64 x14)), (2, one (.int .i64 x15)), (3, one (.fn 115 [0])), (8, one (.int .i64 x16))], [(0, ⟨[.int .i64], .ints y4, true, 0⟩)], [(0, [.tr 2 2 [.int .i64] (.ints x19), .int .i64 x20, .tr 2 2 [.int .i64, .int .i64, .bool] (.cells x21)])]⟩
noncomputable def p2 (K : Res → Option Res) : List Lf → (St → Option Res) → Option Res
 | [.i x14, .i x15, .i x16, .i x17, .q (.ints x18), .q (.ints x19), .i x20, .q (.cells x21)], k => l2 x14 x15 x16 x19 x20 x21 (fun y4 => k (o2 x14 x15 x16 x19 x20 x21 y4)) fuel x17 x18
 | _, _ => none
noncomputable def s0 (x7 x8 x9 : Int) (x10 x11 : List Int) (x12 : Int) (x13 : List (List Cl)) : St := ⟨mkT 53 [(0, one (.ow 0)), (1, one (.int .i64 x7)), (2, one (.int .i64 x8)), (3, one (.fn 115 [0])), (8, one (.int .i64 x9))], [(0, ⟨[.int .i64], .ints x10, true, 0⟩)], [(0, [.tr 2 2 [.int .i64] (.ints x11), .int .i64 x12, .tr 2 2 [.int .i64, .int .i64, .bool] (.cells x13)])]⟩
noncomputable def l0s (x7 x8 : Int) (x11 : List Int) (x12 : Int) (x13 : List (List Cl)) (rec : Int → List Int → Option Res) (k : List Int → Option Res) (x9 : Int) (x10 : List Int) : Option Res :=
 bif decide (x9 < x8) then (l2 x7 x8 x9 x11 x12 x13 (fun y23 =>
  rec (IntKind.i64.wrap (x9 + 1)) y23) fuel x9 x10)
 else k x10
noncomputable def l0 (x7 x8 : Int) (x11 : List Int) (x12 : Int) (x13 : List (List Cl)) (k : List Int → Option Res) : Nat → Int → List Int → Option Res
 | 0, _, _ => none
 | n + 1, x9, x10 => l0s x7 x8 x11 x12 x13 (fun x9 x10 => l0 x7 x8 x11 x12 x13 k n x9 x10) k x9 x10
noncomputable def o0 (x7 x8 : Int) (x11 : List Int) (x12 : Int) (x13 : List (List Cl)) (y1 : List Int) : St := ⟨mkT 53 [], [(0, ⟨[.int .i64], .ints y1, true, 0⟩)], [(0, [.tr 2 2 [.int .i64] (.ints x11), .int .i64 x12, .tr 2 2 [.int .i64, .int .i64, .bool] (.cells x13)])]⟩
noncomputable def p0 (K : Res → Option Res) : List Lf → (St → Option Res) → Option Res
 | [.i x7, .i x8, .i x9, .q (.ints x10), .q (.ints x11), .i x12, .q (.cells x13)], k => l0 x7 x8 x11 x12 x13 (fun y1 => k (o0 x7 x8 x11 x12 x13 y1)) fuel x9 x10
 | _, _ => none
noncomputable def os : List (FuncId × St × (List Lf → (Res → Option Res) → Option Res)) := [impl_packed_1.con]
noncomputable def X (K : Res → Option Res) : Ctx := { Γ := Γ0, orc := orcOf os, io := [], share := [], mvl := [], bun := [], cut := [], own := [], cin := [(2, ⟨[0, 1, 2, 3, 8, 9], [(0, 0)], [0], [], [], []⟩), (0, ⟨[0, 1, 2, 3, 8], [(0, 0)], [0], [], [], []⟩)], cout := [(2, ⟨[0, 1, 2, 3, 8], [(0, 0)], [0], [], [], []⟩), (0, ⟨[], [(0, 0)], [0], [], [], []⟩)], lp := lpOf [(2, s2 0 0 0 0 [] [] 0 [], p2 K), (0, s0 0 0 0 [] [] 0 [], p0 K)], kl := [], nk := true, eqs := eqs0, byt := byt0, fin := finK fi K }
noncomputable def b (a1 a2 : Int) (a3 a4 : List Int) (a5 : Int) (a6 : List (List Cl)) (R : List Int → List Int → Int → List (List Cl) → Option Res) : Option Res :=
 l0 a1 a2 a4 a5 a6 (fun y24 =>
 R y24 a4 a5 a6) fuel (IntKind.i64.wrap (a1 + 1)) a3
theorem gx : ∃ x : Int → Int → List Int → List Int → Int → List (List Cl) → (List Int → List Int → Int → List (List Cl) → Option Res) → Option Res, x = b := ⟨_, rfl⟩
noncomputable def g : Int → Int → List Int → List Int → Int → List (List Cl) → (List Int → List Int → Int → List (List Cl) → Option Res) → Option Res := Classical.choose gx
theorem e : g = b := Classical.choose_spec gx
noncomputable def run : List Lf → (Res → Option Res) → Option Res
 | [.i a1, .i a2, .q (.ints a3), .q (.ints a4), .i a5, .q (.cells a6)], K => g a1 a2 a3 a4 a5 a6 (fun r1 r2 r3 r4 => K (m r1 r2 r3 r4))
 | _, _ => none
noncomputable def a (a1 a2 : Int) (a3 a4 : List Int) (a5 : Int) (a6 : List (List Cl)) : St := argSt [one (.ow 0), one (.int .i64 a1), one (.int .i64 a2), one (.fn 115 [0])] [⟨[.int .i64], .ints a3, true, 0⟩] [[.tr 2 2 [.int .i64] (.ints a4), .int .i64 a5, .tr 2 2 [.int .i64, .int .i64, .bool] (.cells a6)]]
noncomputable def con : FuncId × St × (List Lf → (Res → Option Res) → Option Res) := (187, a 0 0 [] [] 0 [], run)
theorem cx (K : Res → Option Res) : CtxOk Go.Proofs.Try.prog Γ0 byt0 eqs0 (X K) os := ⟨rfl, rfl, rfl, (fun p hp => by
 rcases List.mem_cons.1 hp with rfl | hp
 ·exact impl_packed_1.ok
 cases hp), rfl, rfl, rfl, rfl⟩
theorem t2 (K : Res → Option Res) (k : St → Option Res) (it : St → (St → Option Res) → Option Res) (x14 x15 x16 x17 : Int) (x18 x19 : List Int) (x20 : Int) (x21 : List (List Cl)) : iterS (X K) 2 b2 it (s2 x14 x15 x16 x17 x18 x19 x20 x21) k = l2s x14 x15 x16 x19 x20 x21 (fun x17 x18 => it (s2 x14 x15 x16 x17 x18 x19 x20 x21) k) (fun y4 => k (o2 x14 x15 x16 x19 x20 x21 y4)) x17 x18 := by kernel_rfl
theorem i2 (K : Res → Option Res) (k : St → Option Res) (x14 x15 x16 : Int) (x19 : List Int) (x20 : Int) (x21 : List (List Cl)) : ∀ (n : Nat) (x17 : Int) (x18 : List Int), iter (X K) 2 b2 n (s2 x14 x15 x16 x17 x18 x19 x20 x21) k = l2 x14 x15 x16 x19 x20 x21 (fun y4 => k (o2 x14 x15 x16 x19 x20 x21 y4)) n x17 x18
 | 0, _, _ => rfl
 | n + 1, x17, x18 => by
  rw [iter_succ, t2, show (fun x17 x18 => iter (X K) 2 b2 n (s2 x14 x15 x16 x17 x18 x19 x20 x21) k) = (fun x17 x18 => l2 x14 x15 x16 x19 x20 x21 (fun y4 => k (o2 x14 x15 x16 x19 x20 x21 y4)) n x17 x18) from funext fun x17 => funext fun x18 => i2 K k x14 x15 x16 x19 x20 x21 n x17 x18]; rfl
theorem v2 {K : Res → Option Res} {l : List Lf} {k : St → Option Res} {r : Res} (h : p2 K l k = some r) : ∃ x14 x15 x16 x17 x18 x19 x20 x21, l = [.i x14, .i x15, .i x16, .i x17, .q (.ints x18), .q (.ints x19), .i x20, .q (.cells x21)] ∧ l2 x14 x15 x16 x19 x20 x21 (fun y4 => k (o2 x14 x15 x16 x19 x20 x21 y4)) fuel x17 x18 = some r := by
 unfold p2 at h; split at h
 ·exact ⟨_, _, _, _, _, _, _, _, rfl, h⟩
 ·cases h
theorem t0 (K : Res → Option Res) (k : St → Option Res) (it : St → (St → Option Res) → Option Res) (x7 x8 x9 : Int) (x10 x11 : List Int) (x12 : Int) (x13 : List (List Cl)) : iterS (X K) 0 b0 it (s0 x7 x8 x9 x10 x11 x12 x13) k = l0s x7 x8 x11 x12 x13 (fun x9 x10 => it (s0 x7 x8 x9 x10 x11 x12 x13) k) (fun y1 => k (o0 x7 x8 x11 x12 x13 y1)) x9 x10 := by kernel_rfl
theorem i0 (K : Res → Option Res) (k : St → Option Res) (x7 x8 : Int) (x11 : List Int) (x12 : Int) (x13 : List (List Cl)) : ∀ (n : Nat) (x9 : Int) (x10 : List Int), iter (X K) 0 b0 n (s0 x7 x8 x9 x10 x11 x12 x13) k = l0 x7 x8 x11 x12 x13 (fun y1 => k (o0 x7 x8 x11 x12 x13 y1)) n x9 x10
 | 0, _, _ => rfl
 | n + 1, x9, x10 => by
  rw [iter_succ, t0, show (fun x9 x10 => iter (X K) 0 b0 n (s0 x7 x8 x9 x10 x11 x12 x13) k) = (fun x9 x10 => l0 x7 x8 x11 x12 x13 (fun y1 => k (o0 x7 x8 x11 x12 x13 y1)) n x9 x10) from funext fun x9 => funext fun x10 => i0 K k x7 x8 x11 x12 x13 n x9 x10]; rfl
theorem v0 {K : Res → Option Res} {l : List Lf} {k : St → Option Res} {r : Res} (h : p0 K l k = some r) : ∃ x7 x8 x9 x10 x11 x12 x13, l = [.i x7, .i x8, .i x9, .q (.ints x10), .q (.ints x11), .i x12, .q (.cells x13)] ∧ l0 x7 x8 x11 x12 x13 (fun y1 => k (o0 x7 x8 x11 x12 x13 y1)) fuel x9 x10 = some r := by
 unfold p0 at h; split at h
 ·exact ⟨_, _, _, _, _, _, _, rfl, h⟩
 ·cases h
theorem w2 (K : Res → Option Res) : LpSound Go.Proofs.Try.prog (X K) 2 b2 := lp_ok ((cx K).ok laid) (by rw [show loopsOf b2 = [] from by kernel_rfl]; intro p hp; cases hp) rfl fun p hp hid => by
 rcases List.mem_cons.1 hp with rfl | hp
 ·intro st k r h1 h2; obtain ⟨x14, x15, x16, x17, x18, x19, x20, x21, e, h⟩ := v2 (K := K) h2; have := St.like_eq (y := s2 x14 x15 x16 x17 x18 x19 x20 x21) h1 (by kernel_rfl) e; subst this; exact ⟨fuel, (i2 K k x14 x15 x16 x19 x20 x21 fuel x17 x18).trans h⟩
 rcases List.mem_cons.1 hp with rfl | hp
 ·exact absurd hid (by simp)
 cases hp
theorem w0 (K : Res → Option Res) : LpSound Go.Proofs.Try.prog (X K) 0 b0 := lp_ok ((cx K).ok laid) (by
 rw [show loopsOf b0 = [(2, b2)] from by kernel_rfl]; intro p hp
 rcases List.mem_cons.1 hp with rfl | hp
 ·exact w2 K
 cases hp) rfl fun p hp hid => by
 rcases List.mem_cons.1 hp with rfl | hp
 ·exact absurd hid (by simp)
 rcases List.mem_cons.1 hp with rfl | hp
 ·intro st k r h1 h2; obtain ⟨x7, x8, x9, x10, x11, x12, x13, e, h⟩ := v0 (K := K) h2; have := St.like_eq (y := s0 x7 x8 x9 x10 x11 x12 x13) h1 (by kernel_rfl) e; subst this; exact ⟨fuel, (i0 K k x7 x8 x11 x12 x13 fuel x9 x10).trans h⟩
 cases hp
theorem tie (K : Res → Option Res) (a1 a2 : Int) (a3 a4 : List Int) (a5 : Int) (a6 : List (List Cl)) : exec (X K) c (entry 53 [one (.ow 0), one (.int .i64 a1), one (.int .i64 a2), one (.fn 115 [0])] [⟨[.int .i64], .ints a3, true, 0⟩] [[.tr 2 2 [.int .i64] (.ints a4), .int .i64 a5, .tr 2 2 [.int .i64, .int .i64, .bool] (.cells a6)]]) (endK (X K)) = g a1 a2 a3 a4 a5 a6 (fun r1 r2 r3 r4 => K (m r1 r2 r3 r4)) := Eq.trans (b := b a1 a2 a3 a4 a5 a6 (fun r1 r2 r3 r4 => K (m r1 r2 r3 r4))) (by kernel_rfl) (by rw [e])
theorem runv {l : List Lf} {K : Res → Option Res} {r : Res} (h : run l K = some r) : ∃ a1 a2 a3 a4 a5 a6, l = [.i a1, .i a2, .q (.ints a3), .q (.ints a4), .i a5, .q (.cells a6)] ∧ g a1 a2 a3 a4 a5 a6 (fun r1 r2 r3 r4 => K (m r1 r2 r3 r4)) = some r := by
 unfold run at h; split at h
 ·exact ⟨_, _, _, _, _, _, rfl, h⟩
 ·cases h
theorem ok : Con Go.Proofs.Try.prog con := con_of (fn := Go.Proofs.Try.f187) (c := c) (Fi := fi) (X := X) (fun_of laid (by kernel_rfl) (by kernel_rfl) (by kernel_rfl) rfl (by kernel_rfl) (by kernel_rfl) cx (fun _ => rfl) (fun _ => rfl) (fun K => by
 rw [show loopsOf c = [(0, b0), (2, b2)] from by kernel_rfl]; intro p hp
 rcases List.mem_cons.1 hp with rfl | hp
 ·exact w0 K
 rcases List.mem_cons.1 hp with rfl | hp
 ·exact w2 K
 cases hp)) fun xs rows boxes K r hl hr => by
 obtain ⟨a1, a2, a3, a4, a5, a6, e, h⟩ := runv hr
 have := St.like_eq (y := a a1 a2 a3 a4 a5 a6) hl (by kernel_rfl) e
 obtain ⟨rfl, rfl, rfl⟩ := argSt_inj this
 exact (tie K a1 a2 a3 a4 a5 a6).trans h
end slices_insertionSortCmpFunc_int
namespace slices_siftDownCmpFunc_int
noncomputable def c : Code := bodyOf Go.Proofs.Try.f199
noncomputable def fi : Fin := ⟨Γ0, [], [], [true], [([.sl [.int .i64] 8, .int .i64, .sl [.int .i64, .int .i64, .bool] 24], [0, 1, 0])], []⟩
noncomputable def m (r1 r2 : List Int) (r3 : Int) (r4 : List (List Cl)) : Res := ⟨[], [some ⟨[.int .i64], .ints r1, true, 0⟩], [], [[.tr 2 2 [.int .i64] (.ints r2), .int .i64 r3, .tr 2 2 [.int .i64, .int .i64, .bool] (.cells r4)]], []⟩
noncomputable def b0 : Code := codeAt c [1, 0, 0]
noncomputable def s0 (x8 x9 x10 : Int) (x11 x12 : List Int) (x13 : Int) (x14 : List (List Cl)) : St := ⟨mkT 82 [(0, one (.ow 0)), (2, one (.int .i64 x8)), (3, one (.int .i64 x9)), (4, one (.fn 115 [0])), (10, one (.int .i64 x10))], [(0, ⟨[.int .i64], .ints x11, true, 0⟩)], [(0, [.tr 2 2 [.int .i64] (.ints x12), .int .i64 x13, .tr 2 2 [.int .i64, .int .i64, .bool] (.cells x14)])]⟩
noncomputable def l0s (x8 x9 : Int) (x12 : List Int) (x13 : Int) (x14 : List (List Cl)) (rec : Int → List Int → Option Res) (k : List Int → Option Res) (R : List Int → List Int → Int → List (List Cl) → Option Res) (x10 : Int) (x11 : List Int) : Option Res :=
 bif decide (x8 ≤ IntKind.i64.wrap ((IntKind.i64.wrap (2 * x10)) + 1)) then k x11
 else bif decide (IntKind.i64.wrap ((IntKind.i64.wrap ((IntKind.i64.wrap (2 * x10)) + 1)) + 1) < x8) then (bif decide (0 ≤ IntKind.i64.wrap (x9 + (IntKind.i64.wrap ((IntKind.i64.wrap (2 * x10)) + 1)))) && decide (IntKind.i64.wrap (x9 + (IntKind.i64.wrap ((IntKind.i64.wrap (2 * x10)) + 1))) < (x11.length : Int)) then (bif decide (0 ≤ IntKind.i64.wrap ((IntKind.i64.wrap (x9 + (IntKind.i64.wrap ((IntKind.i64.wrap (2 * x10)) + 1)))) + 1)) && decide (IntKind.i64.wrap ((IntKind.i64.wrap (x9 + (IntKind.i64.wrap ((IntKind.i64.wrap (2 * x10)) + 1)))) + 1) < (x11.length : Int)) then (impl_packed_1.g (x11.getD ((IntKind.i64.wrap (x9 + (IntKind.i64.wrap ((IntKind.i64.wrap (2 * x10)) + 1)))).toNat) 0) (x11.getD ((IntKind.i64.wrap ((IntKind.i64.wrap (x9 + (IntKind.i64.wrap ((IntKind.i64.wrap (2 * x10)) + 1)))) + 1)).toNat) 0) x12 x13 x14 fun r15 =>
  bif decide (r15 < 0) then (bif decide (0 ≤ IntKind.i64.wrap (x9 + x10)) && decide (IntKind.i64.wrap (x9 + x10) < (x11.length : Int)) then (bif decide (0 ≤ IntKind.i64.wrap (x9 + (IntKind.i64.wrap ((IntKind.i64.wrap ((IntKind.i64.wrap (2 * x10)) + 1)) + 1)))) && decide (IntKind.i64.wrap (x9 + (IntKind.i64.wrap ((IntKind.i64.wrap ((IntKind.i64.wrap (2 * x10)) + 1)) + 1))) < (x11.length : Int)) then (impl_packed_1.g (x11.getD ((IntKind.i64.wrap (x9 + x10)).toNat) 0) (x11.getD ((IntKind.i64.wrap (x9 + (IntKind.i64.wrap ((IntKind.i64.wrap ((IntKind.i64.wrap (2 * x10)) + 1)) + 1)))).toNat) 0) x12 x13 x14 fun r16 =>
   bif !(decide (r16 < 0)) then R x11 x12 x13 x14
   else bif decide (0 ≤ IntKind.i64.wrap (x9 + (IntKind.i64.wrap ((IntKind.i64.wrap ((IntKind.i64.wrap (2 * x10)) + 1)) + 1)))) && decide (IntKind.i64.wrap (x9 + (IntKind.i64.wrap ((IntKind.i64.wrap ((IntKind.i64.wrap (2 * x10)) + 1)) + 1))) < (x11.length : Int)) then (bif decide (0 ≤ IntKind.i64.wrap (x9 + x10)) && decide (IntKind.i64.wrap (x9 + x10) < (x11.length : Int)) then (bif decide (0 ≤ IntKind.i64.wrap (x9 + x10)) && decide (IntKind.i64.wrap (x9 + x10) < (x11.length : Int)) then (bif decide (0 ≤ IntKind.i64.wrap (x9 + (IntKind.i64.wrap ((IntKind.i64.wrap ((IntKind.i64.wrap (2 * x10)) + 1)) + 1)))) && decide (IntKind.i64.wrap (x9 + (IntKind.i64.wrap ((IntKind.i64.wrap ((IntKind.i64.wrap (2 * x10)) + 1)) + 1))) < ((x11.set ((IntKind.i64.wrap (x9 + x10)).toNat) (x11.getD ((IntKind.i64.wrap (x9 + (IntKind.i64.wrap ((IntKind.i64.wrap ((IntKind.i64.wrap (2 * x10)) + 1)) + 1)))).toNat) 0)).length : Int)) then rec (IntKind.i64.wrap ((IntKind.i64.wrap ((IntKind.i64.wrap (2 * x10)) + 1)) + 1)) ((x11.set ((IntKind.i64.wrap (x9 + x10)).toNat) (x11.getD ((IntKind.i64.wrap (x9 + (IntKind.i64.wrap ((IntKind.i64.wrap ((IntKind.i64.wrap (2 * x10)) + 1)) + 1)))).toNat) 0)).set ((IntKind.i64.wrap (x9 + (IntKind.i64.wrap ((IntKind.i64.wrap ((IntKind.i64.wrap (2 * x10)) + 1)) + 1)))).toNat) (x11.getD ((IntKind.i64.wrap (x9 + x10)).toNat) 0))
    else none)
    else none)
    else none)
   else none)
   else none)
   else none)
  else bif decide (0 ≤ IntKind.i64.wrap (x9 + x10)) && decide (IntKind.i64.wrap (x9 + x10) < (x11.length : Int)) then (bif decide (0 ≤ IntKind.i64.wrap (x9 + (IntKind.i64.wrap ((IntKind.i64.wrap (2 * x10)) + 1)))) && decide (IntKind.i64.wrap (x9 + (IntKind.i64.wrap ((IntKind.i64.wrap (2 * x10)) + 1))) < (x11.length : Int)) then (impl_packed_1.g (x11.getD ((IntKind.i64.wrap (x9 + x10)).toNat) 0) (x11.getD ((IntKind.i64.wrap (x9 + (IntKind.i64.wrap ((IntKind.i64.wrap (2 * x10)) + 1)))).toNat) 0) x12 x13 x14 fun r17 =>
   bif !(decide (r17 < 0)) then R x11 x12 x13 x14
   else bif decide (0 ≤ IntKind.i64.wrap (x9 + (IntKind.i64.wrap ((IntKind.i64.wrap (2 * x10)) + 1)))) && decide (IntKind.i64.wrap (x9 + (IntKind.i64.wrap ((IntKind.i64.wrap (2 * x10)) + 1))) < (x11.length : Int)) then (bif decide (0 ≤ IntKind.i64.wrap (x9 + x10)) && decide (IntKind.i64.wrap (x9 + x10) < (x11.length : Int)) then (bif decide (0 ≤ IntKind.i64.wrap (x9 + x10)) && decide (IntKind.i64.wrap (x9 + x10) < (x11.length : Int)) then (bif decide (0 ≤ IntKind.i64.wrap (x9 + (IntKind.i64.wrap ((IntKind.i64.wrap (2 * x10)) + 1)))) && decide (IntKind.i64.wrap (x9 + (IntKind.i64.wrap ((IntKind.i64.wrap (2 * x10)) + 1))) < ((x11.set ((IntKind.i64.wrap (x9 + x10)).toNat) (x11.getD ((IntKind.i64.wrap (x9 + (IntKind.i64.wrap ((IntKind.i64.wrap (2 * x10)) + 1)))).toNat) 0)).length : Int)) then rec (IntKind.i64.wrap ((IntKind.i64.wrap (2 * x10)) + 1)) ((x11.set ((IntKind.i64.wrap (x9 + x10)).toNat) (x11.getD ((IntKind.i64.wrap (x9 + (IntKind.i64.wrap ((IntKind.i64.wrap (2 * x10)) + 1)))).toNat) 0)).set ((IntKind.i64.wrap (x9 + (IntKind.i64.wrap ((IntKind.i64.wrap (2 * x10)) + 1)))).toNat) (x11.getD ((IntKind.i64.wrap (x9 + x10)).toNat) 0))
    else none)
    else none)
    else none)
   else none)
   else none)
  else none)
  else none)
  else none)
 else bif decide (0 ≤ IntKind.i64.wrap (x9 + x10)) && decide (IntKind.i64.wrap (x9 + x10) < (x11.length : Int)) then (bif decide (0 ≤ IntKind.i64.wrap (x9 + (IntKind.i64.wrap ((IntKind.i64.wrap (2 * x10)) + 1)))) && decide (IntKind.i64.wrap (x9 + (IntKind.i64.wrap ((IntKind.i64.wrap (2 * x10)) + 1))) < (x11.length : Int)) then (impl_packed_1.g (x11.getD ((IntKind.i64.wrap (x9 + x10)).toNat) 0) (x11.getD ((IntKind.i64.wrap (x9 + (IntKind.i64.wrap ((IntKind.i64.wrap (2 * x10)) + 1)))).toNat) 0) x12 x13 x14 fun r18 =>
  bif !(decide (r18 < 0)) then R x11 x12 x13 x14
  else bif decide (0 ≤ IntKind.i64.wrap (x9 + (IntKind.i64.wrap ((IntKind.i64.wrap (2 * x10)) + 1)))) && decide (IntKind.i64.wrap (x9 + (IntKind.i64.wrap ((IntKind.i64.wrap (2 * x10)) + 1))) < (x11.length : Int)) then (bif decide (0 ≤ IntKind.i64.wrap (x9 + x10)) && decide (IntKind.i64.wrap (x9 + x10) < (x11.length : Int)) then (bif decide (0 ≤ IntKind.i64.wrap (x9 + x10)) && decide (IntKind.i64.wrap (x9 + x10) < (x11.length : Int)) then (bif decide (0 ≤ IntKind.i64.wrap (x9 + (IntKind.i64.wrap ((IntKind.i64.wrap (2 * x10)) + 1)))) && decide (IntKind.i64.wrap (x9 + (IntKind.i64.wrap ((IntKind.i64.wrap (2 * x10)) + 1))) < ((x11.set ((IntKind.i64.wrap (x9 + x10)).toNat) (x11.getD ((IntKind.i64.wrap (x9 + (IntKind.i64.wrap ((IntKind.i64.wrap (2 * x10)) + 1)))).toNat) 0)).length : Int)) then rec (IntKind.i64.wrap ((IntKind.i64.wrap (2 * x10)) + 1)) ((x11.set ((IntKind.i64.wrap (x9 + x10)).toNat) (x11.getD ((IntKind.i64.wrap (x9 + (IntKind.i64.wrap ((IntKind.i64.wrap (2 * x10)) + 1)))).toNat) 0)).set ((IntKind.i64.wrap (x9 + (IntKind.i64.wrap ((IntKind.i64.wrap (2 * x10)) + 1)))).toNat) (x11.getD ((IntKind.i64.wrap (x9 + x10)).toNat) 0))
   else none)
   else none)
   else none)
  else none)
  else none)
 else none
noncomputable def l0 (x8 x9 : Int) (x12 : List Int) (x13 : Int) (x14 : List (List Cl)) (k : List Int → Option Res) (R : List Int → List Int → Int → List (List Cl) → Option Res) : Nat → Int → List Int → Option Res
 | 0, _, _ => none
 | n + 1, x10, x11 => l0s x8 x9 x12 x13 x14 (fun x10 x11 => l0 x8 x9 x12 x13 x14 k R n x10 x11) k R x10 x11
noncomputable def o0 (x8 x9 : Int) (x12 : List Int) (x13 : Int) (x14 : List (List Cl)) (y1 : List Int) : St := ⟨mkT 82 [], [(0, ⟨[.int .i64], .ints y1, true, 0⟩)], [(0, [.tr 2 2 [.int .i64] (.ints x12), .int .i64 x13, .tr 2 2 [.int .i64, .int .i64, .bool] (.cells x14)])]⟩
noncomputable def p0 (K : Res → Option Res) : List Lf → (St → Option Res) → Option Res
 | [.i x8, .i x9, .i x10, .q (.ints x11), .q (.ints x12), .i x13, .q (.cells x14)], k => l0 x8 x9 x12 x13 x14 (fun y1 => k (o0 x8 x9 x12 x13 x14 y1)) (fun r1 r2 r3 r4 => K (m r1 r2 r3 r4)) fuel x10 x11
 | _, _ => none
noncomputable def os : List (FuncId × St × (List Lf → (Res → Option Res) → Option Res)) := [impl_packed_1.con]
noncomputable def X (K : Res → Option Res) : Ctx := { Γ := Γ0, orc := orcOf os, io := [], share := [], mvl := [], bun := [], cut := [], own := [], cin := [(0, ⟨[0, 2, 3, 4, 10], [(0, 0)], [0], [], [], []⟩)], cout := [(0, ⟨[], [(0, 0)], [0], [], [], []⟩)], lp := lpOf [(0, s0 0 0 0 [] [] 0 [], p0 K)], kl := [], nk := true, eqs := eqs0, byt := byt0, fin := finK fi K }
noncomputable def b (a1 a2 a3 : Int) (a4 a5 : List Int) (a6 : Int) (a7 : List (List Cl)) (R : List Int → List Int → Int → List (List Cl) → Option Res) : Option Res :=
 l0 a2 a3 a5 a6 a7 (fun y19 =>
 R y19 a5 a6 a7) R fuel a1 a4
theorem gx : ∃ x : Int → Int → Int → List Int → List Int → Int → List (List Cl) → (List Int → List Int → Int → List (List Cl) → Option Res) → Option Res, x = b := ⟨_, rfl⟩
noncomputable def g : Int → Int → Int → List Int → List Int → Int → List (List Cl) → (List Int → List Int → Int → List (List Cl) → Option Res) → Option Res := Classical.choose gx
theorem e : g = b := Classical.choose_spec gx
noncomputable def run : List Lf → (Res → Option Res) → Option Res
 | [.i a1, .i a2, .i a3, .q (.ints a4), .q (.ints a5), .i a6, .q (.cells a7)], K => g a1 a2 a3 a4 a5 a6 a7 (fun r1 r2 r3 r4 => K (m r1 r2 r3 r4))
 | _, _ => none
noncomputable def a (a1 a2 a3 : Int) (a4 a5 : List Int) (a6 : Int) (a7 : List (List Cl)) : St := argSt [one (.ow 0), one (.int .i64 a1), one (.int .i64 a2), one (.int .i64 a3), one (.fn 115 [0])] [⟨[.int .i64], .ints a4, true, 0⟩] [[.tr 2 2 [.int .i64] (.ints a5), .int .i64 a6, .tr 2 2 [.int .i64, .int .i64, .bool] (.cells a7)]]
noncomputable def con : FuncId × St × (List Lf → (Res → Option Res) → Option Res) := (199, a 0 0 0 [] [] 0 [], run)
theorem cx (K : Res → Option Res) : CtxOk Go.Proofs.Try.prog Γ0 byt0 eqs0 (X K) os := ⟨rfl, rfl, rfl, (fun p hp => by
 rcases List.mem_cons.1 hp with rfl | hp
 ·exact impl_packed_1.ok
 cases hp), rfl, rfl, rfl, rfl⟩
theorem t0 (K : Res → Option Res) (k : St → Option Res) (it : St → (St → Option Res) → Option Res) (x8 x9 x10 : Int) (x11 x12 : List Int) (x13 : Int) (x14 : List (List Cl)) : iterS (X K) 0 b0 it (s0 x8 x9 x10 x11 x12 x13 x14) k = l0s x8 x9 x12 x13 x14 (fun x10 x11 => it (s0 x8 x9 x10 x11 x12 x13 x14) k) (fun y1 => k (o0 x8 x9 x12 x13 x14 y1)) (fun r1 r2 r3 r4 => K (m r1 r2 r3 r4)) x10 x11 := by kernel_rfl
theorem i0 (K : Res → Option Res) (k : St → Option Res) (x8 x9 : Int) (x12 : List Int) (x13 : Int) (x14 : List (List Cl)) : ∀ (n : Nat) (x10 : Int) (x11 : List Int), iter (X K) 0 b0 n (s0 x8 x9 x10 x11 x12 x13 x14) k = l0 x8 x9 x12 x13 x14 (fun y1 => k (o0 x8 x9 x12 x13 x14 y1)) (fun r1 r2 r3 r4 => K (m r1 r2 r3 r4)) n x10 x11
 | 0, _, _ => rfl
 | n + 1, x10, x11 => by
  rw [iter_succ, t0, show (fun x10 x11 => iter (X K) 0 b0 n (s0 x8 x9 x10 x11 x12 x13 x14) k) = (fun x10 x11 => l0 x8 x9 x12 x13 x14 (fun y1 => k (o0 x8 x9 x12 x13 x14 y1)) (fun r1 r2 r3 r4 => K (m r1 r2 r3 r4)) n x10 x11) from funext fun x10 => funext fun x11 => i0 K k x8 x9 x12 x13 x14 n x10 x11]; rfl
theorem v0 {K : Res → Option Res} {l : List Lf} {k : St → Option Res} {r : Res} (h : p0 K l k = some r) : ∃ x8 x9 x10 x11 x12 x13 x14, l = [.i x8, .i x9, .i x10, .q (.ints x11), .q (.ints x12), .i x13, .q (.cells x14)] ∧ l0 x8 x9 x12 x13 x14 (fun y1 => k (o0 x8 x9 x12 x13 x14 y1)) (fun r1 r2 r3 r4 => K (m r1 r2 r3 r4)) fuel x10 x11 = some r := by
 unfold p0 at h; split at h
 ·exact ⟨_, _, _, _, _, _, _, rfl, h⟩
 ·cases h
theorem w0 (K : Res → Option Res) : LpSound Go.Proofs.Try.prog (X K) 0 b0 := lp_ok ((cx K).ok laid) (by rw [show loopsOf b0 = [] from by kernel_rfl]; intro p hp; cases hp) rfl fun p hp hid => by
 rcases List.mem_cons.1 hp with rfl | hp
 ·intro st k r h1 h2; obtain ⟨x8, x9, x10, x11, x12, x13, x14, e, h⟩ := v0 (K := K) h2; have := St.like_eq (y := s0 x8 x9 x10 x11 x12 x13 x14) h1 (by kernel_rfl) e; subst this; exact ⟨fuel, (i0 K k x8 x9 x12 x13 x14 fuel x10 x11).trans h⟩
 cases hp
theorem tie (K : Res → Option Res) (a1 a2 a3 : Int) (a4 a5 : List Int) (a6 : Int) (a7 : List (List Cl)) : exec (X K) c (entry 82 [one (.ow 0), one (.int .i64 a1), one (.int .i64 a2), one (.int .i64 a3), one (.fn 115 [0])] [⟨[.int .i64], .ints a4, true, 0⟩] [[.tr 2 2 [.int .i64] (.ints a5), .int .i64 a6, .tr 2 2 [.int .i64, .int .i64, .bool] (.cells a7)]]) (endK (X K)) = g a1 a2 a3 a4 a5 a6 a7 (fun r1 r2 r3 r4 => K (m r1 r2 r3 r4)) := Eq.trans (b := b a1 a2 a3 a4 a5 a6 a7 (fun r1 r2 r3 r4 => K (m r1 r2 r3 r4))) (by kernel_rfl) (by rw [e])
theorem runv {l : List Lf} {K : Res → Option Res} {r : Res} (h : run l K = some r) : ∃ a1 a2 a3 a4 a5 a6 a7, l = [.i a1, .i a2, .i a3, .q (.ints a4), .q (.ints a5), .i a6, .q (.cells a7)] ∧ g a1 a2 a3 a4 a5 a6 a7 (fun r1 r2 r3 r4 => K (m r1 r2 r3 r4)) = some r := by
 unfold run at h; split at h
 ·exact ⟨_, _, _, _, _, _, _, rfl, h⟩
 ·cases h
theorem ok : Con Go.Proofs.Try.prog con := con_of (fn := Go.Proofs.Try.f199) (c := c) (Fi := fi) (X := X) (fun_of laid (by kernel_rfl) (by kernel_rfl) (by kernel_rfl) rfl (by kernel_rfl) (by kernel_rfl) cx (fun _ => rfl) (fun _ => rfl) (fun K => by
 rw [show loopsOf c = [(0, b0)] from by kernel_rfl]; intro p hp
 rcases List.mem_cons.1 hp with rfl | hp
 ·exact w0 K
 cases hp)) fun xs rows boxes K r hl hr => by
 obtain ⟨a1, a2, a3, a4, a5, a6, a7, e, h⟩ := runv hr
 have := St.like_eq (y := a a1 a2 a3 a4 a5 a6 a7) hl (by kernel_rfl) e
 obtain ⟨rfl, rfl, rfl⟩ := argSt_inj this
 exact (tie K a1 a2 a3 a4 a5 a6 a7).trans h
end slices_siftDownCmpFunc_int
namespace slices_heapSortCmpFunc_int
noncomputable def c : Code := bodyOf Go.Proofs.Try.f188
noncomputable def fi : Fin := ⟨Γ0, [], [], [true], [([.sl [.int .i64] 8, .int .i64, .sl [.int .i64, .int .i64, .bool] 24], [0, 1, 0])], []⟩
noncomputable def m (r1 r2 : List Int) (r3 : Int) (r4 : List (List Cl)) : Res := ⟨[], [some ⟨[.int .i64], .ints r1, true, 0⟩], [], [[.tr 2 2 [.int .i64] (.ints r2), .int .i64 r3, .tr 2 2 [.int .i64, .int .i64, .bool] (.cells r4)]], []⟩
noncomputable def b0 : Code := codeAt c [1, 1, 1, 0, 1, 0, 0]
noncomputable def b2 : Code := codeAt c [1, 1, 1, 1, 1, 0, 0]
noncomputable def s0 (x7 x8 x9 x10 : Int) (x11 x12 : List Int) (x13 : Int) (x14 : List (List Cl)) : St := ⟨mkT 60 [(0, one (.ow 0)), (3, one (.fn 115 [0])), (8, one (.int .i64 x7)), (9, one (.int .i64 x8)), (10, one (.int .i64 x9)), (11, one (.int .i64 x10))], [(0, ⟨[.int .i64], .ints x11, true, 0⟩)], [(0, [.tr 2 2 [.int .i64] (.ints x12), .int .i64 x13, .tr 2 2 [.int .i64, .int .i64, .bool] (.cells x14)])]⟩
noncomputable def l0s (x7 x8 x9 : Int) (rec : Int → List Int → List Int → Int → List (List Cl) → Option Res) (k : List Int → List Int → Int → List (List Cl) → Option Res) (x10 : Int) (x11 x12 : List Int) (x13 : Int) (x14 : List (List Cl)) : Option Res :=
 bif decide (0 ≤ x10) then (slices_siftDownCmpFunc_int.g x10 x9 x7 x11 x12 x13 x14 fun r15 r16 r17 r18 =>
  rec (IntKind.i64.wrap (x10 - 1)) r15 r16 r17 r18)
 else k x11 x12 x13 x14
noncomputable def l0 (x7 x8 x9 : Int) (k : List Int → List Int → Int → List (List Cl) → Option Res) : Nat → Int → List Int → List Int → Int → List (List Cl) → Option Res
 | 0, _, _, _, _, _ => none
 | n + 1, x10, x11, x12, x13, x14 => l0s x7 x8 x9 (fun x10 x11 x12 x13 x14 => l0 x7 x8 x9 k n x10 x11 x12 x13 x14) k x10 x11 x12 x13 x14
noncomputable def o0 (x7 x8 x9 : Int) (y4 y5 : List Int) (y6 : Int) (y7 : List (List Cl)) : St := ⟨mkT 60 [(0, one (.ow 0)), (3, one (.fn 115 [0])), (8, one (.int .i64 x7)), (9, one (.int .i64 x8)), (10, one (.int .i64 x9))], [(0, ⟨[.int .i64], .ints y4, true, 0⟩)], [(0, [.tr 2 2 [.int .i64] (.ints y5), .int .i64 y6, .tr 2 2 [.int .i64, .int .i64, .bool] (.cells y7)])]⟩
noncomputable def p0 (K : Res → Option Res) : List Lf → (St → Option Res) → Option Res
 | [.i x7, .i x8, .i x9, .i x10, .q (.ints x11), .q (.ints x12), .i x13, .q (.cells x14)], k => l0 x7 x8 x9 (fun y4 y5 y6 y7 => k (o0 x7 x8 x9 y4 y5 y6 y7)) fuel x10 x11 x12 x13 x14
 | _, _ => none
noncomputable def s2 (x23 x24 x25 : Int) (x26 x27 : List Int) (x28 : Int) (x29 : List (List Cl)) : St := ⟨mkT 60 [(0, one (.ow 0)), (3, one (.fn 115 [0])), (8, one (.int .i64 x23)), (9, one (.int .i64 x24)), (12, one (.int .i64 x25))], [(0, ⟨[.int .i64], .ints x26, true, 0⟩)], [(0, [.tr 2 2 [.int .i64] (.ints x27), .int .i64 x28, .tr 2 2 [.int .i64, .int .i64, .bool] (.cells x29)])]⟩
noncomputable def l2s (x23 x24 : Int) (rec : Int → List Int → List Int → Int → List (List Cl) → Option Res) (k : List Int → List Int → Int → List (List Cl) → Option Res) (x25 : Int) (x26 x27 : List Int) (x28 : Int) (x29 : List (List Cl)) : Option Res :=
 bif decide (0 ≤ x25) then (bif decide (0 ≤ IntKind.i64.wrap (x23 + x25)) && decide (IntKind.i64.wrap (x23 + x25) < (x26.length : Int)) then (bif decide (0 ≤ x23) && decide (x23 < (x26.length : Int)) then (bif decide (0 ≤ x23) && decide (x23 < (x26.length : Int)) then (bif decide (0 ≤ IntKind.i64.wrap (x23 + x25)) && decide (IntKind.i64.wrap (x23 + x25) < ((x26.set x23.toNat (x26.getD ((IntKind.i64.wrap (x23 + x25)).toNat) 0)).length : Int)) then (slices_siftDownCmpFunc_int.g x24 x25 x23 ((x26.set x23.toNat (x26.getD ((IntKind.i64.wrap (x23 + x25)).toNat) 0)).set ((IntKind.i64.wrap (x23 + x25)).toNat) (x26.getD x23.toNat 0)) x27 x28 x29 fun r30 r31 r32 r33 =>
  rec (IntKind.i64.wrap (x25 - 1)) r30 r31 r32 r33)
  else none)
  else none)
  else none)
  else none)
 else k x26 x27 x28 x29
noncomputable def l2 (x23 x24 : Int) (k : List Int → List Int → Int → List (List Cl) → Option Res) : Nat → Int → List Int → List Int → Int → List (List Cl) → Option Res
 | 0, _, _, _, _, _ => none
 | n + 1, x25, x26, x27, x28, x29 => l2s x23 x24 (fun x25 x26 x27 x28 x29 => l2 x23 x24 k n x25 x26 x27 x28 x29) k x25 x26 x27 x28 x29
noncomputable def o2 (x23 x24 : Int) (y1 y2 : List Int) (y3 : Int) (y4 : List (List Cl)) : St := ⟨mkT 60 [], [(0, ⟨[.int .i64], .ints y1, true, 0⟩)], [(0, [.tr 2 2 [.int .i64] (.ints y2), .int .i64 y3, .tr 2 2 [.int .i64, .int .i64, .bool] (.cells y4)])]⟩
noncomputable def p2 (K : Res → Option Res) : List Lf → (St → Option Res) → Option Res
 | [.i x23, .i x24, .i x25, .q (.ints x26), .q (.ints x27), .i x28, .q (.cells x29)], k => l2 x23 x24 (fun y1 y2 y3 y4 => k (o2 x23 x24 y1 y2 y3 y4)) fuel x25 x26 x27 x28 x29
 | _, _ => none
noncomputable def os : List (FuncId × St × (List Lf → (Res → Option Res) → Option Res)) := [slices_siftDownCmpFunc_int.con]
noncomputable def X (K : Res → Option Res) : Ctx := { Γ := Γ0, orc := orcOf os, io := [(199, [⟨true, 0, 1⟩, ⟨false, 0, 1⟩, ⟨false, 0, 1⟩, ⟨false, 0, 1⟩, ⟨false, 0, 1⟩])], share := [], mvl := [], bun := [], cut := [], own := [], cin := [(0, ⟨[0, 3, 8, 9, 10, 11], [(0, 0)], [0], [], [], []⟩), (2, ⟨[0, 3, 8, 9, 12], [(0, 0)], [0], [], [], []⟩)], cout := [(0, ⟨[0, 3, 8, 9, 10], [(0, 0)], [0], [], [], []⟩), (2, ⟨[], [(0, 0)], [0], [], [], []⟩)], lp := lpOf [(0, s0 0 0 0 0 [] [] 0 [], p0 K), (2, s2 0 0 0 [] [] 0 [], p2 K)], kl := [], nk := true, eqs := eqs0, byt := byt0, fin := finK fi K }
noncomputable def b (a1 a2 : Int) (a3 a4 : List Int) (a5 : Int) (a6 : List (List Cl)) (R : List Int → List Int → Int → List (List Cl) → Option Res) : Option Res :=
 l0 a1 0 (IntKind.i64.wrap (a2 - a1)) (fun y19 y20 y21 y22 =>
 l2 a1 0 (fun y34 y35 y36 y37 =>
 R y34 y35 y36 y37) fuel (IntKind.i64.wrap ((IntKind.i64.wrap (a2 - a1)) - 1)) y19 y20 y21 y22) fuel (IntKind.i64.wrap ((IntKind.i64.wrap ((IntKind.i64.wrap (a2 - a1)) - 1)).tdiv 2)) a3 a4 a5 a6
theorem gx : ∃ x : Int → Int → List Int → List Int → Int → List (List Cl) → (List Int → List Int → Int → List (List Cl) → Option Res) → Option Res, x = b := ⟨_, rfl⟩
noncomputable def g : Int → Int → List Int → List Int → Int → List (List Cl) → (List Int → List Int → Int → List (List Cl) → Option Res) → Option Res := Classical.choose gx
theorem e : g = b := Classical.choose_spec gx
noncomputable def run : List Lf → (Res → Option Res) → Option Res
 | [.i a1, .i a2, .q (.ints a3), .q (.ints a4), .i a5, .q (.cells a6)], K => g a1 a2 a3 a4 a5 a6 (fun r1 r2 r3 r4 => K (m r1 r2 r3 r4))
 | _, _ => none
noncomputable def a (a1 a2 : Int) (a3 a4 : List Int) (a5 : Int) (a6 : List (List Cl)) : St := argSt [one (.ow 0), one (.int .i64 a1), one (.int .i64 a2), one (.fn 115 [0])] [⟨[.int .i64], .ints a3, true, 0⟩] [[.tr 2 2 [.int .i64] (.ints a4), .int .i64 a5, .tr 2 2 [.int .i64, .int .i64, .bool] (.cells a6)]]
noncomputable def con : FuncId × St × (List Lf → (Res → Option Res) → Option Res) := (188, a 0 0 [] [] 0 [], run)
theorem cx (K : Res → Option Res) : CtxOk Go.Proofs.Try.prog Γ0 byt0 eqs0 (X K) os := ⟨rfl, rfl, rfl, (fun p hp => by
 rcases List.mem_cons.1 hp with rfl | hp
 ·exact slices_siftDownCmpFunc_int.ok
 cases hp), rfl, rfl, rfl, rfl⟩
theorem t0 (K : Res → Option Res) (k : St → Option Res) (it : St → (St → Option Res) → Option Res) (x7 x8 x9 x10 : Int) (x11 x12 : List Int) (x13 : Int) (x14 : List (List Cl)) : iterS (X K) 0 b0 it (s0 x7 x8 x9 x10 x11 x12 x13 x14) k = l0s x7 x8 x9 (fun x10 x11 x12 x13 x14 => it (s0 x7 x8 x9 x10 x11 x12 x13 x14) k) (fun y4 y5 y6 y7 => k (o0 x7 x8 x9 y4 y5 y6 y7)) x10 x11 x12 x13 x14 := by kernel_rfl
theorem i0 (K : Res → Option Res) (k : St → Option Res) (x7 x8 x9 : Int) : ∀ (n : Nat) (x10 : Int) (x11 x12 : List Int) (x13 : Int) (x14 : List (List Cl)), iter (X K) 0 b0 n (s0 x7 x8 x9 x10 x11 x12 x13 x14) k = l0 x7 x8 x9 (fun y4 y5 y6 y7 => k (o0 x7 x8 x9 y4 y5 y6 y7)) n x10 x11 x12 x13 x14
 | 0, _, _, _, _, _ => rfl
 | n + 1, x10, x11, x12, x13, x14 => by
  rw [iter_succ, t0, show (fun x10 x11 x12 x13 x14 => iter (X K) 0 b0 n (s0 x7 x8 x9 x10 x11 x12 x13 x14) k) = (fun x10 x11 x12 x13 x14 => l0 x7 x8 x9 (fun y4 y5 y6 y7 => k (o0 x7 x8 x9 y4 y5 y6 y7)) n x10 x11 x12 x13 x14) from funext fun x10 => funext fun x11 => funext fun x12 => funext fun x13 => funext fun x14 => i0 K k x7 x8 x9 n x10 x11 x12 x13 x14]; rfl
theorem v0 {K : Res → Option Res} {l : List Lf} {k : St → Option Res} {r : Res} (h : p0 K l k = some r) : ∃ x7 x8 x9 x10 x11 x12 x13 x14, l = [.i x7, .i x8, .i x9, .i x10, .q (.ints x11), .q (.ints x12), .i x13, .q (.cells x14)] ∧ l0 x7 x8 x9 (fun y4 y5 y6 y7 => k (o0 x7 x8 x9 y4 y5 y6 y7)) fuel x10 x11 x12 x13 x14 = some r := by
 unfold p0 at h; split at h
 ·exact ⟨_, _, _, _, _, _, _, _, rfl, h⟩
 ·cases h
theorem t2 (K : Res → Option Res) (k : St → Option Res) (it : St → (St → Option Res) → Option Res) (x23 x24 x25 : Int) (x26 x27 : List Int) (x28 : Int) (x29 : List (List Cl)) : iterS (X K) 2 b2 it (s2 x23 x24 x25 x26 x27 x28 x29) k = l2s x23 x24 (fun x25 x26 x27 x28 x29 => it (s2 x23 x24 x25 x26 x27 x28 x29) k) (fun y1 y2 y3 y4 => k (o2 x23 x24 y1 y2 y3 y4)) x25 x26 x27 x28 x29 := by kernel_rfl
theorem i2 (K : Res → Option Res) (k : St → Option Res) (x23 x24 : Int) : ∀ (n : Nat) (x25 : Int) (x26 x27 : List Int) (x28 : Int) (x29 : List (List Cl)), iter (X K) 2 b2 n (s2 x23 x24 x25 x26 x27 x28 x29) k = l2 x23 x24 (fun y1 y2 y3 y4 => k (o2 x23 x24 y1 y2 y3 y4)) n x25 x26 x27 x28 x29
 | 0, _, _, _, _, _ => rfl
 | n + 1, x25, x26, x27, x28, x29 => by
  rw [iter_succ, t2, show (fun x25 x26 x27 x28 x29 => iter (X K) 2 b2 n (s2 x23 x24 x25 x26 x27 x28 x29) k) = (fun x25 x26 x27 x28 x29 => l2 x23 x24 (fun y1 y2 y3 y4 => k (o2 x23 x24 y1 y2 y3 y4)) n x25 x26 x27 x28 x29) from funext fun x25 => funext fun x26 => funext fun x27 => funext fun x28 => funext fun x29 => i2 K k x23 x24 n x25 x26 x27 x28 x29]; rfl
theorem v2 {K : Res → Option Res} {l : List Lf} {k : St → Option Res} {r : Res} (h : p2 K l k = some r) : ∃ x23 x24 x25 x26 x27 x28 x29, l = [.i x23, .i x24, .i x25, .q (.ints x26), .q (.ints x27), .i x28, .q (.cells x29)] ∧ l2 x23 x24 (fun y1 y2 y3 y4 => k (o2 x23 x24 y1 y2 y3 y4)) fuel x25 x26 x27 x28 x29 = some r := by
 unfold p2 at h; split at h
 ·exact ⟨_, _, _, _, _, _, _, rfl, h⟩
 ·cases h
theorem w0 (K : Res → Option Res) : LpSound Go.Proofs.Try.prog (X K) 0 b0 := lp_ok ((cx K).ok laid) (by rw [show loopsOf b0 = [] from by kernel_rfl]; intro p hp; cases hp) rfl fun p hp hid => by
 rcases List.mem_cons.1 hp with rfl | hp
 ·intro st k r h1 h2; obtain ⟨x7, x8, x9, x10, x11, x12, x13, x14, e, h⟩ := v0 (K := K) h2; have := St.like_eq (y := s0 x7 x8 x9 x10 x11 x12 x13 x14) h1 (by kernel_rfl) e; subst this; exact ⟨fuel, (i0 K k x7 x8 x9 fuel x10 x11 x12 x13 x14).trans h⟩
 rcases List.mem_cons.1 hp with rfl | hp
 ·exact absurd hid (by simp)
 cases hp
theorem w2 (K : Res → Option Res) : LpSound Go.Proofs.Try.prog (X K) 2 b2 := lp_ok ((cx K).ok laid) (by rw [show loopsOf b2 = [] from by kernel_rfl]; intro p hp; cases hp) rfl fun p hp hid => by
 rcases List.mem_cons.1 hp with rfl | hp
 ·exact absurd hid (by simp)
 rcases List.mem_cons.1 hp with rfl | hp
 ·intro st k r h1 h2; obtain ⟨x23, x24, x25, x26, x27, x28, x29, e, h⟩ := v2 (K := K) h2; have := St.like_eq (y := s2 x23 x24 x25 x26 x27 x28 x29) h1 (by kernel_rfl) e; subst this; exact ⟨fuel, (i2 K k x23 x24 fuel x25 x26 x27 x28 x29).trans h⟩
 cases hp
theorem tie (K : Res → Option Res) (a1 a2 : Int) (a3 a4 : List Int) (a5 : Int) (a6 : List (List Cl)) : exec (X K) c (entry 60 [one (.ow 0), one (.int .i64 a1), one (.int .i64 a2), one (.fn 115 [0])] [⟨[.int .i64], .ints a3, true, 0⟩] [[.tr 2 2 [.int .i64] (.ints a4), .int .i64 a5, .tr 2 2 [.int .i64, .int .i64, .bool] (.cells a6)]]) (endK (X K)) = g a1 a2 a3 a4 a5 a6 (fun r1 r2 r3 r4 => K (m r1 r2 r3 r4)) := Eq.trans (b := b a1 a2 a3 a4 a5 a6 (fun r1 r2 r3 r4 => K (m r1 r2 r3 r4))) (by kernel_rfl) (by rw [e])
theorem runv {l : List Lf} {K : Res → Option Res} {r : Res} (h : run l K = some r) : ∃ a1 a2 a3 a4 a5 a6, l = [.i a1, .i a2, .q (.ints a3), .q (.ints a4), .i a5, .q (.cells a6)] ∧ g a1 a2 a3 a4 a5 a6 (fun r1 r2 r3 r4 => K (m r1 r2 r3 r4)) = some r := by
 unfold run at h; split at h
 ·exact ⟨_, _, _, _, _, _, rfl, h⟩
 ·cases h
theorem ok : Con Go.Proofs.Try.prog con := con_of (fn := Go.Proofs.Try.f188) (c := c) (Fi := fi) (X := X) (fun_of laid (by kernel_rfl) (by kernel_rfl) (by kernel_rfl) rfl (by kernel_rfl) (by kernel_rfl) cx (fun _ => rfl) (fun _ => rfl) (fun K => by
 rw [show loopsOf c = [(0, b0), (2, b2)] from by kernel_rfl]; intro p hp
 rcases List.mem_cons.1 hp with rfl | hp
 ·exact w0 K
 rcases List.mem_cons.1 hp with rfl | hp
 ·exact w2 K
 cases hp)) fun xs rows boxes K r hl hr => by
 obtain ⟨a1, a2, a3, a4, a5, a6, e, h⟩ := runv hr
 have := St.like_eq (y := a a1 a2 a3 a4 a5 a6) hl (by kernel_rfl) e
 obtain ⟨rfl, rfl, rfl⟩ := argSt_inj this
 exact (tie K a1 a2 a3 a4 a5 a6).trans h
end slices_heapSortCmpFunc_int
namespace slices_nextPowerOfTwo
noncomputable def c : Code := bodyOf Go.Proofs.Try.f200
noncomputable def fi : Fin := ⟨Γ0, [(.tmp 2, 172)], [[1]], [], [], []⟩
noncomputable def m (r1 : Int) : Res := ⟨[⟨false, [.int .u64 r1]⟩], [], [], [], []⟩
noncomputable def os : List (FuncId × St × (List Lf → (Res → Option Res) → Option Res)) := [bits_Len.con]
noncomputable def X (K : Res → Option Res) : Ctx := { Γ := Γ0, orc := orcOf os, io := [], share := [], mvl := [], bun := [], cut := [], own := [], cin := [], cout := [], lp := lpOf [], kl := [], nk := true, eqs := eqs0, byt := byt0, fin := finK fi K }
noncomputable def b (a1 : Int) (R : Int → Option Res) : Option Res :=
 bits_Len.g (IntKind.u64.wrap a1) fun r2 =>
 bif decide (r2 < 0) then none
 else R (IntKind.u64.wrap (1 * 2 ^ (min r2.toNat 64)))
theorem gx : ∃ x : Int → (Int → Option Res) → Option Res, x = b := ⟨_, rfl⟩
noncomputable def g : Int → (Int → Option Res) → Option Res := Classical.choose gx
theorem e : g = b := Classical.choose_spec gx
noncomputable def run : List Lf → (Res → Option Res) → Option Res
 | [.i a1], K => g a1 (fun r1 => K (m r1))
 | _, _ => none
noncomputable def a (a1 : Int) : St := argSt [one (.int .i64 a1)] [] []
noncomputable def con : FuncId × St × (List Lf → (Res → Option Res) → Option Res) := (200, a 0, run)
theorem cx (K : Res → Option Res) : CtxOk Go.Proofs.Try.prog Γ0 byt0 eqs0 (X K) os := ⟨rfl, rfl, rfl, (fun p hp => by
 rcases List.mem_cons.1 hp with rfl | hp
 ·exact bits_Len.ok
 cases hp), rfl, rfl, rfl, rfl⟩
theorem tie (K : Res → Option Res) (a1 : Int) : exec (X K) c (entry 7 [one (.int .i64 a1)] [] []) (endK (X K)) = g a1 (fun r1 => K (m r1)) := Eq.trans (b := b a1 (fun r1 => K (m r1))) (by kernel_rfl) (by rw [e])
theorem runv {l : List Lf} {K : Res → Option Res} {r : Res} (h : run l K = some r) : ∃ a1, l = [.i a1] ∧ g a1 (fun r1 => K (m r1)) = some r := by
 unfold run at h; split at h
 ·exact ⟨_, rfl, h⟩
 ·cases h
theorem ok : Con Go.Proofs.Try.prog con := con_of (fn := Go.Proofs.Try.f200) (c := c) (Fi := fi) (X := X) (fun_of laid (by kernel_rfl) (by kernel_rfl) (by kernel_rfl) rfl (by kernel_rfl) (by kernel_rfl) cx (fun _ => rfl) (fun _ => rfl) (fun K => by
 rw [show loopsOf c = [] from by kernel_rfl]; intro p hp
 cases hp)) fun xs rows boxes K r hl hr => by
 obtain ⟨a1, e, h⟩ := runv hr
 have := St.like_eq (y := a a1) hl (by kernel_rfl) e
 obtain ⟨rfl, rfl, rfl⟩ := argSt_inj this
 exact (tie K a1).trans h
end slices_nextPowerOfTwo
namespace slices_xorshift_Next
noncomputable def c : Code := bodyOf Go.Proofs.Try.f201
noncomputable def fi : Fin := ⟨Γ0, [(.tmp 2, 197)], [[1]], [], [([.int .u64], [1])], []⟩
noncomputable def m (r1 r2 : Int) : Res := ⟨[⟨false, [.int .u64 r1]⟩], [], [], [[.int .u64 r2]], []⟩
noncomputable def os : List (FuncId × St × (List Lf → (Res → Option Res) → Option Res)) := []
noncomputable def X (K : Res → Option Res) : Ctx := { Γ := Γ0, orc := orcOf os, io := [], share := [], mvl := [], bun := [], cut := [], own := [], cin := [], cout := [], lp := lpOf [], kl := [], nk := true, eqs := eqs0, byt := byt0, fin := finK fi K }
noncomputable def b (a1 : Int) (R : Int → Int → Option Res) : Option Res :=
 R (arith.bits .xor .u64 (arith.bits .xor .u64 (arith.bits .xor .u64 a1 (IntKind.u64.wrap (a1 * 2 ^ 13))) ((arith.bits .xor .u64 a1 (IntKind.u64.wrap (a1 * 2 ^ 13))).fdiv (2 ^ 7))) (IntKind.u64.wrap ((arith.bits .xor .u64 (arith.bits .xor .u64 a1 (IntKind.u64.wrap (a1 * 2 ^ 13))) ((arith.bits .xor .u64 a1 (IntKind.u64.wrap (a1 * 2 ^ 13))).fdiv (2 ^ 7))) * 2 ^ 17))) (arith.bits .xor .u64 (arith.bits .xor .u64 (arith.bits .xor .u64 a1 (IntKind.u64.wrap (a1 * 2 ^ 13))) ((arith.bits .xor .u64 a1 (IntKind.u64.wrap (a1 * 2 ^ 13))).fdiv (2 ^ 7))) (IntKind.u64.wrap ((arith.bits .xor .u64 (arith.bits .xor .u64 a1 (IntKind.u64.wrap (a1 * 2 ^ 13))) ((arith.bits .xor .u64 a1 (IntKind.u64.wrap (a1 * 2 ^ 13))).fdiv (2 ^ 7))) * 2 ^ 17)))
theorem gx : ∃ x : Int → (Int → Int → Option Res) → Option Res, x = b := ⟨_, rfl⟩
noncomputable def g : Int → (Int → Int → Option Res) → Option Res := Classical.choose gx
theorem e : g = b := Classical.choose_spec gx
noncomputable def run : List Lf → (Res → Option Res) → Option Res
 | [.i a1], K => g a1 (fun r1 r2 => K (m r1 r2))
 | _, _ => none
noncomputable def a (a1 : Int) : St := argSt [one (.bp 0 0)] [] [[.int .u64 a1]]
noncomputable def con : FuncId × St × (List Lf → (Res → Option Res) → Option Res) := (201, a 0, run)
theorem cx (K : Res → Option Res) : CtxOk Go.Proofs.Try.prog Γ0 byt0 eqs0 (X K) os := ⟨rfl, rfl, rfl, (fun p hp => by
 cases hp), rfl, rfl, rfl, rfl⟩
theorem tie (K : Res → Option Res) (a1 : Int) : exec (X K) c (entry 33 [one (.bp 0 0)] [] [[.int .u64 a1]]) (endK (X K)) = g a1 (fun r1 r2 => K (m r1 r2)) := Eq.trans (b := b a1 (fun r1 r2 => K (m r1 r2))) (by kernel_rfl) (by rw [e])
theorem runv {l : List Lf} {K : Res → Option Res} {r : Res} (h : run l K = some r) : ∃ a1, l = [.i a1] ∧ g a1 (fun r1 r2 => K (m r1 r2)) = some r := by
 unfold run at h; split at h
 ·exact ⟨_, rfl, h⟩
 ·cases h
theorem ok : Con Go.Proofs.Try.prog con := con_of (fn := Go.Proofs.Try.f201) (c := c) (Fi := fi) (X := X) (fun_of laid (by kernel_rfl) (by kernel_rfl) (by kernel_rfl) rfl (by kernel_rfl) (by kernel_rfl) cx (fun _ => rfl) (fun _ => rfl) (fun K => by
 rw [show loopsOf c = [] from by kernel_rfl]; intro p hp
 cases hp)) fun xs rows boxes K r hl hr => by
 obtain ⟨a1, e, h⟩ := runv hr
 have := St.like_eq (y := a a1) hl (by kernel_rfl) e
 obtain ⟨rfl, rfl, rfl⟩ := argSt_inj this
 exact (tie K a1).trans h
end slices_xorshift_Next
namespace slices_breakPatternsCmpFunc_int
noncomputable def c : Code := bodyOf Go.Proofs.Try.f189
noncomputable def fi : Fin := ⟨Γ0, [], [], [true], [([.sl [.int .i64] 8, .int .i64, .sl [.int .i64, .int .i64, .bool] 24], [0, 1, 0])], []⟩
noncomputable def m (r1 r2 : List Int) (r3 : Int) (r4 : List (List Cl)) : Res := ⟨[], [some ⟨[.int .i64], .ints r1, true, 0⟩], [], [[.tr 2 2 [.int .i64] (.ints r2), .int .i64 r3, .tr 2 2 [.int .i64, .int .i64, .bool] (.cells r4)]], []⟩
noncomputable def b0 : Code := codeAt c [1, 1, 0, 1, 1, 1, 0, 0]
noncomputable def s0 (x8 x9 x10 x11 : Int) (x12 : List Int) (x13 : Int) (x14 : List Int) (x15 : Int) (x16 : List (List Cl)) : St := ⟨mkT 67 [(0, one (.ow 0)), (1, one (.int .i64 x8)), (8, one (.int .i64 x9)), (9, one (.bp 5128 0)), (10, one (.int .u64 x10)), (11, one (.int .i64 x11))], [(0, ⟨[.int .i64], .ints x12, true, 0⟩)], [(5128, [.int .u64 x13]), (0, [.tr 2 2 [.int .i64] (.ints x14), .int .i64 x15, .tr 2 2 [.int .i64, .int .i64, .bool] (.cells x16)])]⟩
noncomputable def l0s (x8 x9 x10 : Int) (x14 : List Int) (x15 : Int) (x16 : List (List Cl)) (rec : Int → List Int → Int → Option Res) (k : List Int → Option Res) (x11 : Int) (x12 : List Int) (x13 : Int) : Option Res :=
 bif decide (x11 ≤ IntKind.i64.wrap ((IntKind.i64.wrap (x8 + (IntKind.i64.wrap ((IntKind.i64.wrap (x9.tdiv 4)) * 2)))) + 1)) then (slices_xorshift_Next.g x13 fun r17 r18 =>
  bif decide (x9 ≤ IntKind.i64.wrap (arith.bits .and .u64 r17 (IntKind.u64.wrap (x10 - 1)))) then (bif decide (0 ≤ IntKind.i64.wrap (x8 + (IntKind.i64.wrap ((IntKind.i64.wrap (arith.bits .and .u64 r17 (IntKind.u64.wrap (x10 - 1)))) - x9)))) && decide (IntKind.i64.wrap (x8 + (IntKind.i64.wrap ((IntKind.i64.wrap (arith.bits .and .u64 r17 (IntKind.u64.wrap (x10 - 1)))) - x9))) < (x12.length : Int)) then (bif decide (0 ≤ x11) && decide (x11 < (x12.length : Int)) then (bif decide (0 ≤ x11) && decide (x11 < (x12.length : Int)) then (bif decide (0 ≤ IntKind.i64.wrap (x8 + (IntKind.i64.wrap ((IntKind.i64.wrap (arith.bits .and .u64 r17 (IntKind.u64.wrap (x10 - 1)))) - x9)))) && decide (IntKind.i64.wrap (x8 + (IntKind.i64.wrap ((IntKind.i64.wrap (arith.bits .and .u64 r17 (IntKind.u64.wrap (x10 - 1)))) - x9))) < ((x12.set x11.toNat (x12.getD ((IntKind.i64.wrap (x8 + (IntKind.i64.wrap ((IntKind.i64.wrap (arith.bits .and .u64 r17 (IntKind.u64.wrap (x10 - 1)))) - x9)))).toNat) 0)).length : Int)) then rec (IntKind.i64.wrap (x11 + 1)) ((x12.set x11.toNat (x12.getD ((IntKind.i64.wrap (x8 + (IntKind.i64.wrap ((IntKind.i64.wrap (arith.bits .and .u64 r17 (IntKind.u64.wrap (x10 - 1)))) - x9)))).toNat) 0)).set ((IntKind.i64.wrap (x8 + (IntKind.i64.wrap ((IntKind.i64.wrap (arith.bits .and .u64 r17 (IntKind.u64.wrap (x10 - 1)))) - x9)))).toNat) (x12.getD x11.toNat 0)) r18
   else none)
   else none)
   else none)
   else none)
  else bif decide (0 ≤ IntKind.i64.wrap (x8 + (IntKind.i64.wrap (arith.bits .and .u64 r17 (IntKind.u64.wrap (x10 - 1)))))) && decide (IntKind.i64.wrap (x8 + (IntKind.i64.wrap (arith.bits .and .u64 r17 (IntKind.u64.wrap (x10 - 1))))) < (x12.length : Int)) then (bif decide (0 ≤ x11) && decide (x11 < (x12.length : Int)) then (bif decide (0 ≤ x11) && decide (x11 < (x12.length : Int)) then (bif decide (0 ≤ IntKind.i64.wrap (x8 + (IntKind.i64.wrap (arith.bits .and .u64 r17 (IntKind.u64.wrap (x10 - 1)))))) && decide (IntKind.i64.wrap (x8 + (IntKind.i64.wrap (arith.bits .and .u64 r17 (IntKind.u64.wrap (x10 - 1))))) < ((x12.set x11.toNat (x12.getD ((IntKind.i64.wrap (x8 + (IntKind.i64.wrap (arith.bits .and .u64 r17 (IntKind.u64.wrap (x10 - 1)))))).toNat) 0)).length : Int)) then rec (IntKind.i64.wrap (x11 + 1)) ((x12.set x11.toNat (x12.getD ((IntKind.i64.wrap (x8 + (IntKind.i64.wrap (arith.bits .and .u64 r17 (IntKind.u64.wrap (x10 - 1)))))).toNat) 0)).set ((IntKind.i64.wrap (x8 + (IntKind.i64.wrap (arith.bits .and .u64 r17 (IntKind.u64.wrap (x10 - 1)))))).toNat) (x12.getD x11.toNat 0)) r18
   else none)
   else none)
   else none)
  else none)
 else k x12
noncomputable def l0 (x8 x9 x10 : Int) (x14 : List Int) (x15 : Int) (x16 : List (List Cl)) (k : List Int → Option Res) : Nat → Int → List Int → Int → Option Res
 | 0, _, _, _ => none
 | n + 1, x11, x12, x13 => l0s x8 x9 x10 x14 x15 x16 (fun x11 x12 x13 => l0 x8 x9 x10 x14 x15 x16 k n x11 x12 x13) k x11 x12 x13
noncomputable def o0 (x8 x9 x10 : Int) (x14 : List Int) (x15 : Int) (x16 : List (List Cl)) (y1 : List Int) : St := ⟨mkT 67 [], [(0, ⟨[.int .i64], .ints y1, true, 0⟩)], [(0, [.tr 2 2 [.int .i64] (.ints x14), .int .i64 x15, .tr 2 2 [.int .i64, .int .i64, .bool] (.cells x16)])]⟩
noncomputable def p0 (K : Res → Option Res) : List Lf → (St → Option Res) → Option Res
 | [.i x8, .i x9, .i x10, .i x11, .q (.ints x12), .i x13, .q (.ints x14), .i x15, .q (.cells x16)], k => l0 x8 x9 x10 x14 x15 x16 (fun y1 => k (o0 x8 x9 x10 x14 x15 x16 y1)) fuel x11 x12 x13
 | _, _ => none
noncomputable def os : List (FuncId × St × (List Lf → (Res → Option Res) → Option Res)) := [slices_nextPowerOfTwo.con, slices_xorshift_Next.con]
noncomputable def X (K : Res → Option Res) : Ctx := { Γ := Γ0, orc := orcOf os, io := [], share := [], mvl := [], bun := [], cut := [], own := [], cin := [(0, ⟨[0, 1, 8, 9, 10, 11], [(0, 0)], [5128, 0], [], [], []⟩)], cout := [(0, ⟨[], [(0, 0)], [0], [], [], []⟩)], lp := lpOf [(0, s0 0 0 0 0 [] 0 [] 0 [], p0 K)], kl := [], nk := true, eqs := eqs0, byt := byt0, fin := finK fi K }
noncomputable def b (a1 a2 : Int) (a3 a4 : List Int) (a5 : Int) (a6 : List (List Cl)) (R : List Int → List Int → Int → List (List Cl) → Option Res) : Option Res :=
 bif decide (8 ≤ IntKind.i64.wrap (a2 - a1)) then (slices_nextPowerOfTwo.g (IntKind.i64.wrap (a2 - a1)) fun r7 =>
  l0 a1 (IntKind.i64.wrap (a2 - a1)) r7 a4 a5 a6 (fun y19 =>
  R y19 a4 a5 a6) fuel (IntKind.i64.wrap ((IntKind.i64.wrap (a1 + (IntKind.i64.wrap ((IntKind.i64.wrap ((IntKind.i64.wrap (a2 - a1)).tdiv 4)) * 2)))) - 1)) a3 (IntKind.u64.wrap (IntKind.i64.wrap (a2 - a1))))
 else R a3 a4 a5 a6
theorem gx : ∃ x : Int → Int → List Int → List Int → Int → List (List Cl) → (List Int → List Int → Int → List (List Cl) → Option Res) → Option Res, x = b := ⟨_, rfl⟩
noncomputable def g : Int → Int → List Int → List Int → Int → List (List Cl) → (List Int → List Int → Int → List (List Cl) → Option Res) → Option Res := Classical.choose gx
theorem e : g = b := Classical.choose_spec gx
noncomputable def run : List Lf → (Res → Option Res) → Option Res
 | [.i a1, .i a2, .q (.ints a3), .q (.ints a4), .i a5, .q (.cells a6)], K => g a1 a2 a3 a4 a5 a6 (fun r1 r2 r3 r4 => K (m r1 r2 r3 r4))
 | _, _ => none
noncomputable def a (a1 a2 : Int) (a3 a4 : List Int) (a5 : Int) (a6 : List (List Cl)) : St := argSt [one (.ow 0), one (.int .i64 a1), one (.int .i64 a2), one (.fn 115 [0])] [⟨[.int .i64], .ints a3, true, 0⟩] [[.tr 2 2 [.int .i64] (.ints a4), .int .i64 a5, .tr 2 2 [.int .i64, .int .i64, .bool] (.cells a6)]]
noncomputable def con : FuncId × St × (List Lf → (Res → Option Res) → Option Res) := (189, a 0 0 [] [] 0 [], run)
theorem cx (K : Res → Option Res) : CtxOk Go.Proofs.Try.prog Γ0 byt0 eqs0 (X K) os := ⟨rfl, rfl, rfl, (fun p hp => by
 rcases List.mem_cons.1 hp with rfl | hp
 ·exact slices_nextPowerOfTwo.ok
 rcases List.mem_cons.1 hp with rfl | hp
 ·exact slices_xorshift_Next.ok
 cases hp), rfl, rfl, rfl, rfl⟩
theorem t0 (K : Res → Option Res) (k : St → Option Res) (it : St → (St → Option Res) → Option Res) (x8 x9 x10 x11 : Int) (x12 : List Int) (x13 : Int) (x14 : List Int) (x15 : Int) (x16 : List (List Cl)) : iterS (X K) 0 b0 it (s0 x8 x9 x10 x11 x12 x13 x14 x15 x16) k = l0s x8 x9 x10 x14 x15 x16 (fun x11 x12 x13 => it (s0 x8 x9 x10 x11 x12 x13 x14 x15 x16) k) (fun y1 => k (o0 x8 x9 x10 x14 x15 x16 y1)) x11 x12 x13 := by kernel_rfl
theorem i0 (K : Res → Option Res) (k : St → Option Res) (x8 x9 x10 : Int) (x14 : List Int) (x15 : Int) (x16 : List (List Cl)) : ∀ (n : Nat) (x11 : Int) (x12 : List Int) (x13 : Int), iter (X K) 0 b0 n (s0 x8 x9 x10 x11 x12 x13 x14 x15 x16) k = l0 x8 x9 x10 x14 x15 x16 (fun y1 => k (o0 x8 x9 x10 x14 x15 x16 y1)) n x11 x12 x13
 | 0, _, _, _ => rfl
 | n + 1, x11, x12, x13 => by
  rw [iter_succ, t0, show (fun x11 x12 x13 => iter (X K) 0 b0 n (s0 x8 x9 x10 x11 x12 x13 x14 x15 x16) k) = (fun x11 x12 x13 => l0 x8 x9 x10 x14 x15 x16 (fun y1 => k (o0 x8 x9 x10 x14 x15 x16 y1)) n x11 x12 x13) from funext fun x11 => funext fun x12 => funext fun x13 => i0 K k x8 x9 x10 x14 x15 x16 n x11 x12 x13]; rfl
theorem v0 {K : Res → Option Res} {l : List Lf} {k : St → Option Res} {r : Res} (h : p0 K l k = some r) : ∃ x8 x9 x10 x11 x12 x13 x14 x15 x16, l = [.i x8, .i x9, .i x10, .i x11, .q (.ints x12), .i x13, .q (.ints x14), .i x15, .q (.cells x16)] ∧ l0 x8 x9 x10 x14 x15 x16 (fun y1 => k (o0 x8 x9 x10 x14 x15 x16 y1)) fuel x11 x12 x13 = some r := by
 unfold p0 at h; split at h
 ·exact ⟨_, _, _, _, _, _, _, _, _, rfl, h⟩
 ·cases h
theorem w0 (K : Res → Option Res) : LpSound Go.Proofs.Try.prog (X K) 0 b0 := lp_ok ((cx K).ok laid) (by rw [show loopsOf b0 = [] from by kernel_rfl]; intro p hp; cases hp) rfl fun p hp hid => by
 rcases List.mem_cons.1 hp with rfl | hp
 ·intro st k r h1 h2; obtain ⟨x8, x9, x10, x11, x12, x13, x14, x15, x16, e, h⟩ := v0 (K := K) h2; have := St.like_eq (y := s0 x8 x9 x10 x11 x12 x13 x14 x15 x16) h1 (by kernel_rfl) e; subst this; exact ⟨fuel, (i0 K k x8 x9 x10 x14 x15 x16 fuel x11 x12 x13).trans h⟩
 cases hp
theorem tie (K : Res → Option Res) (a1 a2 : Int) (a3 a4 : List Int) (a5 : Int) (a6 : List (List Cl)) : exec (X K) c (entry 67 [one (.ow 0), one (.int .i64 a1), one (.int .i64 a2), one (.fn 115 [0])] [⟨[.int .i64], .ints a3, true, 0⟩] [[.tr 2 2 [.int .i64] (.ints a4), .int .i64 a5, .tr 2 2 [.int .i64, .int .i64, .bool] (.cells a6)]]) (endK (X K)) = g a1 a2 a3 a4 a5 a6 (fun r1 r2 r3 r4 => K (m r1 r2 r3 r4)) := Eq.trans (b := b a1 a2 a3 a4 a5 a6 (fun r1 r2 r3 r4 => K (m r1 r2 r3 r4))) (by kernel_rfl) (by rw [e])
theorem runv {l : List Lf} {K : Res → Option Res} {r : Res} (h : run l K = some r) : ∃ a1 a2 a3 a4 a5 a6, l = [.i a1, .i a2, .q (.ints a3), .q (.ints a4), .i a5, .q (.cells a6)] ∧ g a1 a2 a3 a4 a5 a6 (fun r1 r2 r3 r4 => K (m r1 r2 r3 r4)) = some r := by
 unfold run at h; split at h
 ·exact ⟨_, _, _, _, _, _, rfl, h⟩
 ·cases h
theorem ok : Con Go.Proofs.Try.prog con := con_of (fn := Go.Proofs.Try.f189) (c := c) (Fi := fi) (X := X) (fun_of laid (by kernel_rfl) (by kernel_rfl) (by kernel_rfl) rfl (by kernel_rfl) (by kernel_rfl) cx (fun _ => rfl) (fun _ => rfl) (fun K => by
 rw [show loopsOf c = [(0, b0)] from by kernel_rfl]; intro p hp
 rcases List.mem_cons.1 hp with rfl | hp
 ·exact w0 K
 cases hp)) fun xs rows boxes K r hl hr => by
 obtain ⟨a1, a2, a3, a4, a5, a6, e, h⟩ := runv hr
 have := St.like_eq (y := a a1 a2 a3 a4 a5 a6) hl (by kernel_rfl) e
 obtain ⟨rfl, rfl, rfl⟩ := argSt_inj this
 exact (tie K a1 a2 a3 a4 a5 a6).trans h
end slices_breakPatternsCmpFunc_int
namespace slices_order2CmpFunc_int
noncomputable def c : Code := bodyOf Go.Proofs.Try.f204
noncomputable def fi : Fin := ⟨Γ0, [(.tmp 10, 3), (.tmp 11, 3)], [[1], [1]], [], [([.int .i64], [1]), ([.sl [.int .i64] 8, .int .i64, .sl [.int .i64, .int .i64, .bool] 24], [0, 1, 0])], []⟩
noncomputable def m (a5 : List Int) (a6 : Int) (a7 : List (List Cl)) (r1 r2 r3 : Int) : Res := ⟨[⟨false, [.int .i64 r1]⟩, ⟨false, [.int .i64 r2]⟩], [], [], [[.int .i64 r3], [.tr 2 2 [.int .i64] (.ints a5), .int .i64 a6, .tr 2 2 [.int .i64, .int .i64, .bool] (.cells a7)]], []⟩
noncomputable def os : List (FuncId × St × (List Lf → (Res → Option Res) → Option Res)) := [impl_packed_1.con]
noncomputable def X (K : Res → Option Res) : Ctx := { Γ := Γ0, orc := orcOf os, io := [], share := [], mvl := [], bun := [], cut := [], own := [], cin := [], cout := [], lp := lpOf [], kl := [], nk := true, eqs := eqs0, byt := byt0, fin := finK fi K }
noncomputable def b (a1 : List Int) (a2 a3 a4 : Int) (a5 : List Int) (a6 : Int) (a7 : List (List Cl)) (R : Int → Int → Int → Option Res) : Option Res :=
 bif decide (0 ≤ a3) && decide (a3 < (a1.length : Int)) then (bif decide (0 ≤ a2) && decide (a2 < (a1.length : Int)) then (impl_packed_1.g (a1.getD a3.toNat 0) (a1.getD a2.toNat 0) a5 a6 a7 fun r8 =>
  bif decide (r8 < 0) then R a3 a2 (IntKind.i64.wrap (a4 + 1))
  else R a2 a3 a4)
  else none)
 else none
theorem gx : ∃ x : List Int → Int → Int → Int → List Int → Int → List (List Cl) → (Int → Int → Int → Option Res) → Option Res, x = b := ⟨_, rfl⟩
noncomputable def g : List Int → Int → Int → Int → List Int → Int → List (List Cl) → (Int → Int → Int → Option Res) → Option Res := Classical.choose gx
theorem e : g = b := Classical.choose_spec gx
noncomputable def run : List Lf → (Res → Option Res) → Option Res
 | [.q (.ints a1), .i a2, .i a3, .i a4, .q (.ints a5), .i a6, .q (.cells a7)], K => g a1 a2 a3 a4 a5 a6 a7 (fun r1 r2 r3 => K (m a5 a6 a7 r1 r2 r3))
 | _, _ => none
noncomputable def a (a1 : List Int) (a2 a3 a4 : Int) (a5 : List Int) (a6 : Int) (a7 : List (List Cl)) : St := argSt [one (.tr 0 1 [.int .i64] (.ints a1)), one (.int .i64 a2), one (.int .i64 a3), one (.bp 0 0), one (.fn 115 [1])] [] [[.int .i64 a4], [.tr 2 2 [.int .i64] (.ints a5), .int .i64 a6, .tr 2 2 [.int .i64, .int .i64, .bool] (.cells a7)]]
noncomputable def con : FuncId × St × (List Lf → (Res → Option Res) → Option Res) := (204, a [] 0 0 0 [] 0 [], run)
theorem cx (K : Res → Option Res) : CtxOk Go.Proofs.Try.prog Γ0 byt0 eqs0 (X K) os := ⟨rfl, rfl, rfl, (fun p hp => by
 rcases List.mem_cons.1 hp with rfl | hp
 ·exact impl_packed_1.ok
 cases hp), rfl, rfl, rfl, rfl⟩
theorem tie (K : Res → Option Res) (a1 : List Int) (a2 a3 a4 : Int) (a5 : List Int) (a6 : Int) (a7 : List (List Cl)) : exec (X K) c (entry 32 [one (.tr 0 1 [.int .i64] (.ints a1)), one (.int .i64 a2), one (.int .i64 a3), one (.bp 0 0), one (.fn 115 [1])] [] [[.int .i64 a4], [.tr 2 2 [.int .i64] (.ints a5), .int .i64 a6, .tr 2 2 [.int .i64, .int .i64, .bool] (.cells a7)]]) (endK (X K)) = g a1 a2 a3 a4 a5 a6 a7 (fun r1 r2 r3 => K (m a5 a6 a7 r1 r2 r3)) := Eq.trans (b := b a1 a2 a3 a4 a5 a6 a7 (fun r1 r2 r3 => K (m a5 a6 a7 r1 r2 r3))) (by kernel_rfl) (by rw [e])
theorem runv {l : List Lf} {K : Res → Option Res} {r : Res} (h : run l K = some r) : ∃ a1 a2 a3 a4 a5 a6 a7, l = [.q (.ints a1), .i a2, .i a3, .i a4, .q (.ints a5), .i a6, .q (.cells a7)] ∧ g a1 a2 a3 a4 a5 a6 a7 (fun r1 r2 r3 => K (m a5 a6 a7 r1 r2 r3)) = some r := by
 unfold run at h; split at h
 ·exact ⟨_, _, _, _, _, _, _, rfl, h⟩
 ·cases h
theorem ok : Con Go.Proofs.Try.prog con := con_of (fn := Go.Proofs.Try.f204) (c := c) (Fi := fi) (X := X) (fun_of laid (by kernel_rfl) (by kernel_rfl) (by kernel_rfl) rfl (by kernel_rfl) (by kernel_rfl) cx (fun _ => rfl) (fun _ => rfl) (fun K => by
 rw [show loopsOf c = [] from by kernel_rfl]; intro p hp
 cases hp)) fun xs rows boxes K r hl hr => by
 obtain ⟨a1, a2, a3, a4, a5, a6, a7, e, h⟩ := runv hr
 have := St.like_eq (y := a a1 a2 a3 a4 a5 a6 a7) hl (by kernel_rfl) e
 obtain ⟨rfl, rfl, rfl⟩ := argSt_inj this
 exact (tie K a1 a2 a3 a4 a5 a6 a7).trans h
end slices_order2CmpFunc_int
namespace slices_medianCmpFunc_int
noncomputable def c : Code := bodyOf Go.Proofs.Try.f203
noncomputable def fi : Fin := ⟨Γ0, [(.tmp 12, 3)], [[1]], [], [([.int .i64], [1]), ([.sl [.int .i64] 8, .int .i64, .sl [.int .i64, .int .i64, .bool] 24], [0, 1, 0])], []⟩
noncomputable def m (a6 : List Int) (a7 : Int) (a8 : List (List Cl)) (r1 r2 : Int) : Res := ⟨[⟨false, [.int .i64 r1]⟩], [], [], [[.int .i64 r2], [.tr 2 2 [.int .i64] (.ints a6), .int .i64 a7, .tr 2 2 [.int .i64, .int .i64, .bool] (.cells a8)]], []⟩
noncomputable def os : List (FuncId × St × (List Lf → (Res → Option Res) → Option Res)) := [slices_order2CmpFunc_int.con]
noncomputable def X (K : Res → Option Res) : Ctx := { Γ := Γ0, orc := orcOf os, io := [], share := [], mvl := [], bun := [], cut := [], own := [], cin := [], cout := [], lp := lpOf [], kl := [], nk := true, eqs := eqs0, byt := byt0, fin := finK fi K }
noncomputable def b (a1 : List Int) (a2 a3 a4 a5 : Int) (a6 : List Int) (a7 : Int) (a8 : List (List Cl)) (R : Int → Int → Option Res) : Option Res :=
 slices_order2CmpFunc_int.g a1 a2 a3 a5 a6 a7 a8 fun r9 r10 r11 =>
 slices_order2CmpFunc_int.g a1 r10 a4 r11 a6 a7 a8 fun r12 r13 r14 =>
 slices_order2CmpFunc_int.g a1 r9 r12 r14 a6 a7 a8 fun r15 r16 r17 =>
 R r16 r17
theorem gx : ∃ x : List Int → Int → Int → Int → Int → List Int → Int → List (List Cl) → (Int → Int → Option Res) → Option Res, x = b := ⟨_, rfl⟩
noncomputable def g : List Int → Int → Int → Int → Int → List Int → Int → List (List Cl) → (Int → Int → Option Res) → Option Res := Classical.choose gx
theorem e : g = b := Classical.choose_spec gx
noncomputable def run : List Lf → (Res → Option Res) → Option Res
 | [.q (.ints a1), .i a2, .i a3, .i a4, .i a5, .q (.ints a6), .i a7, .q (.cells a8)], K => g a1 a2 a3 a4 a5 a6 a7 a8 (fun r1 r2 => K (m a6 a7 a8 r1 r2))
 | _, _ => none
noncomputable def a (a1 : List Int) (a2 a3 a4 a5 : Int) (a6 : List Int) (a7 : Int) (a8 : List (List Cl)) : St := argSt [one (.tr 0 1 [.int .i64] (.ints a1)), one (.int .i64 a2), one (.int .i64 a3), one (.int .i64 a4), one (.bp 0 0), one (.fn 115 [1])] [] [[.int .i64 a5], [.tr 2 2 [.int .i64] (.ints a6), .int .i64 a7, .tr 2 2 [.int .i64, .int .i64, .bool] (.cells a8)]]
noncomputable def con : FuncId × St × (List Lf → (Res → Option Res) → Option Res) := (203, a [] 0 0 0 0 [] 0 [], run)
theorem cx (K : Res → Option Res) : CtxOk Go.Proofs.Try.prog Γ0 byt0 eqs0 (X K) os := ⟨rfl, rfl, rfl, (fun p hp => by
 rcases List.mem_cons.1 hp with rfl | hp
 ·exact slices_order2CmpFunc_int.ok
 cases hp), rfl, rfl, rfl, rfl⟩
theorem tie (K : Res → Option Res) (a1 : List Int) (a2 a3 a4 a5 : Int) (a6 : List Int) (a7 : Int) (a8 : List (List Cl)) : exec (X K) c (entry 41 [one (.tr 0 1 [.int .i64] (.ints a1)), one (.int .i64 a2), one (.int .i64 a3), one (.int .i64 a4), one (.bp 0 0), one (.fn 115 [1])] [] [[.int .i64 a5], [.tr 2 2 [.int .i64] (.ints a6), .int .i64 a7, .tr 2 2 [.int .i64, .int .i64, .bool] (.cells a8)]]) (endK (X K)) = g a1 a2 a3 a4 a5 a6 a7 a8 (fun r1 r2 => K (m a6 a7 a8 r1 r2)) := Eq.trans (b := b a1 a2 a3 a4 a5 a6 a7 a8 (fun r1 r2 => K (m a6 a7 a8 r1 r2))) (by kernel_rfl) (by rw [e])
theorem runv {l : List Lf} {K : Res → Option Res} {r : Res} (h : run l K = some r) : ∃ a1 a2 a3 a4 a5 a6 a7 a8, l = [.q (.ints a1), .i a2, .i a3, .i a4, .i a5, .q (.ints a6), .i a7, .q (.cells a8)] ∧ g a1 a2 a3 a4 a5 a6 a7 a8 (fun r1 r2 => K (m a6 a7 a8 r1 r2)) = some r := by
 unfold run at h; split at h
 ·exact ⟨_, _, _, _, _, _, _, _, rfl, h⟩
 ·cases h
theorem ok : Con Go.Proofs.Try.prog con := con_of (fn := Go.Proofs.Try.f203) (c := c) (Fi := fi) (X := X) (fun_of laid (by kernel_rfl) (by kernel_rfl) (by kernel_rfl) rfl (by kernel_rfl) (by kernel_rfl) cx (fun _ => rfl) (fun _ => rfl) (fun K => by
 rw [show loopsOf c = [] from by kernel_rfl]; intro p hp
 cases hp)) fun xs rows boxes K r hl hr => by
 obtain ⟨a1, a2, a3, a4, a5, a6, a7, a8, e, h⟩ := runv hr
 have := St.like_eq (y := a a1 a2 a3 a4 a5 a6 a7 a8) hl (by kernel_rfl) e
 obtain ⟨rfl, rfl, rfl⟩ := argSt_inj this
 exact (tie K a1 a2 a3 a4 a5 a6 a7 a8).trans h
end slices_medianCmpFunc_int
namespace slices_medianAdjacentCmpFunc_int
noncomputable def c : Code := bodyOf Go.Proofs.Try.f202
noncomputable def fi : Fin := ⟨Γ0, [(.tmp 8, 3)], [[1]], [], [([.int .i64], [1]), ([.sl [.int .i64] 8, .int .i64, .sl [.int .i64, .int .i64, .bool] 24], [0, 1, 0])], []⟩
noncomputable def m (a4 : List Int) (a5 : Int) (a6 : List (List Cl)) (r1 r2 : Int) : Res := ⟨[⟨false, [.int .i64 r1]⟩], [], [], [[.int .i64 r2], [.tr 2 2 [.int .i64] (.ints a4), .int .i64 a5, .tr 2 2 [.int .i64, .int .i64, .bool] (.cells a6)]], []⟩
noncomputable def os : List (FuncId × St × (List Lf → (Res → Option Res) → Option Res)) := [slices_medianCmpFunc_int.con]
noncomputable def X (K : Res → Option Res) : Ctx := { Γ := Γ0, orc := orcOf os, io := [], share := [], mvl := [], bun := [], cut := [], own := [], cin := [], cout := [], lp := lpOf [], kl := [], nk := true, eqs := eqs0, byt := byt0, fin := finK fi K }
noncomputable def b (a1 : List Int) (a2 a3 : Int) (a4 : List Int) (a5 : Int) (a6 : List (List Cl)) (R : Int → Int → Option Res) : Option Res :=
 slices_medianCmpFunc_int.g a1 (IntKind.i64.wrap (a2 - 1)) a2 (IntKind.i64.wrap (a2 + 1)) a3 a4 a5 a6 fun r7 r8 =>
 R r7 r8
theorem gx : ∃ x : List Int → Int → Int → List Int → Int → List (List Cl) → (Int → Int → Option Res) → Option Res, x = b := ⟨_, rfl⟩
noncomputable def g : List Int → Int → Int → List Int → Int → List (List Cl) → (Int → Int → Option Res) → Option Res := Classical.choose gx
theorem e : g = b := Classical.choose_spec gx
noncomputable def run : List Lf → (Res → Option Res) → Option Res
 | [.q (.ints a1), .i a2, .i a3, .q (.ints a4), .i a5, .q (.cells a6)], K => g a1 a2 a3 a4 a5 a6 (fun r1 r2 => K (m a4 a5 a6 r1 r2))
 | _, _ => none
noncomputable def a (a1 : List Int) (a2 a3 : Int) (a4 : List Int) (a5 : Int) (a6 : List (List Cl)) : St := argSt [one (.tr 0 1 [.int .i64] (.ints a1)), one (.int .i64 a2), one (.bp 0 0), one (.fn 115 [1])] [] [[.int .i64 a3], [.tr 2 2 [.int .i64] (.ints a4), .int .i64 a5, .tr 2 2 [.int .i64, .int .i64, .bool] (.cells a6)]]
noncomputable def con : FuncId × St × (List Lf → (Res → Option Res) → Option Res) := (202, a [] 0 0 [] 0 [], run)
theorem cx (K : Res → Option Res) : CtxOk Go.Proofs.Try.prog Γ0 byt0 eqs0 (X K) os := ⟨rfl, rfl, rfl, (fun p hp => by
 rcases List.mem_cons.1 hp with rfl | hp
 ·exact slices_medianCmpFunc_int.ok
 cases hp), rfl, rfl, rfl, rfl⟩
theorem tie (K : Res → Option Res) (a1 : List Int) (a2 a3 : Int) (a4 : List Int) (a5 : Int) (a6 : List (List Cl)) : exec (X K) c (entry 18 [one (.tr 0 1 [.int .i64] (.ints a1)), one (.int .i64 a2), one (.bp 0 0), one (.fn 115 [1])] [] [[.int .i64 a3], [.tr 2 2 [.int .i64] (.ints a4), .int .i64 a5, .tr 2 2 [.int .i64, .int .i64, .bool] (.cells a6)]]) (endK (X K)) = g a1 a2 a3 a4 a5 a6 (fun r1 r2 => K (m a4 a5 a6 r1 r2)) := Eq.trans (b := b a1 a2 a3 a4 a5 a6 (fun r1 r2 => K (m a4 a5 a6 r1 r2))) (by kernel_rfl) (by rw [e])
theorem runv {l : List Lf} {K : Res → Option Res} {r : Res} (h : run l K = some r) : ∃ a1 a2 a3 a4 a5 a6, l = [.q (.ints a1), .i a2, .i a3, .q (.ints a4), .i a5, .q (.cells a6)] ∧ g a1 a2 a3 a4 a5 a6 (fun r1 r2 => K (m a4 a5 a6 r1 r2)) = some r := by
 unfold run at h; split at h
 ·exact ⟨_, _, _, _, _, _, rfl, h⟩
 ·cases h
theorem ok : Con Go.Proofs.Try.prog con := con_of (fn := Go.Proofs.Try.f202) (c := c) (Fi := fi) (X := X) (fun_of laid (by kernel_rfl) (by kernel_rfl) (by kernel_rfl) rfl (by kernel_rfl) (by kernel_rfl) cx (fun _ => rfl) (fun _ => rfl) (fun K => by
 rw [show loopsOf c = [] from by kernel_rfl]; intro p hp
 cases hp)) fun xs rows boxes K r hl hr => by
 obtain ⟨a1, a2, a3, a4, a5, a6, e, h⟩ := runv hr
 have := St.like_eq (y := a a1 a2 a3 a4 a5 a6) hl (by kernel_rfl) e
 obtain ⟨rfl, rfl, rfl⟩ := argSt_inj this
 exact (tie K a1 a2 a3 a4 a5 a6).trans h
end slices_medianAdjacentCmpFunc_int
end Go.Tv.F
