/- The law's functions, printed by a program of ours, each with its contract. They hold without condition. -/
import Derived.Test.YtdejjcgikcfgjaaProg
import Derived.Test.YtdejjcgikcfgjaaTvC
set_option linter.unusedVariables false
set_option linter.unusedSectionVars false
set_option linter.unusedSimpArgs false
set_option linter.unnecessarySimpa false
set_option maxRecDepth 100000
set_option autoImplicit false
namespace Go.Tv.F
open Go Go.Tv
instance envI : Env := envT [3, 4, 5, 13, 17, 35]
noncomputable def Γ0 : List (Nat × TI) := [(3, ⟨false, [.int .i64], []⟩),
 (4, ⟨false, [.bool], []⟩),
 (5, ⟨false, [.int .u8], []⟩),
 (9, ⟨false, [.str], []⟩),
 (22, ⟨false, [.sl [.int .i64, .int .i64, .int .i64, .int .i64, .int .i64, .ints .i64] 64], []⟩),
 (24, ⟨false, [.sl [.int .i64, .int .i64] 16], []⟩),
 (26, ⟨false, [.sl [.int .i64, .int .i64, .int .i64, .int .i64, .int .i64, .ints .i64] 64], []⟩),
 (33, ⟨false, [.sl [.int .u8] 1], []⟩),
 (38, ⟨true, [.int .i64, .int .i64], [(0, 1, false), (1, 1, false)]⟩),
 (40, ⟨true, [.int .i64, .int .i64, .int .i64], [(0, 1, false), (1, 1, false), (2, 1, false)]⟩),
 (41, ⟨false, [.sl [.int .i64] 8], []⟩),
 (43, ⟨true, [.int .i64, .int .i64, .int .i64, .int .i64, .int .i64, .sl [.int .i64] 8], [(0, 1, false), (1, 1, false), (2, 3, true), (5, 1, false)]⟩),
 (48, ⟨false, [.sl [.int .i64, .int .i64] 16], []⟩),
 (51, ⟨false, [.sl [.int .i64, .int .i64, .int .i64, .int .i64, .int .i64, .int .i64, .ints .i64] 72], []⟩),
 (53, ⟨true, [.sl [.int .i64, .int .i64, .int .i64, .int .i64, .int .i64, .int .i64, .ints .i64] 72], [(0, 1, false)]⟩),
 (59, ⟨true, [.int .i64, .int .i64, .int .i64], [(0, 1, false), (1, 1, false), (2, 1, false)]⟩),
 (61, ⟨true, [.int .i64, .int .i64, .int .i64, .int .i64, .int .i64, .sl [.int .i64] 8], [(0, 1, false), (1, 1, false), (2, 3, true), (5, 1, false)]⟩),
 (67, ⟨false, [.ptr], []⟩),
 (71, ⟨false, [.fn], []⟩),
 (76, ⟨true, [.int .i64, .int .i64], [(0, 1, false), (1, 1, false)]⟩),
 (80, ⟨false, [.ptr], []⟩),
 (82, ⟨true, [.sl [.int .i64, .int .i64] 16, .int .i64, .sl [.int .i64, .int .i64, .int .i64, .int .i64, .int .i64, .int .i64, .ints .i64] 72, .bool], [(0, 1, false), (1, 1, false), (2, 1, false), (3, 1, false)]⟩),
 (86, ⟨true, [.int .i64, .int .i64, .int .i64, .int .i64, .int .i64, .int .i64, .sl [.int .i64] 8], [(0, 1, false), (1, 1, false), (2, 1, false), (3, 3, true), (6, 1, false)]⟩),
 (98, ⟨true, [.sl [.int .u8] 1, .int .i64, .int .i64], [(0, 1, false), (1, 1, false), (2, 1, false)]⟩),
 (105, ⟨false, [.fn], []⟩),
 (106, ⟨false, [.ptr], []⟩),
 (108, ⟨true, [.sl [.int .i64, .int .i64] 16, .int .i64, .sl [.int .i64, .int .i64, .int .i64, .int .i64, .int .i64, .int .i64, .ints .i64] 72], [(0, 1, false), (1, 1, false), (2, 1, false)]⟩),
 (113, ⟨false, [.sl [.str] 16], []⟩),
 (116, ⟨false, [.fn], []⟩),
 (124, ⟨false, [.fn], []⟩)]
noncomputable def byt0 : List TypeId := [33]
noncomputable def eqs0 : List TypeId := [38, 40, 59, 76]
theorem laid : Laid Go.Proofs.Try.prog Γ0 byt0 eqs0 := ⟨by kernel_rfl, by kernel_rfl, by kernel_rfl, by kernel_rfl⟩
namespace spec_l1Min
noncomputable def c : Code := bodyOf Go.Proofs.Try.f111
noncomputable def fi : Fin := ⟨Γ0, [(.tmp 4, 3)], [[1]], [], [], []⟩
noncomputable def m (r1 : Int) : Res := ⟨[⟨false, [.int .i64 r1]⟩], [], [], [], []⟩
noncomputable def os : List (FuncId × St × (List Lf → (Res → Option Res) → Option Res)) := []
noncomputable def X (K : Res → Option Res) : Ctx := { Γ := Γ0, orc := orcOf os, io := [], share := [], opn := [], shr := [], bun := [], cut := [], own := [], cin := [], cout := [], lp := lpOf [], kl := Env.kl, nk := true, eqs := eqs0, byt := byt0, fin := finK fi K }
noncomputable def b (a1 a2 : Int) (R : Int → Option Res) : Option Res :=
 bif decide (a1 < a2) then R a1
 else R a2
theorem gx : ∃ x : Int → Int → (Int → Option Res) → Option Res, x = b := ⟨_, rfl⟩
noncomputable def g : Int → Int → (Int → Option Res) → Option Res := Classical.choose gx
theorem e : g = b := Classical.choose_spec gx
noncomputable def run : List Lf → (Res → Option Res) → Option Res
 | [.i a1, .i a2], K => g a1 a2 (fun r1 => K (m r1))
 | _, _ => none
noncomputable def a (a1 a2 : Int) : St := argSt [one (.int .i64 a1), one (.int .i64 a2)] [] []
noncomputable def con : FuncId × St × (List Lf → (Res → Option Res) → Option Res) := (111, a 0 0, run)
theorem cx (K : Res → Option Res) : CtxOk Go.Proofs.Try.prog Γ0 byt0 eqs0 (X K) os := ⟨rfl, rfl, rfl, (fun p hp => by
 cases hp), rfl, rfl, rfl⟩
theorem tie (K : Res → Option Res) (a1 a2 : Int) : exec (X K) c (entry 10 [one (.int .i64 a1), one (.int .i64 a2)] [] []) (endK (X K)) = g a1 a2 (fun r1 => K (m r1)) := Eq.trans (b := b a1 a2 (fun r1 => K (m r1))) (by kernel_rfl) (by rw [e])
theorem runv {l : List Lf} {K : Res → Option Res} {r : Res} (h : run l K = some r) : ∃ a1 a2, l = [.i a1, .i a2] ∧ g a1 a2 (fun r1 => K (m r1)) = some r := by
 unfold run at h; split at h
 ·exact ⟨_, _, rfl, h⟩
 ·cases h
theorem ok : Con Go.Proofs.Try.prog con := con_of (fn := Go.Proofs.Try.f111) (c := c) (Fi := fi) (X := X) (fun_of laid (by kernel_rfl) (by kernel_rfl) (by kernel_rfl) rfl (by kernel_rfl) (by kernel_rfl) cx (fun _ => rfl) (fun _ => rfl) (fun K => by
 rw [show loopsOf c = [] from by kernel_rfl]; intro p hp
 cases hp)) fun xs rows boxes K r hl hr => by
 obtain ⟨a1, a2, e, h⟩ := runv hr
 have := St.like_eq (y := a a1 a2) hl (by kernel_rfl) e
 obtain ⟨rfl, rfl, rfl⟩ := argSt_inj this
 exact (tie K a1 a2).trans h
end spec_l1Min
namespace impl_isDigit
noncomputable def c : Code := bodyOf Go.Proofs.Try.f84
noncomputable def fi : Fin := ⟨Γ0, [(.tmp 2, 4)], [[1]], [], [], []⟩
noncomputable def m (r1 : Bool) : Res := ⟨[⟨false, [.bool r1]⟩], [], [], [], []⟩
noncomputable def os : List (FuncId × St × (List Lf → (Res → Option Res) → Option Res)) := []
noncomputable def X (K : Res → Option Res) : Ctx := { Γ := Γ0, orc := orcOf os, io := [], share := [], opn := [], shr := [], bun := [], cut := [], own := [], cin := [], cout := [], lp := lpOf [], kl := Env.kl, nk := true, eqs := eqs0, byt := byt0, fin := finK fi K }
noncomputable def b (a1 : Int) (R : Bool → Option Res) : Option Res :=
 bif decide (48 ≤ a1) then R (decide (a1 ≤ 57))
 else R false
theorem gx : ∃ x : Int → (Bool → Option Res) → Option Res, x = b := ⟨_, rfl⟩
noncomputable def g : Int → (Bool → Option Res) → Option Res := Classical.choose gx
theorem e : g = b := Classical.choose_spec gx
noncomputable def run : List Lf → (Res → Option Res) → Option Res
 | [.i a1], K => g a1 (fun r1 => K (m r1))
 | _, _ => none
noncomputable def a (a1 : Int) : St := argSt [one (.int .u8 a1)] [] []
noncomputable def con : FuncId × St × (List Lf → (Res → Option Res) → Option Res) := (84, a 0, run)
theorem cx (K : Res → Option Res) : CtxOk Go.Proofs.Try.prog Γ0 byt0 eqs0 (X K) os := ⟨rfl, rfl, rfl, (fun p hp => by
 cases hp), rfl, rfl, rfl⟩
theorem tie (K : Res → Option Res) (a1 : Int) : exec (X K) c (entry 9 [one (.int .u8 a1)] [] []) (endK (X K)) = g a1 (fun r1 => K (m r1)) := Eq.trans (b := b a1 (fun r1 => K (m r1))) (by kernel_rfl) (by rw [e])
theorem runv {l : List Lf} {K : Res → Option Res} {r : Res} (h : run l K = some r) : ∃ a1, l = [.i a1] ∧ g a1 (fun r1 => K (m r1)) = some r := by
 unfold run at h; split at h
 ·exact ⟨_, rfl, h⟩
 ·cases h
theorem ok : Con Go.Proofs.Try.prog con := con_of (fn := Go.Proofs.Try.f84) (c := c) (Fi := fi) (X := X) (fun_of laid (by kernel_rfl) (by kernel_rfl) (by kernel_rfl) rfl (by kernel_rfl) (by kernel_rfl) cx (fun _ => rfl) (fun _ => rfl) (fun K => by
 rw [show loopsOf c = [] from by kernel_rfl]; intro p hp
 cases hp)) fun xs rows boxes K r hl hr => by
 obtain ⟨a1, e, h⟩ := runv hr
 have := St.like_eq (y := a a1) hl (by kernel_rfl) e
 obtain ⟨rfl, rfl, rfl⟩ := argSt_inj this
 exact (tie K a1).trans h
end impl_isDigit
namespace impl_lexNum
noncomputable def c : Code := bodyOf Go.Proofs.Try.f85
noncomputable def fi : Fin := ⟨Γ0, [(.cell 4 76, 76), (.tmp 5, 3), (.tmp 6, 3)], [[1, 1], [1], [1]], [], [], []⟩
noncomputable def m (r1 r2 r3 r4 : Int) : Res := ⟨[⟨true, [.int .i64 r1, .int .i64 r2]⟩, ⟨false, [.int .i64 r3]⟩, ⟨false, [.int .i64 r4]⟩], [], [], [], []⟩
noncomputable def b0 : Code := codeAt c [1, 1, 1, 1, 1, 0, 0, 0]
noncomputable def s0 (x3 : ByteArray) (x4 x5 x6 x7 x8 x9 : Int) : St := ⟨mkT 59 [(0, one (.str x3)), (1, one (.int .i64 x4)), (4, one (.bp 1000 0)), (7, one (.int .i64 x5)), (8, one (.int .i64 x6)), (9, one (.int .i64 x7))], [], [(1000, [.int .i64 x8, .int .i64 x9])]⟩
noncomputable def l0s (x3 : ByteArray) (x4 x5 x8 x9 : Int) (rec : Int → Int → Option Res) (k : Int → Int → Option Res) (x6 x7 : Int) : Option Res :=
 bif decide (x6 < (x3.size : Int)) then (bif decide (0 ≤ x6) && decide (x6 < (x3.size : Int)) then (impl_isDigit.g ((bytesOf x3).getD x6.toNat 0) fun r10 =>
  bif r10 then (bif decide (0 ≤ x6) && decide (x6 < (x3.size : Int)) then rec (IntKind.i64.wrap (x6 + 1)) (minmax false (IntKind.i64.wrap ((IntKind.i64.wrap (10 * x7)) + (IntKind.i64.wrap (IntKind.u8.wrap (((bytesOf x3).getD x6.toNat 0) - 48))))) 1000000000001)
   else none)
  else k x6 x7)
  else none)
 else k x6 x7
noncomputable def l0 (x3 : ByteArray) (x4 x5 x8 x9 : Int) (k : Int → Int → Option Res) : Nat → Int → Int → Option Res
 | 0, _, _ => none
 | n + 1, x6, x7 => l0s x3 x4 x5 x8 x9 (fun x6 x7 => l0 x3 x4 x5 x8 x9 k n x6 x7) k x6 x7
noncomputable def o0 (x3 : ByteArray) (x4 x5 x8 x9 y3 y4 : Int) : St := ⟨mkT 59 [(1, one (.int .i64 x4)), (4, one (.bp 1000 0)), (7, one (.int .i64 x5)), (8, one (.int .i64 y3)), (9, one (.int .i64 y4))], [], [(1000, [.int .i64 x8, .int .i64 x9])]⟩
noncomputable def p0 (K : Res → Option Res) : List Lf → (St → Option Res) → Option Res
 | [.s x3, .i x4, .i x5, .i x6, .i x7, .i x8, .i x9], k => l0 x3 x4 x5 x8 x9 (fun y3 y4 => k (o0 x3 x4 x5 x8 x9 y3 y4)) fuel x6 x7
 | _, _ => none
noncomputable def os : List (FuncId × St × (List Lf → (Res → Option Res) → Option Res)) := [impl_isDigit.con]
noncomputable def X (K : Res → Option Res) : Ctx := { Γ := Γ0, orc := orcOf os, io := [], share := [], opn := [], shr := [], bun := [], cut := [], own := [], cin := [(0, ⟨[0, 1, 4, 7, 8, 9], [], [1000], [], [], []⟩)], cout := [(0, ⟨[1, 4, 7, 8, 9], [], [1000], [], [], []⟩)], lp := lpOf [(0, s0 ByteArray.empty 0 0 0 0 0 0, p0 K)], kl := Env.kl, nk := true, eqs := eqs0, byt := byt0, fin := finK fi K }
noncomputable def b (a1 : ByteArray) (a2 : Int) (R : Int → Int → Int → Int → Option Res) : Option Res :=
 bif decide (0 ≤ a2) && decide (a2 < (a1.size : Int)) then (bif ((bytesOf a1).getD a2.toNat 0 == 95) then (l0 a1 a2 (IntKind.i64.wrap (a2 + 1)) 0 0 (fun y11 y12 =>
  bif (y11 == IntKind.i64.wrap (a2 + 1)) then R 0 0 a2 8
  else bif decide (1000000000000 < y12) then R 0 0 a2 6
  else bif decide (a2 < IntKind.i64.wrap (a2 + 1)) then R 1 (IntKind.i64.wrap (0 - y12)) y11 0
  else R 1 y12 y11 0) fuel (IntKind.i64.wrap (a2 + 1)) 0)
  else (l0 a1 a2 a2 0 0 (fun y13 y14 =>
  bif (y13 == a2) then R 0 0 a2 8
  else bif decide (1000000000000 < y14) then R 0 0 a2 6
  else bif decide (a2 < a2) then R 1 (IntKind.i64.wrap (0 - y14)) y13 0
  else R 1 y14 y13 0) fuel a2 0))
 else none
theorem gx : ∃ x : ByteArray → Int → (Int → Int → Int → Int → Option Res) → Option Res, x = b := ⟨_, rfl⟩
noncomputable def g : ByteArray → Int → (Int → Int → Int → Int → Option Res) → Option Res := Classical.choose gx
theorem e : g = b := Classical.choose_spec gx
noncomputable def run : List Lf → (Res → Option Res) → Option Res
 | [.s a1, .i a2], K => g a1 a2 (fun r1 r2 r3 r4 => K (m r1 r2 r3 r4))
 | _, _ => none
noncomputable def a (a1 : ByteArray) (a2 : Int) : St := argSt [one (.str a1), one (.int .i64 a2)] [] []
noncomputable def con : FuncId × St × (List Lf → (Res → Option Res) → Option Res) := (85, a ByteArray.empty 0, run)
theorem cx (K : Res → Option Res) : CtxOk Go.Proofs.Try.prog Γ0 byt0 eqs0 (X K) os := ⟨rfl, rfl, rfl, (fun p hp => by
 rcases List.mem_cons.1 hp with rfl | hp
 ·exact impl_isDigit.ok
 cases hp), rfl, rfl, rfl⟩
theorem t0 (K : Res → Option Res) (k : St → Option Res) (it : St → (St → Option Res) → Option Res) (x3 : ByteArray) (x4 x5 x6 x7 x8 x9 : Int) : iterS (X K) 0 b0 it (s0 x3 x4 x5 x6 x7 x8 x9) k = l0s x3 x4 x5 x8 x9 (fun x6 x7 => it (s0 x3 x4 x5 x6 x7 x8 x9) k) (fun y3 y4 => k (o0 x3 x4 x5 x8 x9 y3 y4)) x6 x7 := by kernel_rfl
theorem i0 (K : Res → Option Res) (k : St → Option Res) (x3 : ByteArray) (x4 x5 x8 x9 : Int) : ∀ (n : Nat) (x6 x7 : Int), iter (X K) 0 b0 n (s0 x3 x4 x5 x6 x7 x8 x9) k = l0 x3 x4 x5 x8 x9 (fun y3 y4 => k (o0 x3 x4 x5 x8 x9 y3 y4)) n x6 x7
 | 0, _, _ => rfl
 | n + 1, x6, x7 => by
  rw [iter_succ, t0, show (fun x6 x7 => iter (X K) 0 b0 n (s0 x3 x4 x5 x6 x7 x8 x9) k) = (fun x6 x7 => l0 x3 x4 x5 x8 x9 (fun y3 y4 => k (o0 x3 x4 x5 x8 x9 y3 y4)) n x6 x7) from funext fun x6 => funext fun x7 => i0 K k x3 x4 x5 x8 x9 n x6 x7]; rfl
theorem v0 {K : Res → Option Res} {l : List Lf} {k : St → Option Res} {r : Res} (h : p0 K l k = some r) : ∃ x3 x4 x5 x6 x7 x8 x9, l = [.s x3, .i x4, .i x5, .i x6, .i x7, .i x8, .i x9] ∧ l0 x3 x4 x5 x8 x9 (fun y3 y4 => k (o0 x3 x4 x5 x8 x9 y3 y4)) fuel x6 x7 = some r := by
 unfold p0 at h; split at h
 ·exact ⟨_, _, _, _, _, _, _, rfl, h⟩
 ·cases h
theorem w0 (K : Res → Option Res) : LpSound Go.Proofs.Try.prog (X K) 0 b0 := lp_ok ((cx K).ok laid) (by rw [show loopsOf b0 = [] from by kernel_rfl]; intro p hp; cases hp) rfl fun p hp hid => by
 rcases List.mem_cons.1 hp with rfl | hp
 ·intro st k r h1 h2; obtain ⟨x3, x4, x5, x6, x7, x8, x9, e, h⟩ := v0 (K := K) h2; have := St.like_eq (y := s0 x3 x4 x5 x6 x7 x8 x9) h1 (by kernel_rfl) e; subst this; exact ⟨fuel, (i0 K k x3 x4 x5 x8 x9 fuel x6 x7).trans h⟩
 cases hp
theorem tie (K : Res → Option Res) (a1 : ByteArray) (a2 : Int) : exec (X K) c (entry 59 [one (.str a1), one (.int .i64 a2)] [] []) (endK (X K)) = g a1 a2 (fun r1 r2 r3 r4 => K (m r1 r2 r3 r4)) := Eq.trans (b := b a1 a2 (fun r1 r2 r3 r4 => K (m r1 r2 r3 r4))) (by kernel_rfl) (by rw [e])
theorem runv {l : List Lf} {K : Res → Option Res} {r : Res} (h : run l K = some r) : ∃ a1 a2, l = [.s a1, .i a2] ∧ g a1 a2 (fun r1 r2 r3 r4 => K (m r1 r2 r3 r4)) = some r := by
 unfold run at h; split at h
 ·exact ⟨_, _, rfl, h⟩
 ·cases h
theorem ok : Con Go.Proofs.Try.prog con := con_of (fn := Go.Proofs.Try.f85) (c := c) (Fi := fi) (X := X) (fun_of laid (by kernel_rfl) (by kernel_rfl) (by kernel_rfl) rfl (by kernel_rfl) (by kernel_rfl) cx (fun _ => rfl) (fun _ => rfl) (fun K => by
 rw [show loopsOf c = [(0, b0)] from by kernel_rfl]; intro p hp
 rcases List.mem_cons.1 hp with rfl | hp
 ·exact w0 K
 cases hp)) fun xs rows boxes K r hl hr => by
 obtain ⟨a1, a2, e, h⟩ := runv hr
 have := St.like_eq (y := a a1 a2) hl (by kernel_rfl) e
 obtain ⟨rfl, rfl, rfl⟩ := argSt_inj this
 exact (tie K a1 a2).trans h
end impl_lexNum
namespace impl_hasSign
noncomputable def c : Code := bodyOf Go.Proofs.Try.f86
noncomputable def fi : Fin := ⟨Γ0, [(.tmp 4, 4)], [[1]], [], [], []⟩
noncomputable def m (r1 : Bool) : Res := ⟨[⟨false, [.bool r1]⟩], [], [], [], []⟩
noncomputable def b0 : Code := codeAt c [1, 0, 1, 0, 0]
noncomputable def s0 (x3 : ByteArray) (x4 x5 : Int) : St := ⟨mkT 18 [(0, one (.str x3)), (1, one (.int .i64 x4)), (5, one (.int .i64 x5))], [], []⟩
noncomputable def l0s (x3 : ByteArray) (x4 : Int) (rec : Int → Option Res) (k : Option Res) (R : Bool → Option Res) (x5 : Int) : Option Res :=
 bif decide (x5 < (x3.size : Int)) then (bif decide (0 ≤ x5) && decide (x5 < (x3.size : Int)) then (bif (IntKind.i64.wrap ((bytesOf x3).getD x5.toNat 0) == x4) then R true
  else rec (IntKind.i64.wrap (x5 + 1)))
  else none)
 else k
noncomputable def l0 (x3 : ByteArray) (x4 : Int) (k : Option Res) (R : Bool → Option Res) : Nat → Int → Option Res
 | 0, _ => none
 | n + 1, x5 => l0s x3 x4 (fun x5 => l0 x3 x4 k R n x5) k R x5
noncomputable def o0 (x3 : ByteArray) (x4 : Int) : St := ⟨mkT 18 [], [], []⟩
noncomputable def p0 (K : Res → Option Res) : List Lf → (St → Option Res) → Option Res
 | [.s x3, .i x4, .i x5], k => l0 x3 x4 (k (o0 x3 x4)) (fun r1 => K (m r1)) fuel x5
 | _, _ => none
noncomputable def os : List (FuncId × St × (List Lf → (Res → Option Res) → Option Res)) := []
noncomputable def X (K : Res → Option Res) : Ctx := { Γ := Γ0, orc := orcOf os, io := [], share := [], opn := [], shr := [], bun := [], cut := [], own := [], cin := [(0, ⟨[0, 1, 5], [], [], [], [], []⟩)], cout := [(0, ⟨[], [], [], [], [], []⟩)], lp := lpOf [(0, s0 ByteArray.empty 0 0, p0 K)], kl := Env.kl, nk := true, eqs := eqs0, byt := byt0, fin := finK fi K }
noncomputable def b (a1 : ByteArray) (a2 : Int) (R : Bool → Option Res) : Option Res :=
 l0 a1 a2 (
 R false) R fuel 0
theorem gx : ∃ x : ByteArray → Int → (Bool → Option Res) → Option Res, x = b := ⟨_, rfl⟩
noncomputable def g : ByteArray → Int → (Bool → Option Res) → Option Res := Classical.choose gx
theorem e : g = b := Classical.choose_spec gx
noncomputable def run : List Lf → (Res → Option Res) → Option Res
 | [.s a1, .i a2], K => g a1 a2 (fun r1 => K (m r1))
 | _, _ => none
noncomputable def a (a1 : ByteArray) (a2 : Int) : St := argSt [one (.str a1), one (.int .i64 a2)] [] []
noncomputable def con : FuncId × St × (List Lf → (Res → Option Res) → Option Res) := (86, a ByteArray.empty 0, run)
theorem cx (K : Res → Option Res) : CtxOk Go.Proofs.Try.prog Γ0 byt0 eqs0 (X K) os := ⟨rfl, rfl, rfl, (fun p hp => by
 cases hp), rfl, rfl, rfl⟩
theorem t0 (K : Res → Option Res) (k : St → Option Res) (it : St → (St → Option Res) → Option Res) (x3 : ByteArray) (x4 x5 : Int) : iterS (X K) 0 b0 it (s0 x3 x4 x5) k = l0s x3 x4 (fun x5 => it (s0 x3 x4 x5) k) (k (o0 x3 x4)) (fun r1 => K (m r1)) x5 := by kernel_rfl
theorem i0 (K : Res → Option Res) (k : St → Option Res) (x3 : ByteArray) (x4 : Int) : ∀ (n : Nat) (x5 : Int), iter (X K) 0 b0 n (s0 x3 x4 x5) k = l0 x3 x4 (k (o0 x3 x4)) (fun r1 => K (m r1)) n x5
 | 0, _ => rfl
 | n + 1, x5 => by
  rw [iter_succ, t0, show (fun x5 => iter (X K) 0 b0 n (s0 x3 x4 x5) k) = (fun x5 => l0 x3 x4 (k (o0 x3 x4)) (fun r1 => K (m r1)) n x5) from funext fun x5 => i0 K k x3 x4 n x5]; rfl
theorem v0 {K : Res → Option Res} {l : List Lf} {k : St → Option Res} {r : Res} (h : p0 K l k = some r) : ∃ x3 x4 x5, l = [.s x3, .i x4, .i x5] ∧ l0 x3 x4 (k (o0 x3 x4)) (fun r1 => K (m r1)) fuel x5 = some r := by
 unfold p0 at h; split at h
 ·exact ⟨_, _, _, rfl, h⟩
 ·cases h
theorem w0 (K : Res → Option Res) : LpSound Go.Proofs.Try.prog (X K) 0 b0 := lp_ok ((cx K).ok laid) (by rw [show loopsOf b0 = [] from by kernel_rfl]; intro p hp; cases hp) rfl fun p hp hid => by
 rcases List.mem_cons.1 hp with rfl | hp
 ·intro st k r h1 h2; obtain ⟨x3, x4, x5, e, h⟩ := v0 (K := K) h2; have := St.like_eq (y := s0 x3 x4 x5) h1 (by kernel_rfl) e; subst this; exact ⟨fuel, (i0 K k x3 x4 fuel x5).trans h⟩
 cases hp
theorem tie (K : Res → Option Res) (a1 : ByteArray) (a2 : Int) : exec (X K) c (entry 18 [one (.str a1), one (.int .i64 a2)] [] []) (endK (X K)) = g a1 a2 (fun r1 => K (m r1)) := Eq.trans (b := b a1 a2 (fun r1 => K (m r1))) (by kernel_rfl) (by rw [e])
theorem runv {l : List Lf} {K : Res → Option Res} {r : Res} (h : run l K = some r) : ∃ a1 a2, l = [.s a1, .i a2] ∧ g a1 a2 (fun r1 => K (m r1)) = some r := by
 unfold run at h; split at h
 ·exact ⟨_, _, rfl, h⟩
 ·cases h
theorem ok : Con Go.Proofs.Try.prog con := con_of (fn := Go.Proofs.Try.f86) (c := c) (Fi := fi) (X := X) (fun_of laid (by kernel_rfl) (by kernel_rfl) (by kernel_rfl) rfl (by kernel_rfl) (by kernel_rfl) cx (fun _ => rfl) (fun _ => rfl) (fun K => by
 rw [show loopsOf c = [(0, b0)] from by kernel_rfl]; intro p hp
 rcases List.mem_cons.1 hp with rfl | hp
 ·exact w0 K
 cases hp)) fun xs rows boxes K r hl hr => by
 obtain ⟨a1, a2, e, h⟩ := runv hr
 have := St.like_eq (y := a a1 a2) hl (by kernel_rfl) e
 obtain ⟨rfl, rfl, rfl⟩ := argSt_inj this
 exact (tie K a1 a2).trans h
end impl_hasSign
namespace impl_lexOne
noncomputable def c : Code := bodyOf Go.Proofs.Try.f50
noncomputable def fi : Fin := ⟨Γ0, [(.cell 4 76, 76), (.tmp 5, 3), (.tmp 6, 3)], [[1, 1], [1], [1]], [], [], []⟩
noncomputable def m (r1 r2 r3 r4 : Int) : Res := ⟨[⟨true, [.int .i64 r1, .int .i64 r2]⟩, ⟨false, [.int .i64 r3]⟩, ⟨false, [.int .i64 r4]⟩], [], [], [], []⟩
noncomputable def os : List (FuncId × St × (List Lf → (Res → Option Res) → Option Res)) := [impl_isDigit.con, impl_lexNum.con, impl_hasSign.con]
noncomputable def X (K : Res → Option Res) : Ctx := { Γ := Γ0, orc := orcOf os, io := [], share := [], opn := [], shr := [], bun := [], cut := [], own := [], cin := [], cout := [], lp := lpOf [], kl := Env.kl, nk := true, eqs := eqs0, byt := byt0, fin := finK fi K }
noncomputable def b (a1 : ByteArray) (a2 : Int) (R : Int → Int → Int → Int → Option Res) : Option Res :=
 bif decide (0 ≤ a2) && decide (a2 < (a1.size : Int)) then (impl_isDigit.g ((bytesOf a1).getD a2.toNat 0) fun r3 =>
  bif r3 then (impl_lexNum.g a1 a2 fun r4 r5 r6 r7 =>
   R r4 r5 r6 r7)
  else bif ((bytesOf a1).getD a2.toNat 0 == 95) then (impl_lexNum.g a1 a2 fun r8 r9 r10 r11 =>
   R r8 r9 r10 r11)
  else bif decide (65 ≤ (bytesOf a1).getD a2.toNat 0) then (bif decide ((bytesOf a1).getD a2.toNat 0 ≤ 90) then R 2 (IntKind.i64.wrap (IntKind.u8.wrap (((bytesOf a1).getD a2.toNat 0) - 65))) (IntKind.i64.wrap (a2 + 1)) 0
   else bif ((bytesOf a1).getD a2.toNat 0 == 40) then R 4 0 (IntKind.i64.wrap (a2 + 1)) 0
   else bif ((bytesOf a1).getD a2.toNat 0 == 41) then R 5 0 (IntKind.i64.wrap (a2 + 1)) 0
   else bif ((bytesOf a1).getD a2.toNat 0 == 58) then R 6 0 (IntKind.i64.wrap (a2 + 1)) 0
   else (impl_hasSign.g (⟨#[43, 45, 42, 37, 124, 38, 94, 61, 60, 62, 126, 105, 35, 44, 116, 100, 114, 122, 64, 63, 103, 36, 101, 47, 92, 46, 111]⟩ : ByteArray) (IntKind.i64.wrap ((bytesOf a1).getD a2.toNat 0)) fun r12 =>
   bif r12 then R 3 (IntKind.i64.wrap ((bytesOf a1).getD a2.toNat 0)) (IntKind.i64.wrap (a2 + 1)) 0
   else R 0 0 a2 8))
  else bif ((bytesOf a1).getD a2.toNat 0 == 40) then R 4 0 (IntKind.i64.wrap (a2 + 1)) 0
  else bif ((bytesOf a1).getD a2.toNat 0 == 41) then R 5 0 (IntKind.i64.wrap (a2 + 1)) 0
  else bif ((bytesOf a1).getD a2.toNat 0 == 58) then R 6 0 (IntKind.i64.wrap (a2 + 1)) 0
  else (impl_hasSign.g (⟨#[43, 45, 42, 37, 124, 38, 94, 61, 60, 62, 126, 105, 35, 44, 116, 100, 114, 122, 64, 63, 103, 36, 101, 47, 92, 46, 111]⟩ : ByteArray) (IntKind.i64.wrap ((bytesOf a1).getD a2.toNat 0)) fun r13 =>
  bif r13 then R 3 (IntKind.i64.wrap ((bytesOf a1).getD a2.toNat 0)) (IntKind.i64.wrap (a2 + 1)) 0
  else R 0 0 a2 8))
 else none
theorem gx : ∃ x : ByteArray → Int → (Int → Int → Int → Int → Option Res) → Option Res, x = b := ⟨_, rfl⟩
noncomputable def g : ByteArray → Int → (Int → Int → Int → Int → Option Res) → Option Res := Classical.choose gx
theorem e : g = b := Classical.choose_spec gx
noncomputable def run : List Lf → (Res → Option Res) → Option Res
 | [.s a1, .i a2], K => g a1 a2 (fun r1 r2 r3 r4 => K (m r1 r2 r3 r4))
 | _, _ => none
noncomputable def a (a1 : ByteArray) (a2 : Int) : St := argSt [one (.str a1), one (.int .i64 a2)] [] []
noncomputable def con : FuncId × St × (List Lf → (Res → Option Res) → Option Res) := (50, a ByteArray.empty 0, run)
theorem cx (K : Res → Option Res) : CtxOk Go.Proofs.Try.prog Γ0 byt0 eqs0 (X K) os := ⟨rfl, rfl, rfl, (fun p hp => by
 rcases List.mem_cons.1 hp with rfl | hp
 ·exact impl_isDigit.ok
 rcases List.mem_cons.1 hp with rfl | hp
 ·exact impl_lexNum.ok
 rcases List.mem_cons.1 hp with rfl | hp
 ·exact impl_hasSign.ok
 cases hp), rfl, rfl, rfl⟩
theorem tie (K : Res → Option Res) (a1 : ByteArray) (a2 : Int) : exec (X K) c (entry 61 [one (.str a1), one (.int .i64 a2)] [] []) (endK (X K)) = g a1 a2 (fun r1 r2 r3 r4 => K (m r1 r2 r3 r4)) := Eq.trans (b := b a1 a2 (fun r1 r2 r3 r4 => K (m r1 r2 r3 r4))) (by kernel_rfl) (by rw [e])
theorem runv {l : List Lf} {K : Res → Option Res} {r : Res} (h : run l K = some r) : ∃ a1 a2, l = [.s a1, .i a2] ∧ g a1 a2 (fun r1 r2 r3 r4 => K (m r1 r2 r3 r4)) = some r := by
 unfold run at h; split at h
 ·exact ⟨_, _, rfl, h⟩
 ·cases h
theorem ok : Con Go.Proofs.Try.prog con := con_of (fn := Go.Proofs.Try.f50) (c := c) (Fi := fi) (X := X) (fun_of laid (by kernel_rfl) (by kernel_rfl) (by kernel_rfl) rfl (by kernel_rfl) (by kernel_rfl) cx (fun _ => rfl) (fun _ => rfl) (fun K => by
 rw [show loopsOf c = [] from by kernel_rfl]; intro p hp
 cases hp)) fun xs rows boxes K r hl hr => by
 obtain ⟨a1, a2, e, h⟩ := runv hr
 have := St.like_eq (y := a a1 a2) hl (by kernel_rfl) e
 obtain ⟨rfl, rfl, rfl⟩ := argSt_inj this
 exact (tie K a1 a2).trans h
end impl_lexOne
namespace impl_Lex
noncomputable def c : Code := bodyOf Go.Proofs.Try.f24
noncomputable def fi : Fin := ⟨Γ0, [(.tmp 2, 48), (.tmp 3, 3), (.tmp 4, 3)], [[1], [1], [1]], [], [], []⟩
noncomputable def m (r1 : List (List Cl)) (r2 r3 : Int) : Res := ⟨[⟨false, [.ow 1000]⟩, ⟨false, [.int .i64 r2]⟩, ⟨false, [.int .i64 r3]⟩], [], [⟨[.int .i64, .int .i64], .cells r1, true, 0, none⟩], [], []⟩
noncomputable def b0 : Code := codeAt c [1, 1, 1, 0, 1, 0, 0]
noncomputable def s0 (x2 : ByteArray) (x3 : Int) (x4 : List (List Cl)) : St := ⟨mkT 42 [(0, one (.str x2)), (5, one (.ow 7152)), (6, one (.int .i64 x3))], [(7152, ⟨[.int .i64, .int .i64], .cells x4, true, 0, none⟩)], []⟩
noncomputable def l0s (x2 : ByteArray) (rec : Int → List (List Cl) → Option Res) (k : List (List Cl) → Option Res) (R : List (List Cl) → Int → Int → Option Res) (x3 : Int) (x4 : List (List Cl)) : Option Res :=
 bif decide (x3 < (x2.size : Int)) then (bif decide (0 ≤ x3) && decide (x3 < (x2.size : Int)) then (bif ((bytesOf x2).getD x3.toNat 0 == 32) then rec (IntKind.i64.wrap (x3 + 1)) x4
  else (impl_lexOne.g x2 x3 fun r5 r6 r7 r8 =>
  bif (r8 != 0) then R ([] : List (List Cl)) r8 x3
  else bif decide ((x4.length + 1) * 16 ≤ 140737488355328) then rec r7 (x4 ++ ([[.i r5, .i r6]] : List (List Cl)))
  else none))
  else none)
 else k x4
noncomputable def l0 (x2 : ByteArray) (k : List (List Cl) → Option Res) (R : List (List Cl) → Int → Int → Option Res) : Nat → Int → List (List Cl) → Option Res
 | 0, _, _ => none
 | n + 1, x3, x4 => l0s x2 (fun x3 x4 => l0 x2 k R n x3 x4) k R x3 x4
noncomputable def o0 (x2 : ByteArray) (y2 : List (List Cl)) : St := ⟨mkT 42 [(0, one (.str x2)), (5, one (.ow 7152))], [(7152, ⟨[.int .i64, .int .i64], .cells y2, true, 0, none⟩)], []⟩
noncomputable def p0 (K : Res → Option Res) : List Lf → (St → Option Res) → Option Res
 | [.s x2, .i x3, .q (.cells x4)], k => l0 x2 (fun y2 => k (o0 x2 y2)) (fun r1 r2 r3 => K (m r1 r2 r3)) fuel x3 x4
 | _, _ => none
noncomputable def os : List (FuncId × St × (List Lf → (Res → Option Res) → Option Res)) := [impl_lexOne.con]
noncomputable def X (K : Res → Option Res) : Ctx := { Γ := Γ0, orc := orcOf os, io := [], share := [], opn := [], shr := [], bun := [], cut := [], own := [(3, 0, 0, [.int .i64, .int .i64])], cin := [(0, ⟨[0, 5, 6], [(7152, 7152), (23576, 7152)], [], [], [], []⟩)], cout := [(0, ⟨[0, 5], [(7152, 7152)], [], [], [], []⟩)], lp := lpOf [(0, s0 ByteArray.empty 0 [], p0 K)], kl := Env.kl, nk := true, eqs := eqs0, byt := byt0, fin := finK fi K }
noncomputable def b (a1 : ByteArray) (R : List (List Cl) → Int → Int → Option Res) : Option Res :=
 bif decide (300 < (a1.size : Int)) then R ([] : List (List Cl)) 6 0
 else (l0 a1 (fun y9 =>
 R y9 0 (a1.size : Int)) R fuel 0 ([] : List (List Cl)))
theorem gx : ∃ x : ByteArray → (List (List Cl) → Int → Int → Option Res) → Option Res, x = b := ⟨_, rfl⟩
noncomputable def g : ByteArray → (List (List Cl) → Int → Int → Option Res) → Option Res := Classical.choose gx
theorem e : g = b := Classical.choose_spec gx
noncomputable def run : List Lf → (Res → Option Res) → Option Res
 | [.s a1], K => g a1 (fun r1 r2 r3 => K (m r1 r2 r3))
 | _, _ => none
noncomputable def a (a1 : ByteArray) : St := argSt [one (.str a1)] [] []
noncomputable def con : FuncId × St × (List Lf → (Res → Option Res) → Option Res) := (24, a ByteArray.empty, run)
theorem cx (K : Res → Option Res) : CtxOk Go.Proofs.Try.prog Γ0 byt0 eqs0 (X K) os := ⟨rfl, rfl, rfl, (fun p hp => by
 rcases List.mem_cons.1 hp with rfl | hp
 ·exact impl_lexOne.ok
 cases hp), rfl, rfl, rfl⟩
theorem t0 (K : Res → Option Res) (k : St → Option Res) (it : St → (St → Option Res) → Option Res) (x2 : ByteArray) (x3 : Int) (x4 : List (List Cl)) : iterS (X K) 0 b0 it (s0 x2 x3 x4) k = l0s x2 (fun x3 x4 => it (s0 x2 x3 x4) k) (fun y2 => k (o0 x2 y2)) (fun r1 r2 r3 => K (m r1 r2 r3)) x3 x4 := by kernel_rfl
theorem i0 (K : Res → Option Res) (k : St → Option Res) (x2 : ByteArray) : ∀ (n : Nat) (x3 : Int) (x4 : List (List Cl)), iter (X K) 0 b0 n (s0 x2 x3 x4) k = l0 x2 (fun y2 => k (o0 x2 y2)) (fun r1 r2 r3 => K (m r1 r2 r3)) n x3 x4
 | 0, _, _ => rfl
 | n + 1, x3, x4 => by
  rw [iter_succ, t0, show (fun x3 x4 => iter (X K) 0 b0 n (s0 x2 x3 x4) k) = (fun x3 x4 => l0 x2 (fun y2 => k (o0 x2 y2)) (fun r1 r2 r3 => K (m r1 r2 r3)) n x3 x4) from funext fun x3 => funext fun x4 => i0 K k x2 n x3 x4]; rfl
theorem v0 {K : Res → Option Res} {l : List Lf} {k : St → Option Res} {r : Res} (h : p0 K l k = some r) : ∃ x2 x3 x4, l = [.s x2, .i x3, .q (.cells x4)] ∧ l0 x2 (fun y2 => k (o0 x2 y2)) (fun r1 r2 r3 => K (m r1 r2 r3)) fuel x3 x4 = some r := by
 unfold p0 at h; split at h
 ·exact ⟨_, _, _, rfl, h⟩
 ·cases h
theorem w0 (K : Res → Option Res) : LpSound Go.Proofs.Try.prog (X K) 0 b0 := lp_ok ((cx K).ok laid) (by rw [show loopsOf b0 = [] from by kernel_rfl]; intro p hp; cases hp) rfl fun p hp hid => by
 rcases List.mem_cons.1 hp with rfl | hp
 ·intro st k r h1 h2; obtain ⟨x2, x3, x4, e, h⟩ := v0 (K := K) h2; have := St.like_eq (y := s0 x2 x3 x4) h1 (by kernel_rfl) e; subst this; exact ⟨fuel, (i0 K k x2 fuel x3 x4).trans h⟩
 cases hp
theorem tie (K : Res → Option Res) (a1 : ByteArray) : exec (X K) c (entry 42 [one (.str a1)] [] []) (endK (X K)) = g a1 (fun r1 r2 r3 => K (m r1 r2 r3)) := Eq.trans (b := b a1 (fun r1 r2 r3 => K (m r1 r2 r3))) (by kernel_rfl) (by rw [e])
theorem runv {l : List Lf} {K : Res → Option Res} {r : Res} (h : run l K = some r) : ∃ a1, l = [.s a1] ∧ g a1 (fun r1 r2 r3 => K (m r1 r2 r3)) = some r := by
 unfold run at h; split at h
 ·exact ⟨_, rfl, h⟩
 ·cases h
theorem ok : Con Go.Proofs.Try.prog con := con_of (fn := Go.Proofs.Try.f24) (c := c) (Fi := fi) (X := X) (fun_of laid (by kernel_rfl) (by kernel_rfl) (by kernel_rfl) rfl (by kernel_rfl) (by kernel_rfl) cx (fun _ => rfl) (fun _ => rfl) (fun K => by
 rw [show loopsOf c = [(0, b0)] from by kernel_rfl]; intro p hp
 rcases List.mem_cons.1 hp with rfl | hp
 ·exact w0 K
 cases hp)) fun xs rows boxes K r hl hr => by
 obtain ⟨a1, e, h⟩ := runv hr
 have := St.like_eq (y := a a1) hl (by kernel_rfl) e
 obtain ⟨rfl, rfl, rfl⟩ := argSt_inj this
 exact (tie K a1).trans h
end impl_Lex
namespace impl_within
noncomputable def c : Code := bodyOf Go.Proofs.Try.f37
noncomputable def fi : Fin := ⟨Γ0, [(.tmp 6, 4)], [[1]], [], [], []⟩
noncomputable def m (r1 : Bool) : Res := ⟨[⟨false, [.bool r1]⟩], [], [], [], []⟩
noncomputable def os : List (FuncId × St × (List Lf → (Res → Option Res) → Option Res)) := []
noncomputable def X (K : Res → Option Res) : Ctx := { Γ := Γ0, orc := orcOf os, io := [], share := [], opn := [], shr := [], bun := [], cut := [], own := [], cin := [], cout := [], lp := lpOf [], kl := Env.kl, nk := true, eqs := eqs0, byt := byt0, fin := finK fi K }
noncomputable def b (a1 a2 a3 : Int) (R : Bool → Option Res) : Option Res :=
 bif decide (a2 ≤ a1) then R (decide (a1 ≤ a3))
 else R false
theorem gx : ∃ x : Int → Int → Int → (Bool → Option Res) → Option Res, x = b := ⟨_, rfl⟩
noncomputable def g : Int → Int → Int → (Bool → Option Res) → Option Res := Classical.choose gx
theorem e : g = b := Classical.choose_spec gx
noncomputable def run : List Lf → (Res → Option Res) → Option Res
 | [.i a1, .i a2, .i a3], K => g a1 a2 a3 (fun r1 => K (m r1))
 | _, _ => none
noncomputable def a (a1 a2 a3 : Int) : St := argSt [one (.int .i64 a1), one (.int .i64 a2), one (.int .i64 a3)] [] []
noncomputable def con : FuncId × St × (List Lf → (Res → Option Res) → Option Res) := (37, a 0 0 0, run)
theorem cx (K : Res → Option Res) : CtxOk Go.Proofs.Try.prog Γ0 byt0 eqs0 (X K) os := ⟨rfl, rfl, rfl, (fun p hp => by
 cases hp), rfl, rfl, rfl⟩
theorem tie (K : Res → Option Res) (a1 a2 a3 : Int) : exec (X K) c (entry 15 [one (.int .i64 a1), one (.int .i64 a2), one (.int .i64 a3)] [] []) (endK (X K)) = g a1 a2 a3 (fun r1 => K (m r1)) := Eq.trans (b := b a1 a2 a3 (fun r1 => K (m r1))) (by kernel_rfl) (by rw [e])
theorem runv {l : List Lf} {K : Res → Option Res} {r : Res} (h : run l K = some r) : ∃ a1 a2 a3, l = [.i a1, .i a2, .i a3] ∧ g a1 a2 a3 (fun r1 => K (m r1)) = some r := by
 unfold run at h; split at h
 ·exact ⟨_, _, _, rfl, h⟩
 ·cases h
theorem ok : Con Go.Proofs.Try.prog con := con_of (fn := Go.Proofs.Try.f37) (c := c) (Fi := fi) (X := X) (fun_of laid (by kernel_rfl) (by kernel_rfl) (by kernel_rfl) rfl (by kernel_rfl) (by kernel_rfl) cx (fun _ => rfl) (fun _ => rfl) (fun K => by
 rw [show loopsOf c = [] from by kernel_rfl]; intro p hp
 cases hp)) fun xs rows boxes K r hl hr => by
 obtain ⟨a1, a2, a3, e, h⟩ := runv hr
 have := St.like_eq (y := a a1 a2 a3) hl (by kernel_rfl) e
 obtain ⟨rfl, rfl, rfl⟩ := argSt_inj this
 exact (tie K a1 a2 a3).trans h
end impl_within
namespace impl_NumOk
noncomputable def c : Code := bodyOf Go.Proofs.Try.f109
noncomputable def fi : Fin := ⟨Γ0, [(.tmp 2, 4)], [[1]], [], [], []⟩
noncomputable def m (r1 : Bool) : Res := ⟨[⟨false, [.bool r1]⟩], [], [], [], []⟩
noncomputable def os : List (FuncId × St × (List Lf → (Res → Option Res) → Option Res)) := [impl_within.con]
noncomputable def X (K : Res → Option Res) : Ctx := { Γ := Γ0, orc := orcOf os, io := [], share := [], opn := [], shr := [], bun := [], cut := [], own := [], cin := [], cout := [], lp := lpOf [], kl := Env.kl, nk := true, eqs := eqs0, byt := byt0, fin := finK fi K }
noncomputable def b (a1 : Int) (R : Bool → Option Res) : Option Res :=
 impl_within.g a1 (-1000000000000) 1000000000000 fun r2 =>
 R r2
theorem gx : ∃ x : Int → (Bool → Option Res) → Option Res, x = b := ⟨_, rfl⟩
noncomputable def g : Int → (Bool → Option Res) → Option Res := Classical.choose gx
theorem e : g = b := Classical.choose_spec gx
noncomputable def run : List Lf → (Res → Option Res) → Option Res
 | [.i a1], K => g a1 (fun r1 => K (m r1))
 | _, _ => none
noncomputable def a (a1 : Int) : St := argSt [one (.int .i64 a1)] [] []
noncomputable def con : FuncId × St × (List Lf → (Res → Option Res) → Option Res) := (109, a 0, run)
theorem cx (K : Res → Option Res) : CtxOk Go.Proofs.Try.prog Γ0 byt0 eqs0 (X K) os := ⟨rfl, rfl, rfl, (fun p hp => by
 rcases List.mem_cons.1 hp with rfl | hp
 ·exact impl_within.ok
 cases hp), rfl, rfl, rfl⟩
theorem tie (K : Res → Option Res) (a1 : Int) : exec (X K) c (entry 5 [one (.int .i64 a1)] [] []) (endK (X K)) = g a1 (fun r1 => K (m r1)) := Eq.trans (b := b a1 (fun r1 => K (m r1))) (by kernel_rfl) (by rw [e])
theorem runv {l : List Lf} {K : Res → Option Res} {r : Res} (h : run l K = some r) : ∃ a1, l = [.i a1] ∧ g a1 (fun r1 => K (m r1)) = some r := by
 unfold run at h; split at h
 ·exact ⟨_, rfl, h⟩
 ·cases h
theorem ok : Con Go.Proofs.Try.prog con := con_of (fn := Go.Proofs.Try.f109) (c := c) (Fi := fi) (X := X) (fun_of laid (by kernel_rfl) (by kernel_rfl) (by kernel_rfl) rfl (by kernel_rfl) (by kernel_rfl) cx (fun _ => rfl) (fun _ => rfl) (fun K => by
 rw [show loopsOf c = [] from by kernel_rfl]; intro p hp
 cases hp)) fun xs rows boxes K r hl hr => by
 obtain ⟨a1, e, h⟩ := runv hr
 have := St.like_eq (y := a a1) hl (by kernel_rfl) e
 obtain ⟨rfl, rfl, rfl⟩ := argSt_inj this
 exact (tie K a1).trans h
end impl_NumOk
namespace impl_TokenOk
noncomputable def c : Code := bodyOf Go.Proofs.Try.f89
noncomputable def fi : Fin := ⟨Γ0, [(.tmp 2, 4)], [[1]], [], [], []⟩
noncomputable def m (r1 : Bool) : Res := ⟨[⟨false, [.bool r1]⟩], [], [], [], []⟩
noncomputable def os : List (FuncId × St × (List Lf → (Res → Option Res) → Option Res)) := [impl_NumOk.con, impl_within.con, impl_hasSign.con]
noncomputable def X (K : Res → Option Res) : Ctx := { Γ := Γ0, orc := orcOf os, io := [], share := [], opn := [], shr := [], bun := [], cut := [], own := [], cin := [], cout := [], lp := lpOf [], kl := Env.kl, nk := true, eqs := eqs0, byt := byt0, fin := finK fi K }
noncomputable def b (a1 a2 : Int) (R : Bool → Option Res) : Option Res :=
 bif (a1 == 1) then (impl_NumOk.g a2 fun r3 =>
  R r3)
 else bif (a1 == 2) then (impl_within.g a2 0 25 fun r4 =>
  R r4)
 else bif (a1 == 3) then (impl_hasSign.g (⟨#[43, 45, 42, 37, 124, 38, 94, 61, 60, 62, 126, 105, 35, 44, 116, 100, 114, 122, 64, 63, 103, 36, 101, 47, 92, 46, 111]⟩ : ByteArray) a2 fun r5 =>
  R r5)
 else bif (a1 == 4) then R (a2 == 0)
 else bif (a1 == 5) then R (a2 == 0)
 else bif (a1 == 6) then R (a2 == 0)
 else R false
theorem gx : ∃ x : Int → Int → (Bool → Option Res) → Option Res, x = b := ⟨_, rfl⟩
noncomputable def g : Int → Int → (Bool → Option Res) → Option Res := Classical.choose gx
theorem e : g = b := Classical.choose_spec gx
noncomputable def run : List Lf → (Res → Option Res) → Option Res
 | [.i a1, .i a2], K => g a1 a2 (fun r1 => K (m r1))
 | _, _ => none
noncomputable def a (a1 a2 : Int) : St := argSt [.v ⟨true, [.int .i64 a1, .int .i64 a2]⟩] [] []
noncomputable def con : FuncId × St × (List Lf → (Res → Option Res) → Option Res) := (89, a 0 0, run)
theorem cx (K : Res → Option Res) : CtxOk Go.Proofs.Try.prog Γ0 byt0 eqs0 (X K) os := ⟨rfl, rfl, rfl, (fun p hp => by
 rcases List.mem_cons.1 hp with rfl | hp
 ·exact impl_NumOk.ok
 rcases List.mem_cons.1 hp with rfl | hp
 ·exact impl_within.ok
 rcases List.mem_cons.1 hp with rfl | hp
 ·exact impl_hasSign.ok
 cases hp), rfl, rfl, rfl⟩
theorem tie (K : Res → Option Res) (a1 a2 : Int) : exec (X K) c (entry 27 [.v ⟨true, [.int .i64 a1, .int .i64 a2]⟩] [] []) (endK (X K)) = g a1 a2 (fun r1 => K (m r1)) := Eq.trans (b := b a1 a2 (fun r1 => K (m r1))) (by kernel_rfl) (by rw [e])
theorem runv {l : List Lf} {K : Res → Option Res} {r : Res} (h : run l K = some r) : ∃ a1 a2, l = [.i a1, .i a2] ∧ g a1 a2 (fun r1 => K (m r1)) = some r := by
 unfold run at h; split at h
 ·exact ⟨_, _, rfl, h⟩
 ·cases h
theorem ok : Con Go.Proofs.Try.prog con := con_of (fn := Go.Proofs.Try.f89) (c := c) (Fi := fi) (X := X) (fun_of laid (by kernel_rfl) (by kernel_rfl) (by kernel_rfl) rfl (by kernel_rfl) (by kernel_rfl) cx (fun _ => rfl) (fun _ => rfl) (fun K => by
 rw [show loopsOf c = [] from by kernel_rfl]; intro p hp
 cases hp)) fun xs rows boxes K r hl hr => by
 obtain ⟨a1, a2, e, h⟩ := runv hr
 have := St.like_eq (y := a a1 a2) hl (by kernel_rfl) e
 obtain ⟨rfl, rfl, rfl⟩ := argSt_inj this
 exact (tie K a1 a2).trans h
end impl_TokenOk
namespace impl_tokensOk_1
noncomputable def c : Code := bodyOf Go.Proofs.Try.f88
noncomputable def fi : Fin := ⟨Γ0, [(.tmp 2, 4)], [[1]], [], [], []⟩
noncomputable def m (r1 : Bool) : Res := ⟨[⟨false, [.bool r1]⟩], [], [], [], []⟩
noncomputable def os : List (FuncId × St × (List Lf → (Res → Option Res) → Option Res)) := [impl_TokenOk.con]
noncomputable def X (K : Res → Option Res) : Ctx := { Γ := Γ0, orc := orcOf os, io := [], share := [], opn := [], shr := [], bun := [], cut := [], own := [], cin := [], cout := [], lp := lpOf [], kl := Env.kl, nk := true, eqs := eqs0, byt := byt0, fin := finK fi K }
noncomputable def b (a1 a2 : Int) (R : Bool → Option Res) : Option Res :=
 impl_TokenOk.g a1 a2 fun r3 =>
 R (!r3)
theorem gx : ∃ x : Int → Int → (Bool → Option Res) → Option Res, x = b := ⟨_, rfl⟩
noncomputable def g : Int → Int → (Bool → Option Res) → Option Res := Classical.choose gx
theorem e : g = b := Classical.choose_spec gx
noncomputable def run : List Lf → (Res → Option Res) → Option Res
 | [.i a1, .i a2], K => g a1 a2 (fun r1 => K (m r1))
 | _, _ => none
noncomputable def a (a1 a2 : Int) : St := argSt [.v ⟨true, [.int .i64 a1, .int .i64 a2]⟩] [] []
noncomputable def con : FuncId × St × (List Lf → (Res → Option Res) → Option Res) := (88, a 0 0, run)
theorem cx (K : Res → Option Res) : CtxOk Go.Proofs.Try.prog Γ0 byt0 eqs0 (X K) os := ⟨rfl, rfl, rfl, (fun p hp => by
 rcases List.mem_cons.1 hp with rfl | hp
 ·exact impl_TokenOk.ok
 cases hp), rfl, rfl, rfl⟩
theorem tie (K : Res → Option Res) (a1 a2 : Int) : exec (X K) c (entry 6 [.v ⟨true, [.int .i64 a1, .int .i64 a2]⟩] [] []) (endK (X K)) = g a1 a2 (fun r1 => K (m r1)) := Eq.trans (b := b a1 a2 (fun r1 => K (m r1))) (by kernel_rfl) (by rw [e])
theorem runv {l : List Lf} {K : Res → Option Res} {r : Res} (h : run l K = some r) : ∃ a1 a2, l = [.i a1, .i a2] ∧ g a1 a2 (fun r1 => K (m r1)) = some r := by
 unfold run at h; split at h
 ·exact ⟨_, _, rfl, h⟩
 ·cases h
theorem ok : Con Go.Proofs.Try.prog con := con_of (fn := Go.Proofs.Try.f88) (c := c) (Fi := fi) (X := X) (fun_of laid (by kernel_rfl) (by kernel_rfl) (by kernel_rfl) rfl (by kernel_rfl) (by kernel_rfl) cx (fun _ => rfl) (fun _ => rfl) (fun K => by
 rw [show loopsOf c = [] from by kernel_rfl]; intro p hp
 cases hp)) fun xs rows boxes K r hl hr => by
 obtain ⟨a1, a2, e, h⟩ := runv hr
 have := St.like_eq (y := a a1 a2) hl (by kernel_rfl) e
 obtain ⟨rfl, rfl, rfl⟩ := argSt_inj this
 exact (tie K a1 a2).trans h
end impl_tokensOk_1
namespace slices_IndexFunc_impl_Token_impl_Token
noncomputable def c : Code := bodyOf Go.Proofs.Try.f121
noncomputable def fi : Fin := ⟨Γ0, [(.tmp 4, 3)], [[1]], [], [], []⟩
noncomputable def m (r1 : Int) : Res := ⟨[⟨false, [.int .i64 r1]⟩], [], [], [], []⟩
noncomputable def b0 : Code := codeAt c [1, 0, 1, 0, 0]
noncomputable def s0 (x2 : List (List Cl)) (x3 x4 : Int) : St := ⟨mkT 19 [(0, one (.tr 0 1 [.int .i64, .int .i64] (.cells x2))), (1, one (.fn 88 [])), (7, one (.int .i64 x3)), (8, one (.int .i64 x4))], [], []⟩
noncomputable def l0s (x2 : List (List Cl)) (x3 : Int) (rec : Int → Option Res) (k : Option Res) (R : Int → Option Res) (x4 : Int) : Option Res :=
 bif decide (x4 < x3) then (bif decide (0 ≤ x4) && decide (x4 < (x2.length : Int)) then (impl_tokensOk_1.g (((x2.getD x4.toNat []).getD 0 (.i 0)).toI) (((x2.getD x4.toNat []).getD 1 (.i 0)).toI) fun r5 =>
  bif r5 then R x4
  else rec (IntKind.i64.wrap (x4 + 1)))
  else none)
 else k
noncomputable def l0 (x2 : List (List Cl)) (x3 : Int) (k : Option Res) (R : Int → Option Res) : Nat → Int → Option Res
 | 0, _ => none
 | n + 1, x4 => l0s x2 x3 (fun x4 => l0 x2 x3 k R n x4) k R x4
noncomputable def o0 (x2 : List (List Cl)) (x3 : Int) : St := ⟨mkT 19 [], [], []⟩
noncomputable def p0 (K : Res → Option Res) : List Lf → (St → Option Res) → Option Res
 | [.q (.cells x2), .i x3, .i x4], k => l0 x2 x3 (k (o0 x2 x3)) (fun r1 => K (m r1)) fuel x4
 | _, _ => none
noncomputable def os : List (FuncId × St × (List Lf → (Res → Option Res) → Option Res)) := [impl_tokensOk_1.con]
noncomputable def X (K : Res → Option Res) : Ctx := { Γ := Γ0, orc := orcOf os, io := [], share := [], opn := [], shr := [], bun := [], cut := [], own := [], cin := [(0, ⟨[0, 1, 7, 8], [], [], [], [], []⟩)], cout := [(0, ⟨[], [], [], [], [], []⟩)], lp := lpOf [(0, s0 [] 0 0, p0 K)], kl := Env.kl, nk := true, eqs := eqs0, byt := byt0, fin := finK fi K }
noncomputable def b (a1 : List (List Cl)) (R : Int → Option Res) : Option Res :=
 l0 a1 (a1.length : Int) (
 R (-1)) R fuel 0
theorem gx : ∃ x : List (List Cl) → (Int → Option Res) → Option Res, x = b := ⟨_, rfl⟩
noncomputable def g : List (List Cl) → (Int → Option Res) → Option Res := Classical.choose gx
theorem e : g = b := Classical.choose_spec gx
noncomputable def run : List Lf → (Res → Option Res) → Option Res
 | [.q (.cells a1)], K => g a1 (fun r1 => K (m r1))
 | _, _ => none
noncomputable def a (a1 : List (List Cl)) : St := argSt [one (.tr 0 1 [.int .i64, .int .i64] (.cells a1)), one (.fn 88 [])] [] []
noncomputable def con : FuncId × St × (List Lf → (Res → Option Res) → Option Res) := (121, a [], run)
theorem cx (K : Res → Option Res) : CtxOk Go.Proofs.Try.prog Γ0 byt0 eqs0 (X K) os := ⟨rfl, rfl, rfl, (fun p hp => by
 rcases List.mem_cons.1 hp with rfl | hp
 ·exact impl_tokensOk_1.ok
 cases hp), rfl, rfl, rfl⟩
theorem t0 (K : Res → Option Res) (k : St → Option Res) (it : St → (St → Option Res) → Option Res) (x2 : List (List Cl)) (x3 x4 : Int) : iterS (X K) 0 b0 it (s0 x2 x3 x4) k = l0s x2 x3 (fun x4 => it (s0 x2 x3 x4) k) (k (o0 x2 x3)) (fun r1 => K (m r1)) x4 := by kernel_rfl
theorem i0 (K : Res → Option Res) (k : St → Option Res) (x2 : List (List Cl)) (x3 : Int) : ∀ (n : Nat) (x4 : Int), iter (X K) 0 b0 n (s0 x2 x3 x4) k = l0 x2 x3 (k (o0 x2 x3)) (fun r1 => K (m r1)) n x4
 | 0, _ => rfl
 | n + 1, x4 => by
  rw [iter_succ, t0, show (fun x4 => iter (X K) 0 b0 n (s0 x2 x3 x4) k) = (fun x4 => l0 x2 x3 (k (o0 x2 x3)) (fun r1 => K (m r1)) n x4) from funext fun x4 => i0 K k x2 x3 n x4]; rfl
theorem v0 {K : Res → Option Res} {l : List Lf} {k : St → Option Res} {r : Res} (h : p0 K l k = some r) : ∃ x2 x3 x4, l = [.q (.cells x2), .i x3, .i x4] ∧ l0 x2 x3 (k (o0 x2 x3)) (fun r1 => K (m r1)) fuel x4 = some r := by
 unfold p0 at h; split at h
 ·exact ⟨_, _, _, rfl, h⟩
 ·cases h
theorem w0 (K : Res → Option Res) : LpSound Go.Proofs.Try.prog (X K) 0 b0 := lp_ok ((cx K).ok laid) (by rw [show loopsOf b0 = [] from by kernel_rfl]; intro p hp; cases hp) rfl fun p hp hid => by
 rcases List.mem_cons.1 hp with rfl | hp
 ·intro st k r h1 h2; obtain ⟨x2, x3, x4, e, h⟩ := v0 (K := K) h2; have := St.like_eq (y := s0 x2 x3 x4) h1 (by kernel_rfl) e; subst this; exact ⟨fuel, (i0 K k x2 x3 fuel x4).trans h⟩
 cases hp
theorem tie (K : Res → Option Res) (a1 : List (List Cl)) : exec (X K) c (entry 19 [one (.tr 0 1 [.int .i64, .int .i64] (.cells a1)), one (.fn 88 [])] [] []) (endK (X K)) = g a1 (fun r1 => K (m r1)) := Eq.trans (b := b a1 (fun r1 => K (m r1))) (by kernel_rfl) (by rw [e])
theorem runv {l : List Lf} {K : Res → Option Res} {r : Res} (h : run l K = some r) : ∃ a1, l = [.q (.cells a1)] ∧ g a1 (fun r1 => K (m r1)) = some r := by
 unfold run at h; split at h
 ·exact ⟨_, rfl, h⟩
 ·cases h
theorem ok : Con Go.Proofs.Try.prog con := con_of (fn := Go.Proofs.Try.f121) (c := c) (Fi := fi) (X := X) (fun_of laid (by kernel_rfl) (by kernel_rfl) (by kernel_rfl) rfl (by kernel_rfl) (by kernel_rfl) cx (fun _ => rfl) (fun _ => rfl) (fun K => by
 rw [show loopsOf c = [(0, b0)] from by kernel_rfl]; intro p hp
 rcases List.mem_cons.1 hp with rfl | hp
 ·exact w0 K
 cases hp)) fun xs rows boxes K r hl hr => by
 obtain ⟨a1, e, h⟩ := runv hr
 have := St.like_eq (y := a a1) hl (by kernel_rfl) e
 obtain ⟨rfl, rfl, rfl⟩ := argSt_inj this
 exact (tie K a1).trans h
end slices_IndexFunc_impl_Token_impl_Token
namespace slices_ContainsFunc_impl_Token_impl_Token
noncomputable def c : Code := bodyOf Go.Proofs.Try.f87
noncomputable def fi : Fin := ⟨Γ0, [(.tmp 4, 4)], [[1]], [], [], []⟩
noncomputable def m (r1 : Bool) : Res := ⟨[⟨false, [.bool r1]⟩], [], [], [], []⟩
noncomputable def os : List (FuncId × St × (List Lf → (Res → Option Res) → Option Res)) := [slices_IndexFunc_impl_Token_impl_Token.con]
noncomputable def X (K : Res → Option Res) : Ctx := { Γ := Γ0, orc := orcOf os, io := [], share := [], opn := [], shr := [], bun := [], cut := [], own := [], cin := [], cout := [], lp := lpOf [], kl := Env.kl, nk := true, eqs := eqs0, byt := byt0, fin := finK fi K }
noncomputable def b (a1 : List (List Cl)) (R : Bool → Option Res) : Option Res :=
 slices_IndexFunc_impl_Token_impl_Token.g a1 fun r2 =>
 R (decide (0 ≤ r2))
theorem gx : ∃ x : List (List Cl) → (Bool → Option Res) → Option Res, x = b := ⟨_, rfl⟩
noncomputable def g : List (List Cl) → (Bool → Option Res) → Option Res := Classical.choose gx
theorem e : g = b := Classical.choose_spec gx
noncomputable def run : List Lf → (Res → Option Res) → Option Res
 | [.q (.cells a1)], K => g a1 (fun r1 => K (m r1))
 | _, _ => none
noncomputable def a (a1 : List (List Cl)) : St := argSt [one (.tr 0 1 [.int .i64, .int .i64] (.cells a1)), one (.fn 88 [])] [] []
noncomputable def con : FuncId × St × (List Lf → (Res → Option Res) → Option Res) := (87, a [], run)
theorem cx (K : Res → Option Res) : CtxOk Go.Proofs.Try.prog Γ0 byt0 eqs0 (X K) os := ⟨rfl, rfl, rfl, (fun p hp => by
 rcases List.mem_cons.1 hp with rfl | hp
 ·exact slices_IndexFunc_impl_Token_impl_Token.ok
 cases hp), rfl, rfl, rfl⟩
theorem tie (K : Res → Option Res) (a1 : List (List Cl)) : exec (X K) c (entry 9 [one (.tr 0 1 [.int .i64, .int .i64] (.cells a1)), one (.fn 88 [])] [] []) (endK (X K)) = g a1 (fun r1 => K (m r1)) := Eq.trans (b := b a1 (fun r1 => K (m r1))) (by kernel_rfl) (by rw [e])
theorem runv {l : List Lf} {K : Res → Option Res} {r : Res} (h : run l K = some r) : ∃ a1, l = [.q (.cells a1)] ∧ g a1 (fun r1 => K (m r1)) = some r := by
 unfold run at h; split at h
 ·exact ⟨_, rfl, h⟩
 ·cases h
theorem ok : Con Go.Proofs.Try.prog con := con_of (fn := Go.Proofs.Try.f87) (c := c) (Fi := fi) (X := X) (fun_of laid (by kernel_rfl) (by kernel_rfl) (by kernel_rfl) rfl (by kernel_rfl) (by kernel_rfl) cx (fun _ => rfl) (fun _ => rfl) (fun K => by
 rw [show loopsOf c = [] from by kernel_rfl]; intro p hp
 cases hp)) fun xs rows boxes K r hl hr => by
 obtain ⟨a1, e, h⟩ := runv hr
 have := St.like_eq (y := a a1) hl (by kernel_rfl) e
 obtain ⟨rfl, rfl, rfl⟩ := argSt_inj this
 exact (tie K a1).trans h
end slices_ContainsFunc_impl_Token_impl_Token
namespace impl_tokensOk
noncomputable def c : Code := bodyOf Go.Proofs.Try.f51
noncomputable def fi : Fin := ⟨Γ0, [(.tmp 2, 4)], [[1]], [], [], []⟩
noncomputable def m (r1 : Bool) : Res := ⟨[⟨false, [.bool r1]⟩], [], [], [], []⟩
noncomputable def os : List (FuncId × St × (List Lf → (Res → Option Res) → Option Res)) := [slices_ContainsFunc_impl_Token_impl_Token.con]
noncomputable def X (K : Res → Option Res) : Ctx := { Γ := Γ0, orc := orcOf os, io := [], share := [], opn := [], shr := [], bun := [], cut := [], own := [], cin := [], cout := [], lp := lpOf [], kl := Env.kl, nk := true, eqs := eqs0, byt := byt0, fin := finK fi K }
noncomputable def b (a1 : List (List Cl)) (R : Bool → Option Res) : Option Res :=
 bif decide ((a1.length : Int) ≤ 300) then (slices_ContainsFunc_impl_Token_impl_Token.g a1 fun r2 =>
  R (!r2))
 else R false
theorem gx : ∃ x : List (List Cl) → (Bool → Option Res) → Option Res, x = b := ⟨_, rfl⟩
noncomputable def g : List (List Cl) → (Bool → Option Res) → Option Res := Classical.choose gx
theorem e : g = b := Classical.choose_spec gx
noncomputable def run : List Lf → (Res → Option Res) → Option Res
 | [.q (.cells a1)], K => g a1 (fun r1 => K (m r1))
 | _, _ => none
noncomputable def a (a1 : List (List Cl)) : St := argSt [one (.tr 0 1 [.int .i64, .int .i64] (.cells a1))] [] []
noncomputable def con : FuncId × St × (List Lf → (Res → Option Res) → Option Res) := (51, a [], run)
theorem cx (K : Res → Option Res) : CtxOk Go.Proofs.Try.prog Γ0 byt0 eqs0 (X K) os := ⟨rfl, rfl, rfl, (fun p hp => by
 rcases List.mem_cons.1 hp with rfl | hp
 ·exact slices_ContainsFunc_impl_Token_impl_Token.ok
 cases hp), rfl, rfl, rfl⟩
theorem tie (K : Res → Option Res) (a1 : List (List Cl)) : exec (X K) c (entry 11 [one (.tr 0 1 [.int .i64, .int .i64] (.cells a1))] [] []) (endK (X K)) = g a1 (fun r1 => K (m r1)) := Eq.trans (b := b a1 (fun r1 => K (m r1))) (by kernel_rfl) (by rw [e])
theorem runv {l : List Lf} {K : Res → Option Res} {r : Res} (h : run l K = some r) : ∃ a1, l = [.q (.cells a1)] ∧ g a1 (fun r1 => K (m r1)) = some r := by
 unfold run at h; split at h
 ·exact ⟨_, rfl, h⟩
 ·cases h
theorem ok : Con Go.Proofs.Try.prog con := con_of (fn := Go.Proofs.Try.f51) (c := c) (Fi := fi) (X := X) (fun_of laid (by kernel_rfl) (by kernel_rfl) (by kernel_rfl) rfl (by kernel_rfl) (by kernel_rfl) cx (fun _ => rfl) (fun _ => rfl) (fun K => by
 rw [show loopsOf c = [] from by kernel_rfl]; intro p hp
 cases hp)) fun xs rows boxes K r hl hr => by
 obtain ⟨a1, e, h⟩ := runv hr
 have := St.like_eq (y := a a1) hl (by kernel_rfl) e
 obtain ⟨rfl, rfl, rfl⟩ := argSt_inj this
 exact (tie K a1).trans h
end impl_tokensOk
namespace impl_parser_kind
noncomputable def c : Code := bodyOf Go.Proofs.Try.f90
noncomputable def fi : Fin := ⟨Γ0, [(.tmp 4, 3)], [[1]], [true], [([.sl [.int .i64, .int .i64] 16, .int .i64, .sl [.int .i64, .int .i64, .int .i64, .int .i64, .int .i64, .int .i64, .ints .i64] 72, .bool], [0, 1, 2, 1])], []⟩
noncomputable def m (a2 a3 : List (List Cl)) (a4 : Int) (a5 : Bool) (r1 : Int) : Res := ⟨[⟨false, [.int .i64 r1]⟩], [some ⟨[.int .i64, .int .i64, .int .i64, .int .i64, .int .i64, .int .i64, .ints .i64], .cells a2, true, 0, none⟩], [], [[.tr 2 2 [.int .i64, .int .i64] (.cells a3), .int .i64 a4, .ow 0, .bool a5]], []⟩
noncomputable def os : List (FuncId × St × (List Lf → (Res → Option Res) → Option Res)) := []
noncomputable def X (K : Res → Option Res) : Ctx := { Γ := Γ0, orc := orcOf os, io := [], share := [], opn := [], shr := [], bun := [], cut := [], own := [], cin := [], cout := [], lp := lpOf [], kl := Env.kl, nk := true, eqs := eqs0, byt := byt0, fin := finK fi K }
noncomputable def b (a1 : Int) (a2 a3 : List (List Cl)) (a4 : Int) (a5 : Bool) (R : Int → Option Res) : Option Res :=
 bif decide ((a3.length : Int) ≤ IntKind.i64.wrap (a4 + a1)) then R 0
 else bif decide (0 ≤ IntKind.i64.wrap (a4 + a1)) && decide (IntKind.i64.wrap (a4 + a1) < (a3.length : Int)) then R (((a3.getD ((IntKind.i64.wrap (a4 + a1)).toNat) []).getD 0 (.i 0)).toI)
 else none
theorem gx : ∃ x : Int → List (List Cl) → List (List Cl) → Int → Bool → (Int → Option Res) → Option Res, x = b := ⟨_, rfl⟩
noncomputable def g : Int → List (List Cl) → List (List Cl) → Int → Bool → (Int → Option Res) → Option Res := Classical.choose gx
theorem e : g = b := Classical.choose_spec gx
noncomputable def run : List Lf → (Res → Option Res) → Option Res
 | [.i a1, .q (.cells a2), .q (.cells a3), .i a4, .b a5], K => g a1 a2 a3 a4 a5 (fun r1 => K (m a2 a3 a4 a5 r1))
 | _, _ => none
noncomputable def a (a1 : Int) (a2 a3 : List (List Cl)) (a4 : Int) (a5 : Bool) : St := argSt [one (.bp 0 0), one (.int .i64 a1)] [⟨[.int .i64, .int .i64, .int .i64, .int .i64, .int .i64, .int .i64, .ints .i64], .cells a2, true, 0, none⟩] [[.tr 2 2 [.int .i64, .int .i64] (.cells a3), .int .i64 a4, .ow 0, .bool a5]]
noncomputable def con : FuncId × St × (List Lf → (Res → Option Res) → Option Res) := (90, a 0 [] [] 0 false, run)
theorem cx (K : Res → Option Res) : CtxOk Go.Proofs.Try.prog Γ0 byt0 eqs0 (X K) os := ⟨rfl, rfl, rfl, (fun p hp => by
 cases hp), rfl, rfl, rfl⟩
theorem tie (K : Res → Option Res) (a1 : Int) (a2 a3 : List (List Cl)) (a4 : Int) (a5 : Bool) : exec (X K) c (entry 30 [one (.bp 0 0), one (.int .i64 a1)] [⟨[.int .i64, .int .i64, .int .i64, .int .i64, .int .i64, .int .i64, .ints .i64], .cells a2, true, 0, none⟩] [[.tr 2 2 [.int .i64, .int .i64] (.cells a3), .int .i64 a4, .ow 0, .bool a5]]) (endK (X K)) = g a1 a2 a3 a4 a5 (fun r1 => K (m a2 a3 a4 a5 r1)) := Eq.trans (b := b a1 a2 a3 a4 a5 (fun r1 => K (m a2 a3 a4 a5 r1))) (by kernel_rfl) (by rw [e])
theorem runv {l : List Lf} {K : Res → Option Res} {r : Res} (h : run l K = some r) : ∃ a1 a2 a3 a4 a5, l = [.i a1, .q (.cells a2), .q (.cells a3), .i a4, .b a5] ∧ g a1 a2 a3 a4 a5 (fun r1 => K (m a2 a3 a4 a5 r1)) = some r := by
 unfold run at h; split at h
 ·exact ⟨_, _, _, _, _, rfl, h⟩
 ·cases h
theorem ok : Con Go.Proofs.Try.prog con := con_of (fn := Go.Proofs.Try.f90) (c := c) (Fi := fi) (X := X) (fun_of laid (by kernel_rfl) (by kernel_rfl) (by kernel_rfl) rfl (by kernel_rfl) (by kernel_rfl) cx (fun _ => rfl) (fun _ => rfl) (fun K => by
 rw [show loopsOf c = [] from by kernel_rfl]; intro p hp
 cases hp)) fun xs rows boxes K r hl hr => by
 obtain ⟨a1, a2, a3, a4, a5, e, h⟩ := runv hr
 have := St.like_eq (y := a a1 a2 a3 a4 a5) hl (by kernel_rfl) e
 obtain ⟨rfl, rfl, rfl⟩ := argSt_inj this
 exact (tie K a1 a2 a3 a4 a5).trans h
end impl_parser_kind
namespace impl_parser_put
noncomputable def c : Code := bodyOf Go.Proofs.Try.f91
noncomputable def fi : Fin := ⟨Γ0, [(.tmp 4, 3)], [[1]], [false], [([.sl [.int .i64, .int .i64] 16, .int .i64, .sl [.int .i64, .int .i64, .int .i64, .int .i64, .int .i64, .int .i64, .ints .i64] 72, .bool], [0, 1, 1, 1])], []⟩
noncomputable def m (a9 : List (List Cl)) (a10 : Int) (a11 : Bool) (r1 : Int) (r4 : List (List Cl)) : Res := ⟨[⟨false, [.int .i64 r1]⟩], [none], [⟨[.int .i64, .int .i64, .int .i64, .int .i64, .int .i64, .int .i64, .ints .i64], .cells r4, false, 0, none⟩], [[.tr 2 2 [.int .i64, .int .i64] (.cells a9), .int .i64 a10, .ow 1000, .bool a11]], []⟩
noncomputable def os : List (FuncId × St × (List Lf → (Res → Option Res) → Option Res)) := []
noncomputable def X (K : Res → Option Res) : Ctx := { Γ := Γ0, orc := orcOf os, io := [], share := [], opn := [], shr := [], bun := [], cut := [], own := [], cin := [], cout := [], lp := lpOf [], kl := Env.kl, nk := true, eqs := eqs0, byt := byt0, fin := finK fi K }
noncomputable def b (a1 a2 a3 a4 a5 a6 : Int) (a7 : List Int) (a8 a9 : List (List Cl)) (a10 : Int) (a11 : Bool) (R : Int → List (List Cl) → Option Res) : Option Res :=
 bif decide ((a8.length + 1) * 72 ≤ 140737488355328) then R (IntKind.i64.wrap (((a8 ++ ([[.i a1, .i a2, .i a3, .i a4, .i a5, .i a6, .l a7]] : List (List Cl))).length : Int) - 1)) (a8 ++ ([[.i a1, .i a2, .i a3, .i a4, .i a5, .i a6, .l a7]] : List (List Cl)))
 else none
theorem gx : ∃ x : Int → Int → Int → Int → Int → Int → List Int → List (List Cl) → List (List Cl) → Int → Bool → (Int → List (List Cl) → Option Res) → Option Res, x = b := ⟨_, rfl⟩
noncomputable def g : Int → Int → Int → Int → Int → Int → List Int → List (List Cl) → List (List Cl) → Int → Bool → (Int → List (List Cl) → Option Res) → Option Res := Classical.choose gx
theorem e : g = b := Classical.choose_spec gx
noncomputable def run : List Lf → (Res → Option Res) → Option Res
 | [.i a1, .i a2, .i a3, .i a4, .i a5, .i a6, .q (.ints a7), .q (.cells a8), .q (.cells a9), .i a10, .b a11], K => g a1 a2 a3 a4 a5 a6 a7 a8 a9 a10 a11 (fun r1 r4 => K (m a9 a10 a11 r1 r4))
 | _, _ => none
noncomputable def a (a1 a2 a3 a4 a5 a6 : Int) (a7 : List Int) (a8 a9 : List (List Cl)) (a10 : Int) (a11 : Bool) : St := argSt [one (.bp 0 0), .v ⟨true, [.int .i64 a1, .int .i64 a2, .int .i64 a3, .int .i64 a4, .int .i64 a5, .int .i64 a6, .tr 2 1 [.int .i64] (.ints a7)]⟩] [⟨[.int .i64, .int .i64, .int .i64, .int .i64, .int .i64, .int .i64, .ints .i64], .cells a8, true, 0, none⟩] [[.tr 2 2 [.int .i64, .int .i64] (.cells a9), .int .i64 a10, .ow 0, .bool a11]]
noncomputable def con : FuncId × St × (List Lf → (Res → Option Res) → Option Res) := (91, a 0 0 0 0 0 0 [] [] [] 0 false, run)
theorem cx (K : Res → Option Res) : CtxOk Go.Proofs.Try.prog Γ0 byt0 eqs0 (X K) os := ⟨rfl, rfl, rfl, (fun p hp => by
 cases hp), rfl, rfl, rfl⟩
theorem tie (K : Res → Option Res) (a1 a2 a3 a4 a5 a6 : Int) (a7 : List Int) (a8 a9 : List (List Cl)) (a10 : Int) (a11 : Bool) : exec (X K) c (entry 21 [one (.bp 0 0), .v ⟨true, [.int .i64 a1, .int .i64 a2, .int .i64 a3, .int .i64 a4, .int .i64 a5, .int .i64 a6, .tr 2 1 [.int .i64] (.ints a7)]⟩] [⟨[.int .i64, .int .i64, .int .i64, .int .i64, .int .i64, .int .i64, .ints .i64], .cells a8, true, 0, none⟩] [[.tr 2 2 [.int .i64, .int .i64] (.cells a9), .int .i64 a10, .ow 0, .bool a11]]) (endK (X K)) = g a1 a2 a3 a4 a5 a6 a7 a8 a9 a10 a11 (fun r1 r4 => K (m a9 a10 a11 r1 r4)) := Eq.trans (b := b a1 a2 a3 a4 a5 a6 a7 a8 a9 a10 a11 (fun r1 r4 => K (m a9 a10 a11 r1 r4))) (by kernel_rfl) (by rw [e])
theorem runv {l : List Lf} {K : Res → Option Res} {r : Res} (h : run l K = some r) : ∃ a1 a2 a3 a4 a5 a6 a7 a8 a9 a10 a11, l = [.i a1, .i a2, .i a3, .i a4, .i a5, .i a6, .q (.ints a7), .q (.cells a8), .q (.cells a9), .i a10, .b a11] ∧ g a1 a2 a3 a4 a5 a6 a7 a8 a9 a10 a11 (fun r1 r4 => K (m a9 a10 a11 r1 r4)) = some r := by
 unfold run at h; split at h
 ·exact ⟨_, _, _, _, _, _, _, _, _, _, _, rfl, h⟩
 ·cases h
theorem ok : Con Go.Proofs.Try.prog con := con_of (fn := Go.Proofs.Try.f91) (c := c) (Fi := fi) (X := X) (fun_of laid (by kernel_rfl) (by kernel_rfl) (by kernel_rfl) rfl (by kernel_rfl) (by kernel_rfl) cx (fun _ => rfl) (fun _ => rfl) (fun K => by
 rw [show loopsOf c = [] from by kernel_rfl]; intro p hp
 cases hp)) fun xs rows boxes K r hl hr => by
 obtain ⟨a1, a2, a3, a4, a5, a6, a7, a8, a9, a10, a11, e, h⟩ := runv hr
 have := St.like_eq (y := a a1 a2 a3 a4 a5 a6 a7 a8 a9 a10 a11) hl (by kernel_rfl) e
 obtain ⟨rfl, rfl, rfl⟩ := argSt_inj this
 exact (tie K a1 a2 a3 a4 a5 a6 a7 a8 a9 a10 a11).trans h
end impl_parser_put
namespace impl_parser_sign
noncomputable def c : Code := bodyOf Go.Proofs.Try.f122
noncomputable def fi : Fin := ⟨Γ0, [(.tmp 4, 3)], [[1]], [true], [([.sl [.int .i64, .int .i64] 16, .int .i64, .sl [.int .i64, .int .i64, .int .i64, .int .i64, .int .i64, .int .i64, .ints .i64] 72, .bool], [0, 1, 2, 1])], []⟩
noncomputable def m (a2 a3 : List (List Cl)) (a4 : Int) (a5 : Bool) (r1 : Int) : Res := ⟨[⟨false, [.int .i64 r1]⟩], [some ⟨[.int .i64, .int .i64, .int .i64, .int .i64, .int .i64, .int .i64, .ints .i64], .cells a2, true, 0, none⟩], [], [[.tr 2 2 [.int .i64, .int .i64] (.cells a3), .int .i64 a4, .ow 0, .bool a5]], []⟩
noncomputable def os : List (FuncId × St × (List Lf → (Res → Option Res) → Option Res)) := [impl_parser_kind.con]
noncomputable def X (K : Res → Option Res) : Ctx := { Γ := Γ0, orc := orcOf os, io := [], share := [], opn := [], shr := [], bun := [], cut := [], own := [], cin := [], cout := [], lp := lpOf [], kl := Env.kl, nk := true, eqs := eqs0, byt := byt0, fin := finK fi K }
noncomputable def b (a1 : Int) (a2 a3 : List (List Cl)) (a4 : Int) (a5 : Bool) (R : Int → Option Res) : Option Res :=
 impl_parser_kind.g a1 a2 a3 a4 a5 fun r6 =>
 bif (r6 != 3) then R 0
 else bif decide (0 ≤ IntKind.i64.wrap (a4 + a1)) && decide (IntKind.i64.wrap (a4 + a1) < (a3.length : Int)) then R (((a3.getD ((IntKind.i64.wrap (a4 + a1)).toNat) []).getD 1 (.i 0)).toI)
 else none
theorem gx : ∃ x : Int → List (List Cl) → List (List Cl) → Int → Bool → (Int → Option Res) → Option Res, x = b := ⟨_, rfl⟩
noncomputable def g : Int → List (List Cl) → List (List Cl) → Int → Bool → (Int → Option Res) → Option Res := Classical.choose gx
theorem e : g = b := Classical.choose_spec gx
noncomputable def run : List Lf → (Res → Option Res) → Option Res
 | [.i a1, .q (.cells a2), .q (.cells a3), .i a4, .b a5], K => g a1 a2 a3 a4 a5 (fun r1 => K (m a2 a3 a4 a5 r1))
 | _, _ => none
noncomputable def a (a1 : Int) (a2 a3 : List (List Cl)) (a4 : Int) (a5 : Bool) : St := argSt [one (.bp 0 0), one (.int .i64 a1)] [⟨[.int .i64, .int .i64, .int .i64, .int .i64, .int .i64, .int .i64, .ints .i64], .cells a2, true, 0, none⟩] [[.tr 2 2 [.int .i64, .int .i64] (.cells a3), .int .i64 a4, .ow 0, .bool a5]]
noncomputable def con : FuncId × St × (List Lf → (Res → Option Res) → Option Res) := (122, a 0 [] [] 0 false, run)
theorem cx (K : Res → Option Res) : CtxOk Go.Proofs.Try.prog Γ0 byt0 eqs0 (X K) os := ⟨rfl, rfl, rfl, (fun p hp => by
 rcases List.mem_cons.1 hp with rfl | hp
 ·exact impl_parser_kind.ok
 cases hp), rfl, rfl, rfl⟩
theorem tie (K : Res → Option Res) (a1 : Int) (a2 a3 : List (List Cl)) (a4 : Int) (a5 : Bool) : exec (X K) c (entry 22 [one (.bp 0 0), one (.int .i64 a1)] [⟨[.int .i64, .int .i64, .int .i64, .int .i64, .int .i64, .int .i64, .ints .i64], .cells a2, true, 0, none⟩] [[.tr 2 2 [.int .i64, .int .i64] (.cells a3), .int .i64 a4, .ow 0, .bool a5]]) (endK (X K)) = g a1 a2 a3 a4 a5 (fun r1 => K (m a2 a3 a4 a5 r1)) := Eq.trans (b := b a1 a2 a3 a4 a5 (fun r1 => K (m a2 a3 a4 a5 r1))) (by kernel_rfl) (by rw [e])
theorem runv {l : List Lf} {K : Res → Option Res} {r : Res} (h : run l K = some r) : ∃ a1 a2 a3 a4 a5, l = [.i a1, .q (.cells a2), .q (.cells a3), .i a4, .b a5] ∧ g a1 a2 a3 a4 a5 (fun r1 => K (m a2 a3 a4 a5 r1)) = some r := by
 unfold run at h; split at h
 ·exact ⟨_, _, _, _, _, rfl, h⟩
 ·cases h
theorem ok : Con Go.Proofs.Try.prog con := con_of (fn := Go.Proofs.Try.f122) (c := c) (Fi := fi) (X := X) (fun_of laid (by kernel_rfl) (by kernel_rfl) (by kernel_rfl) rfl (by kernel_rfl) (by kernel_rfl) cx (fun _ => rfl) (fun _ => rfl) (fun K => by
 rw [show loopsOf c = [] from by kernel_rfl]; intro p hp
 cases hp)) fun xs rows boxes K r hl hr => by
 obtain ⟨a1, a2, a3, a4, a5, e, h⟩ := runv hr
 have := St.like_eq (y := a a1 a2 a3 a4 a5) hl (by kernel_rfl) e
 obtain ⟨rfl, rfl, rfl⟩ := argSt_inj this
 exact (tie K a1 a2 a3 a4 a5).trans h
end impl_parser_sign
namespace impl_parser_function
noncomputable def c : Code := bodyOf Go.Proofs.Try.f92
noncomputable def fi : Fin := ⟨Γ0, [(.cell 2 40, 40)], [[1, 1, 1]], [true], [([.sl [.int .i64, .int .i64] 16, .int .i64, .sl [.int .i64, .int .i64, .int .i64, .int .i64, .int .i64, .int .i64, .ints .i64] 72, .bool], [0, 1, 2, 1])], []⟩
noncomputable def m (a1 a2 : List (List Cl)) (r1 r2 r3 r6 : Int) (r7 : Bool) : Res := ⟨[⟨true, [.int .i64 r1, .int .i64 r2, .int .i64 r3]⟩], [some ⟨[.int .i64, .int .i64, .int .i64, .int .i64, .int .i64, .int .i64, .ints .i64], .cells a1, true, 0, none⟩], [], [[.tr 2 2 [.int .i64, .int .i64] (.cells a2), .int .i64 r6, .ow 0, .bool r7]], []⟩
noncomputable def os : List (FuncId × St × (List Lf → (Res → Option Res) → Option Res)) := [impl_parser_sign.con]
noncomputable def X (K : Res → Option Res) : Ctx := { Γ := Γ0, orc := orcOf os, io := [], share := [], opn := [], shr := [], bun := [], cut := [], own := [], cin := [], cout := [], lp := lpOf [], kl := Env.kl, nk := true, eqs := eqs0, byt := byt0, fin := finK fi K }
noncomputable def b (a1 a2 : List (List Cl)) (a3 : Int) (a4 : Bool) (R : Int → Int → Int → Int → Bool → Option Res) : Option Res :=
 impl_parser_sign.g 0 a1 a2 a3 a4 fun r5 =>
 impl_parser_sign.g 1 a1 a2 a3 a4 fun r6 =>
 impl_parser_sign.g 2 a1 a2 a3 a4 fun r7 =>
 bif (r5 == 0) then R r5 0 0 (IntKind.i64.wrap (a3 + 1)) true
 else bif (r5 == 111) then (bif (r6 != 0) then R r6 111 0 (IntKind.i64.wrap (a3 + 2)) a4
  else bif (r6 == 47) then R r5 r6 0 (IntKind.i64.wrap (a3 + 2)) a4
  else bif (r6 == 92) then R r5 r6 0 (IntKind.i64.wrap (a3 + 2)) a4
  else bif (r6 == 46) then (bif (r7 != 0) then R r5 46 r7 (IntKind.i64.wrap (a3 + 3)) a4
   else R r5 0 0 (IntKind.i64.wrap (a3 + 1)) a4)
  else R r5 0 0 (IntKind.i64.wrap (a3 + 1)) a4)
 else bif (r6 == 47) then R r5 r6 0 (IntKind.i64.wrap (a3 + 2)) a4
 else bif (r6 == 92) then R r5 r6 0 (IntKind.i64.wrap (a3 + 2)) a4
 else bif (r6 == 46) then (bif (r7 != 0) then R r5 46 r7 (IntKind.i64.wrap (a3 + 3)) a4
  else R r5 0 0 (IntKind.i64.wrap (a3 + 1)) a4)
 else R r5 0 0 (IntKind.i64.wrap (a3 + 1)) a4
theorem gx : ∃ x : List (List Cl) → List (List Cl) → Int → Bool → (Int → Int → Int → Int → Bool → Option Res) → Option Res, x = b := ⟨_, rfl⟩
noncomputable def g : List (List Cl) → List (List Cl) → Int → Bool → (Int → Int → Int → Int → Bool → Option Res) → Option Res := Classical.choose gx
theorem e : g = b := Classical.choose_spec gx
noncomputable def run : List Lf → (Res → Option Res) → Option Res
 | [.q (.cells a1), .q (.cells a2), .i a3, .b a4], K => g a1 a2 a3 a4 (fun r1 r2 r3 r6 r7 => K (m a1 a2 r1 r2 r3 r6 r7))
 | _, _ => none
noncomputable def a (a1 a2 : List (List Cl)) (a3 : Int) (a4 : Bool) : St := argSt [one (.bp 0 0)] [⟨[.int .i64, .int .i64, .int .i64, .int .i64, .int .i64, .int .i64, .ints .i64], .cells a1, true, 0, none⟩] [[.tr 2 2 [.int .i64, .int .i64] (.cells a2), .int .i64 a3, .ow 0, .bool a4]]
noncomputable def con : FuncId × St × (List Lf → (Res → Option Res) → Option Res) := (92, a [] [] 0 false, run)
theorem cx (K : Res → Option Res) : CtxOk Go.Proofs.Try.prog Γ0 byt0 eqs0 (X K) os := ⟨rfl, rfl, rfl, (fun p hp => by
 rcases List.mem_cons.1 hp with rfl | hp
 ·exact impl_parser_sign.ok
 cases hp), rfl, rfl, rfl⟩
theorem tie (K : Res → Option Res) (a1 a2 : List (List Cl)) (a3 : Int) (a4 : Bool) : exec (X K) c (entry 60 [one (.bp 0 0)] [⟨[.int .i64, .int .i64, .int .i64, .int .i64, .int .i64, .int .i64, .ints .i64], .cells a1, true, 0, none⟩] [[.tr 2 2 [.int .i64, .int .i64] (.cells a2), .int .i64 a3, .ow 0, .bool a4]]) (endK (X K)) = g a1 a2 a3 a4 (fun r1 r2 r3 r6 r7 => K (m a1 a2 r1 r2 r3 r6 r7)) := Eq.trans (b := b a1 a2 a3 a4 (fun r1 r2 r3 r6 r7 => K (m a1 a2 r1 r2 r3 r6 r7))) (by kernel_rfl) (by rw [e])
theorem runv {l : List Lf} {K : Res → Option Res} {r : Res} (h : run l K = some r) : ∃ a1 a2 a3 a4, l = [.q (.cells a1), .q (.cells a2), .i a3, .b a4] ∧ g a1 a2 a3 a4 (fun r1 r2 r3 r6 r7 => K (m a1 a2 r1 r2 r3 r6 r7)) = some r := by
 unfold run at h; split at h
 ·exact ⟨_, _, _, _, rfl, h⟩
 ·cases h
theorem ok : Con Go.Proofs.Try.prog con := con_of (fn := Go.Proofs.Try.f92) (c := c) (Fi := fi) (X := X) (fun_of laid (by kernel_rfl) (by kernel_rfl) (by kernel_rfl) rfl (by kernel_rfl) (by kernel_rfl) cx (fun _ => rfl) (fun _ => rfl) (fun K => by
 rw [show loopsOf c = [] from by kernel_rfl]; intro p hp
 cases hp)) fun xs rows boxes K r hl hr => by
 obtain ⟨a1, a2, a3, a4, e, h⟩ := runv hr
 have := St.like_eq (y := a a1 a2 a3 a4) hl (by kernel_rfl) e
 obtain ⟨rfl, rfl, rfl⟩ := argSt_inj this
 exact (tie K a1 a2 a3 a4).trans h
end impl_parser_function
namespace impl_oneSign
noncomputable def c : Code := bodyOf Go.Proofs.Try.f101
noncomputable def fi : Fin := ⟨Γ0, [(.tmp 2, 4)], [[1]], [], [], []⟩
noncomputable def m (r1 : Bool) : Res := ⟨[⟨false, [.bool r1]⟩], [], [], [], []⟩
noncomputable def os : List (FuncId × St × (List Lf → (Res → Option Res) → Option Res)) := [impl_hasSign.con]
noncomputable def X (K : Res → Option Res) : Ctx := { Γ := Γ0, orc := orcOf os, io := [], share := [], opn := [], shr := [], bun := [], cut := [], own := [], cin := [], cout := [], lp := lpOf [], kl := Env.kl, nk := true, eqs := eqs0, byt := byt0, fin := finK fi K }
noncomputable def b (a1 : Int) (R : Bool → Option Res) : Option Res :=
 impl_hasSign.g (⟨#[43, 45, 42, 124, 126]⟩ : ByteArray) a1 fun r2 =>
 R r2
theorem gx : ∃ x : Int → (Bool → Option Res) → Option Res, x = b := ⟨_, rfl⟩
noncomputable def g : Int → (Bool → Option Res) → Option Res := Classical.choose gx
theorem e : g = b := Classical.choose_spec gx
noncomputable def run : List Lf → (Res → Option Res) → Option Res
 | [.i a1], K => g a1 (fun r1 => K (m r1))
 | _, _ => none
noncomputable def a (a1 : Int) : St := argSt [one (.int .i64 a1)] [] []
noncomputable def con : FuncId × St × (List Lf → (Res → Option Res) → Option Res) := (101, a 0, run)
theorem cx (K : Res → Option Res) : CtxOk Go.Proofs.Try.prog Γ0 byt0 eqs0 (X K) os := ⟨rfl, rfl, rfl, (fun p hp => by
 rcases List.mem_cons.1 hp with rfl | hp
 ·exact impl_hasSign.ok
 cases hp), rfl, rfl, rfl⟩
theorem tie (K : Res → Option Res) (a1 : Int) : exec (X K) c (entry 5 [one (.int .i64 a1)] [] []) (endK (X K)) = g a1 (fun r1 => K (m r1)) := Eq.trans (b := b a1 (fun r1 => K (m r1))) (by kernel_rfl) (by rw [e])
theorem runv {l : List Lf} {K : Res → Option Res} {r : Res} (h : run l K = some r) : ∃ a1, l = [.i a1] ∧ g a1 (fun r1 => K (m r1)) = some r := by
 unfold run at h; split at h
 ·exact ⟨_, rfl, h⟩
 ·cases h
theorem ok : Con Go.Proofs.Try.prog con := con_of (fn := Go.Proofs.Try.f101) (c := c) (Fi := fi) (X := X) (fun_of laid (by kernel_rfl) (by kernel_rfl) (by kernel_rfl) rfl (by kernel_rfl) (by kernel_rfl) cx (fun _ => rfl) (fun _ => rfl) (fun K => by
 rw [show loopsOf c = [] from by kernel_rfl]; intro p hp
 cases hp)) fun xs rows boxes K r hl hr => by
 obtain ⟨a1, e, h⟩ := runv hr
 have := St.like_eq (y := a a1) hl (by kernel_rfl) e
 obtain ⟨rfl, rfl, rfl⟩ := argSt_inj this
 exact (tie K a1).trans h
end impl_oneSign
namespace impl_twoSign
noncomputable def c : Code := bodyOf Go.Proofs.Try.f102
noncomputable def fi : Fin := ⟨Γ0, [(.tmp 2, 4)], [[1]], [], [], []⟩
noncomputable def m (r1 : Bool) : Res := ⟨[⟨false, [.bool r1]⟩], [], [], [], []⟩
noncomputable def os : List (FuncId × St × (List Lf → (Res → Option Res) → Option Res)) := [impl_hasSign.con]
noncomputable def X (K : Res → Option Res) : Ctx := { Γ := Γ0, orc := orcOf os, io := [], share := [], opn := [], shr := [], bun := [], cut := [], own := [], cin := [], cout := [], lp := lpOf [], kl := Env.kl, nk := true, eqs := eqs0, byt := byt0, fin := finK fi K }
noncomputable def b (a1 : Int) (R : Bool → Option Res) : Option Res :=
 impl_hasSign.g (⟨#[43, 45, 42, 37, 124, 38, 94, 61, 60, 62]⟩ : ByteArray) a1 fun r2 =>
 R r2
theorem gx : ∃ x : Int → (Bool → Option Res) → Option Res, x = b := ⟨_, rfl⟩
noncomputable def g : Int → (Bool → Option Res) → Option Res := Classical.choose gx
theorem e : g = b := Classical.choose_spec gx
noncomputable def run : List Lf → (Res → Option Res) → Option Res
 | [.i a1], K => g a1 (fun r1 => K (m r1))
 | _, _ => none
noncomputable def a (a1 : Int) : St := argSt [one (.int .i64 a1)] [] []
noncomputable def con : FuncId × St × (List Lf → (Res → Option Res) → Option Res) := (102, a 0, run)
theorem cx (K : Res → Option Res) : CtxOk Go.Proofs.Try.prog Γ0 byt0 eqs0 (X K) os := ⟨rfl, rfl, rfl, (fun p hp => by
 rcases List.mem_cons.1 hp with rfl | hp
 ·exact impl_hasSign.ok
 cases hp), rfl, rfl, rfl⟩
theorem tie (K : Res → Option Res) (a1 : Int) : exec (X K) c (entry 5 [one (.int .i64 a1)] [] []) (endK (X K)) = g a1 (fun r1 => K (m r1)) := Eq.trans (b := b a1 (fun r1 => K (m r1))) (by kernel_rfl) (by rw [e])
theorem runv {l : List Lf} {K : Res → Option Res} {r : Res} (h : run l K = some r) : ∃ a1, l = [.i a1] ∧ g a1 (fun r1 => K (m r1)) = some r := by
 unfold run at h; split at h
 ·exact ⟨_, rfl, h⟩
 ·cases h
theorem ok : Con Go.Proofs.Try.prog con := con_of (fn := Go.Proofs.Try.f102) (c := c) (Fi := fi) (X := X) (fun_of laid (by kernel_rfl) (by kernel_rfl) (by kernel_rfl) rfl (by kernel_rfl) (by kernel_rfl) cx (fun _ => rfl) (fun _ => rfl) (fun K => by
 rw [show loopsOf c = [] from by kernel_rfl]; intro p hp
 cases hp)) fun xs rows boxes K r hl hr => by
 obtain ⟨a1, e, h⟩ := runv hr
 have := St.like_eq (y := a a1) hl (by kernel_rfl) e
 obtain ⟨rfl, rfl, rfl⟩ := argSt_inj this
 exact (tie K a1).trans h
end impl_twoSign
namespace impl_FunOne
noncomputable def c : Code := bodyOf Go.Proofs.Try.f70
noncomputable def fi : Fin := ⟨Γ0, [(.tmp 2, 4)], [[1]], [], [], []⟩
noncomputable def m (r1 : Bool) : Res := ⟨[⟨false, [.bool r1]⟩], [], [], [], []⟩
noncomputable def os : List (FuncId × St × (List Lf → (Res → Option Res) → Option Res)) := [impl_oneSign.con, impl_hasSign.con, impl_twoSign.con]
noncomputable def X (K : Res → Option Res) : Ctx := { Γ := Γ0, orc := orcOf os, io := [], share := [], opn := [], shr := [], bun := [], cut := [], own := [], cin := [], cout := [], lp := lpOf [], kl := Env.kl, nk := true, eqs := eqs0, byt := byt0, fin := finK fi K }
noncomputable def b (a1 a2 a3 : Int) (R : Bool → Option Res) : Option Res :=
 bif (a2 == 0) then (bif (a3 == 0) then (impl_oneSign.g a1 fun r4 =>
  bif r4 then R true
  else (impl_hasSign.g (⟨#[105, 35, 44, 114, 122, 103]⟩ : ByteArray) a1 fun r5 =>
  R r5))
  else R false)
 else bif (a2 == 47) then (bif (a3 == 0) then (impl_twoSign.g a1 fun r6 =>
  R r6)
  else R false)
 else bif (a2 == 92) then (bif (a3 == 0) then (impl_twoSign.g a1 fun r7 =>
  R r7)
  else R false)
 else R false
theorem gx : ∃ x : Int → Int → Int → (Bool → Option Res) → Option Res, x = b := ⟨_, rfl⟩
noncomputable def g : Int → Int → Int → (Bool → Option Res) → Option Res := Classical.choose gx
theorem e : g = b := Classical.choose_spec gx
noncomputable def run : List Lf → (Res → Option Res) → Option Res
 | [.i a1, .i a2, .i a3], K => g a1 a2 a3 (fun r1 => K (m r1))
 | _, _ => none
noncomputable def a (a1 a2 a3 : Int) : St := argSt [.v ⟨true, [.int .i64 a1, .int .i64 a2, .int .i64 a3]⟩] [] []
noncomputable def con : FuncId × St × (List Lf → (Res → Option Res) → Option Res) := (70, a 0 0 0, run)
theorem cx (K : Res → Option Res) : CtxOk Go.Proofs.Try.prog Γ0 byt0 eqs0 (X K) os := ⟨rfl, rfl, rfl, (fun p hp => by
 rcases List.mem_cons.1 hp with rfl | hp
 ·exact impl_oneSign.ok
 rcases List.mem_cons.1 hp with rfl | hp
 ·exact impl_hasSign.ok
 rcases List.mem_cons.1 hp with rfl | hp
 ·exact impl_twoSign.ok
 cases hp), rfl, rfl, rfl⟩
theorem tie (K : Res → Option Res) (a1 a2 a3 : Int) : exec (X K) c (entry 31 [.v ⟨true, [.int .i64 a1, .int .i64 a2, .int .i64 a3]⟩] [] []) (endK (X K)) = g a1 a2 a3 (fun r1 => K (m r1)) := Eq.trans (b := b a1 a2 a3 (fun r1 => K (m r1))) (by kernel_rfl) (by rw [e])
theorem runv {l : List Lf} {K : Res → Option Res} {r : Res} (h : run l K = some r) : ∃ a1 a2 a3, l = [.i a1, .i a2, .i a3] ∧ g a1 a2 a3 (fun r1 => K (m r1)) = some r := by
 unfold run at h; split at h
 ·exact ⟨_, _, _, rfl, h⟩
 ·cases h
theorem ok : Con Go.Proofs.Try.prog con := con_of (fn := Go.Proofs.Try.f70) (c := c) (Fi := fi) (X := X) (fun_of laid (by kernel_rfl) (by kernel_rfl) (by kernel_rfl) rfl (by kernel_rfl) (by kernel_rfl) cx (fun _ => rfl) (fun _ => rfl) (fun K => by
 rw [show loopsOf c = [] from by kernel_rfl]; intro p hp
 cases hp)) fun xs rows boxes K r hl hr => by
 obtain ⟨a1, a2, a3, e, h⟩ := runv hr
 have := St.like_eq (y := a a1 a2 a3) hl (by kernel_rfl) e
 obtain ⟨rfl, rfl, rfl⟩ := argSt_inj this
 exact (tie K a1 a2 a3).trans h
end impl_FunOne
namespace impl_parser_operandEnd
noncomputable def c : Code := bodyOf Go.Proofs.Try.f93
noncomputable def fi : Fin := ⟨Γ0, [(.tmp 2, 3), (.tmp 3, 4)], [[1], [1]], [true], [([.sl [.int .i64, .int .i64] 16, .int .i64, .sl [.int .i64, .int .i64, .int .i64, .int .i64, .int .i64, .int .i64, .ints .i64] 72, .bool], [0, 1, 2, 1])], []⟩
noncomputable def m (r1 : Int) (r2 : Bool) (r3 r4 : List (List Cl)) (r5 : Int) (r6 : Bool) : Res := ⟨[⟨false, [.int .i64 r1]⟩, ⟨false, [.bool r2]⟩], [some ⟨[.int .i64, .int .i64, .int .i64, .int .i64, .int .i64, .int .i64, .ints .i64], .cells r3, true, 0, none⟩], [], [[.tr 2 2 [.int .i64, .int .i64] (.cells r4), .int .i64 r5, .ow 0, .bool r6]], []⟩
noncomputable def b1 : Code := codeAt c [1, 0, 1, 0, 1, 0, 1, 0, 0, 0]
noncomputable def b3 : Code := codeAt c [1, 0, 1, 0, 1, 1, 1, 1, 1, 0, 1, 1, 0, 0]
noncomputable def s1 (x6 : Int) (x7 x8 : List (List Cl)) (x9 : Int) (x10 : Bool) : St := ⟨mkT 65 [(0, one (.bp 0 0)), (4, one (.int .i64 x6))], [(0, ⟨[.int .i64, .int .i64, .int .i64, .int .i64, .int .i64, .int .i64, .ints .i64], .cells x7, true, 0, none⟩)], [(0, [.tr 2 2 [.int .i64, .int .i64] (.cells x8), .int .i64 x9, .ow 0, .bool x10])]⟩
noncomputable def l1s (x7 x8 : List (List Cl)) (x9 : Int) (x10 : Bool) (rec : Int → Option Res) (k : Int → Option Res) (x6 : Int) : Option Res :=
 impl_parser_kind.g x6 x7 x8 x9 x10 fun r11 =>
 bif (r11 == 1) then rec (IntKind.i64.wrap (x6 + 1))
 else k x6
noncomputable def l1 (x7 x8 : List (List Cl)) (x9 : Int) (x10 : Bool) (k : Int → Option Res) : Nat → Int → Option Res
 | 0, _ => none
 | n + 1, x6 => l1s x7 x8 x9 x10 (fun x6 => l1 x7 x8 x9 x10 k n x6) k x6
noncomputable def o1 (x7 x8 : List (List Cl)) (x9 : Int) (x10 : Bool) (y1 : Int) : St := ⟨mkT 65 [(0, one (.bp 0 0)), (4, one (.int .i64 y1))], [(0, ⟨[.int .i64, .int .i64, .int .i64, .int .i64, .int .i64, .int .i64, .ints .i64], .cells x7, true, 0, none⟩)], [(0, [.tr 2 2 [.int .i64, .int .i64] (.cells x8), .int .i64 x9, .ow 0, .bool x10])]⟩
noncomputable def p1 (K : Res → Option Res) : List Lf → (St → Option Res) → Option Res
 | [.i x6, .q (.cells x7), .q (.cells x8), .i x9, .b x10], k => l1 x7 x8 x9 x10 (fun y1 => k (o1 x7 x8 x9 x10 y1)) fuel x6
 | _, _ => none
noncomputable def s3 (x13 x14 : Int) (x15 x16 : List (List Cl)) (x17 : Int) (x18 : Bool) : St := ⟨mkT 65 [(0, one (.bp 0 0)), (5, one (.int .i64 x13)), (6, one (.int .i64 x14))], [(0, ⟨[.int .i64, .int .i64, .int .i64, .int .i64, .int .i64, .int .i64, .ints .i64], .cells x15, true, 0, none⟩)], [(0, [.tr 2 2 [.int .i64, .int .i64] (.cells x16), .int .i64 x17, .ow 0, .bool x18])]⟩
noncomputable def l3s (x15 x16 : List (List Cl)) (x17 : Int) (x18 : Bool) (rec : Int → Int → Option Res) (k : Option Res) (R : Int → Bool → List (List Cl) → List (List Cl) → Int → Bool → Option Res) (x13 x14 : Int) : Option Res :=
 bif decide (x14 < (x16.length : Int)) then (bif decide (0 ≤ x14) && decide (x14 < (x16.length : Int)) then (bif (((x16.getD x14.toNat []).getD 0 (.i 0)).toI == 4) then (bif (IntKind.i64.wrap (x13 + 1) == 0) then R (IntKind.i64.wrap (x14 + 1)) true x15 x16 x17 x18
  else rec (IntKind.i64.wrap (x13 + 1)) (IntKind.i64.wrap (x14 + 1)))
  else bif (((x16.getD x14.toNat []).getD 0 (.i 0)).toI == 5) then (bif (IntKind.i64.wrap (x13 - 1) == 0) then R (IntKind.i64.wrap (x14 + 1)) true x15 x16 x17 x18
   else rec (IntKind.i64.wrap (x13 - 1)) (IntKind.i64.wrap (x14 + 1)))
  else bif (x13 == 0) then R (IntKind.i64.wrap (x14 + 1)) true x15 x16 x17 x18
  else rec x13 (IntKind.i64.wrap (x14 + 1)))
  else none)
 else k
noncomputable def l3 (x15 x16 : List (List Cl)) (x17 : Int) (x18 : Bool) (k : Option Res) (R : Int → Bool → List (List Cl) → List (List Cl) → Int → Bool → Option Res) : Nat → Int → Int → Option Res
 | 0, _, _ => none
 | n + 1, x13, x14 => l3s x15 x16 x17 x18 (fun x13 x14 => l3 x15 x16 x17 x18 k R n x13 x14) k R x13 x14
noncomputable def o3 (x15 x16 : List (List Cl)) (x17 : Int) (x18 : Bool) : St := ⟨mkT 65 [], [(0, ⟨[.int .i64, .int .i64, .int .i64, .int .i64, .int .i64, .int .i64, .ints .i64], .cells x15, true, 0, none⟩)], [(0, [.tr 2 2 [.int .i64, .int .i64] (.cells x16), .int .i64 x17, .ow 0, .bool x18])]⟩
noncomputable def p3 (K : Res → Option Res) : List Lf → (St → Option Res) → Option Res
 | [.i x13, .i x14, .q (.cells x15), .q (.cells x16), .i x17, .b x18], k => l3 x15 x16 x17 x18 (k (o3 x15 x16 x17 x18)) (fun r1 r2 r3 r4 r5 r6 => K (m r1 r2 r3 r4 r5 r6)) fuel x13 x14
 | _, _ => none
noncomputable def os : List (FuncId × St × (List Lf → (Res → Option Res) → Option Res)) := [impl_parser_kind.con]
noncomputable def X (K : Res → Option Res) : Ctx := { Γ := Γ0, orc := orcOf os, io := [], share := [], opn := [], shr := [], bun := [], cut := [], own := [], cin := [(1, ⟨[0, 4], [(0, 0)], [0], [], [], []⟩), (3, ⟨[0, 5, 6], [(0, 0)], [0], [], [], []⟩)], cout := [(1, ⟨[0, 4], [(0, 0)], [0], [], [], []⟩), (3, ⟨[], [(0, 0)], [0], [], [], []⟩)], lp := lpOf [(1, s1 0 [] [] 0 false, p1 K), (3, s3 0 0 [] [] 0 false, p3 K)], kl := Env.kl, nk := true, eqs := eqs0, byt := byt0, fin := finK fi K }
noncomputable def b (a1 a2 : List (List Cl)) (a3 : Int) (a4 : Bool) (R : Int → Bool → List (List Cl) → List (List Cl) → Int → Bool → Option Res) : Option Res :=
 impl_parser_kind.g 0 a1 a2 a3 a4 fun r5 =>
 bif (r5 == 1) then (l1 a1 a2 a3 a4 (fun y12 =>
  R (IntKind.i64.wrap (a3 + y12)) true a1 a2 a3 a4) fuel 1)
 else bif (r5 == 2) then R (IntKind.i64.wrap (a3 + 1)) true a1 a2 a3 a4
 else bif (r5 == 4) then (l3 a1 a2 a3 a4 (
  R 0 false a1 a2 a3 a4) R fuel 0 a3)
 else R 0 false a1 a2 a3 a4
theorem gx : ∃ x : List (List Cl) → List (List Cl) → Int → Bool → (Int → Bool → List (List Cl) → List (List Cl) → Int → Bool → Option Res) → Option Res, x = b := ⟨_, rfl⟩
noncomputable def g : List (List Cl) → List (List Cl) → Int → Bool → (Int → Bool → List (List Cl) → List (List Cl) → Int → Bool → Option Res) → Option Res := Classical.choose gx
theorem e : g = b := Classical.choose_spec gx
noncomputable def run : List Lf → (Res → Option Res) → Option Res
 | [.q (.cells a1), .q (.cells a2), .i a3, .b a4], K => g a1 a2 a3 a4 (fun r1 r2 r3 r4 r5 r6 => K (m r1 r2 r3 r4 r5 r6))
 | _, _ => none
noncomputable def a (a1 a2 : List (List Cl)) (a3 : Int) (a4 : Bool) : St := argSt [one (.bp 0 0)] [⟨[.int .i64, .int .i64, .int .i64, .int .i64, .int .i64, .int .i64, .ints .i64], .cells a1, true, 0, none⟩] [[.tr 2 2 [.int .i64, .int .i64] (.cells a2), .int .i64 a3, .ow 0, .bool a4]]
noncomputable def con : FuncId × St × (List Lf → (Res → Option Res) → Option Res) := (93, a [] [] 0 false, run)
theorem cx (K : Res → Option Res) : CtxOk Go.Proofs.Try.prog Γ0 byt0 eqs0 (X K) os := ⟨rfl, rfl, rfl, (fun p hp => by
 rcases List.mem_cons.1 hp with rfl | hp
 ·exact impl_parser_kind.ok
 cases hp), rfl, rfl, rfl⟩
theorem t1 (K : Res → Option Res) (k : St → Option Res) (it : St → (St → Option Res) → Option Res) (x6 : Int) (x7 x8 : List (List Cl)) (x9 : Int) (x10 : Bool) : iterS (X K) 1 b1 it (s1 x6 x7 x8 x9 x10) k = l1s x7 x8 x9 x10 (fun x6 => it (s1 x6 x7 x8 x9 x10) k) (fun y1 => k (o1 x7 x8 x9 x10 y1)) x6 := by kernel_rfl
theorem i1 (K : Res → Option Res) (k : St → Option Res) (x7 x8 : List (List Cl)) (x9 : Int) (x10 : Bool) : ∀ (n : Nat) (x6 : Int), iter (X K) 1 b1 n (s1 x6 x7 x8 x9 x10) k = l1 x7 x8 x9 x10 (fun y1 => k (o1 x7 x8 x9 x10 y1)) n x6
 | 0, _ => rfl
 | n + 1, x6 => by
  rw [iter_succ, t1, show (fun x6 => iter (X K) 1 b1 n (s1 x6 x7 x8 x9 x10) k) = (fun x6 => l1 x7 x8 x9 x10 (fun y1 => k (o1 x7 x8 x9 x10 y1)) n x6) from funext fun x6 => i1 K k x7 x8 x9 x10 n x6]; rfl
theorem v1 {K : Res → Option Res} {l : List Lf} {k : St → Option Res} {r : Res} (h : p1 K l k = some r) : ∃ x6 x7 x8 x9 x10, l = [.i x6, .q (.cells x7), .q (.cells x8), .i x9, .b x10] ∧ l1 x7 x8 x9 x10 (fun y1 => k (o1 x7 x8 x9 x10 y1)) fuel x6 = some r := by
 unfold p1 at h; split at h
 ·exact ⟨_, _, _, _, _, rfl, h⟩
 ·cases h
theorem t3 (K : Res → Option Res) (k : St → Option Res) (it : St → (St → Option Res) → Option Res) (x13 x14 : Int) (x15 x16 : List (List Cl)) (x17 : Int) (x18 : Bool) : iterS (X K) 3 b3 it (s3 x13 x14 x15 x16 x17 x18) k = l3s x15 x16 x17 x18 (fun x13 x14 => it (s3 x13 x14 x15 x16 x17 x18) k) (k (o3 x15 x16 x17 x18)) (fun r1 r2 r3 r4 r5 r6 => K (m r1 r2 r3 r4 r5 r6)) x13 x14 := by kernel_rfl
theorem i3 (K : Res → Option Res) (k : St → Option Res) (x15 x16 : List (List Cl)) (x17 : Int) (x18 : Bool) : ∀ (n : Nat) (x13 x14 : Int), iter (X K) 3 b3 n (s3 x13 x14 x15 x16 x17 x18) k = l3 x15 x16 x17 x18 (k (o3 x15 x16 x17 x18)) (fun r1 r2 r3 r4 r5 r6 => K (m r1 r2 r3 r4 r5 r6)) n x13 x14
 | 0, _, _ => rfl
 | n + 1, x13, x14 => by
  rw [iter_succ, t3, show (fun x13 x14 => iter (X K) 3 b3 n (s3 x13 x14 x15 x16 x17 x18) k) = (fun x13 x14 => l3 x15 x16 x17 x18 (k (o3 x15 x16 x17 x18)) (fun r1 r2 r3 r4 r5 r6 => K (m r1 r2 r3 r4 r5 r6)) n x13 x14) from funext fun x13 => funext fun x14 => i3 K k x15 x16 x17 x18 n x13 x14]; rfl
theorem v3 {K : Res → Option Res} {l : List Lf} {k : St → Option Res} {r : Res} (h : p3 K l k = some r) : ∃ x13 x14 x15 x16 x17 x18, l = [.i x13, .i x14, .q (.cells x15), .q (.cells x16), .i x17, .b x18] ∧ l3 x15 x16 x17 x18 (k (o3 x15 x16 x17 x18)) (fun r1 r2 r3 r4 r5 r6 => K (m r1 r2 r3 r4 r5 r6)) fuel x13 x14 = some r := by
 unfold p3 at h; split at h
 ·exact ⟨_, _, _, _, _, _, rfl, h⟩
 ·cases h
theorem w3 (K : Res → Option Res) : LpSound Go.Proofs.Try.prog (X K) 3 b3 := lp_ok ((cx K).ok laid) (by rw [show loopsOf b3 = [] from by kernel_rfl]; intro p hp; cases hp) rfl fun p hp hid => by
 rcases List.mem_cons.1 hp with rfl | hp
 ·exact absurd hid (by simp)
 rcases List.mem_cons.1 hp with rfl | hp
 ·intro st k r h1 h2; obtain ⟨x13, x14, x15, x16, x17, x18, e, h⟩ := v3 (K := K) h2; have := St.like_eq (y := s3 x13 x14 x15 x16 x17 x18) h1 (by kernel_rfl) e; subst this; exact ⟨fuel, (i3 K k x15 x16 x17 x18 fuel x13 x14).trans h⟩
 cases hp
theorem w1 (K : Res → Option Res) : LpSound Go.Proofs.Try.prog (X K) 1 b1 := lp_ok ((cx K).ok laid) (by rw [show loopsOf b1 = [] from by kernel_rfl]; intro p hp; cases hp) rfl fun p hp hid => by
 rcases List.mem_cons.1 hp with rfl | hp
 ·intro st k r h1 h2; obtain ⟨x6, x7, x8, x9, x10, e, h⟩ := v1 (K := K) h2; have := St.like_eq (y := s1 x6 x7 x8 x9 x10) h1 (by kernel_rfl) e; subst this; exact ⟨fuel, (i1 K k x7 x8 x9 x10 fuel x6).trans h⟩
 rcases List.mem_cons.1 hp with rfl | hp
 ·exact absurd hid (by simp)
 cases hp
theorem tie (K : Res → Option Res) (a1 a2 : List (List Cl)) (a3 : Int) (a4 : Bool) : exec (X K) c (entry 65 [one (.bp 0 0)] [⟨[.int .i64, .int .i64, .int .i64, .int .i64, .int .i64, .int .i64, .ints .i64], .cells a1, true, 0, none⟩] [[.tr 2 2 [.int .i64, .int .i64] (.cells a2), .int .i64 a3, .ow 0, .bool a4]]) (endK (X K)) = g a1 a2 a3 a4 (fun r1 r2 r3 r4 r5 r6 => K (m r1 r2 r3 r4 r5 r6)) := Eq.trans (b := b a1 a2 a3 a4 (fun r1 r2 r3 r4 r5 r6 => K (m r1 r2 r3 r4 r5 r6))) (by kernel_rfl) (by rw [e])
theorem runv {l : List Lf} {K : Res → Option Res} {r : Res} (h : run l K = some r) : ∃ a1 a2 a3 a4, l = [.q (.cells a1), .q (.cells a2), .i a3, .b a4] ∧ g a1 a2 a3 a4 (fun r1 r2 r3 r4 r5 r6 => K (m r1 r2 r3 r4 r5 r6)) = some r := by
 unfold run at h; split at h
 ·exact ⟨_, _, _, _, rfl, h⟩
 ·cases h
theorem ok : Con Go.Proofs.Try.prog con := con_of (fn := Go.Proofs.Try.f93) (c := c) (Fi := fi) (X := X) (fun_of laid (by kernel_rfl) (by kernel_rfl) (by kernel_rfl) rfl (by kernel_rfl) (by kernel_rfl) cx (fun _ => rfl) (fun _ => rfl) (fun K => by
 rw [show loopsOf c = [(1, b1), (3, b3)] from by kernel_rfl]; intro p hp
 rcases List.mem_cons.1 hp with rfl | hp
 ·exact w1 K
 rcases List.mem_cons.1 hp with rfl | hp
 ·exact w3 K
 cases hp)) fun xs rows boxes K r hl hr => by
 obtain ⟨a1, a2, a3, a4, e, h⟩ := runv hr
 have := St.like_eq (y := a a1 a2 a3 a4) hl (by kernel_rfl) e
 obtain ⟨rfl, rfl, rfl⟩ := argSt_inj this
 exact (tie K a1 a2 a3 a4).trans h
end impl_parser_operandEnd
namespace impl_FunTwo
noncomputable def c : Code := bodyOf Go.Proofs.Try.f71
noncomputable def fi : Fin := ⟨Γ0, [(.tmp 2, 4)], [[1]], [], [], []⟩
noncomputable def m (r1 : Bool) : Res := ⟨[⟨false, [.bool r1]⟩], [], [], [], []⟩
noncomputable def os : List (FuncId × St × (List Lf → (Res → Option Res) → Option Res)) := [impl_twoSign.con, impl_hasSign.con]
noncomputable def X (K : Res → Option Res) : Ctx := { Γ := Γ0, orc := orcOf os, io := [], share := [], opn := [], shr := [], bun := [], cut := [], own := [], cin := [], cout := [], lp := lpOf [], kl := Env.kl, nk := true, eqs := eqs0, byt := byt0, fin := finK fi K }
noncomputable def b (a1 a2 a3 : Int) (R : Bool → Option Res) : Option Res :=
 bif (a2 == 0) then (bif (a3 == 0) then (impl_twoSign.g a1 fun r4 =>
  bif r4 then R true
  else (impl_hasSign.g (⟨#[35, 44, 116, 100, 114, 64, 63, 36, 101]⟩ : ByteArray) a1 fun r5 =>
  R r5))
  else R false)
 else bif (a2 == 111) then (bif (a3 == 0) then (impl_twoSign.g a1 fun r6 =>
  R r6)
  else R false)
 else bif (a2 == 46) then (impl_twoSign.g a1 fun r7 =>
  bif r7 then (impl_twoSign.g a3 fun r8 =>
   R r8)
  else R false)
 else R false
theorem gx : ∃ x : Int → Int → Int → (Bool → Option Res) → Option Res, x = b := ⟨_, rfl⟩
noncomputable def g : Int → Int → Int → (Bool → Option Res) → Option Res := Classical.choose gx
theorem e : g = b := Classical.choose_spec gx
noncomputable def run : List Lf → (Res → Option Res) → Option Res
 | [.i a1, .i a2, .i a3], K => g a1 a2 a3 (fun r1 => K (m r1))
 | _, _ => none
noncomputable def a (a1 a2 a3 : Int) : St := argSt [.v ⟨true, [.int .i64 a1, .int .i64 a2, .int .i64 a3]⟩] [] []
noncomputable def con : FuncId × St × (List Lf → (Res → Option Res) → Option Res) := (71, a 0 0 0, run)
theorem cx (K : Res → Option Res) : CtxOk Go.Proofs.Try.prog Γ0 byt0 eqs0 (X K) os := ⟨rfl, rfl, rfl, (fun p hp => by
 rcases List.mem_cons.1 hp with rfl | hp
 ·exact impl_twoSign.ok
 rcases List.mem_cons.1 hp with rfl | hp
 ·exact impl_hasSign.ok
 cases hp), rfl, rfl, rfl⟩
theorem tie (K : Res → Option Res) (a1 a2 a3 : Int) : exec (X K) c (entry 40 [.v ⟨true, [.int .i64 a1, .int .i64 a2, .int .i64 a3]⟩] [] []) (endK (X K)) = g a1 a2 a3 (fun r1 => K (m r1)) := Eq.trans (b := b a1 a2 a3 (fun r1 => K (m r1))) (by kernel_rfl) (by rw [e])
theorem runv {l : List Lf} {K : Res → Option Res} {r : Res} (h : run l K = some r) : ∃ a1 a2 a3, l = [.i a1, .i a2, .i a3] ∧ g a1 a2 a3 (fun r1 => K (m r1)) = some r := by
 unfold run at h; split at h
 ·exact ⟨_, _, _, rfl, h⟩
 ·cases h
theorem ok : Con Go.Proofs.Try.prog con := con_of (fn := Go.Proofs.Try.f71) (c := c) (Fi := fi) (X := X) (fun_of laid (by kernel_rfl) (by kernel_rfl) (by kernel_rfl) rfl (by kernel_rfl) (by kernel_rfl) cx (fun _ => rfl) (fun _ => rfl) (fun K => by
 rw [show loopsOf c = [] from by kernel_rfl]; intro p hp
 cases hp)) fun xs rows boxes K r hl hr => by
 obtain ⟨a1, a2, a3, e, h⟩ := runv hr
 have := St.like_eq (y := a a1 a2 a3) hl (by kernel_rfl) e
 obtain ⟨rfl, rfl, rfl⟩ := argSt_inj this
 exact (tie K a1 a2 a3).trans h
end impl_FunTwo
namespace impl_parser_put_L2
noncomputable def c : Code := bodyOf Go.Proofs.Try.f91
noncomputable def fi : Fin := ⟨Γ0, [(.tmp 4, 3)], [[1]], [false], [([.sl [.int .i64, .int .i64] 16, .int .i64, .sl [.int .i64, .int .i64, .int .i64, .int .i64, .int .i64, .int .i64, .ints .i64] 72, .bool], [0, 1, 1, 1])], []⟩
noncomputable def m (a9 : List (List Cl)) (a10 : Int) (a11 : Bool) (r1 : Int) (r4 : List (List Cl)) : Res := ⟨[⟨false, [.int .i64 r1]⟩], [none], [⟨[.int .i64, .int .i64, .int .i64, .int .i64, .int .i64, .int .i64, .ints .i64], .cells r4, false, 0, none⟩], [[.tr 2 2 [.int .i64, .int .i64] (.cells a9), .int .i64 a10, .ow 1000, .bool a11]], []⟩
noncomputable def os : List (FuncId × St × (List Lf → (Res → Option Res) → Option Res)) := []
noncomputable def X (K : Res → Option Res) : Ctx := { Γ := Γ0, orc := orcOf os, io := [], share := [], opn := [], shr := [], bun := [], cut := [], own := [], cin := [], cout := [], lp := lpOf [], kl := Env.kl, nk := true, eqs := eqs0, byt := byt0, fin := finK fi K }
noncomputable def b (a1 a2 a3 a4 a5 a6 : Int) (a7 : List Int) (a8 a9 : List (List Cl)) (a10 : Int) (a11 : Bool) (R : Int → List (List Cl) → Option Res) : Option Res :=
 bif decide ((a8.length + 1) * 72 ≤ 140737488355328) then R (IntKind.i64.wrap (((a8 ++ ([[.i a1, .i a2, .i a3, .i a4, .i a5, .i a6, .l a7]] : List (List Cl))).length : Int) - 1)) (a8 ++ ([[.i a1, .i a2, .i a3, .i a4, .i a5, .i a6, .l a7]] : List (List Cl)))
 else none
theorem gx : ∃ x : Int → Int → Int → Int → Int → Int → List Int → List (List Cl) → List (List Cl) → Int → Bool → (Int → List (List Cl) → Option Res) → Option Res, x = b := ⟨_, rfl⟩
noncomputable def g : Int → Int → Int → Int → Int → Int → List Int → List (List Cl) → List (List Cl) → Int → Bool → (Int → List (List Cl) → Option Res) → Option Res := Classical.choose gx
theorem e : g = b := Classical.choose_spec gx
noncomputable def run : List Lf → (Res → Option Res) → Option Res
 | [.i a1, .i a2, .i a3, .i a4, .i a5, .i a6, .q (.ints a7), .q (.cells a8), .q (.cells a9), .i a10, .b a11], K => g a1 a2 a3 a4 a5 a6 a7 a8 a9 a10 a11 (fun r1 r4 => K (m a9 a10 a11 r1 r4))
 | _, _ => none
noncomputable def a (a1 a2 a3 a4 a5 a6 : Int) (a7 : List Int) (a8 a9 : List (List Cl)) (a10 : Int) (a11 : Bool) : St := argSt [one (.bp 0 0), .v ⟨true, [.int .i64 a1, .int .i64 a2, .int .i64 a3, .int .i64 a4, .int .i64 a5, .int .i64 a6, .tr 2 1 [.int .i64] (.ints a7)]⟩] [⟨[.int .i64, .int .i64, .int .i64, .int .i64, .int .i64, .int .i64, .ints .i64], .cells a8, false, 0, none⟩] [[.tr 2 2 [.int .i64, .int .i64] (.cells a9), .int .i64 a10, .ow 0, .bool a11]]
noncomputable def con : FuncId × St × (List Lf → (Res → Option Res) → Option Res) := (91, a 0 0 0 0 0 0 [] [] [] 0 false, run)
theorem cx (K : Res → Option Res) : CtxOk Go.Proofs.Try.prog Γ0 byt0 eqs0 (X K) os := ⟨rfl, rfl, rfl, (fun p hp => by
 cases hp), rfl, rfl, rfl⟩
theorem tie (K : Res → Option Res) (a1 a2 a3 a4 a5 a6 : Int) (a7 : List Int) (a8 a9 : List (List Cl)) (a10 : Int) (a11 : Bool) : exec (X K) c (entry 21 [one (.bp 0 0), .v ⟨true, [.int .i64 a1, .int .i64 a2, .int .i64 a3, .int .i64 a4, .int .i64 a5, .int .i64 a6, .tr 2 1 [.int .i64] (.ints a7)]⟩] [⟨[.int .i64, .int .i64, .int .i64, .int .i64, .int .i64, .int .i64, .ints .i64], .cells a8, false, 0, none⟩] [[.tr 2 2 [.int .i64, .int .i64] (.cells a9), .int .i64 a10, .ow 0, .bool a11]]) (endK (X K)) = g a1 a2 a3 a4 a5 a6 a7 a8 a9 a10 a11 (fun r1 r4 => K (m a9 a10 a11 r1 r4)) := Eq.trans (b := b a1 a2 a3 a4 a5 a6 a7 a8 a9 a10 a11 (fun r1 r4 => K (m a9 a10 a11 r1 r4))) (by kernel_rfl) (by rw [e])
theorem runv {l : List Lf} {K : Res → Option Res} {r : Res} (h : run l K = some r) : ∃ a1 a2 a3 a4 a5 a6 a7 a8 a9 a10 a11, l = [.i a1, .i a2, .i a3, .i a4, .i a5, .i a6, .q (.ints a7), .q (.cells a8), .q (.cells a9), .i a10, .b a11] ∧ g a1 a2 a3 a4 a5 a6 a7 a8 a9 a10 a11 (fun r1 r4 => K (m a9 a10 a11 r1 r4)) = some r := by
 unfold run at h; split at h
 ·exact ⟨_, _, _, _, _, _, _, _, _, _, _, rfl, h⟩
 ·cases h
theorem ok : Con Go.Proofs.Try.prog con := con_of (fn := Go.Proofs.Try.f91) (c := c) (Fi := fi) (X := X) (fun_of laid (by kernel_rfl) (by kernel_rfl) (by kernel_rfl) rfl (by kernel_rfl) (by kernel_rfl) cx (fun _ => rfl) (fun _ => rfl) (fun K => by
 rw [show loopsOf c = [] from by kernel_rfl]; intro p hp
 cases hp)) fun xs rows boxes K r hl hr => by
 obtain ⟨a1, a2, a3, a4, a5, a6, a7, a8, a9, a10, a11, e, h⟩ := runv hr
 have := St.like_eq (y := a a1 a2 a3 a4 a5 a6 a7 a8 a9 a10 a11) hl (by kernel_rfl) e
 obtain ⟨rfl, rfl, rfl⟩ := argSt_inj this
 exact (tie K a1 a2 a3 a4 a5 a6 a7 a8 a9 a10 a11).trans h
end impl_parser_put_L2
namespace impl_parser_kind_L2
noncomputable def c : Code := bodyOf Go.Proofs.Try.f90
noncomputable def fi : Fin := ⟨Γ0, [(.tmp 4, 3)], [[1]], [true], [([.sl [.int .i64, .int .i64] 16, .int .i64, .sl [.int .i64, .int .i64, .int .i64, .int .i64, .int .i64, .int .i64, .ints .i64] 72, .bool], [0, 1, 2, 1])], []⟩
noncomputable def m (a2 a3 : List (List Cl)) (a4 : Int) (a5 : Bool) (r1 : Int) : Res := ⟨[⟨false, [.int .i64 r1]⟩], [some ⟨[.int .i64, .int .i64, .int .i64, .int .i64, .int .i64, .int .i64, .ints .i64], .cells a2, false, 0, none⟩], [], [[.tr 2 2 [.int .i64, .int .i64] (.cells a3), .int .i64 a4, .ow 0, .bool a5]], []⟩
noncomputable def os : List (FuncId × St × (List Lf → (Res → Option Res) → Option Res)) := []
noncomputable def X (K : Res → Option Res) : Ctx := { Γ := Γ0, orc := orcOf os, io := [], share := [], opn := [], shr := [], bun := [], cut := [], own := [], cin := [], cout := [], lp := lpOf [], kl := Env.kl, nk := true, eqs := eqs0, byt := byt0, fin := finK fi K }
noncomputable def b (a1 : Int) (a2 a3 : List (List Cl)) (a4 : Int) (a5 : Bool) (R : Int → Option Res) : Option Res :=
 bif decide ((a3.length : Int) ≤ IntKind.i64.wrap (a4 + a1)) then R 0
 else bif decide (0 ≤ IntKind.i64.wrap (a4 + a1)) && decide (IntKind.i64.wrap (a4 + a1) < (a3.length : Int)) then R (((a3.getD ((IntKind.i64.wrap (a4 + a1)).toNat) []).getD 0 (.i 0)).toI)
 else none
theorem gx : ∃ x : Int → List (List Cl) → List (List Cl) → Int → Bool → (Int → Option Res) → Option Res, x = b := ⟨_, rfl⟩
noncomputable def g : Int → List (List Cl) → List (List Cl) → Int → Bool → (Int → Option Res) → Option Res := Classical.choose gx
theorem e : g = b := Classical.choose_spec gx
noncomputable def run : List Lf → (Res → Option Res) → Option Res
 | [.i a1, .q (.cells a2), .q (.cells a3), .i a4, .b a5], K => g a1 a2 a3 a4 a5 (fun r1 => K (m a2 a3 a4 a5 r1))
 | _, _ => none
noncomputable def a (a1 : Int) (a2 a3 : List (List Cl)) (a4 : Int) (a5 : Bool) : St := argSt [one (.bp 0 0), one (.int .i64 a1)] [⟨[.int .i64, .int .i64, .int .i64, .int .i64, .int .i64, .int .i64, .ints .i64], .cells a2, false, 0, none⟩] [[.tr 2 2 [.int .i64, .int .i64] (.cells a3), .int .i64 a4, .ow 0, .bool a5]]
noncomputable def con : FuncId × St × (List Lf → (Res → Option Res) → Option Res) := (90, a 0 [] [] 0 false, run)
theorem cx (K : Res → Option Res) : CtxOk Go.Proofs.Try.prog Γ0 byt0 eqs0 (X K) os := ⟨rfl, rfl, rfl, (fun p hp => by
 cases hp), rfl, rfl, rfl⟩
theorem tie (K : Res → Option Res) (a1 : Int) (a2 a3 : List (List Cl)) (a4 : Int) (a5 : Bool) : exec (X K) c (entry 30 [one (.bp 0 0), one (.int .i64 a1)] [⟨[.int .i64, .int .i64, .int .i64, .int .i64, .int .i64, .int .i64, .ints .i64], .cells a2, false, 0, none⟩] [[.tr 2 2 [.int .i64, .int .i64] (.cells a3), .int .i64 a4, .ow 0, .bool a5]]) (endK (X K)) = g a1 a2 a3 a4 a5 (fun r1 => K (m a2 a3 a4 a5 r1)) := Eq.trans (b := b a1 a2 a3 a4 a5 (fun r1 => K (m a2 a3 a4 a5 r1))) (by kernel_rfl) (by rw [e])
theorem runv {l : List Lf} {K : Res → Option Res} {r : Res} (h : run l K = some r) : ∃ a1 a2 a3 a4 a5, l = [.i a1, .q (.cells a2), .q (.cells a3), .i a4, .b a5] ∧ g a1 a2 a3 a4 a5 (fun r1 => K (m a2 a3 a4 a5 r1)) = some r := by
 unfold run at h; split at h
 ·exact ⟨_, _, _, _, _, rfl, h⟩
 ·cases h
theorem ok : Con Go.Proofs.Try.prog con := con_of (fn := Go.Proofs.Try.f90) (c := c) (Fi := fi) (X := X) (fun_of laid (by kernel_rfl) (by kernel_rfl) (by kernel_rfl) rfl (by kernel_rfl) (by kernel_rfl) cx (fun _ => rfl) (fun _ => rfl) (fun K => by
 rw [show loopsOf c = [] from by kernel_rfl]; intro p hp
 cases hp)) fun xs rows boxes K r hl hr => by
 obtain ⟨a1, a2, a3, a4, a5, e, h⟩ := runv hr
 have := St.like_eq (y := a a1 a2 a3 a4 a5) hl (by kernel_rfl) e
 obtain ⟨rfl, rfl, rfl⟩ := argSt_inj this
 exact (tie K a1 a2 a3 a4 a5).trans h
end impl_parser_kind_L2
namespace impl_parser_sign_L2
noncomputable def c : Code := bodyOf Go.Proofs.Try.f122
noncomputable def fi : Fin := ⟨Γ0, [(.tmp 4, 3)], [[1]], [true], [([.sl [.int .i64, .int .i64] 16, .int .i64, .sl [.int .i64, .int .i64, .int .i64, .int .i64, .int .i64, .int .i64, .ints .i64] 72, .bool], [0, 1, 2, 1])], []⟩
noncomputable def m (a2 a3 : List (List Cl)) (a4 : Int) (a5 : Bool) (r1 : Int) : Res := ⟨[⟨false, [.int .i64 r1]⟩], [some ⟨[.int .i64, .int .i64, .int .i64, .int .i64, .int .i64, .int .i64, .ints .i64], .cells a2, false, 0, none⟩], [], [[.tr 2 2 [.int .i64, .int .i64] (.cells a3), .int .i64 a4, .ow 0, .bool a5]], []⟩
noncomputable def os : List (FuncId × St × (List Lf → (Res → Option Res) → Option Res)) := [impl_parser_kind_L2.con]
noncomputable def X (K : Res → Option Res) : Ctx := { Γ := Γ0, orc := orcOf os, io := [], share := [], opn := [], shr := [], bun := [], cut := [], own := [], cin := [], cout := [], lp := lpOf [], kl := Env.kl, nk := true, eqs := eqs0, byt := byt0, fin := finK fi K }
noncomputable def b (a1 : Int) (a2 a3 : List (List Cl)) (a4 : Int) (a5 : Bool) (R : Int → Option Res) : Option Res :=
 impl_parser_kind_L2.g a1 a2 a3 a4 a5 fun r6 =>
 bif (r6 != 3) then R 0
 else bif decide (0 ≤ IntKind.i64.wrap (a4 + a1)) && decide (IntKind.i64.wrap (a4 + a1) < (a3.length : Int)) then R (((a3.getD ((IntKind.i64.wrap (a4 + a1)).toNat) []).getD 1 (.i 0)).toI)
 else none
theorem gx : ∃ x : Int → List (List Cl) → List (List Cl) → Int → Bool → (Int → Option Res) → Option Res, x = b := ⟨_, rfl⟩
noncomputable def g : Int → List (List Cl) → List (List Cl) → Int → Bool → (Int → Option Res) → Option Res := Classical.choose gx
theorem e : g = b := Classical.choose_spec gx
noncomputable def run : List Lf → (Res → Option Res) → Option Res
 | [.i a1, .q (.cells a2), .q (.cells a3), .i a4, .b a5], K => g a1 a2 a3 a4 a5 (fun r1 => K (m a2 a3 a4 a5 r1))
 | _, _ => none
noncomputable def a (a1 : Int) (a2 a3 : List (List Cl)) (a4 : Int) (a5 : Bool) : St := argSt [one (.bp 0 0), one (.int .i64 a1)] [⟨[.int .i64, .int .i64, .int .i64, .int .i64, .int .i64, .int .i64, .ints .i64], .cells a2, false, 0, none⟩] [[.tr 2 2 [.int .i64, .int .i64] (.cells a3), .int .i64 a4, .ow 0, .bool a5]]
noncomputable def con : FuncId × St × (List Lf → (Res → Option Res) → Option Res) := (122, a 0 [] [] 0 false, run)
theorem cx (K : Res → Option Res) : CtxOk Go.Proofs.Try.prog Γ0 byt0 eqs0 (X K) os := ⟨rfl, rfl, rfl, (fun p hp => by
 rcases List.mem_cons.1 hp with rfl | hp
 ·exact impl_parser_kind_L2.ok
 cases hp), rfl, rfl, rfl⟩
theorem tie (K : Res → Option Res) (a1 : Int) (a2 a3 : List (List Cl)) (a4 : Int) (a5 : Bool) : exec (X K) c (entry 22 [one (.bp 0 0), one (.int .i64 a1)] [⟨[.int .i64, .int .i64, .int .i64, .int .i64, .int .i64, .int .i64, .ints .i64], .cells a2, false, 0, none⟩] [[.tr 2 2 [.int .i64, .int .i64] (.cells a3), .int .i64 a4, .ow 0, .bool a5]]) (endK (X K)) = g a1 a2 a3 a4 a5 (fun r1 => K (m a2 a3 a4 a5 r1)) := Eq.trans (b := b a1 a2 a3 a4 a5 (fun r1 => K (m a2 a3 a4 a5 r1))) (by kernel_rfl) (by rw [e])
theorem runv {l : List Lf} {K : Res → Option Res} {r : Res} (h : run l K = some r) : ∃ a1 a2 a3 a4 a5, l = [.i a1, .q (.cells a2), .q (.cells a3), .i a4, .b a5] ∧ g a1 a2 a3 a4 a5 (fun r1 => K (m a2 a3 a4 a5 r1)) = some r := by
 unfold run at h; split at h
 ·exact ⟨_, _, _, _, _, rfl, h⟩
 ·cases h
theorem ok : Con Go.Proofs.Try.prog con := con_of (fn := Go.Proofs.Try.f122) (c := c) (Fi := fi) (X := X) (fun_of laid (by kernel_rfl) (by kernel_rfl) (by kernel_rfl) rfl (by kernel_rfl) (by kernel_rfl) cx (fun _ => rfl) (fun _ => rfl) (fun K => by
 rw [show loopsOf c = [] from by kernel_rfl]; intro p hp
 cases hp)) fun xs rows boxes K r hl hr => by
 obtain ⟨a1, a2, a3, a4, a5, e, h⟩ := runv hr
 have := St.like_eq (y := a a1 a2 a3 a4 a5) hl (by kernel_rfl) e
 obtain ⟨rfl, rfl, rfl⟩ := argSt_inj this
 exact (tie K a1 a2 a3 a4 a5).trans h
end impl_parser_sign_L2
namespace impl_parser_function_L2
noncomputable def c : Code := bodyOf Go.Proofs.Try.f92
noncomputable def fi : Fin := ⟨Γ0, [(.cell 2 40, 40)], [[1, 1, 1]], [true], [([.sl [.int .i64, .int .i64] 16, .int .i64, .sl [.int .i64, .int .i64, .int .i64, .int .i64, .int .i64, .int .i64, .ints .i64] 72, .bool], [0, 1, 2, 1])], []⟩
noncomputable def m (a1 a2 : List (List Cl)) (r1 r2 r3 r6 : Int) (r7 : Bool) : Res := ⟨[⟨true, [.int .i64 r1, .int .i64 r2, .int .i64 r3]⟩], [some ⟨[.int .i64, .int .i64, .int .i64, .int .i64, .int .i64, .int .i64, .ints .i64], .cells a1, false, 0, none⟩], [], [[.tr 2 2 [.int .i64, .int .i64] (.cells a2), .int .i64 r6, .ow 0, .bool r7]], []⟩
noncomputable def os : List (FuncId × St × (List Lf → (Res → Option Res) → Option Res)) := [impl_parser_sign_L2.con]
noncomputable def X (K : Res → Option Res) : Ctx := { Γ := Γ0, orc := orcOf os, io := [], share := [], opn := [], shr := [], bun := [], cut := [], own := [], cin := [], cout := [], lp := lpOf [], kl := Env.kl, nk := true, eqs := eqs0, byt := byt0, fin := finK fi K }
noncomputable def b (a1 a2 : List (List Cl)) (a3 : Int) (a4 : Bool) (R : Int → Int → Int → Int → Bool → Option Res) : Option Res :=
 impl_parser_sign_L2.g 0 a1 a2 a3 a4 fun r5 =>
 impl_parser_sign_L2.g 1 a1 a2 a3 a4 fun r6 =>
 impl_parser_sign_L2.g 2 a1 a2 a3 a4 fun r7 =>
 bif (r5 == 0) then R r5 0 0 (IntKind.i64.wrap (a3 + 1)) true
 else bif (r5 == 111) then (bif (r6 != 0) then R r6 111 0 (IntKind.i64.wrap (a3 + 2)) a4
  else bif (r6 == 47) then R r5 r6 0 (IntKind.i64.wrap (a3 + 2)) a4
  else bif (r6 == 92) then R r5 r6 0 (IntKind.i64.wrap (a3 + 2)) a4
  else bif (r6 == 46) then (bif (r7 != 0) then R r5 46 r7 (IntKind.i64.wrap (a3 + 3)) a4
   else R r5 0 0 (IntKind.i64.wrap (a3 + 1)) a4)
  else R r5 0 0 (IntKind.i64.wrap (a3 + 1)) a4)
 else bif (r6 == 47) then R r5 r6 0 (IntKind.i64.wrap (a3 + 2)) a4
 else bif (r6 == 92) then R r5 r6 0 (IntKind.i64.wrap (a3 + 2)) a4
 else bif (r6 == 46) then (bif (r7 != 0) then R r5 46 r7 (IntKind.i64.wrap (a3 + 3)) a4
  else R r5 0 0 (IntKind.i64.wrap (a3 + 1)) a4)
 else R r5 0 0 (IntKind.i64.wrap (a3 + 1)) a4
theorem gx : ∃ x : List (List Cl) → List (List Cl) → Int → Bool → (Int → Int → Int → Int → Bool → Option Res) → Option Res, x = b := ⟨_, rfl⟩
noncomputable def g : List (List Cl) → List (List Cl) → Int → Bool → (Int → Int → Int → Int → Bool → Option Res) → Option Res := Classical.choose gx
theorem e : g = b := Classical.choose_spec gx
noncomputable def run : List Lf → (Res → Option Res) → Option Res
 | [.q (.cells a1), .q (.cells a2), .i a3, .b a4], K => g a1 a2 a3 a4 (fun r1 r2 r3 r6 r7 => K (m a1 a2 r1 r2 r3 r6 r7))
 | _, _ => none
noncomputable def a (a1 a2 : List (List Cl)) (a3 : Int) (a4 : Bool) : St := argSt [one (.bp 0 0)] [⟨[.int .i64, .int .i64, .int .i64, .int .i64, .int .i64, .int .i64, .ints .i64], .cells a1, false, 0, none⟩] [[.tr 2 2 [.int .i64, .int .i64] (.cells a2), .int .i64 a3, .ow 0, .bool a4]]
noncomputable def con : FuncId × St × (List Lf → (Res → Option Res) → Option Res) := (92, a [] [] 0 false, run)
theorem cx (K : Res → Option Res) : CtxOk Go.Proofs.Try.prog Γ0 byt0 eqs0 (X K) os := ⟨rfl, rfl, rfl, (fun p hp => by
 rcases List.mem_cons.1 hp with rfl | hp
 ·exact impl_parser_sign_L2.ok
 cases hp), rfl, rfl, rfl⟩
theorem tie (K : Res → Option Res) (a1 a2 : List (List Cl)) (a3 : Int) (a4 : Bool) : exec (X K) c (entry 60 [one (.bp 0 0)] [⟨[.int .i64, .int .i64, .int .i64, .int .i64, .int .i64, .int .i64, .ints .i64], .cells a1, false, 0, none⟩] [[.tr 2 2 [.int .i64, .int .i64] (.cells a2), .int .i64 a3, .ow 0, .bool a4]]) (endK (X K)) = g a1 a2 a3 a4 (fun r1 r2 r3 r6 r7 => K (m a1 a2 r1 r2 r3 r6 r7)) := Eq.trans (b := b a1 a2 a3 a4 (fun r1 r2 r3 r6 r7 => K (m a1 a2 r1 r2 r3 r6 r7))) (by kernel_rfl) (by rw [e])
theorem runv {l : List Lf} {K : Res → Option Res} {r : Res} (h : run l K = some r) : ∃ a1 a2 a3 a4, l = [.q (.cells a1), .q (.cells a2), .i a3, .b a4] ∧ g a1 a2 a3 a4 (fun r1 r2 r3 r6 r7 => K (m a1 a2 r1 r2 r3 r6 r7)) = some r := by
 unfold run at h; split at h
 ·exact ⟨_, _, _, _, rfl, h⟩
 ·cases h
theorem ok : Con Go.Proofs.Try.prog con := con_of (fn := Go.Proofs.Try.f92) (c := c) (Fi := fi) (X := X) (fun_of laid (by kernel_rfl) (by kernel_rfl) (by kernel_rfl) rfl (by kernel_rfl) (by kernel_rfl) cx (fun _ => rfl) (fun _ => rfl) (fun K => by
 rw [show loopsOf c = [] from by kernel_rfl]; intro p hp
 cases hp)) fun xs rows boxes K r hl hr => by
 obtain ⟨a1, a2, a3, a4, e, h⟩ := runv hr
 have := St.like_eq (y := a a1 a2 a3 a4) hl (by kernel_rfl) e
 obtain ⟨rfl, rfl, rfl⟩ := argSt_inj this
 exact (tie K a1 a2 a3 a4).trans h
end impl_parser_function_L2
namespace impl_parser_operandEnd_L2
noncomputable def c : Code := bodyOf Go.Proofs.Try.f93
noncomputable def fi : Fin := ⟨Γ0, [(.tmp 2, 3), (.tmp 3, 4)], [[1], [1]], [true], [([.sl [.int .i64, .int .i64] 16, .int .i64, .sl [.int .i64, .int .i64, .int .i64, .int .i64, .int .i64, .int .i64, .ints .i64] 72, .bool], [0, 1, 2, 1])], []⟩
noncomputable def m (r1 : Int) (r2 : Bool) (r3 r4 : List (List Cl)) (r5 : Int) (r6 : Bool) : Res := ⟨[⟨false, [.int .i64 r1]⟩, ⟨false, [.bool r2]⟩], [some ⟨[.int .i64, .int .i64, .int .i64, .int .i64, .int .i64, .int .i64, .ints .i64], .cells r3, false, 0, none⟩], [], [[.tr 2 2 [.int .i64, .int .i64] (.cells r4), .int .i64 r5, .ow 0, .bool r6]], []⟩
noncomputable def b1 : Code := codeAt c [1, 0, 1, 0, 1, 0, 1, 0, 0, 0]
noncomputable def b3 : Code := codeAt c [1, 0, 1, 0, 1, 1, 1, 1, 1, 0, 1, 1, 0, 0]
noncomputable def s1 (x6 : Int) (x7 x8 : List (List Cl)) (x9 : Int) (x10 : Bool) : St := ⟨mkT 65 [(0, one (.bp 0 0)), (4, one (.int .i64 x6))], [(0, ⟨[.int .i64, .int .i64, .int .i64, .int .i64, .int .i64, .int .i64, .ints .i64], .cells x7, false, 0, none⟩)], [(0, [.tr 2 2 [.int .i64, .int .i64] (.cells x8), .int .i64 x9, .ow 0, .bool x10])]⟩
noncomputable def l1s (x7 x8 : List (List Cl)) (x9 : Int) (x10 : Bool) (rec : Int → Option Res) (k : Int → Option Res) (x6 : Int) : Option Res :=
 impl_parser_kind_L2.g x6 x7 x8 x9 x10 fun r11 =>
 bif (r11 == 1) then rec (IntKind.i64.wrap (x6 + 1))
 else k x6
noncomputable def l1 (x7 x8 : List (List Cl)) (x9 : Int) (x10 : Bool) (k : Int → Option Res) : Nat → Int → Option Res
 | 0, _ => none
 | n + 1, x6 => l1s x7 x8 x9 x10 (fun x6 => l1 x7 x8 x9 x10 k n x6) k x6
noncomputable def o1 (x7 x8 : List (List Cl)) (x9 : Int) (x10 : Bool) (y1 : Int) : St := ⟨mkT 65 [(0, one (.bp 0 0)), (4, one (.int .i64 y1))], [(0, ⟨[.int .i64, .int .i64, .int .i64, .int .i64, .int .i64, .int .i64, .ints .i64], .cells x7, false, 0, none⟩)], [(0, [.tr 2 2 [.int .i64, .int .i64] (.cells x8), .int .i64 x9, .ow 0, .bool x10])]⟩
noncomputable def p1 (K : Res → Option Res) : List Lf → (St → Option Res) → Option Res
 | [.i x6, .q (.cells x7), .q (.cells x8), .i x9, .b x10], k => l1 x7 x8 x9 x10 (fun y1 => k (o1 x7 x8 x9 x10 y1)) fuel x6
 | _, _ => none
noncomputable def s3 (x13 x14 : Int) (x15 x16 : List (List Cl)) (x17 : Int) (x18 : Bool) : St := ⟨mkT 65 [(0, one (.bp 0 0)), (5, one (.int .i64 x13)), (6, one (.int .i64 x14))], [(0, ⟨[.int .i64, .int .i64, .int .i64, .int .i64, .int .i64, .int .i64, .ints .i64], .cells x15, false, 0, none⟩)], [(0, [.tr 2 2 [.int .i64, .int .i64] (.cells x16), .int .i64 x17, .ow 0, .bool x18])]⟩
noncomputable def l3s (x15 x16 : List (List Cl)) (x17 : Int) (x18 : Bool) (rec : Int → Int → Option Res) (k : Option Res) (R : Int → Bool → List (List Cl) → List (List Cl) → Int → Bool → Option Res) (x13 x14 : Int) : Option Res :=
 bif decide (x14 < (x16.length : Int)) then (bif decide (0 ≤ x14) && decide (x14 < (x16.length : Int)) then (bif (((x16.getD x14.toNat []).getD 0 (.i 0)).toI == 4) then (bif (IntKind.i64.wrap (x13 + 1) == 0) then R (IntKind.i64.wrap (x14 + 1)) true x15 x16 x17 x18
  else rec (IntKind.i64.wrap (x13 + 1)) (IntKind.i64.wrap (x14 + 1)))
  else bif (((x16.getD x14.toNat []).getD 0 (.i 0)).toI == 5) then (bif (IntKind.i64.wrap (x13 - 1) == 0) then R (IntKind.i64.wrap (x14 + 1)) true x15 x16 x17 x18
   else rec (IntKind.i64.wrap (x13 - 1)) (IntKind.i64.wrap (x14 + 1)))
  else bif (x13 == 0) then R (IntKind.i64.wrap (x14 + 1)) true x15 x16 x17 x18
  else rec x13 (IntKind.i64.wrap (x14 + 1)))
  else none)
 else k
noncomputable def l3 (x15 x16 : List (List Cl)) (x17 : Int) (x18 : Bool) (k : Option Res) (R : Int → Bool → List (List Cl) → List (List Cl) → Int → Bool → Option Res) : Nat → Int → Int → Option Res
 | 0, _, _ => none
 | n + 1, x13, x14 => l3s x15 x16 x17 x18 (fun x13 x14 => l3 x15 x16 x17 x18 k R n x13 x14) k R x13 x14
noncomputable def o3 (x15 x16 : List (List Cl)) (x17 : Int) (x18 : Bool) : St := ⟨mkT 65 [], [(0, ⟨[.int .i64, .int .i64, .int .i64, .int .i64, .int .i64, .int .i64, .ints .i64], .cells x15, false, 0, none⟩)], [(0, [.tr 2 2 [.int .i64, .int .i64] (.cells x16), .int .i64 x17, .ow 0, .bool x18])]⟩
noncomputable def p3 (K : Res → Option Res) : List Lf → (St → Option Res) → Option Res
 | [.i x13, .i x14, .q (.cells x15), .q (.cells x16), .i x17, .b x18], k => l3 x15 x16 x17 x18 (k (o3 x15 x16 x17 x18)) (fun r1 r2 r3 r4 r5 r6 => K (m r1 r2 r3 r4 r5 r6)) fuel x13 x14
 | _, _ => none
noncomputable def os : List (FuncId × St × (List Lf → (Res → Option Res) → Option Res)) := [impl_parser_kind_L2.con]
noncomputable def X (K : Res → Option Res) : Ctx := { Γ := Γ0, orc := orcOf os, io := [], share := [], opn := [], shr := [], bun := [], cut := [], own := [], cin := [(1, ⟨[0, 4], [(0, 0)], [0], [], [], []⟩), (3, ⟨[0, 5, 6], [(0, 0)], [0], [], [], []⟩)], cout := [(1, ⟨[0, 4], [(0, 0)], [0], [], [], []⟩), (3, ⟨[], [(0, 0)], [0], [], [], []⟩)], lp := lpOf [(1, s1 0 [] [] 0 false, p1 K), (3, s3 0 0 [] [] 0 false, p3 K)], kl := Env.kl, nk := true, eqs := eqs0, byt := byt0, fin := finK fi K }
noncomputable def b (a1 a2 : List (List Cl)) (a3 : Int) (a4 : Bool) (R : Int → Bool → List (List Cl) → List (List Cl) → Int → Bool → Option Res) : Option Res :=
 impl_parser_kind_L2.g 0 a1 a2 a3 a4 fun r5 =>
 bif (r5 == 1) then (l1 a1 a2 a3 a4 (fun y12 =>
  R (IntKind.i64.wrap (a3 + y12)) true a1 a2 a3 a4) fuel 1)
 else bif (r5 == 2) then R (IntKind.i64.wrap (a3 + 1)) true a1 a2 a3 a4
 else bif (r5 == 4) then (l3 a1 a2 a3 a4 (
  R 0 false a1 a2 a3 a4) R fuel 0 a3)
 else R 0 false a1 a2 a3 a4
theorem gx : ∃ x : List (List Cl) → List (List Cl) → Int → Bool → (Int → Bool → List (List Cl) → List (List Cl) → Int → Bool → Option Res) → Option Res, x = b := ⟨_, rfl⟩
noncomputable def g : List (List Cl) → List (List Cl) → Int → Bool → (Int → Bool → List (List Cl) → List (List Cl) → Int → Bool → Option Res) → Option Res := Classical.choose gx
theorem e : g = b := Classical.choose_spec gx
noncomputable def run : List Lf → (Res → Option Res) → Option Res
 | [.q (.cells a1), .q (.cells a2), .i a3, .b a4], K => g a1 a2 a3 a4 (fun r1 r2 r3 r4 r5 r6 => K (m r1 r2 r3 r4 r5 r6))
 | _, _ => none
noncomputable def a (a1 a2 : List (List Cl)) (a3 : Int) (a4 : Bool) : St := argSt [one (.bp 0 0)] [⟨[.int .i64, .int .i64, .int .i64, .int .i64, .int .i64, .int .i64, .ints .i64], .cells a1, false, 0, none⟩] [[.tr 2 2 [.int .i64, .int .i64] (.cells a2), .int .i64 a3, .ow 0, .bool a4]]
noncomputable def con : FuncId × St × (List Lf → (Res → Option Res) → Option Res) := (93, a [] [] 0 false, run)
theorem cx (K : Res → Option Res) : CtxOk Go.Proofs.Try.prog Γ0 byt0 eqs0 (X K) os := ⟨rfl, rfl, rfl, (fun p hp => by
 rcases List.mem_cons.1 hp with rfl | hp
 ·exact impl_parser_kind_L2.ok
 cases hp), rfl, rfl, rfl⟩
theorem t1 (K : Res → Option Res) (k : St → Option Res) (it : St → (St → Option Res) → Option Res) (x6 : Int) (x7 x8 : List (List Cl)) (x9 : Int) (x10 : Bool) : iterS (X K) 1 b1 it (s1 x6 x7 x8 x9 x10) k = l1s x7 x8 x9 x10 (fun x6 => it (s1 x6 x7 x8 x9 x10) k) (fun y1 => k (o1 x7 x8 x9 x10 y1)) x6 := by kernel_rfl
theorem i1 (K : Res → Option Res) (k : St → Option Res) (x7 x8 : List (List Cl)) (x9 : Int) (x10 : Bool) : ∀ (n : Nat) (x6 : Int), iter (X K) 1 b1 n (s1 x6 x7 x8 x9 x10) k = l1 x7 x8 x9 x10 (fun y1 => k (o1 x7 x8 x9 x10 y1)) n x6
 | 0, _ => rfl
 | n + 1, x6 => by
  rw [iter_succ, t1, show (fun x6 => iter (X K) 1 b1 n (s1 x6 x7 x8 x9 x10) k) = (fun x6 => l1 x7 x8 x9 x10 (fun y1 => k (o1 x7 x8 x9 x10 y1)) n x6) from funext fun x6 => i1 K k x7 x8 x9 x10 n x6]; rfl
theorem v1 {K : Res → Option Res} {l : List Lf} {k : St → Option Res} {r : Res} (h : p1 K l k = some r) : ∃ x6 x7 x8 x9 x10, l = [.i x6, .q (.cells x7), .q (.cells x8), .i x9, .b x10] ∧ l1 x7 x8 x9 x10 (fun y1 => k (o1 x7 x8 x9 x10 y1)) fuel x6 = some r := by
 unfold p1 at h; split at h
 ·exact ⟨_, _, _, _, _, rfl, h⟩
 ·cases h
theorem t3 (K : Res → Option Res) (k : St → Option Res) (it : St → (St → Option Res) → Option Res) (x13 x14 : Int) (x15 x16 : List (List Cl)) (x17 : Int) (x18 : Bool) : iterS (X K) 3 b3 it (s3 x13 x14 x15 x16 x17 x18) k = l3s x15 x16 x17 x18 (fun x13 x14 => it (s3 x13 x14 x15 x16 x17 x18) k) (k (o3 x15 x16 x17 x18)) (fun r1 r2 r3 r4 r5 r6 => K (m r1 r2 r3 r4 r5 r6)) x13 x14 := by kernel_rfl
theorem i3 (K : Res → Option Res) (k : St → Option Res) (x15 x16 : List (List Cl)) (x17 : Int) (x18 : Bool) : ∀ (n : Nat) (x13 x14 : Int), iter (X K) 3 b3 n (s3 x13 x14 x15 x16 x17 x18) k = l3 x15 x16 x17 x18 (k (o3 x15 x16 x17 x18)) (fun r1 r2 r3 r4 r5 r6 => K (m r1 r2 r3 r4 r5 r6)) n x13 x14
 | 0, _, _ => rfl
 | n + 1, x13, x14 => by
  rw [iter_succ, t3, show (fun x13 x14 => iter (X K) 3 b3 n (s3 x13 x14 x15 x16 x17 x18) k) = (fun x13 x14 => l3 x15 x16 x17 x18 (k (o3 x15 x16 x17 x18)) (fun r1 r2 r3 r4 r5 r6 => K (m r1 r2 r3 r4 r5 r6)) n x13 x14) from funext fun x13 => funext fun x14 => i3 K k x15 x16 x17 x18 n x13 x14]; rfl
theorem v3 {K : Res → Option Res} {l : List Lf} {k : St → Option Res} {r : Res} (h : p3 K l k = some r) : ∃ x13 x14 x15 x16 x17 x18, l = [.i x13, .i x14, .q (.cells x15), .q (.cells x16), .i x17, .b x18] ∧ l3 x15 x16 x17 x18 (k (o3 x15 x16 x17 x18)) (fun r1 r2 r3 r4 r5 r6 => K (m r1 r2 r3 r4 r5 r6)) fuel x13 x14 = some r := by
 unfold p3 at h; split at h
 ·exact ⟨_, _, _, _, _, _, rfl, h⟩
 ·cases h
theorem w3 (K : Res → Option Res) : LpSound Go.Proofs.Try.prog (X K) 3 b3 := lp_ok ((cx K).ok laid) (by rw [show loopsOf b3 = [] from by kernel_rfl]; intro p hp; cases hp) rfl fun p hp hid => by
 rcases List.mem_cons.1 hp with rfl | hp
 ·exact absurd hid (by simp)
 rcases List.mem_cons.1 hp with rfl | hp
 ·intro st k r h1 h2; obtain ⟨x13, x14, x15, x16, x17, x18, e, h⟩ := v3 (K := K) h2; have := St.like_eq (y := s3 x13 x14 x15 x16 x17 x18) h1 (by kernel_rfl) e; subst this; exact ⟨fuel, (i3 K k x15 x16 x17 x18 fuel x13 x14).trans h⟩
 cases hp
theorem w1 (K : Res → Option Res) : LpSound Go.Proofs.Try.prog (X K) 1 b1 := lp_ok ((cx K).ok laid) (by rw [show loopsOf b1 = [] from by kernel_rfl]; intro p hp; cases hp) rfl fun p hp hid => by
 rcases List.mem_cons.1 hp with rfl | hp
 ·intro st k r h1 h2; obtain ⟨x6, x7, x8, x9, x10, e, h⟩ := v1 (K := K) h2; have := St.like_eq (y := s1 x6 x7 x8 x9 x10) h1 (by kernel_rfl) e; subst this; exact ⟨fuel, (i1 K k x7 x8 x9 x10 fuel x6).trans h⟩
 rcases List.mem_cons.1 hp with rfl | hp
 ·exact absurd hid (by simp)
 cases hp
theorem tie (K : Res → Option Res) (a1 a2 : List (List Cl)) (a3 : Int) (a4 : Bool) : exec (X K) c (entry 65 [one (.bp 0 0)] [⟨[.int .i64, .int .i64, .int .i64, .int .i64, .int .i64, .int .i64, .ints .i64], .cells a1, false, 0, none⟩] [[.tr 2 2 [.int .i64, .int .i64] (.cells a2), .int .i64 a3, .ow 0, .bool a4]]) (endK (X K)) = g a1 a2 a3 a4 (fun r1 r2 r3 r4 r5 r6 => K (m r1 r2 r3 r4 r5 r6)) := Eq.trans (b := b a1 a2 a3 a4 (fun r1 r2 r3 r4 r5 r6 => K (m r1 r2 r3 r4 r5 r6))) (by kernel_rfl) (by rw [e])
theorem runv {l : List Lf} {K : Res → Option Res} {r : Res} (h : run l K = some r) : ∃ a1 a2 a3 a4, l = [.q (.cells a1), .q (.cells a2), .i a3, .b a4] ∧ g a1 a2 a3 a4 (fun r1 r2 r3 r4 r5 r6 => K (m r1 r2 r3 r4 r5 r6)) = some r := by
 unfold run at h; split at h
 ·exact ⟨_, _, _, _, rfl, h⟩
 ·cases h
theorem ok : Con Go.Proofs.Try.prog con := con_of (fn := Go.Proofs.Try.f93) (c := c) (Fi := fi) (X := X) (fun_of laid (by kernel_rfl) (by kernel_rfl) (by kernel_rfl) rfl (by kernel_rfl) (by kernel_rfl) cx (fun _ => rfl) (fun _ => rfl) (fun K => by
 rw [show loopsOf c = [(1, b1), (3, b3)] from by kernel_rfl]; intro p hp
 rcases List.mem_cons.1 hp with rfl | hp
 ·exact w1 K
 rcases List.mem_cons.1 hp with rfl | hp
 ·exact w3 K
 cases hp)) fun xs rows boxes K r hl hr => by
 obtain ⟨a1, a2, a3, a4, e, h⟩ := runv hr
 have := St.like_eq (y := a a1 a2 a3 a4) hl (by kernel_rfl) e
 obtain ⟨rfl, rfl, rfl⟩ := argSt_inj this
 exact (tie K a1 a2 a3 a4).trans h
end impl_parser_operandEnd_L2
-- GROUP impl_parser_operand_L2 impl_parser_line_L2
namespace impl_parser_operand_L2
noncomputable def c : Code := bodyOf Go.Proofs.Try.f94
noncomputable def fi : Fin := ⟨Γ0, [(.tmp 6, 3)], [[1]], [false], [([.sl [.int .i64, .int .i64] 16, .int .i64, .sl [.int .i64, .int .i64, .int .i64, .int .i64, .int .i64, .int .i64, .ints .i64] 72, .bool], [0, 1, 1, 1])], []⟩
noncomputable def m (r1 : Int) (r2 : List (List Cl)) (r3 : Int) (r4 : List (List Cl)) (r5 : Bool) : Res := ⟨[⟨false, [.int .i64 r1]⟩], [none], [⟨[.int .i64, .int .i64, .int .i64, .int .i64, .int .i64, .int .i64, .ints .i64], .cells r4, false, 0, none⟩], [[.tr 2 2 [.int .i64, .int .i64] (.cells r2), .int .i64 r3, .ow 1000, .bool r5]], []⟩
abbrev T : Type := Int → Int → List (List Cl) → List (List Cl) → Int → Bool → (Int → List (List Cl) → Int → List (List Cl) → Bool → Option Res) → Option Res
noncomputable def runz (h : T) : List Lf → (Res → Option Res) → Option Res
 | [.i a1, .i a2, .q (.cells a3), .q (.cells a4), .i a5, .b a6], K => h a1 a2 a3 a4 a5 a6 (fun r1 r2 r3 r4 r5 => K (m r1 r2 r3 r4 r5))
 | _, _ => none
noncomputable def a (a1 a2 : Int) (a3 a4 : List (List Cl)) (a5 : Int) (a6 : Bool) : St := argSt [one (.bp 0 0), one (.int .i64 a1), one (.int .i64 a2)] [⟨[.int .i64, .int .i64, .int .i64, .int .i64, .int .i64, .int .i64, .ints .i64], .cells a3, false, 0, none⟩] [[.tr 2 2 [.int .i64, .int .i64] (.cells a4), .int .i64 a5, .ow 0, .bool a6]]
noncomputable def conz (h : T) : FuncId × St × (List Lf → (Res → Option Res) → Option Res) := (94, a 0 0 [] [] 0 false, runz h)
end impl_parser_operand_L2
namespace impl_parser_line_L2
noncomputable def c : Code := bodyOf Go.Proofs.Try.f52
noncomputable def fi : Fin := ⟨Γ0, [(.tmp 2, 3)], [[1]], [false], [([.sl [.int .i64, .int .i64] 16, .int .i64, .sl [.int .i64, .int .i64, .int .i64, .int .i64, .int .i64, .int .i64, .ints .i64] 72, .bool], [0, 1, 3, 1])], []⟩
noncomputable def m (r1 : Int) (r2 : List (List Cl)) (r3 : Int) (r4 : List (List Cl)) (r5 : Bool) : Res := ⟨[⟨false, [.int .i64 r1]⟩], [none], [⟨[.int .i64, .int .i64, .int .i64, .int .i64, .int .i64, .int .i64, .ints .i64], .cells r4, false, 0, none⟩], [[.tr 2 2 [.int .i64, .int .i64] (.cells r2), .int .i64 r3, .ow 1000, .bool r5]], []⟩
abbrev T : Type := List (List Cl) → List (List Cl) → Int → Bool → (Int → List (List Cl) → Int → List (List Cl) → Bool → Option Res) → Option Res
noncomputable def runz (h : T) : List Lf → (Res → Option Res) → Option Res
 | [.q (.cells a1), .q (.cells a2), .i a3, .b a4], K => h a1 a2 a3 a4 (fun r1 r2 r3 r4 r5 => K (m r1 r2 r3 r4 r5))
 | _, _ => none
noncomputable def a (a1 a2 : List (List Cl)) (a3 : Int) (a4 : Bool) : St := argSt [one (.bp 0 0)] [⟨[.int .i64, .int .i64, .int .i64, .int .i64, .int .i64, .int .i64, .ints .i64], .cells a1, false, 0, none⟩] [[.tr 2 2 [.int .i64, .int .i64] (.cells a2), .int .i64 a3, .ow 0, .bool a4]]
noncomputable def conz (h : T) : FuncId × St × (List Lf → (Res → Option Res) → Option Res) := (52, a [] [] 0 false, runz h)
end impl_parser_line_L2
abbrev Z_impl_parser_operand_L2 : Type := impl_parser_operand_L2.T × impl_parser_line_L2.T
def Gd_impl_parser_operand_L2 (z : Z_impl_parser_operand_L2) : Prop := Con Go.Proofs.Try.prog (impl_parser_operand_L2.conz z.1) ∧ Con Go.Proofs.Try.prog (impl_parser_line_L2.conz z.2)
namespace impl_parser_operand_L2
noncomputable def b1 : Code := codeAt c [1, 1, 0, 1, 0, 1, 1, 1, 0, 1, 0, 1, 0, 0]
noncomputable def s1 (x9 : List (List Cl)) (x10 x11 : Int) (x12 : List (List Cl)) (x13 : List Int) (x14 : List (List Cl)) (x15 : Int) (x16 : Bool) (x17 x18 x19 x20 x21 x22 : Int) : St := ⟨mkT 93 [(0, one (.bp 0 0)), (8, one (.bp 13304 0)), (38, one (.tr 2 2 [.int .i64, .int .i64] (.cells x9))), (39, one (.int .i64 x10)), (40, one (.int .i64 x11))], [(0, ⟨[.int .i64, .int .i64, .int .i64, .int .i64, .int .i64, .int .i64, .ints .i64], .cells x12, false, 0, none⟩), (13302, ⟨[.int .i64], .ints x13, true, 0, none⟩)], [(0, [.tr 2 2 [.int .i64, .int .i64] (.cells x14), .int .i64 x15, .ow 0, .bool x16]), (13304, [.int .i64 x17, .int .i64 x18, .int .i64 x19, .int .i64 x20, .int .i64 x21, .int .i64 x22, .ow 13302])]⟩
noncomputable def l1s (x9 : List (List Cl)) (x10 : Int) (x12 x14 : List (List Cl)) (x15 : Int) (x16 : Bool) (x17 x18 x19 x20 x21 x22 : Int) (rec : Int → List Int → Option Res) (k : List Int → Option Res) (x11 : Int) (x13 : List Int) : Option Res :=
 bif decide (x11 < x10) then (bif decide (0 ≤ x11) && decide (x11 < (x9.length : Int)) then (bif decide ((x13.length + 1) * 8 ≤ 140737488355328) then rec (IntKind.i64.wrap (x11 + 1)) (x13 ++ ([((x9.getD x11.toNat []).getD 1 (.i 0)).toI] : List Int))
  else none)
  else none)
 else k x13
noncomputable def l1 (x9 : List (List Cl)) (x10 : Int) (x12 x14 : List (List Cl)) (x15 : Int) (x16 : Bool) (x17 x18 x19 x20 x21 x22 : Int) (k : List Int → Option Res) : Nat → Int → List Int → Option Res
 | 0, _, _ => none
 | n + 1, x11, x13 => l1s x9 x10 x12 x14 x15 x16 x17 x18 x19 x20 x21 x22 (fun x11 x13 => l1 x9 x10 x12 x14 x15 x16 x17 x18 x19 x20 x21 x22 k n x11 x13) k x11 x13
noncomputable def o1 (x9 : List (List Cl)) (x10 : Int) (x12 x14 : List (List Cl)) (x15 : Int) (x16 : Bool) (x17 x18 x19 x20 x21 x22 : Int) (y2 : List Int) : St := ⟨mkT 93 [(0, one (.bp 0 0)), (8, one (.bp 13304 0))], [(0, ⟨[.int .i64, .int .i64, .int .i64, .int .i64, .int .i64, .int .i64, .ints .i64], .cells x12, false, 0, none⟩), (13302, ⟨[.int .i64], .ints y2, true, 0, none⟩)], [(0, [.tr 2 2 [.int .i64, .int .i64] (.cells x14), .int .i64 x15, .ow 0, .bool x16]), (13304, [.int .i64 x17, .int .i64 x18, .int .i64 x19, .int .i64 x20, .int .i64 x21, .int .i64 x22, .ow 13302])]⟩
noncomputable def p1 (K : Res → Option Res) : List Lf → (St → Option Res) → Option Res
 | [.q (.cells x9), .i x10, .i x11, .q (.cells x12), .q (.ints x13), .q (.cells x14), .i x15, .b x16, .i x17, .i x18, .i x19, .i x20, .i x21, .i x22], k => l1 x9 x10 x12 x14 x15 x16 x17 x18 x19 x20 x21 x22 (fun y2 => k (o1 x9 x10 x12 x14 x15 x16 x17 x18 x19 x20 x21 x22 y2)) fuel x11 x13
 | _, _ => none
noncomputable def os (z : Z_impl_parser_operand_L2) : List (FuncId × St × (List Lf → (Res → Option Res) → Option Res)) := [impl_parser_put_L2.con, impl_parser_line_L2.conz z.2]
noncomputable def X (z : Z_impl_parser_operand_L2) (K : Res → Option Res) : Ctx := { Γ := Γ0, orc := orcOf (os z), io := [(91, [⟨false, 0, 1⟩, ⟨false, 2, 1⟩])], share := [], opn := [], shr := [], bun := [], cut := [], own := [(6, 0, 6, [.int .i64])], cin := [(1, ⟨[0, 8, 38, 39, 40], [(0, 0), (13302, 13302), (21560, 13302)], [0, 13304], [], [], []⟩)], cout := [(1, ⟨[0, 8], [(0, 0), (13302, 13302)], [0, 13304], [], [], []⟩)], lp := lpOf [(1, s1 [] 0 0 [] [] [] 0 false 0 0 0 0 0 0, p1 K)], kl := Env.kl, nk := true, eqs := eqs0, byt := byt0, fin := finK fi K }
noncomputable def g (z : Z_impl_parser_operand_L2) (a1 a2 : Int) (a3 a4 : List (List Cl)) (a5 : Int) (a6 : Bool) (R : Int → List (List Cl) → Int → List (List Cl) → Bool → Option Res) : Option Res :=
 bif decide (0 ≤ a1) && decide (a1 < (a4.length : Int)) then (bif (((a4.getD a1.toNat []).getD 0 (.i 0)).toI == 2) then (impl_parser_put_L2.g 2 (((a4.getD a1.toNat []).getD 1 (.i 0)).toI) 0 0 0 0 ([] : List Int) a3 a4 a5 a6 fun r7 r8 =>
  R r7 a4 a5 r8 a6)
  else bif (((a4.getD a1.toNat []).getD 0 (.i 0)).toI == 1) then (bif decide (0 ≤ a1) && decide (a1 ≤ a2) && decide (a2 ≤ (a4.length : Int)) then (l1 ((a4.drop a1.toNat).take (a2.toNat - a1.toNat)) (((a4.drop a1.toNat).take (a2.toNat - a1.toNat)).length : Int) a3 a4 a5 a6 1 0 0 0 0 0 (fun y23 =>
   impl_parser_put_L2.g 1 0 0 0 0 0 y23 a3 a4 a5 a6 fun r24 r25 =>
   R r24 a4 a5 r25 a6) fuel 0 ([] : List Int))
   else none)
  else bif decide (0 ≤ IntKind.i64.wrap (a2 - 1)) && decide (IntKind.i64.wrap (a2 - 1) ≤ (a4.length : Int)) then (z.2 a3 (a4.take ((IntKind.i64.wrap (a2 - 1)).toNat)) (IntKind.i64.wrap (a1 + 1)) false fun r26 r27 r28 r29 r30 =>
   bif a6 then R r26 a4 a5 r29 true
   else R r26 a4 a5 r29 r30)
  else none)
 else none
theorem cx (z : Z_impl_parser_operand_L2) (hz : Gd_impl_parser_operand_L2 z) (K : Res → Option Res) : CtxOk Go.Proofs.Try.prog Γ0 byt0 eqs0 (X z K) (os z) := ⟨rfl, rfl, rfl, (fun p hp => by
 rcases List.mem_cons.1 hp with rfl | hp
 ·exact impl_parser_put_L2.ok
 rcases List.mem_cons.1 hp with rfl | hp
 ·exact hz.2
 cases hp), rfl, rfl, rfl⟩
theorem t1 (z : Z_impl_parser_operand_L2) (K : Res → Option Res) (k : St → Option Res) (it : St → (St → Option Res) → Option Res) (x9 : List (List Cl)) (x10 x11 : Int) (x12 : List (List Cl)) (x13 : List Int) (x14 : List (List Cl)) (x15 : Int) (x16 : Bool) (x17 x18 x19 x20 x21 x22 : Int) : iterS (X z K) 1 b1 it (s1 x9 x10 x11 x12 x13 x14 x15 x16 x17 x18 x19 x20 x21 x22) k = l1s x9 x10 x12 x14 x15 x16 x17 x18 x19 x20 x21 x22 (fun x11 x13 => it (s1 x9 x10 x11 x12 x13 x14 x15 x16 x17 x18 x19 x20 x21 x22) k) (fun y2 => k (o1 x9 x10 x12 x14 x15 x16 x17 x18 x19 x20 x21 x22 y2)) x11 x13 := by kernel_rfl
theorem i1 (z : Z_impl_parser_operand_L2) (K : Res → Option Res) (k : St → Option Res) (x9 : List (List Cl)) (x10 : Int) (x12 x14 : List (List Cl)) (x15 : Int) (x16 : Bool) (x17 x18 x19 x20 x21 x22 : Int) : ∀ (n : Nat) (x11 : Int) (x13 : List Int), iter (X z K) 1 b1 n (s1 x9 x10 x11 x12 x13 x14 x15 x16 x17 x18 x19 x20 x21 x22) k = l1 x9 x10 x12 x14 x15 x16 x17 x18 x19 x20 x21 x22 (fun y2 => k (o1 x9 x10 x12 x14 x15 x16 x17 x18 x19 x20 x21 x22 y2)) n x11 x13
 | 0, _, _ => rfl
 | n + 1, x11, x13 => by
  rw [iter_succ, t1 z, show (fun x11 x13 => iter (X z K) 1 b1 n (s1 x9 x10 x11 x12 x13 x14 x15 x16 x17 x18 x19 x20 x21 x22) k) = (fun x11 x13 => l1 x9 x10 x12 x14 x15 x16 x17 x18 x19 x20 x21 x22 (fun y2 => k (o1 x9 x10 x12 x14 x15 x16 x17 x18 x19 x20 x21 x22 y2)) n x11 x13) from funext fun x11 => funext fun x13 => i1 z K k x9 x10 x12 x14 x15 x16 x17 x18 x19 x20 x21 x22 n x11 x13]; rfl
theorem v1 {K : Res → Option Res} {l : List Lf} {k : St → Option Res} {r : Res} (h : p1 K l k = some r) : ∃ x9 x10 x11 x12 x13 x14 x15 x16 x17 x18 x19 x20 x21 x22, l = [.q (.cells x9), .i x10, .i x11, .q (.cells x12), .q (.ints x13), .q (.cells x14), .i x15, .b x16, .i x17, .i x18, .i x19, .i x20, .i x21, .i x22] ∧ l1 x9 x10 x12 x14 x15 x16 x17 x18 x19 x20 x21 x22 (fun y2 => k (o1 x9 x10 x12 x14 x15 x16 x17 x18 x19 x20 x21 x22 y2)) fuel x11 x13 = some r := by
 unfold p1 at h; split at h
 ·exact ⟨_, _, _, _, _, _, _, _, _, _, _, _, _, _, rfl, h⟩
 ·cases h
theorem w1 (z : Z_impl_parser_operand_L2) (hz : Gd_impl_parser_operand_L2 z) (K : Res → Option Res) : LpSound Go.Proofs.Try.prog (X z K) 1 b1 := lp_ok (((cx z hz) K).ok laid) (by rw [show loopsOf b1 = [] from by kernel_rfl]; intro p hp; cases hp) rfl fun p hp hid => by
 rcases List.mem_cons.1 hp with rfl | hp
 ·intro st k r h1 h2; obtain ⟨x9, x10, x11, x12, x13, x14, x15, x16, x17, x18, x19, x20, x21, x22, e, h⟩ := v1 (K := K) h2; have := St.like_eq (y := s1 x9 x10 x11 x12 x13 x14 x15 x16 x17 x18 x19 x20 x21 x22) h1 (by kernel_rfl) e; subst this; exact ⟨fuel, (i1 z K k x9 x10 x12 x14 x15 x16 x17 x18 x19 x20 x21 x22 fuel x11 x13).trans h⟩
 cases hp
theorem tie (z : Z_impl_parser_operand_L2) (K : Res → Option Res) (a1 a2 : Int) (a3 a4 : List (List Cl)) (a5 : Int) (a6 : Bool) : exec (X z K) c (entry 93 [one (.bp 0 0), one (.int .i64 a1), one (.int .i64 a2)] [⟨[.int .i64, .int .i64, .int .i64, .int .i64, .int .i64, .int .i64, .ints .i64], .cells a3, false, 0, none⟩] [[.tr 2 2 [.int .i64, .int .i64] (.cells a4), .int .i64 a5, .ow 0, .bool a6]]) (endK (X z K)) = (g z) a1 a2 a3 a4 a5 a6 (fun r1 r2 r3 r4 r5 => K (m r1 r2 r3 r4 r5)) := by kernel_rfl
theorem runv (z : Z_impl_parser_operand_L2) {l : List Lf} {K : Res → Option Res} {r : Res} (h : runz (g z) l K = some r) : ∃ a1 a2 a3 a4 a5 a6, l = [.i a1, .i a2, .q (.cells a3), .q (.cells a4), .i a5, .b a6] ∧ (g z) a1 a2 a3 a4 a5 a6 (fun r1 r2 r3 r4 r5 => K (m r1 r2 r3 r4 r5)) = some r := by
 unfold runz at h; split at h
 ·exact ⟨_, _, _, _, _, _, rfl, h⟩
 ·cases h
theorem ok (z : Z_impl_parser_operand_L2) (hz : Gd_impl_parser_operand_L2 z) : Con Go.Proofs.Try.prog (conz (g z)) := con_of (fn := Go.Proofs.Try.f94) (c := c) (Fi := fi) (X := X z) (fun_of laid (by kernel_rfl) (by kernel_rfl) (by kernel_rfl) rfl (by kernel_rfl) (by kernel_rfl) (cx z hz) (fun _ => rfl) (fun _ => rfl) (fun K => by
 rw [show loopsOf c = [(1, b1)] from by kernel_rfl]; intro p hp
 rcases List.mem_cons.1 hp with rfl | hp
 ·exact w1 z hz K
 cases hp)) fun xs rows boxes K r hl hr => by
 obtain ⟨a1, a2, a3, a4, a5, a6, e, h⟩ := runv z hr
 have := St.like_eq (y := a a1 a2 a3 a4 a5 a6) hl (by kernel_rfl) e
 obtain ⟨rfl, rfl, rfl⟩ := argSt_inj this
 exact (tie z K a1 a2 a3 a4 a5 a6).trans h
end impl_parser_operand_L2
namespace impl_parser_line_L2
noncomputable def os (z : Z_impl_parser_operand_L2) : List (FuncId × St × (List Lf → (Res → Option Res) → Option Res)) := [impl_parser_kind_L2.con, impl_parser_line_L2.conz z.2, impl_parser_put_L2.con, impl_parser_function_L2.con, impl_FunOne.con, impl_parser_operandEnd_L2.con, impl_parser_operand_L2.conz z.1, impl_FunTwo.con]
noncomputable def X (z : Z_impl_parser_operand_L2) (K : Res → Option Res) : Ctx := { Γ := Γ0, orc := orcOf (os z), io := [(91, [⟨false, 0, 1⟩, ⟨false, 2, 1⟩])], share := [], opn := [], shr := [], bun := [], cut := [], own := [], cin := [], cout := [], lp := lpOf [], kl := Env.kl, nk := true, eqs := eqs0, byt := byt0, fin := finK fi K }
noncomputable def g (z : Z_impl_parser_operand_L2) (a1 a2 : List (List Cl)) (a3 : Int) (a4 : Bool) (R : Int → List (List Cl) → Int → List (List Cl) → Bool → Option Res) : Option Res :=
 bif a4 then R 0 a2 a3 a1 true
 else bif decide ((a2.length : Int) ≤ a3) then R 0 a2 a3 a1 true
 else (impl_parser_kind_L2.g 0 a1 a2 a3 a4 fun r5 =>
 bif (r5 == 2) then (impl_parser_kind_L2.g 1 a1 a2 a3 a4 fun r6 =>
  bif (r6 == 6) then (bif decide (0 ≤ a3) && decide (a3 < (a2.length : Int)) then (z.2 a1 a2 (IntKind.i64.wrap (a3 + 2)) a4 fun r7 r8 r9 r10 r11 =>
   impl_parser_put_L2.g 3 (((a2.getD a3.toNat []).getD 1 (.i 0)).toI) r7 0 0 0 ([] : List Int) r10 r8 r9 r11 fun r12 r13 =>
   R r12 r8 r9 r13 r11)
   else none)
  else (impl_parser_kind_L2.g 0 a1 a2 a3 a4 fun r14 =>
  bif (r14 == 3) then (impl_parser_function_L2.g a1 a2 a3 a4 fun r15 r16 r17 r18 r19 =>
   z.2 a1 a2 r18 r19 fun r20 r21 r22 r23 r24 =>
   bif r24 then (impl_parser_put_L2.g 4 0 r20 r15 r16 r17 ([] : List Int) r23 r21 r22 true fun r25 r26 =>
    R r25 r21 r22 r26 true)
   else (impl_FunOne.g r15 r16 r17 fun r27 =>
   impl_parser_put_L2.g 4 0 r20 r15 r16 r17 ([] : List Int) r23 r21 r22 (!r27) fun r28 r29 =>
   R r28 r21 r22 r29 (!r27)))
  else (impl_parser_operandEnd_L2.g a1 a2 a3 a4 fun r30 r31 r32 r33 r34 r35 =>
  bif !r31 then R 0 r33 r34 r32 true
  else bif (r30 == (r33.length : Int)) then (z.1 a3 r30 r32 r33 r34 r35 fun r36 r37 r38 r39 r40 =>
   R r36 r37 r38 r39 r40)
  else (impl_parser_function_L2.g r32 r33 r30 r35 fun r41 r42 r43 r44 r45 =>
  z.2 r32 r33 r44 r45 fun r46 r47 r48 r49 r50 =>
  bif r50 then R 0 r47 r48 r49 true
  else (impl_FunTwo.g r41 r42 r43 fun r51 =>
  bif !r51 then R 0 r47 r48 r49 (!r51)
  else (z.1 a3 r30 r49 r47 r48 (!r51) fun r52 r53 r54 r55 r56 =>
  impl_parser_put_L2.g 5 r52 r46 r41 r42 r43 ([] : List Int) r55 r53 r54 r56 fun r57 r58 =>
  R r57 r53 r54 r58 r56))))))
 else (impl_parser_kind_L2.g 0 a1 a2 a3 a4 fun r59 =>
 bif (r59 == 3) then (impl_parser_function_L2.g a1 a2 a3 a4 fun r60 r61 r62 r63 r64 =>
  z.2 a1 a2 r63 r64 fun r65 r66 r67 r68 r69 =>
  bif r69 then (impl_parser_put_L2.g 4 0 r65 r60 r61 r62 ([] : List Int) r68 r66 r67 true fun r70 r71 =>
   R r70 r66 r67 r71 true)
  else (impl_FunOne.g r60 r61 r62 fun r72 =>
  impl_parser_put_L2.g 4 0 r65 r60 r61 r62 ([] : List Int) r68 r66 r67 (!r72) fun r73 r74 =>
  R r73 r66 r67 r74 (!r72)))
 else (impl_parser_operandEnd_L2.g a1 a2 a3 a4 fun r75 r76 r77 r78 r79 r80 =>
 bif !r76 then R 0 r78 r79 r77 true
 else bif (r75 == (r78.length : Int)) then (z.1 a3 r75 r77 r78 r79 r80 fun r81 r82 r83 r84 r85 =>
  R r81 r82 r83 r84 r85)
 else (impl_parser_function_L2.g r77 r78 r75 r80 fun r86 r87 r88 r89 r90 =>
 z.2 r77 r78 r89 r90 fun r91 r92 r93 r94 r95 =>
 bif r95 then R 0 r92 r93 r94 true
 else (impl_FunTwo.g r86 r87 r88 fun r96 =>
 bif !r96 then R 0 r92 r93 r94 (!r96)
 else (z.1 a3 r75 r94 r92 r93 (!r96) fun r97 r98 r99 r100 r101 =>
 impl_parser_put_L2.g 5 r97 r91 r86 r87 r88 ([] : List Int) r100 r98 r99 r101 fun r102 r103 =>
 R r102 r98 r99 r103 r101))))))
theorem cx (z : Z_impl_parser_operand_L2) (hz : Gd_impl_parser_operand_L2 z) (K : Res → Option Res) : CtxOk Go.Proofs.Try.prog Γ0 byt0 eqs0 (X z K) (os z) := ⟨rfl, rfl, rfl, (fun p hp => by
 rcases List.mem_cons.1 hp with rfl | hp
 ·exact impl_parser_kind_L2.ok
 rcases List.mem_cons.1 hp with rfl | hp
 ·exact hz.2
 rcases List.mem_cons.1 hp with rfl | hp
 ·exact impl_parser_put_L2.ok
 rcases List.mem_cons.1 hp with rfl | hp
 ·exact impl_parser_function_L2.ok
 rcases List.mem_cons.1 hp with rfl | hp
 ·exact impl_FunOne.ok
 rcases List.mem_cons.1 hp with rfl | hp
 ·exact impl_parser_operandEnd_L2.ok
 rcases List.mem_cons.1 hp with rfl | hp
 ·exact hz.1
 rcases List.mem_cons.1 hp with rfl | hp
 ·exact impl_FunTwo.ok
 cases hp), rfl, rfl, rfl⟩
theorem tie (z : Z_impl_parser_operand_L2) (K : Res → Option Res) (a1 a2 : List (List Cl)) (a3 : Int) (a4 : Bool) : exec (X z K) c (entry 148 [one (.bp 0 0)] [⟨[.int .i64, .int .i64, .int .i64, .int .i64, .int .i64, .int .i64, .ints .i64], .cells a1, false, 0, none⟩] [[.tr 2 2 [.int .i64, .int .i64] (.cells a2), .int .i64 a3, .ow 0, .bool a4]]) (endK (X z K)) = (g z) a1 a2 a3 a4 (fun r1 r2 r3 r4 r5 => K (m r1 r2 r3 r4 r5)) := by kernel_rfl
theorem runv (z : Z_impl_parser_operand_L2) {l : List Lf} {K : Res → Option Res} {r : Res} (h : runz (g z) l K = some r) : ∃ a1 a2 a3 a4, l = [.q (.cells a1), .q (.cells a2), .i a3, .b a4] ∧ (g z) a1 a2 a3 a4 (fun r1 r2 r3 r4 r5 => K (m r1 r2 r3 r4 r5)) = some r := by
 unfold runz at h; split at h
 ·exact ⟨_, _, _, _, rfl, h⟩
 ·cases h
theorem ok (z : Z_impl_parser_operand_L2) (hz : Gd_impl_parser_operand_L2 z) : Con Go.Proofs.Try.prog (conz (g z)) := con_of (fn := Go.Proofs.Try.f52) (c := c) (Fi := fi) (X := X z) (fun_of laid (by kernel_rfl) (by kernel_rfl) (by kernel_rfl) rfl (by kernel_rfl) (by kernel_rfl) (cx z hz) (fun _ => rfl) (fun _ => rfl) (fun K => by
 rw [show loopsOf c = [] from by kernel_rfl]; intro p hp
 cases hp)) fun xs rows boxes K r hl hr => by
 obtain ⟨a1, a2, a3, a4, e, h⟩ := runv z hr
 have := St.like_eq (y := a a1 a2 a3 a4) hl (by kernel_rfl) e
 obtain ⟨rfl, rfl, rfl⟩ := argSt_inj this
 exact (tie z K a1 a2 a3 a4).trans h
end impl_parser_line_L2
noncomputable def rec_impl_parser_operand_L2 : Nat → Z_impl_parser_operand_L2
 | 0 => ((fun _ _ _ _ _ _ _ => none), (fun _ _ _ _ _ => none))
 | n + 1 => (impl_parser_operand_L2.g (rec_impl_parser_operand_L2 n), impl_parser_line_L2.g (rec_impl_parser_operand_L2 n))
theorem good_impl_parser_operand_L2 : ∀ n, Gd_impl_parser_operand_L2 (rec_impl_parser_operand_L2 n)
 | 0 => ⟨con_none (fun l K => by show impl_parser_operand_L2.runz (fun _ _ _ _ _ _ _ => none) l K = none; unfold impl_parser_operand_L2.runz; split <;> rfl), con_none (fun l K => by show impl_parser_line_L2.runz (fun _ _ _ _ _ => none) l K = none; unfold impl_parser_line_L2.runz; split <;> rfl)⟩
 | n + 1 => ⟨impl_parser_operand_L2.ok _ (good_impl_parser_operand_L2 n), impl_parser_line_L2.ok _ (good_impl_parser_operand_L2 n)⟩
namespace impl_parser_operand_L2
noncomputable def gn (n : Nat) (a1 a2 : Int) (a3 a4 : List (List Cl)) (a5 : Int) (a6 : Bool) (R : Int → List (List Cl) → Int → List (List Cl) → Bool → Option Res) : Option Res := (rec_impl_parser_operand_L2 n).1 a1 a2 a3 a4 a5 a6 R
theorem Gx : ∃ x : T, x = gn fuel := ⟨_, rfl⟩
noncomputable def G : T := Classical.choose Gx
theorem Ge : G = gn fuel := Classical.choose_spec Gx
theorem gn_succ (n : Nat) (a1 a2 : Int) (a3 a4 : List (List Cl)) (a5 : Int) (a6 : Bool) (R : Int → List (List Cl) → Int → List (List Cl) → Bool → Option Res) : gn (n + 1) a1 a2 a3 a4 a5 a6 R = g (rec_impl_parser_operand_L2 n) a1 a2 a3 a4 a5 a6 R := rfl
noncomputable def con : FuncId × St × (List Lf → (Res → Option Res) → Option Res) := conz G
theorem okG : Con Go.Proofs.Try.prog con := by
 unfold con; rw [Ge]; exact (good_impl_parser_operand_L2 fuel).1
end impl_parser_operand_L2
namespace impl_parser_line_L2
noncomputable def gn (n : Nat) (a1 a2 : List (List Cl)) (a3 : Int) (a4 : Bool) (R : Int → List (List Cl) → Int → List (List Cl) → Bool → Option Res) : Option Res := (rec_impl_parser_operand_L2 n).2 a1 a2 a3 a4 R
theorem Gx : ∃ x : T, x = gn fuel := ⟨_, rfl⟩
noncomputable def G : T := Classical.choose Gx
theorem Ge : G = gn fuel := Classical.choose_spec Gx
theorem gn_succ (n : Nat) (a1 a2 : List (List Cl)) (a3 : Int) (a4 : Bool) (R : Int → List (List Cl) → Int → List (List Cl) → Bool → Option Res) : gn (n + 1) a1 a2 a3 a4 R = g (rec_impl_parser_operand_L2 n) a1 a2 a3 a4 R := rfl
noncomputable def con : FuncId × St × (List Lf → (Res → Option Res) → Option Res) := conz G
theorem okG : Con Go.Proofs.Try.prog con := by
 unfold con; rw [Ge]; exact (good_impl_parser_operand_L2 fuel).2
end impl_parser_line_L2
-- END GROUP
-- GROUP impl_parser_operand impl_parser_line
namespace impl_parser_operand
noncomputable def c : Code := bodyOf Go.Proofs.Try.f94
noncomputable def fi : Fin := ⟨Γ0, [(.tmp 6, 3)], [[1]], [false], [([.sl [.int .i64, .int .i64] 16, .int .i64, .sl [.int .i64, .int .i64, .int .i64, .int .i64, .int .i64, .int .i64, .ints .i64] 72, .bool], [0, 1, 1, 1])], []⟩
noncomputable def m (r1 : Int) (r2 : List (List Cl)) (r3 : Int) (r4 : List (List Cl)) (r5 : Bool) : Res := ⟨[⟨false, [.int .i64 r1]⟩], [none], [⟨[.int .i64, .int .i64, .int .i64, .int .i64, .int .i64, .int .i64, .ints .i64], .cells r4, false, 0, none⟩], [[.tr 2 2 [.int .i64, .int .i64] (.cells r2), .int .i64 r3, .ow 1000, .bool r5]], []⟩
abbrev T : Type := Int → Int → List (List Cl) → List (List Cl) → Int → Bool → (Int → List (List Cl) → Int → List (List Cl) → Bool → Option Res) → Option Res
noncomputable def runz (h : T) : List Lf → (Res → Option Res) → Option Res
 | [.i a1, .i a2, .q (.cells a3), .q (.cells a4), .i a5, .b a6], K => h a1 a2 a3 a4 a5 a6 (fun r1 r2 r3 r4 r5 => K (m r1 r2 r3 r4 r5))
 | _, _ => none
noncomputable def a (a1 a2 : Int) (a3 a4 : List (List Cl)) (a5 : Int) (a6 : Bool) : St := argSt [one (.bp 0 0), one (.int .i64 a1), one (.int .i64 a2)] [⟨[.int .i64, .int .i64, .int .i64, .int .i64, .int .i64, .int .i64, .ints .i64], .cells a3, true, 0, none⟩] [[.tr 2 2 [.int .i64, .int .i64] (.cells a4), .int .i64 a5, .ow 0, .bool a6]]
noncomputable def conz (h : T) : FuncId × St × (List Lf → (Res → Option Res) → Option Res) := (94, a 0 0 [] [] 0 false, runz h)
end impl_parser_operand
namespace impl_parser_line
noncomputable def c : Code := bodyOf Go.Proofs.Try.f52
noncomputable def fi : Fin := ⟨Γ0, [(.tmp 2, 3)], [[1]], [false], [([.sl [.int .i64, .int .i64] 16, .int .i64, .sl [.int .i64, .int .i64, .int .i64, .int .i64, .int .i64, .int .i64, .ints .i64] 72, .bool], [0, 1, 11, 1])], []⟩
noncomputable def m (r1 : Int) (r2 : List (List Cl)) (r3 : Int) (r4 : List (List Cl)) (r5 : Bool) : Res := ⟨[⟨false, [.int .i64 r1]⟩], [none], [⟨[.int .i64, .int .i64, .int .i64, .int .i64, .int .i64, .int .i64, .ints .i64], .cells r4, false, 0, none⟩], [[.tr 2 2 [.int .i64, .int .i64] (.cells r2), .int .i64 r3, .ow 1000, .bool r5]], []⟩
abbrev T : Type := List (List Cl) → List (List Cl) → Int → Bool → (Int → List (List Cl) → Int → List (List Cl) → Bool → Option Res) → Option Res
noncomputable def runz (h : T) : List Lf → (Res → Option Res) → Option Res
 | [.q (.cells a1), .q (.cells a2), .i a3, .b a4], K => h a1 a2 a3 a4 (fun r1 r2 r3 r4 r5 => K (m r1 r2 r3 r4 r5))
 | _, _ => none
noncomputable def a (a1 a2 : List (List Cl)) (a3 : Int) (a4 : Bool) : St := argSt [one (.bp 0 0)] [⟨[.int .i64, .int .i64, .int .i64, .int .i64, .int .i64, .int .i64, .ints .i64], .cells a1, true, 0, none⟩] [[.tr 2 2 [.int .i64, .int .i64] (.cells a2), .int .i64 a3, .ow 0, .bool a4]]
noncomputable def conz (h : T) : FuncId × St × (List Lf → (Res → Option Res) → Option Res) := (52, a [] [] 0 false, runz h)
end impl_parser_line
abbrev Z_impl_parser_operand : Type := impl_parser_operand.T × impl_parser_line.T
def Gd_impl_parser_operand (z : Z_impl_parser_operand) : Prop := Con Go.Proofs.Try.prog (impl_parser_operand.conz z.1) ∧ Con Go.Proofs.Try.prog (impl_parser_line.conz z.2)
namespace impl_parser_operand
noncomputable def b1 : Code := codeAt c [1, 1, 0, 1, 0, 1, 1, 1, 0, 1, 0, 1, 0, 0]
noncomputable def s1 (x9 : List (List Cl)) (x10 x11 : Int) (x12 : List (List Cl)) (x13 : List Int) (x14 : List (List Cl)) (x15 : Int) (x16 : Bool) (x17 x18 x19 x20 x21 x22 : Int) : St := ⟨mkT 93 [(0, one (.bp 0 0)), (8, one (.bp 13304 0)), (38, one (.tr 2 2 [.int .i64, .int .i64] (.cells x9))), (39, one (.int .i64 x10)), (40, one (.int .i64 x11))], [(0, ⟨[.int .i64, .int .i64, .int .i64, .int .i64, .int .i64, .int .i64, .ints .i64], .cells x12, true, 0, none⟩), (13302, ⟨[.int .i64], .ints x13, true, 0, none⟩)], [(0, [.tr 2 2 [.int .i64, .int .i64] (.cells x14), .int .i64 x15, .ow 0, .bool x16]), (13304, [.int .i64 x17, .int .i64 x18, .int .i64 x19, .int .i64 x20, .int .i64 x21, .int .i64 x22, .ow 13302])]⟩
noncomputable def l1s (x9 : List (List Cl)) (x10 : Int) (x12 x14 : List (List Cl)) (x15 : Int) (x16 : Bool) (x17 x18 x19 x20 x21 x22 : Int) (rec : Int → List Int → Option Res) (k : List Int → Option Res) (x11 : Int) (x13 : List Int) : Option Res :=
 bif decide (x11 < x10) then (bif decide (0 ≤ x11) && decide (x11 < (x9.length : Int)) then (bif decide ((x13.length + 1) * 8 ≤ 140737488355328) then rec (IntKind.i64.wrap (x11 + 1)) (x13 ++ ([((x9.getD x11.toNat []).getD 1 (.i 0)).toI] : List Int))
  else none)
  else none)
 else k x13
noncomputable def l1 (x9 : List (List Cl)) (x10 : Int) (x12 x14 : List (List Cl)) (x15 : Int) (x16 : Bool) (x17 x18 x19 x20 x21 x22 : Int) (k : List Int → Option Res) : Nat → Int → List Int → Option Res
 | 0, _, _ => none
 | n + 1, x11, x13 => l1s x9 x10 x12 x14 x15 x16 x17 x18 x19 x20 x21 x22 (fun x11 x13 => l1 x9 x10 x12 x14 x15 x16 x17 x18 x19 x20 x21 x22 k n x11 x13) k x11 x13
noncomputable def o1 (x9 : List (List Cl)) (x10 : Int) (x12 x14 : List (List Cl)) (x15 : Int) (x16 : Bool) (x17 x18 x19 x20 x21 x22 : Int) (y2 : List Int) : St := ⟨mkT 93 [(0, one (.bp 0 0)), (8, one (.bp 13304 0))], [(0, ⟨[.int .i64, .int .i64, .int .i64, .int .i64, .int .i64, .int .i64, .ints .i64], .cells x12, true, 0, none⟩), (13302, ⟨[.int .i64], .ints y2, true, 0, none⟩)], [(0, [.tr 2 2 [.int .i64, .int .i64] (.cells x14), .int .i64 x15, .ow 0, .bool x16]), (13304, [.int .i64 x17, .int .i64 x18, .int .i64 x19, .int .i64 x20, .int .i64 x21, .int .i64 x22, .ow 13302])]⟩
noncomputable def p1 (K : Res → Option Res) : List Lf → (St → Option Res) → Option Res
 | [.q (.cells x9), .i x10, .i x11, .q (.cells x12), .q (.ints x13), .q (.cells x14), .i x15, .b x16, .i x17, .i x18, .i x19, .i x20, .i x21, .i x22], k => l1 x9 x10 x12 x14 x15 x16 x17 x18 x19 x20 x21 x22 (fun y2 => k (o1 x9 x10 x12 x14 x15 x16 x17 x18 x19 x20 x21 x22 y2)) fuel x11 x13
 | _, _ => none
noncomputable def os (z : Z_impl_parser_operand) : List (FuncId × St × (List Lf → (Res → Option Res) → Option Res)) := [impl_parser_put.con, impl_parser_line.conz z.2]
noncomputable def X (z : Z_impl_parser_operand) (K : Res → Option Res) : Ctx := { Γ := Γ0, orc := orcOf (os z), io := [(91, [⟨false, 0, 1⟩, ⟨false, 2, 1⟩])], share := [], opn := [], shr := [], bun := [], cut := [], own := [(6, 0, 6, [.int .i64])], cin := [(1, ⟨[0, 8, 38, 39, 40], [(0, 0), (13302, 13302), (21560, 13302)], [0, 13304], [], [], []⟩)], cout := [(1, ⟨[0, 8], [(0, 0), (13302, 13302)], [0, 13304], [], [], []⟩)], lp := lpOf [(1, s1 [] 0 0 [] [] [] 0 false 0 0 0 0 0 0, p1 K)], kl := Env.kl, nk := true, eqs := eqs0, byt := byt0, fin := finK fi K }
noncomputable def g (z : Z_impl_parser_operand) (a1 a2 : Int) (a3 a4 : List (List Cl)) (a5 : Int) (a6 : Bool) (R : Int → List (List Cl) → Int → List (List Cl) → Bool → Option Res) : Option Res :=
 bif decide (0 ≤ a1) && decide (a1 < (a4.length : Int)) then (bif (((a4.getD a1.toNat []).getD 0 (.i 0)).toI == 2) then (impl_parser_put.g 2 (((a4.getD a1.toNat []).getD 1 (.i 0)).toI) 0 0 0 0 ([] : List Int) a3 a4 a5 a6 fun r7 r8 =>
  R r7 a4 a5 r8 a6)
  else bif (((a4.getD a1.toNat []).getD 0 (.i 0)).toI == 1) then (bif decide (0 ≤ a1) && decide (a1 ≤ a2) && decide (a2 ≤ (a4.length : Int)) then (l1 ((a4.drop a1.toNat).take (a2.toNat - a1.toNat)) (((a4.drop a1.toNat).take (a2.toNat - a1.toNat)).length : Int) a3 a4 a5 a6 1 0 0 0 0 0 (fun y23 =>
   impl_parser_put.g 1 0 0 0 0 0 y23 a3 a4 a5 a6 fun r24 r25 =>
   R r24 a4 a5 r25 a6) fuel 0 ([] : List Int))
   else none)
  else bif decide (0 ≤ IntKind.i64.wrap (a2 - 1)) && decide (IntKind.i64.wrap (a2 - 1) ≤ (a4.length : Int)) then (z.2 a3 (a4.take ((IntKind.i64.wrap (a2 - 1)).toNat)) (IntKind.i64.wrap (a1 + 1)) false fun r26 r27 r28 r29 r30 =>
   bif a6 then R r26 a4 a5 r29 true
   else R r26 a4 a5 r29 r30)
  else none)
 else none
theorem cx (z : Z_impl_parser_operand) (hz : Gd_impl_parser_operand z) (K : Res → Option Res) : CtxOk Go.Proofs.Try.prog Γ0 byt0 eqs0 (X z K) (os z) := ⟨rfl, rfl, rfl, (fun p hp => by
 rcases List.mem_cons.1 hp with rfl | hp
 ·exact impl_parser_put.ok
 rcases List.mem_cons.1 hp with rfl | hp
 ·exact hz.2
 cases hp), rfl, rfl, rfl⟩
theorem t1 (z : Z_impl_parser_operand) (K : Res → Option Res) (k : St → Option Res) (it : St → (St → Option Res) → Option Res) (x9 : List (List Cl)) (x10 x11 : Int) (x12 : List (List Cl)) (x13 : List Int) (x14 : List (List Cl)) (x15 : Int) (x16 : Bool) (x17 x18 x19 x20 x21 x22 : Int) : iterS (X z K) 1 b1 it (s1 x9 x10 x11 x12 x13 x14 x15 x16 x17 x18 x19 x20 x21 x22) k = l1s x9 x10 x12 x14 x15 x16 x17 x18 x19 x20 x21 x22 (fun x11 x13 => it (s1 x9 x10 x11 x12 x13 x14 x15 x16 x17 x18 x19 x20 x21 x22) k) (fun y2 => k (o1 x9 x10 x12 x14 x15 x16 x17 x18 x19 x20 x21 x22 y2)) x11 x13 := by kernel_rfl
theorem i1 (z : Z_impl_parser_operand) (K : Res → Option Res) (k : St → Option Res) (x9 : List (List Cl)) (x10 : Int) (x12 x14 : List (List Cl)) (x15 : Int) (x16 : Bool) (x17 x18 x19 x20 x21 x22 : Int) : ∀ (n : Nat) (x11 : Int) (x13 : List Int), iter (X z K) 1 b1 n (s1 x9 x10 x11 x12 x13 x14 x15 x16 x17 x18 x19 x20 x21 x22) k = l1 x9 x10 x12 x14 x15 x16 x17 x18 x19 x20 x21 x22 (fun y2 => k (o1 x9 x10 x12 x14 x15 x16 x17 x18 x19 x20 x21 x22 y2)) n x11 x13
 | 0, _, _ => rfl
 | n + 1, x11, x13 => by
  rw [iter_succ, t1 z, show (fun x11 x13 => iter (X z K) 1 b1 n (s1 x9 x10 x11 x12 x13 x14 x15 x16 x17 x18 x19 x20 x21 x22) k) = (fun x11 x13 => l1 x9 x10 x12 x14 x15 x16 x17 x18 x19 x20 x21 x22 (fun y2 => k (o1 x9 x10 x12 x14 x15 x16 x17 x18 x19 x20 x21 x22 y2)) n x11 x13) from funext fun x11 => funext fun x13 => i1 z K k x9 x10 x12 x14 x15 x16 x17 x18 x19 x20 x21 x22 n x11 x13]; rfl
theorem v1 {K : Res → Option Res} {l : List Lf} {k : St → Option Res} {r : Res} (h : p1 K l k = some r) : ∃ x9 x10 x11 x12 x13 x14 x15 x16 x17 x18 x19 x20 x21 x22, l = [.q (.cells x9), .i x10, .i x11, .q (.cells x12), .q (.ints x13), .q (.cells x14), .i x15, .b x16, .i x17, .i x18, .i x19, .i x20, .i x21, .i x22] ∧ l1 x9 x10 x12 x14 x15 x16 x17 x18 x19 x20 x21 x22 (fun y2 => k (o1 x9 x10 x12 x14 x15 x16 x17 x18 x19 x20 x21 x22 y2)) fuel x11 x13 = some r := by
 unfold p1 at h; split at h
 ·exact ⟨_, _, _, _, _, _, _, _, _, _, _, _, _, _, rfl, h⟩
 ·cases h
theorem w1 (z : Z_impl_parser_operand) (hz : Gd_impl_parser_operand z) (K : Res → Option Res) : LpSound Go.Proofs.Try.prog (X z K) 1 b1 := lp_ok (((cx z hz) K).ok laid) (by rw [show loopsOf b1 = [] from by kernel_rfl]; intro p hp; cases hp) rfl fun p hp hid => by
 rcases List.mem_cons.1 hp with rfl | hp
 ·intro st k r h1 h2; obtain ⟨x9, x10, x11, x12, x13, x14, x15, x16, x17, x18, x19, x20, x21, x22, e, h⟩ := v1 (K := K) h2; have := St.like_eq (y := s1 x9 x10 x11 x12 x13 x14 x15 x16 x17 x18 x19 x20 x21 x22) h1 (by kernel_rfl) e; subst this; exact ⟨fuel, (i1 z K k x9 x10 x12 x14 x15 x16 x17 x18 x19 x20 x21 x22 fuel x11 x13).trans h⟩
 cases hp
theorem tie (z : Z_impl_parser_operand) (K : Res → Option Res) (a1 a2 : Int) (a3 a4 : List (List Cl)) (a5 : Int) (a6 : Bool) : exec (X z K) c (entry 93 [one (.bp 0 0), one (.int .i64 a1), one (.int .i64 a2)] [⟨[.int .i64, .int .i64, .int .i64, .int .i64, .int .i64, .int .i64, .ints .i64], .cells a3, true, 0, none⟩] [[.tr 2 2 [.int .i64, .int .i64] (.cells a4), .int .i64 a5, .ow 0, .bool a6]]) (endK (X z K)) = (g z) a1 a2 a3 a4 a5 a6 (fun r1 r2 r3 r4 r5 => K (m r1 r2 r3 r4 r5)) := by kernel_rfl
theorem runv (z : Z_impl_parser_operand) {l : List Lf} {K : Res → Option Res} {r : Res} (h : runz (g z) l K = some r) : ∃ a1 a2 a3 a4 a5 a6, l = [.i a1, .i a2, .q (.cells a3), .q (.cells a4), .i a5, .b a6] ∧ (g z) a1 a2 a3 a4 a5 a6 (fun r1 r2 r3 r4 r5 => K (m r1 r2 r3 r4 r5)) = some r := by
 unfold runz at h; split at h
 ·exact ⟨_, _, _, _, _, _, rfl, h⟩
 ·cases h
theorem ok (z : Z_impl_parser_operand) (hz : Gd_impl_parser_operand z) : Con Go.Proofs.Try.prog (conz (g z)) := con_of (fn := Go.Proofs.Try.f94) (c := c) (Fi := fi) (X := X z) (fun_of laid (by kernel_rfl) (by kernel_rfl) (by kernel_rfl) rfl (by kernel_rfl) (by kernel_rfl) (cx z hz) (fun _ => rfl) (fun _ => rfl) (fun K => by
 rw [show loopsOf c = [(1, b1)] from by kernel_rfl]; intro p hp
 rcases List.mem_cons.1 hp with rfl | hp
 ·exact w1 z hz K
 cases hp)) fun xs rows boxes K r hl hr => by
 obtain ⟨a1, a2, a3, a4, a5, a6, e, h⟩ := runv z hr
 have := St.like_eq (y := a a1 a2 a3 a4 a5 a6) hl (by kernel_rfl) e
 obtain ⟨rfl, rfl, rfl⟩ := argSt_inj this
 exact (tie z K a1 a2 a3 a4 a5 a6).trans h
end impl_parser_operand
namespace impl_parser_line
noncomputable def os (z : Z_impl_parser_operand) : List (FuncId × St × (List Lf → (Res → Option Res) → Option Res)) := [impl_parser_kind.con, impl_parser_line.conz z.2, impl_parser_put_L2.con, impl_parser_function.con, impl_FunOne.con, impl_parser_operandEnd.con, impl_parser_operand.conz z.1, impl_FunTwo.con, impl_parser_operand_L2.con]
noncomputable def X (z : Z_impl_parser_operand) (K : Res → Option Res) : Ctx := { Γ := Γ0, orc := orcOf (os z), io := [(91, [⟨false, 0, 1⟩, ⟨false, 2, 1⟩])], share := [], opn := [], shr := [], bun := [], cut := [], own := [], cin := [], cout := [], lp := lpOf [], kl := Env.kl, nk := true, eqs := eqs0, byt := byt0, fin := finK fi K }
noncomputable def g (z : Z_impl_parser_operand) (a1 a2 : List (List Cl)) (a3 : Int) (a4 : Bool) (R : Int → List (List Cl) → Int → List (List Cl) → Bool → Option Res) : Option Res :=
 bif a4 then R 0 a2 a3 a1 true
 else bif decide ((a2.length : Int) ≤ a3) then R 0 a2 a3 a1 true
 else (impl_parser_kind.g 0 a1 a2 a3 a4 fun r5 =>
 bif (r5 == 2) then (impl_parser_kind.g 1 a1 a2 a3 a4 fun r6 =>
  bif (r6 == 6) then (bif decide (0 ≤ a3) && decide (a3 < (a2.length : Int)) then (z.2 a1 a2 (IntKind.i64.wrap (a3 + 2)) a4 fun r7 r8 r9 r10 r11 =>
   impl_parser_put_L2.g 3 (((a2.getD a3.toNat []).getD 1 (.i 0)).toI) r7 0 0 0 ([] : List Int) r10 r8 r9 r11 fun r12 r13 =>
   R r12 r8 r9 r13 r11)
   else none)
  else (impl_parser_kind.g 0 a1 a2 a3 a4 fun r14 =>
  bif (r14 == 3) then (impl_parser_function.g a1 a2 a3 a4 fun r15 r16 r17 r18 r19 =>
   z.2 a1 a2 r18 r19 fun r20 r21 r22 r23 r24 =>
   bif r24 then (impl_parser_put_L2.g 4 0 r20 r15 r16 r17 ([] : List Int) r23 r21 r22 true fun r25 r26 =>
    R r25 r21 r22 r26 true)
   else (impl_FunOne.g r15 r16 r17 fun r27 =>
   impl_parser_put_L2.g 4 0 r20 r15 r16 r17 ([] : List Int) r23 r21 r22 (!r27) fun r28 r29 =>
   R r28 r21 r22 r29 (!r27)))
  else (impl_parser_operandEnd.g a1 a2 a3 a4 fun r30 r31 r32 r33 r34 r35 =>
  bif !r31 then R 0 r33 r34 r32 true
  else bif (r30 == (r33.length : Int)) then (z.1 a3 r30 r32 r33 r34 r35 fun r36 r37 r38 r39 r40 =>
   R r36 r37 r38 r39 r40)
  else (impl_parser_function.g r32 r33 r30 r35 fun r41 r42 r43 r44 r45 =>
  z.2 r32 r33 r44 r45 fun r46 r47 r48 r49 r50 =>
  bif r50 then R 0 r47 r48 r49 true
  else (impl_FunTwo.g r41 r42 r43 fun r51 =>
  bif !r51 then R 0 r47 r48 r49 (!r51)
  else (impl_parser_operand_L2.G a3 r30 r49 r47 r48 (!r51) fun r52 r53 r54 r55 r56 =>
  impl_parser_put_L2.g 5 r52 r46 r41 r42 r43 ([] : List Int) r55 r53 r54 r56 fun r57 r58 =>
  R r57 r53 r54 r58 r56))))))
 else (impl_parser_kind.g 0 a1 a2 a3 a4 fun r59 =>
 bif (r59 == 3) then (impl_parser_function.g a1 a2 a3 a4 fun r60 r61 r62 r63 r64 =>
  z.2 a1 a2 r63 r64 fun r65 r66 r67 r68 r69 =>
  bif r69 then (impl_parser_put_L2.g 4 0 r65 r60 r61 r62 ([] : List Int) r68 r66 r67 true fun r70 r71 =>
   R r70 r66 r67 r71 true)
  else (impl_FunOne.g r60 r61 r62 fun r72 =>
  impl_parser_put_L2.g 4 0 r65 r60 r61 r62 ([] : List Int) r68 r66 r67 (!r72) fun r73 r74 =>
  R r73 r66 r67 r74 (!r72)))
 else (impl_parser_operandEnd.g a1 a2 a3 a4 fun r75 r76 r77 r78 r79 r80 =>
 bif !r76 then R 0 r78 r79 r77 true
 else bif (r75 == (r78.length : Int)) then (z.1 a3 r75 r77 r78 r79 r80 fun r81 r82 r83 r84 r85 =>
  R r81 r82 r83 r84 r85)
 else (impl_parser_function.g r77 r78 r75 r80 fun r86 r87 r88 r89 r90 =>
 z.2 r77 r78 r89 r90 fun r91 r92 r93 r94 r95 =>
 bif r95 then R 0 r92 r93 r94 true
 else (impl_FunTwo.g r86 r87 r88 fun r96 =>
 bif !r96 then R 0 r92 r93 r94 (!r96)
 else (impl_parser_operand_L2.G a3 r75 r94 r92 r93 (!r96) fun r97 r98 r99 r100 r101 =>
 impl_parser_put_L2.g 5 r97 r91 r86 r87 r88 ([] : List Int) r100 r98 r99 r101 fun r102 r103 =>
 R r102 r98 r99 r103 r101))))))
theorem cx (z : Z_impl_parser_operand) (hz : Gd_impl_parser_operand z) (K : Res → Option Res) : CtxOk Go.Proofs.Try.prog Γ0 byt0 eqs0 (X z K) (os z) := ⟨rfl, rfl, rfl, (fun p hp => by
 rcases List.mem_cons.1 hp with rfl | hp
 ·exact impl_parser_kind.ok
 rcases List.mem_cons.1 hp with rfl | hp
 ·exact hz.2
 rcases List.mem_cons.1 hp with rfl | hp
 ·exact impl_parser_put_L2.ok
 rcases List.mem_cons.1 hp with rfl | hp
 ·exact impl_parser_function.ok
 rcases List.mem_cons.1 hp with rfl | hp
 ·exact impl_FunOne.ok
 rcases List.mem_cons.1 hp with rfl | hp
 ·exact impl_parser_operandEnd.ok
 rcases List.mem_cons.1 hp with rfl | hp
 ·exact hz.1
 rcases List.mem_cons.1 hp with rfl | hp
 ·exact impl_FunTwo.ok
 rcases List.mem_cons.1 hp with rfl | hp
 ·exact impl_parser_operand_L2.okG
 cases hp), rfl, rfl, rfl⟩
theorem tie (z : Z_impl_parser_operand) (K : Res → Option Res) (a1 a2 : List (List Cl)) (a3 : Int) (a4 : Bool) : exec (X z K) c (entry 148 [one (.bp 0 0)] [⟨[.int .i64, .int .i64, .int .i64, .int .i64, .int .i64, .int .i64, .ints .i64], .cells a1, true, 0, none⟩] [[.tr 2 2 [.int .i64, .int .i64] (.cells a2), .int .i64 a3, .ow 0, .bool a4]]) (endK (X z K)) = (g z) a1 a2 a3 a4 (fun r1 r2 r3 r4 r5 => K (m r1 r2 r3 r4 r5)) := by kernel_rfl
theorem runv (z : Z_impl_parser_operand) {l : List Lf} {K : Res → Option Res} {r : Res} (h : runz (g z) l K = some r) : ∃ a1 a2 a3 a4, l = [.q (.cells a1), .q (.cells a2), .i a3, .b a4] ∧ (g z) a1 a2 a3 a4 (fun r1 r2 r3 r4 r5 => K (m r1 r2 r3 r4 r5)) = some r := by
 unfold runz at h; split at h
 ·exact ⟨_, _, _, _, rfl, h⟩
 ·cases h
theorem ok (z : Z_impl_parser_operand) (hz : Gd_impl_parser_operand z) : Con Go.Proofs.Try.prog (conz (g z)) := con_of (fn := Go.Proofs.Try.f52) (c := c) (Fi := fi) (X := X z) (fun_of laid (by kernel_rfl) (by kernel_rfl) (by kernel_rfl) rfl (by kernel_rfl) (by kernel_rfl) (cx z hz) (fun _ => rfl) (fun _ => rfl) (fun K => by
 rw [show loopsOf c = [] from by kernel_rfl]; intro p hp
 cases hp)) fun xs rows boxes K r hl hr => by
 obtain ⟨a1, a2, a3, a4, e, h⟩ := runv z hr
 have := St.like_eq (y := a a1 a2 a3 a4) hl (by kernel_rfl) e
 obtain ⟨rfl, rfl, rfl⟩ := argSt_inj this
 exact (tie z K a1 a2 a3 a4).trans h
end impl_parser_line
noncomputable def rec_impl_parser_operand : Nat → Z_impl_parser_operand
 | 0 => ((fun _ _ _ _ _ _ _ => none), (fun _ _ _ _ _ => none))
 | n + 1 => (impl_parser_operand.g (rec_impl_parser_operand n), impl_parser_line.g (rec_impl_parser_operand n))
theorem good_impl_parser_operand : ∀ n, Gd_impl_parser_operand (rec_impl_parser_operand n)
 | 0 => ⟨con_none (fun l K => by show impl_parser_operand.runz (fun _ _ _ _ _ _ _ => none) l K = none; unfold impl_parser_operand.runz; split <;> rfl), con_none (fun l K => by show impl_parser_line.runz (fun _ _ _ _ _ => none) l K = none; unfold impl_parser_line.runz; split <;> rfl)⟩
 | n + 1 => ⟨impl_parser_operand.ok _ (good_impl_parser_operand n), impl_parser_line.ok _ (good_impl_parser_operand n)⟩
namespace impl_parser_operand
noncomputable def gn (n : Nat) (a1 a2 : Int) (a3 a4 : List (List Cl)) (a5 : Int) (a6 : Bool) (R : Int → List (List Cl) → Int → List (List Cl) → Bool → Option Res) : Option Res := (rec_impl_parser_operand n).1 a1 a2 a3 a4 a5 a6 R
theorem Gx : ∃ x : T, x = gn fuel := ⟨_, rfl⟩
noncomputable def G : T := Classical.choose Gx
theorem Ge : G = gn fuel := Classical.choose_spec Gx
theorem gn_succ (n : Nat) (a1 a2 : Int) (a3 a4 : List (List Cl)) (a5 : Int) (a6 : Bool) (R : Int → List (List Cl) → Int → List (List Cl) → Bool → Option Res) : gn (n + 1) a1 a2 a3 a4 a5 a6 R = g (rec_impl_parser_operand n) a1 a2 a3 a4 a5 a6 R := rfl
noncomputable def con : FuncId × St × (List Lf → (Res → Option Res) → Option Res) := conz G
theorem okG : Con Go.Proofs.Try.prog con := by
 unfold con; rw [Ge]; exact (good_impl_parser_operand fuel).1
end impl_parser_operand
namespace impl_parser_line
noncomputable def gn (n : Nat) (a1 a2 : List (List Cl)) (a3 : Int) (a4 : Bool) (R : Int → List (List Cl) → Int → List (List Cl) → Bool → Option Res) : Option Res := (rec_impl_parser_operand n).2 a1 a2 a3 a4 R
theorem Gx : ∃ x : T, x = gn fuel := ⟨_, rfl⟩
noncomputable def G : T := Classical.choose Gx
theorem Ge : G = gn fuel := Classical.choose_spec Gx
theorem gn_succ (n : Nat) (a1 a2 : List (List Cl)) (a3 : Int) (a4 : Bool) (R : Int → List (List Cl) → Int → List (List Cl) → Bool → Option Res) : gn (n + 1) a1 a2 a3 a4 R = g (rec_impl_parser_operand n) a1 a2 a3 a4 R := rfl
noncomputable def con : FuncId × St × (List Lf → (Res → Option Res) → Option Res) := conz G
theorem okG : Con Go.Proofs.Try.prog con := by
 unfold con; rw [Ge]; exact (good_impl_parser_operand fuel).2
end impl_parser_line
-- END GROUP
namespace impl_Parse
noncomputable def c : Code := bodyOf Go.Proofs.Try.f25
noncomputable def fi : Fin := ⟨Γ0, [(.cell 2 53, 53), (.tmp 3, 3)], [[9], [1]], [], [], []⟩
noncomputable def m (r1 : List (List Cl)) (r2 : Int) : Res := ⟨[⟨true, [.ow 1000]⟩, ⟨false, [.int .i64 r2]⟩], [], [⟨[.int .i64, .int .i64, .int .i64, .int .i64, .int .i64, .int .i64, .ints .i64], .cells r1, false, 0, none⟩], [], []⟩
noncomputable def os : List (FuncId × St × (List Lf → (Res → Option Res) → Option Res)) := [impl_tokensOk.con, impl_parser_line.con]
noncomputable def X (K : Res → Option Res) : Ctx := { Γ := Γ0, orc := orcOf os, io := [], share := [], opn := [], shr := [], bun := [], cut := [], own := [(3, 1, 2, [.int .i64, .int .i64, .int .i64, .int .i64, .int .i64, .int .i64, .ints .i64])], cin := [], cout := [], lp := lpOf [], kl := Env.kl, nk := true, eqs := eqs0, byt := byt0, fin := finK fi K }
noncomputable def b (a1 : List (List Cl)) (R : List (List Cl) → Int → Option Res) : Option Res :=
 impl_tokensOk.g a1 fun r2 =>
 bif !r2 then R ([] : List (List Cl)) 1
 else (impl_parser_line.G ([] : List (List Cl)) a1 0 false fun r3 r4 r5 r6 r7 =>
 bif r7 then R ([] : List (List Cl)) 8
 else bif decide (60 < (r6.length : Int)) then R ([] : List (List Cl)) 6
 else R r6 0)
theorem gx : ∃ x : List (List Cl) → (List (List Cl) → Int → Option Res) → Option Res, x = b := ⟨_, rfl⟩
noncomputable def g : List (List Cl) → (List (List Cl) → Int → Option Res) → Option Res := Classical.choose gx
theorem e : g = b := Classical.choose_spec gx
noncomputable def run : List Lf → (Res → Option Res) → Option Res
 | [.q (.cells a1)], K => g a1 (fun r1 r2 => K (m r1 r2))
 | _, _ => none
noncomputable def a (a1 : List (List Cl)) : St := argSt [one (.tr 2 2 [.int .i64, .int .i64] (.cells a1))] [] []
noncomputable def con : FuncId × St × (List Lf → (Res → Option Res) → Option Res) := (25, a [], run)
theorem cx (K : Res → Option Res) : CtxOk Go.Proofs.Try.prog Γ0 byt0 eqs0 (X K) os := ⟨rfl, rfl, rfl, (fun p hp => by
 rcases List.mem_cons.1 hp with rfl | hp
 ·exact impl_tokensOk.ok
 rcases List.mem_cons.1 hp with rfl | hp
 ·exact impl_parser_line.okG
 cases hp), rfl, rfl, rfl⟩
theorem tie (K : Res → Option Res) (a1 : List (List Cl)) : exec (X K) c (entry 33 [one (.tr 2 2 [.int .i64, .int .i64] (.cells a1))] [] []) (endK (X K)) = g a1 (fun r1 r2 => K (m r1 r2)) := Eq.trans (b := b a1 (fun r1 r2 => K (m r1 r2))) (by kernel_rfl) (by rw [e])
theorem runv {l : List Lf} {K : Res → Option Res} {r : Res} (h : run l K = some r) : ∃ a1, l = [.q (.cells a1)] ∧ g a1 (fun r1 r2 => K (m r1 r2)) = some r := by
 unfold run at h; split at h
 ·exact ⟨_, rfl, h⟩
 ·cases h
theorem ok : Con Go.Proofs.Try.prog con := con_of (fn := Go.Proofs.Try.f25) (c := c) (Fi := fi) (X := X) (fun_of laid (by kernel_rfl) (by kernel_rfl) (by kernel_rfl) rfl (by kernel_rfl) (by kernel_rfl) cx (fun _ => rfl) (fun _ => rfl) (fun K => by
 rw [show loopsOf c = [] from by kernel_rfl]; intro p hp
 cases hp)) fun xs rows boxes K r hl hr => by
 obtain ⟨a1, e, h⟩ := runv hr
 have := St.like_eq (y := a a1) hl (by kernel_rfl) e
 obtain ⟨rfl, rfl, rfl⟩ := argSt_inj this
 exact (tie K a1).trans h
end impl_Parse
namespace impl_numsOk_1
noncomputable def c : Code := bodyOf Go.Proofs.Try.f108
noncomputable def fi : Fin := ⟨Γ0, [(.tmp 2, 4)], [[1]], [], [], []⟩
noncomputable def m (r1 : Bool) : Res := ⟨[⟨false, [.bool r1]⟩], [], [], [], []⟩
noncomputable def os : List (FuncId × St × (List Lf → (Res → Option Res) → Option Res)) := [impl_NumOk.con]
noncomputable def X (K : Res → Option Res) : Ctx := { Γ := Γ0, orc := orcOf os, io := [], share := [], opn := [], shr := [], bun := [], cut := [], own := [], cin := [], cout := [], lp := lpOf [], kl := Env.kl, nk := true, eqs := eqs0, byt := byt0, fin := finK fi K }
noncomputable def b (a1 : Int) (R : Bool → Option Res) : Option Res :=
 impl_NumOk.g a1 fun r2 =>
 R (!r2)
theorem gx : ∃ x : Int → (Bool → Option Res) → Option Res, x = b := ⟨_, rfl⟩
noncomputable def g : Int → (Bool → Option Res) → Option Res := Classical.choose gx
theorem e : g = b := Classical.choose_spec gx
noncomputable def run : List Lf → (Res → Option Res) → Option Res
 | [.i a1], K => g a1 (fun r1 => K (m r1))
 | _, _ => none
noncomputable def a (a1 : Int) : St := argSt [one (.int .i64 a1)] [] []
noncomputable def con : FuncId × St × (List Lf → (Res → Option Res) → Option Res) := (108, a 0, run)
theorem cx (K : Res → Option Res) : CtxOk Go.Proofs.Try.prog Γ0 byt0 eqs0 (X K) os := ⟨rfl, rfl, rfl, (fun p hp => by
 rcases List.mem_cons.1 hp with rfl | hp
 ·exact impl_NumOk.ok
 cases hp), rfl, rfl, rfl⟩
theorem tie (K : Res → Option Res) (a1 : Int) : exec (X K) c (entry 6 [one (.int .i64 a1)] [] []) (endK (X K)) = g a1 (fun r1 => K (m r1)) := Eq.trans (b := b a1 (fun r1 => K (m r1))) (by kernel_rfl) (by rw [e])
theorem runv {l : List Lf} {K : Res → Option Res} {r : Res} (h : run l K = some r) : ∃ a1, l = [.i a1] ∧ g a1 (fun r1 => K (m r1)) = some r := by
 unfold run at h; split at h
 ·exact ⟨_, rfl, h⟩
 ·cases h
theorem ok : Con Go.Proofs.Try.prog con := con_of (fn := Go.Proofs.Try.f108) (c := c) (Fi := fi) (X := X) (fun_of laid (by kernel_rfl) (by kernel_rfl) (by kernel_rfl) rfl (by kernel_rfl) (by kernel_rfl) cx (fun _ => rfl) (fun _ => rfl) (fun K => by
 rw [show loopsOf c = [] from by kernel_rfl]; intro p hp
 cases hp)) fun xs rows boxes K r hl hr => by
 obtain ⟨a1, e, h⟩ := runv hr
 have := St.like_eq (y := a a1) hl (by kernel_rfl) e
 obtain ⟨rfl, rfl, rfl⟩ := argSt_inj this
 exact (tie K a1).trans h
end impl_numsOk_1
namespace slices_IndexFunc_int_int_i3
noncomputable def c : Code := bodyOf Go.Proofs.Try.f124
noncomputable def fi : Fin := ⟨Γ0, [(.tmp 4, 3)], [[1]], [], [], []⟩
noncomputable def m (r1 : Int) : Res := ⟨[⟨false, [.int .i64 r1]⟩], [], [], [], []⟩
noncomputable def b0 : Code := codeAt c [1, 0, 1, 0, 0]
noncomputable def s0 (x2 : List Int) (x3 x4 : Int) : St := ⟨mkT 19 [(0, one (.tr 0 1 [.int .i64] (.ints x2))), (1, one (.fn 108 [])), (7, one (.int .i64 x3)), (8, one (.int .i64 x4))], [], []⟩
noncomputable def l0s (x2 : List Int) (x3 : Int) (rec : Int → Option Res) (k : Option Res) (R : Int → Option Res) (x4 : Int) : Option Res :=
 bif decide (x4 < x3) then (bif decide (0 ≤ x4) && decide (x4 < (x2.length : Int)) then (impl_numsOk_1.g (x2.getD x4.toNat 0) fun r5 =>
  bif r5 then R x4
  else rec (IntKind.i64.wrap (x4 + 1)))
  else none)
 else k
noncomputable def l0 (x2 : List Int) (x3 : Int) (k : Option Res) (R : Int → Option Res) : Nat → Int → Option Res
 | 0, _ => none
 | n + 1, x4 => l0s x2 x3 (fun x4 => l0 x2 x3 k R n x4) k R x4
noncomputable def o0 (x2 : List Int) (x3 : Int) : St := ⟨mkT 19 [], [], []⟩
noncomputable def p0 (K : Res → Option Res) : List Lf → (St → Option Res) → Option Res
 | [.q (.ints x2), .i x3, .i x4], k => l0 x2 x3 (k (o0 x2 x3)) (fun r1 => K (m r1)) fuel x4
 | _, _ => none
noncomputable def os : List (FuncId × St × (List Lf → (Res → Option Res) → Option Res)) := [impl_numsOk_1.con]
noncomputable def X (K : Res → Option Res) : Ctx := { Γ := Γ0, orc := orcOf os, io := [], share := [], opn := [], shr := [], bun := [], cut := [], own := [], cin := [(0, ⟨[0, 1, 7, 8], [], [], [], [], []⟩)], cout := [(0, ⟨[], [], [], [], [], []⟩)], lp := lpOf [(0, s0 [] 0 0, p0 K)], kl := Env.kl, nk := true, eqs := eqs0, byt := byt0, fin := finK fi K }
noncomputable def b (a1 : List Int) (R : Int → Option Res) : Option Res :=
 l0 a1 (a1.length : Int) (
 R (-1)) R fuel 0
theorem gx : ∃ x : List Int → (Int → Option Res) → Option Res, x = b := ⟨_, rfl⟩
noncomputable def g : List Int → (Int → Option Res) → Option Res := Classical.choose gx
theorem e : g = b := Classical.choose_spec gx
noncomputable def run : List Lf → (Res → Option Res) → Option Res
 | [.q (.ints a1)], K => g a1 (fun r1 => K (m r1))
 | _, _ => none
noncomputable def a (a1 : List Int) : St := argSt [one (.tr 0 1 [.int .i64] (.ints a1)), one (.fn 108 [])] [] []
noncomputable def con : FuncId × St × (List Lf → (Res → Option Res) → Option Res) := (124, a [], run)
theorem cx (K : Res → Option Res) : CtxOk Go.Proofs.Try.prog Γ0 byt0 eqs0 (X K) os := ⟨rfl, rfl, rfl, (fun p hp => by
 rcases List.mem_cons.1 hp with rfl | hp
 ·exact impl_numsOk_1.ok
 cases hp), rfl, rfl, rfl⟩
theorem t0 (K : Res → Option Res) (k : St → Option Res) (it : St → (St → Option Res) → Option Res) (x2 : List Int) (x3 x4 : Int) : iterS (X K) 0 b0 it (s0 x2 x3 x4) k = l0s x2 x3 (fun x4 => it (s0 x2 x3 x4) k) (k (o0 x2 x3)) (fun r1 => K (m r1)) x4 := by kernel_rfl
theorem i0 (K : Res → Option Res) (k : St → Option Res) (x2 : List Int) (x3 : Int) : ∀ (n : Nat) (x4 : Int), iter (X K) 0 b0 n (s0 x2 x3 x4) k = l0 x2 x3 (k (o0 x2 x3)) (fun r1 => K (m r1)) n x4
 | 0, _ => rfl
 | n + 1, x4 => by
  rw [iter_succ, t0, show (fun x4 => iter (X K) 0 b0 n (s0 x2 x3 x4) k) = (fun x4 => l0 x2 x3 (k (o0 x2 x3)) (fun r1 => K (m r1)) n x4) from funext fun x4 => i0 K k x2 x3 n x4]; rfl
theorem v0 {K : Res → Option Res} {l : List Lf} {k : St → Option Res} {r : Res} (h : p0 K l k = some r) : ∃ x2 x3 x4, l = [.q (.ints x2), .i x3, .i x4] ∧ l0 x2 x3 (k (o0 x2 x3)) (fun r1 => K (m r1)) fuel x4 = some r := by
 unfold p0 at h; split at h
 ·exact ⟨_, _, _, rfl, h⟩
 ·cases h
theorem w0 (K : Res → Option Res) : LpSound Go.Proofs.Try.prog (X K) 0 b0 := lp_ok ((cx K).ok laid) (by rw [show loopsOf b0 = [] from by kernel_rfl]; intro p hp; cases hp) rfl fun p hp hid => by
 rcases List.mem_cons.1 hp with rfl | hp
 ·intro st k r h1 h2; obtain ⟨x2, x3, x4, e, h⟩ := v0 (K := K) h2; have := St.like_eq (y := s0 x2 x3 x4) h1 (by kernel_rfl) e; subst this; exact ⟨fuel, (i0 K k x2 x3 fuel x4).trans h⟩
 cases hp
theorem tie (K : Res → Option Res) (a1 : List Int) : exec (X K) c (entry 19 [one (.tr 0 1 [.int .i64] (.ints a1)), one (.fn 108 [])] [] []) (endK (X K)) = g a1 (fun r1 => K (m r1)) := Eq.trans (b := b a1 (fun r1 => K (m r1))) (by kernel_rfl) (by rw [e])
theorem runv {l : List Lf} {K : Res → Option Res} {r : Res} (h : run l K = some r) : ∃ a1, l = [.q (.ints a1)] ∧ g a1 (fun r1 => K (m r1)) = some r := by
 unfold run at h; split at h
 ·exact ⟨_, rfl, h⟩
 ·cases h
theorem ok : Con Go.Proofs.Try.prog con := con_of (fn := Go.Proofs.Try.f124) (c := c) (Fi := fi) (X := X) (fun_of laid (by kernel_rfl) (by kernel_rfl) (by kernel_rfl) rfl (by kernel_rfl) (by kernel_rfl) cx (fun _ => rfl) (fun _ => rfl) (fun K => by
 rw [show loopsOf c = [(0, b0)] from by kernel_rfl]; intro p hp
 rcases List.mem_cons.1 hp with rfl | hp
 ·exact w0 K
 cases hp)) fun xs rows boxes K r hl hr => by
 obtain ⟨a1, e, h⟩ := runv hr
 have := St.like_eq (y := a a1) hl (by kernel_rfl) e
 obtain ⟨rfl, rfl, rfl⟩ := argSt_inj this
 exact (tie K a1).trans h
end slices_IndexFunc_int_int_i3
namespace slices_ContainsFunc_int_int_i3
noncomputable def c : Code := bodyOf Go.Proofs.Try.f107
noncomputable def fi : Fin := ⟨Γ0, [(.tmp 4, 4)], [[1]], [], [], []⟩
noncomputable def m (r1 : Bool) : Res := ⟨[⟨false, [.bool r1]⟩], [], [], [], []⟩
noncomputable def os : List (FuncId × St × (List Lf → (Res → Option Res) → Option Res)) := [slices_IndexFunc_int_int_i3.con]
noncomputable def X (K : Res → Option Res) : Ctx := { Γ := Γ0, orc := orcOf os, io := [], share := [], opn := [], shr := [], bun := [], cut := [], own := [], cin := [], cout := [], lp := lpOf [], kl := Env.kl, nk := true, eqs := eqs0, byt := byt0, fin := finK fi K }
noncomputable def b (a1 : List Int) (R : Bool → Option Res) : Option Res :=
 slices_IndexFunc_int_int_i3.g a1 fun r2 =>
 R (decide (0 ≤ r2))
theorem gx : ∃ x : List Int → (Bool → Option Res) → Option Res, x = b := ⟨_, rfl⟩
noncomputable def g : List Int → (Bool → Option Res) → Option Res := Classical.choose gx
theorem e : g = b := Classical.choose_spec gx
noncomputable def run : List Lf → (Res → Option Res) → Option Res
 | [.q (.ints a1)], K => g a1 (fun r1 => K (m r1))
 | _, _ => none
noncomputable def a (a1 : List Int) : St := argSt [one (.tr 0 1 [.int .i64] (.ints a1)), one (.fn 108 [])] [] []
noncomputable def con : FuncId × St × (List Lf → (Res → Option Res) → Option Res) := (107, a [], run)
theorem cx (K : Res → Option Res) : CtxOk Go.Proofs.Try.prog Γ0 byt0 eqs0 (X K) os := ⟨rfl, rfl, rfl, (fun p hp => by
 rcases List.mem_cons.1 hp with rfl | hp
 ·exact slices_IndexFunc_int_int_i3.ok
 cases hp), rfl, rfl, rfl⟩
theorem tie (K : Res → Option Res) (a1 : List Int) : exec (X K) c (entry 9 [one (.tr 0 1 [.int .i64] (.ints a1)), one (.fn 108 [])] [] []) (endK (X K)) = g a1 (fun r1 => K (m r1)) := Eq.trans (b := b a1 (fun r1 => K (m r1))) (by kernel_rfl) (by rw [e])
theorem runv {l : List Lf} {K : Res → Option Res} {r : Res} (h : run l K = some r) : ∃ a1, l = [.q (.ints a1)] ∧ g a1 (fun r1 => K (m r1)) = some r := by
 unfold run at h; split at h
 ·exact ⟨_, rfl, h⟩
 ·cases h
theorem ok : Con Go.Proofs.Try.prog con := con_of (fn := Go.Proofs.Try.f107) (c := c) (Fi := fi) (X := X) (fun_of laid (by kernel_rfl) (by kernel_rfl) (by kernel_rfl) rfl (by kernel_rfl) (by kernel_rfl) cx (fun _ => rfl) (fun _ => rfl) (fun K => by
 rw [show loopsOf c = [] from by kernel_rfl]; intro p hp
 cases hp)) fun xs rows boxes K r hl hr => by
 obtain ⟨a1, e, h⟩ := runv hr
 have := St.like_eq (y := a a1) hl (by kernel_rfl) e
 obtain ⟨rfl, rfl, rfl⟩ := argSt_inj this
 exact (tie K a1).trans h
end slices_ContainsFunc_int_int_i3
namespace impl_numsOk
noncomputable def c : Code := bodyOf Go.Proofs.Try.f69
noncomputable def fi : Fin := ⟨Γ0, [(.tmp 2, 4)], [[1]], [], [], []⟩
noncomputable def m (r1 : Bool) : Res := ⟨[⟨false, [.bool r1]⟩], [], [], [], []⟩
noncomputable def os : List (FuncId × St × (List Lf → (Res → Option Res) → Option Res)) := [impl_within.con, slices_ContainsFunc_int_int_i3.con]
noncomputable def X (K : Res → Option Res) : Ctx := { Γ := Γ0, orc := orcOf os, io := [], share := [], opn := [], shr := [], bun := [], cut := [], own := [], cin := [], cout := [], lp := lpOf [], kl := Env.kl, nk := true, eqs := eqs0, byt := byt0, fin := finK fi K }
noncomputable def b (a1 : List Int) (R : Bool → Option Res) : Option Res :=
 impl_within.g (a1.length : Int) 1 300 fun r2 =>
 bif r2 then (slices_ContainsFunc_int_int_i3.g a1 fun r3 =>
  R (!r3))
 else R false
theorem gx : ∃ x : List Int → (Bool → Option Res) → Option Res, x = b := ⟨_, rfl⟩
noncomputable def g : List Int → (Bool → Option Res) → Option Res := Classical.choose gx
theorem e : g = b := Classical.choose_spec gx
noncomputable def run : List Lf → (Res → Option Res) → Option Res
 | [.q (.ints a1)], K => g a1 (fun r1 => K (m r1))
 | _, _ => none
noncomputable def a (a1 : List Int) : St := argSt [one (.tr 0 1 [.int .i64] (.ints a1))] [] []
noncomputable def con : FuncId × St × (List Lf → (Res → Option Res) → Option Res) := (69, a [], run)
theorem cx (K : Res → Option Res) : CtxOk Go.Proofs.Try.prog Γ0 byt0 eqs0 (X K) os := ⟨rfl, rfl, rfl, (fun p hp => by
 rcases List.mem_cons.1 hp with rfl | hp
 ·exact impl_within.ok
 rcases List.mem_cons.1 hp with rfl | hp
 ·exact slices_ContainsFunc_int_int_i3.ok
 cases hp), rfl, rfl, rfl⟩
theorem tie (K : Res → Option Res) (a1 : List Int) : exec (X K) c (entry 11 [one (.tr 0 1 [.int .i64] (.ints a1))] [] []) (endK (X K)) = g a1 (fun r1 => K (m r1)) := Eq.trans (b := b a1 (fun r1 => K (m r1))) (by kernel_rfl) (by rw [e])
theorem runv {l : List Lf} {K : Res → Option Res} {r : Res} (h : run l K = some r) : ∃ a1, l = [.q (.ints a1)] ∧ g a1 (fun r1 => K (m r1)) = some r := by
 unfold run at h; split at h
 ·exact ⟨_, rfl, h⟩
 ·cases h
theorem ok : Con Go.Proofs.Try.prog con := con_of (fn := Go.Proofs.Try.f69) (c := c) (Fi := fi) (X := X) (fun_of laid (by kernel_rfl) (by kernel_rfl) (by kernel_rfl) rfl (by kernel_rfl) (by kernel_rfl) cx (fun _ => rfl) (fun _ => rfl) (fun K => by
 rw [show loopsOf c = [] from by kernel_rfl]; intro p hp
 cases hp)) fun xs rows boxes K r hl hr => by
 obtain ⟨a1, e, h⟩ := runv hr
 have := St.like_eq (y := a a1) hl (by kernel_rfl) e
 obtain ⟨rfl, rfl, rfl⟩ := argSt_inj this
 exact (tie K a1).trans h
end impl_numsOk
namespace impl_nodeOk
noncomputable def c : Code := bodyOf Go.Proofs.Try.f97
noncomputable def fi : Fin := ⟨Γ0, [(.tmp 2, 4)], [[1]], [], [], []⟩
noncomputable def m (r1 : Bool) : Res := ⟨[⟨false, [.bool r1]⟩], [], [], [], []⟩
noncomputable def os : List (FuncId × St × (List Lf → (Res → Option Res) → Option Res)) := [impl_numsOk.con, impl_within.con, impl_FunOne.con, impl_FunTwo.con]
noncomputable def X (K : Res → Option Res) : Ctx := { Γ := Γ0, orc := orcOf os, io := [], share := [], opn := [], shr := [], bun := [], cut := [], own := [], cin := [], cout := [], lp := lpOf [], kl := Env.kl, nk := true, eqs := eqs0, byt := byt0, fin := finK fi K }
noncomputable def b (a1 a2 a3 a4 a5 a6 : Int) (a7 : List Int) (R : Bool → Option Res) : Option Res :=
 bif (a1 == 1) then (impl_numsOk.g a7 fun r8 =>
  bif (a2 == 0) then (bif (a3 == 0) then (bif ((a4 == 0) && ((a5 == 0) && ((a6 == 0) && true))) then R r8
   else R false)
   else R false)
  else R false)
 else bif (a1 == 2) then (impl_within.g a2 0 25 fun r9 =>
  bif r9 then (bif (a3 == 0) then (bif ((a4 == 0) && ((a5 == 0) && ((a6 == 0) && true))) then R ((a7.length : Int) == 0)
   else R false)
   else R false)
  else R false)
 else bif (a1 == 3) then (impl_within.g a2 0 25 fun r10 =>
  bif r10 then (bif ((a4 == 0) && ((a5 == 0) && ((a6 == 0) && true))) then R ((a7.length : Int) == 0)
   else R false)
  else R false)
 else bif (a1 == 4) then (impl_FunOne.g a4 a5 a6 fun r11 =>
  bif (a2 == 0) then (bif r11 then R ((a7.length : Int) == 0)
   else R false)
  else R false)
 else bif (a1 == 5) then (impl_FunTwo.g a4 a5 a6 fun r12 =>
  bif r12 then R ((a7.length : Int) == 0)
  else R false)
 else R false
theorem gx : ∃ x : Int → Int → Int → Int → Int → Int → List Int → (Bool → Option Res) → Option Res, x = b := ⟨_, rfl⟩
noncomputable def g : Int → Int → Int → Int → Int → Int → List Int → (Bool → Option Res) → Option Res := Classical.choose gx
theorem e : g = b := Classical.choose_spec gx
noncomputable def run : List Lf → (Res → Option Res) → Option Res
 | [.i a1, .i a2, .i a3, .i a4, .i a5, .i a6, .q (.ints a7)], K => g a1 a2 a3 a4 a5 a6 a7 (fun r1 => K (m r1))
 | _, _ => none
noncomputable def a (a1 a2 a3 a4 a5 a6 : Int) (a7 : List Int) : St := argSt [.v ⟨true, [.int .i64 a1, .int .i64 a2, .int .i64 a3, .int .i64 a4, .int .i64 a5, .int .i64 a6, .tr 0 1 [.int .i64] (.ints a7)]⟩] [] []
noncomputable def con : FuncId × St × (List Lf → (Res → Option Res) → Option Res) := (97, a 0 0 0 0 0 0 [], run)
theorem cx (K : Res → Option Res) : CtxOk Go.Proofs.Try.prog Γ0 byt0 eqs0 (X K) os := ⟨rfl, rfl, rfl, (fun p hp => by
 rcases List.mem_cons.1 hp with rfl | hp
 ·exact impl_numsOk.ok
 rcases List.mem_cons.1 hp with rfl | hp
 ·exact impl_within.ok
 rcases List.mem_cons.1 hp with rfl | hp
 ·exact impl_FunOne.ok
 rcases List.mem_cons.1 hp with rfl | hp
 ·exact impl_FunTwo.ok
 cases hp), rfl, rfl, rfl⟩
theorem tie (K : Res → Option Res) (a1 a2 a3 a4 a5 a6 : Int) (a7 : List Int) : exec (X K) c (entry 58 [.v ⟨true, [.int .i64 a1, .int .i64 a2, .int .i64 a3, .int .i64 a4, .int .i64 a5, .int .i64 a6, .tr 0 1 [.int .i64] (.ints a7)]⟩] [] []) (endK (X K)) = g a1 a2 a3 a4 a5 a6 a7 (fun r1 => K (m r1)) := Eq.trans (b := b a1 a2 a3 a4 a5 a6 a7 (fun r1 => K (m r1))) (by kernel_rfl) (by rw [e])
theorem runv {l : List Lf} {K : Res → Option Res} {r : Res} (h : run l K = some r) : ∃ a1 a2 a3 a4 a5 a6 a7, l = [.i a1, .i a2, .i a3, .i a4, .i a5, .i a6, .q (.ints a7)] ∧ g a1 a2 a3 a4 a5 a6 a7 (fun r1 => K (m r1)) = some r := by
 unfold run at h; split at h
 ·exact ⟨_, _, _, _, _, _, _, rfl, h⟩
 ·cases h
theorem ok : Con Go.Proofs.Try.prog con := con_of (fn := Go.Proofs.Try.f97) (c := c) (Fi := fi) (X := X) (fun_of laid (by kernel_rfl) (by kernel_rfl) (by kernel_rfl) rfl (by kernel_rfl) (by kernel_rfl) cx (fun _ => rfl) (fun _ => rfl) (fun K => by
 rw [show loopsOf c = [] from by kernel_rfl]; intro p hp
 cases hp)) fun xs rows boxes K r hl hr => by
 obtain ⟨a1, a2, a3, a4, a5, a6, a7, e, h⟩ := runv hr
 have := St.like_eq (y := a a1 a2 a3 a4 a5 a6 a7) hl (by kernel_rfl) e
 obtain ⟨rfl, rfl, rfl⟩ := argSt_inj this
 exact (tie K a1 a2 a3 a4 a5 a6 a7).trans h
end impl_nodeOk
namespace impl_TreeOk_1
noncomputable def c : Code := bodyOf Go.Proofs.Try.f96
noncomputable def fi : Fin := ⟨Γ0, [(.tmp 2, 4)], [[1]], [], [], []⟩
noncomputable def m (r1 : Bool) : Res := ⟨[⟨false, [.bool r1]⟩], [], [], [], []⟩
noncomputable def os : List (FuncId × St × (List Lf → (Res → Option Res) → Option Res)) := [impl_nodeOk.con]
noncomputable def X (K : Res → Option Res) : Ctx := { Γ := Γ0, orc := orcOf os, io := [], share := [], opn := [], shr := [], bun := [], cut := [], own := [], cin := [], cout := [], lp := lpOf [], kl := Env.kl, nk := true, eqs := eqs0, byt := byt0, fin := finK fi K }
noncomputable def b (a1 a2 a3 a4 a5 a6 : Int) (a7 : List Int) (R : Bool → Option Res) : Option Res :=
 impl_nodeOk.g a1 a2 a3 a4 a5 a6 a7 fun r8 =>
 R (!r8)
theorem gx : ∃ x : Int → Int → Int → Int → Int → Int → List Int → (Bool → Option Res) → Option Res, x = b := ⟨_, rfl⟩
noncomputable def g : Int → Int → Int → Int → Int → Int → List Int → (Bool → Option Res) → Option Res := Classical.choose gx
theorem e : g = b := Classical.choose_spec gx
noncomputable def run : List Lf → (Res → Option Res) → Option Res
 | [.i a1, .i a2, .i a3, .i a4, .i a5, .i a6, .q (.ints a7)], K => g a1 a2 a3 a4 a5 a6 a7 (fun r1 => K (m r1))
 | _, _ => none
noncomputable def a (a1 a2 a3 a4 a5 a6 : Int) (a7 : List Int) : St := argSt [.v ⟨true, [.int .i64 a1, .int .i64 a2, .int .i64 a3, .int .i64 a4, .int .i64 a5, .int .i64 a6, .tr 0 1 [.int .i64] (.ints a7)]⟩] [] []
noncomputable def con : FuncId × St × (List Lf → (Res → Option Res) → Option Res) := (96, a 0 0 0 0 0 0 [], run)
theorem cx (K : Res → Option Res) : CtxOk Go.Proofs.Try.prog Γ0 byt0 eqs0 (X K) os := ⟨rfl, rfl, rfl, (fun p hp => by
 rcases List.mem_cons.1 hp with rfl | hp
 ·exact impl_nodeOk.ok
 cases hp), rfl, rfl, rfl⟩
theorem tie (K : Res → Option Res) (a1 a2 a3 a4 a5 a6 : Int) (a7 : List Int) : exec (X K) c (entry 6 [.v ⟨true, [.int .i64 a1, .int .i64 a2, .int .i64 a3, .int .i64 a4, .int .i64 a5, .int .i64 a6, .tr 0 1 [.int .i64] (.ints a7)]⟩] [] []) (endK (X K)) = g a1 a2 a3 a4 a5 a6 a7 (fun r1 => K (m r1)) := Eq.trans (b := b a1 a2 a3 a4 a5 a6 a7 (fun r1 => K (m r1))) (by kernel_rfl) (by rw [e])
theorem runv {l : List Lf} {K : Res → Option Res} {r : Res} (h : run l K = some r) : ∃ a1 a2 a3 a4 a5 a6 a7, l = [.i a1, .i a2, .i a3, .i a4, .i a5, .i a6, .q (.ints a7)] ∧ g a1 a2 a3 a4 a5 a6 a7 (fun r1 => K (m r1)) = some r := by
 unfold run at h; split at h
 ·exact ⟨_, _, _, _, _, _, _, rfl, h⟩
 ·cases h
theorem ok : Con Go.Proofs.Try.prog con := con_of (fn := Go.Proofs.Try.f96) (c := c) (Fi := fi) (X := X) (fun_of laid (by kernel_rfl) (by kernel_rfl) (by kernel_rfl) rfl (by kernel_rfl) (by kernel_rfl) cx (fun _ => rfl) (fun _ => rfl) (fun K => by
 rw [show loopsOf c = [] from by kernel_rfl]; intro p hp
 cases hp)) fun xs rows boxes K r hl hr => by
 obtain ⟨a1, a2, a3, a4, a5, a6, a7, e, h⟩ := runv hr
 have := St.like_eq (y := a a1 a2 a3 a4 a5 a6 a7) hl (by kernel_rfl) e
 obtain ⟨rfl, rfl, rfl⟩ := argSt_inj this
 exact (tie K a1 a2 a3 a4 a5 a6 a7).trans h
end impl_TreeOk_1
namespace slices_IndexFunc_impl_Expr_impl_Expr
noncomputable def c : Code := bodyOf Go.Proofs.Try.f123
noncomputable def fi : Fin := ⟨Γ0, [(.tmp 4, 3)], [[1]], [], [], []⟩
noncomputable def m (r1 : Int) : Res := ⟨[⟨false, [.int .i64 r1]⟩], [], [], [], []⟩
noncomputable def b0 : Code := codeAt c [1, 0, 1, 0, 0]
noncomputable def s0 (x2 : List (List Cl)) (x3 x4 : Int) : St := ⟨mkT 19 [(0, one (.tr 0 1 [.int .i64, .int .i64, .int .i64, .int .i64, .int .i64, .int .i64, .ints .i64] (.cells x2))), (1, one (.fn 96 [])), (7, one (.int .i64 x3)), (8, one (.int .i64 x4))], [], []⟩
noncomputable def l0s (x2 : List (List Cl)) (x3 : Int) (rec : Int → Option Res) (k : Option Res) (R : Int → Option Res) (x4 : Int) : Option Res :=
 bif decide (x4 < x3) then (bif decide (0 ≤ x4) && decide (x4 < (x2.length : Int)) then (impl_TreeOk_1.g (((x2.getD x4.toNat []).getD 0 (.i 0)).toI) (((x2.getD x4.toNat []).getD 1 (.i 0)).toI) (((x2.getD x4.toNat []).getD 2 (.i 0)).toI) (((x2.getD x4.toNat []).getD 3 (.i 0)).toI) (((x2.getD x4.toNat []).getD 4 (.i 0)).toI) (((x2.getD x4.toNat []).getD 5 (.i 0)).toI) (((x2.getD x4.toNat []).getD 6 (.i 0)).toL) fun r5 =>
  bif r5 then R x4
  else rec (IntKind.i64.wrap (x4 + 1)))
  else none)
 else k
noncomputable def l0 (x2 : List (List Cl)) (x3 : Int) (k : Option Res) (R : Int → Option Res) : Nat → Int → Option Res
 | 0, _ => none
 | n + 1, x4 => l0s x2 x3 (fun x4 => l0 x2 x3 k R n x4) k R x4
noncomputable def o0 (x2 : List (List Cl)) (x3 : Int) : St := ⟨mkT 19 [], [], []⟩
noncomputable def p0 (K : Res → Option Res) : List Lf → (St → Option Res) → Option Res
 | [.q (.cells x2), .i x3, .i x4], k => l0 x2 x3 (k (o0 x2 x3)) (fun r1 => K (m r1)) fuel x4
 | _, _ => none
noncomputable def os : List (FuncId × St × (List Lf → (Res → Option Res) → Option Res)) := [impl_TreeOk_1.con]
noncomputable def X (K : Res → Option Res) : Ctx := { Γ := Γ0, orc := orcOf os, io := [], share := [], opn := [], shr := [], bun := [], cut := [], own := [], cin := [(0, ⟨[0, 1, 7, 8], [], [], [], [], []⟩)], cout := [(0, ⟨[], [], [], [], [], []⟩)], lp := lpOf [(0, s0 [] 0 0, p0 K)], kl := Env.kl, nk := true, eqs := eqs0, byt := byt0, fin := finK fi K }
noncomputable def b (a1 : List (List Cl)) (R : Int → Option Res) : Option Res :=
 l0 a1 (a1.length : Int) (
 R (-1)) R fuel 0
theorem gx : ∃ x : List (List Cl) → (Int → Option Res) → Option Res, x = b := ⟨_, rfl⟩
noncomputable def g : List (List Cl) → (Int → Option Res) → Option Res := Classical.choose gx
theorem e : g = b := Classical.choose_spec gx
noncomputable def run : List Lf → (Res → Option Res) → Option Res
 | [.q (.cells a1)], K => g a1 (fun r1 => K (m r1))
 | _, _ => none
noncomputable def a (a1 : List (List Cl)) : St := argSt [one (.tr 0 1 [.int .i64, .int .i64, .int .i64, .int .i64, .int .i64, .int .i64, .ints .i64] (.cells a1)), one (.fn 96 [])] [] []
noncomputable def con : FuncId × St × (List Lf → (Res → Option Res) → Option Res) := (123, a [], run)
theorem cx (K : Res → Option Res) : CtxOk Go.Proofs.Try.prog Γ0 byt0 eqs0 (X K) os := ⟨rfl, rfl, rfl, (fun p hp => by
 rcases List.mem_cons.1 hp with rfl | hp
 ·exact impl_TreeOk_1.ok
 cases hp), rfl, rfl, rfl⟩
theorem t0 (K : Res → Option Res) (k : St → Option Res) (it : St → (St → Option Res) → Option Res) (x2 : List (List Cl)) (x3 x4 : Int) : iterS (X K) 0 b0 it (s0 x2 x3 x4) k = l0s x2 x3 (fun x4 => it (s0 x2 x3 x4) k) (k (o0 x2 x3)) (fun r1 => K (m r1)) x4 := by kernel_rfl
theorem i0 (K : Res → Option Res) (k : St → Option Res) (x2 : List (List Cl)) (x3 : Int) : ∀ (n : Nat) (x4 : Int), iter (X K) 0 b0 n (s0 x2 x3 x4) k = l0 x2 x3 (k (o0 x2 x3)) (fun r1 => K (m r1)) n x4
 | 0, _ => rfl
 | n + 1, x4 => by
  rw [iter_succ, t0, show (fun x4 => iter (X K) 0 b0 n (s0 x2 x3 x4) k) = (fun x4 => l0 x2 x3 (k (o0 x2 x3)) (fun r1 => K (m r1)) n x4) from funext fun x4 => i0 K k x2 x3 n x4]; rfl
theorem v0 {K : Res → Option Res} {l : List Lf} {k : St → Option Res} {r : Res} (h : p0 K l k = some r) : ∃ x2 x3 x4, l = [.q (.cells x2), .i x3, .i x4] ∧ l0 x2 x3 (k (o0 x2 x3)) (fun r1 => K (m r1)) fuel x4 = some r := by
 unfold p0 at h; split at h
 ·exact ⟨_, _, _, rfl, h⟩
 ·cases h
theorem w0 (K : Res → Option Res) : LpSound Go.Proofs.Try.prog (X K) 0 b0 := lp_ok ((cx K).ok laid) (by rw [show loopsOf b0 = [] from by kernel_rfl]; intro p hp; cases hp) rfl fun p hp hid => by
 rcases List.mem_cons.1 hp with rfl | hp
 ·intro st k r h1 h2; obtain ⟨x2, x3, x4, e, h⟩ := v0 (K := K) h2; have := St.like_eq (y := s0 x2 x3 x4) h1 (by kernel_rfl) e; subst this; exact ⟨fuel, (i0 K k x2 x3 fuel x4).trans h⟩
 cases hp
theorem tie (K : Res → Option Res) (a1 : List (List Cl)) : exec (X K) c (entry 19 [one (.tr 0 1 [.int .i64, .int .i64, .int .i64, .int .i64, .int .i64, .int .i64, .ints .i64] (.cells a1)), one (.fn 96 [])] [] []) (endK (X K)) = g a1 (fun r1 => K (m r1)) := Eq.trans (b := b a1 (fun r1 => K (m r1))) (by kernel_rfl) (by rw [e])
theorem runv {l : List Lf} {K : Res → Option Res} {r : Res} (h : run l K = some r) : ∃ a1, l = [.q (.cells a1)] ∧ g a1 (fun r1 => K (m r1)) = some r := by
 unfold run at h; split at h
 ·exact ⟨_, rfl, h⟩
 ·cases h
theorem ok : Con Go.Proofs.Try.prog con := con_of (fn := Go.Proofs.Try.f123) (c := c) (Fi := fi) (X := X) (fun_of laid (by kernel_rfl) (by kernel_rfl) (by kernel_rfl) rfl (by kernel_rfl) (by kernel_rfl) cx (fun _ => rfl) (fun _ => rfl) (fun K => by
 rw [show loopsOf c = [(0, b0)] from by kernel_rfl]; intro p hp
 rcases List.mem_cons.1 hp with rfl | hp
 ·exact w0 K
 cases hp)) fun xs rows boxes K r hl hr => by
 obtain ⟨a1, e, h⟩ := runv hr
 have := St.like_eq (y := a a1) hl (by kernel_rfl) e
 obtain ⟨rfl, rfl, rfl⟩ := argSt_inj this
 exact (tie K a1).trans h
end slices_IndexFunc_impl_Expr_impl_Expr
namespace slices_ContainsFunc_impl_Expr_impl_Expr
noncomputable def c : Code := bodyOf Go.Proofs.Try.f95
noncomputable def fi : Fin := ⟨Γ0, [(.tmp 4, 4)], [[1]], [], [], []⟩
noncomputable def m (r1 : Bool) : Res := ⟨[⟨false, [.bool r1]⟩], [], [], [], []⟩
noncomputable def os : List (FuncId × St × (List Lf → (Res → Option Res) → Option Res)) := [slices_IndexFunc_impl_Expr_impl_Expr.con]
noncomputable def X (K : Res → Option Res) : Ctx := { Γ := Γ0, orc := orcOf os, io := [], share := [], opn := [], shr := [], bun := [], cut := [], own := [], cin := [], cout := [], lp := lpOf [], kl := Env.kl, nk := true, eqs := eqs0, byt := byt0, fin := finK fi K }
noncomputable def b (a1 : List (List Cl)) (R : Bool → Option Res) : Option Res :=
 slices_IndexFunc_impl_Expr_impl_Expr.g a1 fun r2 =>
 R (decide (0 ≤ r2))
theorem gx : ∃ x : List (List Cl) → (Bool → Option Res) → Option Res, x = b := ⟨_, rfl⟩
noncomputable def g : List (List Cl) → (Bool → Option Res) → Option Res := Classical.choose gx
theorem e : g = b := Classical.choose_spec gx
noncomputable def run : List Lf → (Res → Option Res) → Option Res
 | [.q (.cells a1)], K => g a1 (fun r1 => K (m r1))
 | _, _ => none
noncomputable def a (a1 : List (List Cl)) : St := argSt [one (.tr 0 1 [.int .i64, .int .i64, .int .i64, .int .i64, .int .i64, .int .i64, .ints .i64] (.cells a1)), one (.fn 96 [])] [] []
noncomputable def con : FuncId × St × (List Lf → (Res → Option Res) → Option Res) := (95, a [], run)
theorem cx (K : Res → Option Res) : CtxOk Go.Proofs.Try.prog Γ0 byt0 eqs0 (X K) os := ⟨rfl, rfl, rfl, (fun p hp => by
 rcases List.mem_cons.1 hp with rfl | hp
 ·exact slices_IndexFunc_impl_Expr_impl_Expr.ok
 cases hp), rfl, rfl, rfl⟩
theorem tie (K : Res → Option Res) (a1 : List (List Cl)) : exec (X K) c (entry 9 [one (.tr 0 1 [.int .i64, .int .i64, .int .i64, .int .i64, .int .i64, .int .i64, .ints .i64] (.cells a1)), one (.fn 96 [])] [] []) (endK (X K)) = g a1 (fun r1 => K (m r1)) := Eq.trans (b := b a1 (fun r1 => K (m r1))) (by kernel_rfl) (by rw [e])
theorem runv {l : List Lf} {K : Res → Option Res} {r : Res} (h : run l K = some r) : ∃ a1, l = [.q (.cells a1)] ∧ g a1 (fun r1 => K (m r1)) = some r := by
 unfold run at h; split at h
 ·exact ⟨_, rfl, h⟩
 ·cases h
theorem ok : Con Go.Proofs.Try.prog con := con_of (fn := Go.Proofs.Try.f95) (c := c) (Fi := fi) (X := X) (fun_of laid (by kernel_rfl) (by kernel_rfl) (by kernel_rfl) rfl (by kernel_rfl) (by kernel_rfl) cx (fun _ => rfl) (fun _ => rfl) (fun K => by
 rw [show loopsOf c = [] from by kernel_rfl]; intro p hp
 cases hp)) fun xs rows boxes K r hl hr => by
 obtain ⟨a1, e, h⟩ := runv hr
 have := St.like_eq (y := a a1) hl (by kernel_rfl) e
 obtain ⟨rfl, rfl, rfl⟩ := argSt_inj this
 exact (tie K a1).trans h
end slices_ContainsFunc_impl_Expr_impl_Expr
namespace impl_owned
noncomputable def c : Code := bodyOf Go.Proofs.Try.f98
noncomputable def fi : Fin := ⟨Γ0, [(.tmp 2, 41), (.tmp 3, 4)], [[1], [1]], [], [], []⟩
noncomputable def m (r1 : List Int) (r2 : Bool) : Res := ⟨[⟨false, [.ow 1000]⟩, ⟨false, [.bool r2]⟩], [], [⟨[.int .i64], .ints r1, true, 0, none⟩], [], []⟩
noncomputable def b0 : Code := codeAt c [1, 1, 0, 1, 0, 0]
noncomputable def s0 (x2 : List (List Cl)) (x3 x4 : Int) (x5 : List Int) : St := ⟨mkT 73 [(4, one (.ow 3056)), (11, one (.tr 0 1 [.int .i64, .int .i64, .int .i64, .int .i64, .int .i64, .int .i64, .ints .i64] (.cells x2))), (12, one (.int .i64 x3)), (13, one (.int .i64 x4))], [(3056, ⟨[.int .i64], .ints x5, true, 0, none⟩)], []⟩
noncomputable def l0s (x2 : List (List Cl)) (x3 : Int) (rec : Int → List Int → Option Res) (k : List Int → Option Res) (R : List Int → Bool → Option Res) (x4 : Int) (x5 : List Int) : Option Res :=
 bif decide (x4 < x3) then (bif decide (0 ≤ x4) && decide (x4 < (x2.length : Int)) then (bif decide (3 ≤ ((x2.getD x4.toNat []).getD 0 (.i 0)).toI) then (bif (((x2.getD x4.toNat []).getD 0 (.i 0)).toI == 5) then (bif (((x2.getD x4.toNat []).getD 1 (.i 0)).toI != IntKind.i64.wrap (x4 - 1)) then R ([] : List Int) false
  else bif (x4 == 0) then R ([] : List Int) false
  else bif decide (0 ≤ ((x2.getD x4.toNat []).getD 1 (.i 0)).toI) && decide (((x2.getD x4.toNat []).getD 1 (.i 0)).toI < (x5.length : Int)) then (bif (((x2.getD x4.toNat []).getD 0 (.i 0)).toI == 5) then (bif decide (0 ≤ ((x2.getD x4.toNat []).getD 1 (.i 0)).toI) && decide (((x2.getD x4.toNat []).getD 1 (.i 0)).toI < (x5.length : Int)) then (bif decide (IntKind.i64.wrap ((IntKind.i64.wrap (x4 - 1)) - (x5.getD ((((x2.getD x4.toNat []).getD 1 (.i 0)).toI).toNat) 0)) < 0) then R ([] : List Int) false
   else bif (((x2.getD x4.toNat []).getD 2 (.i 0)).toI != IntKind.i64.wrap ((IntKind.i64.wrap (x4 - 1)) - (x5.getD ((((x2.getD x4.toNat []).getD 1 (.i 0)).toI).toNat) 0))) then R ([] : List Int) false
   else bif decide (0 ≤ IntKind.i64.wrap ((IntKind.i64.wrap (x4 - 1)) - (x5.getD ((((x2.getD x4.toNat []).getD 1 (.i 0)).toI).toNat) 0))) && decide (IntKind.i64.wrap ((IntKind.i64.wrap (x4 - 1)) - (x5.getD ((((x2.getD x4.toNat []).getD 1 (.i 0)).toI).toNat) 0)) < (x5.length : Int)) then (bif decide ((x5.length + 1) * 8 ≤ 140737488355328) then rec (IntKind.i64.wrap (x4 + 1)) (x5 ++ ([IntKind.i64.wrap ((IntKind.i64.wrap (1 + (x5.getD ((((x2.getD x4.toNat []).getD 1 (.i 0)).toI).toNat) 0))) + (x5.getD ((IntKind.i64.wrap ((IntKind.i64.wrap (x4 - 1)) - (x5.getD ((((x2.getD x4.toNat []).getD 1 (.i 0)).toI).toNat) 0))).toNat) 0))] : List Int))
    else none)
   else none)
   else none)
   else bif decide ((x5.length + 1) * 8 ≤ 140737488355328) then rec (IntKind.i64.wrap (x4 + 1)) (x5 ++ ([IntKind.i64.wrap (1 + (x5.getD ((((x2.getD x4.toNat []).getD 1 (.i 0)).toI).toNat) 0))] : List Int))
   else none)
  else none)
  else bif (((x2.getD x4.toNat []).getD 2 (.i 0)).toI != IntKind.i64.wrap (x4 - 1)) then R ([] : List Int) false
  else bif (x4 == 0) then R ([] : List Int) false
  else bif decide (0 ≤ ((x2.getD x4.toNat []).getD 2 (.i 0)).toI) && decide (((x2.getD x4.toNat []).getD 2 (.i 0)).toI < (x5.length : Int)) then (bif (((x2.getD x4.toNat []).getD 0 (.i 0)).toI == 5) then (bif decide (0 ≤ ((x2.getD x4.toNat []).getD 1 (.i 0)).toI) && decide (((x2.getD x4.toNat []).getD 1 (.i 0)).toI < (x5.length : Int)) then (bif decide (IntKind.i64.wrap ((IntKind.i64.wrap (x4 - 1)) - (x5.getD ((((x2.getD x4.toNat []).getD 1 (.i 0)).toI).toNat) 0)) < 0) then R ([] : List Int) false
   else bif (((x2.getD x4.toNat []).getD 2 (.i 0)).toI != IntKind.i64.wrap ((IntKind.i64.wrap (x4 - 1)) - (x5.getD ((((x2.getD x4.toNat []).getD 1 (.i 0)).toI).toNat) 0))) then R ([] : List Int) false
   else bif decide (0 ≤ IntKind.i64.wrap ((IntKind.i64.wrap (x4 - 1)) - (x5.getD ((((x2.getD x4.toNat []).getD 1 (.i 0)).toI).toNat) 0))) && decide (IntKind.i64.wrap ((IntKind.i64.wrap (x4 - 1)) - (x5.getD ((((x2.getD x4.toNat []).getD 1 (.i 0)).toI).toNat) 0)) < (x5.length : Int)) then (bif decide ((x5.length + 1) * 8 ≤ 140737488355328) then rec (IntKind.i64.wrap (x4 + 1)) (x5 ++ ([IntKind.i64.wrap ((IntKind.i64.wrap (1 + (x5.getD ((((x2.getD x4.toNat []).getD 2 (.i 0)).toI).toNat) 0))) + (x5.getD ((IntKind.i64.wrap ((IntKind.i64.wrap (x4 - 1)) - (x5.getD ((((x2.getD x4.toNat []).getD 1 (.i 0)).toI).toNat) 0))).toNat) 0))] : List Int))
    else none)
   else none)
   else none)
   else bif decide ((x5.length + 1) * 8 ≤ 140737488355328) then rec (IntKind.i64.wrap (x4 + 1)) (x5 ++ ([IntKind.i64.wrap (1 + (x5.getD ((((x2.getD x4.toNat []).getD 2 (.i 0)).toI).toNat) 0))] : List Int))
   else none)
  else none)
  else bif (((x2.getD x4.toNat []).getD 0 (.i 0)).toI == 5) then (bif decide (0 ≤ ((x2.getD x4.toNat []).getD 1 (.i 0)).toI) && decide (((x2.getD x4.toNat []).getD 1 (.i 0)).toI < (x5.length : Int)) then (bif decide (IntKind.i64.wrap ((IntKind.i64.wrap (x4 - 1)) - (x5.getD ((((x2.getD x4.toNat []).getD 1 (.i 0)).toI).toNat) 0)) < 0) then R ([] : List Int) false
   else bif (((x2.getD x4.toNat []).getD 2 (.i 0)).toI != IntKind.i64.wrap ((IntKind.i64.wrap (x4 - 1)) - (x5.getD ((((x2.getD x4.toNat []).getD 1 (.i 0)).toI).toNat) 0))) then R ([] : List Int) false
   else bif decide (0 ≤ IntKind.i64.wrap ((IntKind.i64.wrap (x4 - 1)) - (x5.getD ((((x2.getD x4.toNat []).getD 1 (.i 0)).toI).toNat) 0))) && decide (IntKind.i64.wrap ((IntKind.i64.wrap (x4 - 1)) - (x5.getD ((((x2.getD x4.toNat []).getD 1 (.i 0)).toI).toNat) 0)) < (x5.length : Int)) then (bif decide ((x5.length + 1) * 8 ≤ 140737488355328) then rec (IntKind.i64.wrap (x4 + 1)) (x5 ++ ([IntKind.i64.wrap (1 + (x5.getD ((IntKind.i64.wrap ((IntKind.i64.wrap (x4 - 1)) - (x5.getD ((((x2.getD x4.toNat []).getD 1 (.i 0)).toI).toNat) 0))).toNat) 0))] : List Int))
    else none)
   else none)
   else none)
  else bif decide ((x5.length + 1) * 8 ≤ 140737488355328) then rec (IntKind.i64.wrap (x4 + 1)) (x5 ++ ([1] : List Int))
  else none)
  else none)
 else k x5
noncomputable def l0 (x2 : List (List Cl)) (x3 : Int) (k : List Int → Option Res) (R : List Int → Bool → Option Res) : Nat → Int → List Int → Option Res
 | 0, _, _ => none
 | n + 1, x4, x5 => l0s x2 x3 (fun x4 x5 => l0 x2 x3 k R n x4 x5) k R x4 x5
noncomputable def o0 (x2 : List (List Cl)) (x3 : Int) (y1 : List Int) : St := ⟨mkT 73 [(4, one (.ow 3056))], [(3056, ⟨[.int .i64], .ints y1, true, 0, none⟩)], []⟩
noncomputable def p0 (K : Res → Option Res) : List Lf → (St → Option Res) → Option Res
 | [.q (.cells x2), .i x3, .i x4, .q (.ints x5)], k => l0 x2 x3 (fun y1 => k (o0 x2 x3 y1)) (fun r1 r2 => K (m r1 r2)) fuel x4 x5
 | _, _ => none
noncomputable def os : List (FuncId × St × (List Lf → (Res → Option Res) → Option Res)) := []
noncomputable def X (K : Res → Option Res) : Ctx := { Γ := Γ0, orc := orcOf os, io := [], share := [], opn := [], shr := [], bun := [], cut := [], own := [(1, 0, 0, [.int .i64])], cin := [(0, ⟨[4, 11, 12, 13], [(3056, 3056), (37912, 3056)], [], [], [], []⟩)], cout := [(0, ⟨[4], [(3056, 3056)], [], [], [], []⟩)], lp := lpOf [(0, s0 [] 0 0 [], p0 K)], kl := Env.kl, nk := true, eqs := eqs0, byt := byt0, fin := finK fi K }
noncomputable def b (a1 : List (List Cl)) (R : List Int → Bool → Option Res) : Option Res :=
 l0 a1 (a1.length : Int) (fun y6 =>
 R y6 true) R fuel 0 ([] : List Int)
theorem gx : ∃ x : List (List Cl) → (List Int → Bool → Option Res) → Option Res, x = b := ⟨_, rfl⟩
noncomputable def g : List (List Cl) → (List Int → Bool → Option Res) → Option Res := Classical.choose gx
theorem e : g = b := Classical.choose_spec gx
noncomputable def run : List Lf → (Res → Option Res) → Option Res
 | [.q (.cells a1)], K => g a1 (fun r1 r2 => K (m r1 r2))
 | _, _ => none
noncomputable def a (a1 : List (List Cl)) : St := argSt [.v ⟨true, [.tr 0 1 [.int .i64, .int .i64, .int .i64, .int .i64, .int .i64, .int .i64, .ints .i64] (.cells a1)]⟩] [] []
noncomputable def con : FuncId × St × (List Lf → (Res → Option Res) → Option Res) := (98, a [], run)
theorem cx (K : Res → Option Res) : CtxOk Go.Proofs.Try.prog Γ0 byt0 eqs0 (X K) os := ⟨rfl, rfl, rfl, (fun p hp => by
 cases hp), rfl, rfl, rfl⟩
theorem t0 (K : Res → Option Res) (k : St → Option Res) (it : St → (St → Option Res) → Option Res) (x2 : List (List Cl)) (x3 x4 : Int) (x5 : List Int) : iterS (X K) 0 b0 it (s0 x2 x3 x4 x5) k = l0s x2 x3 (fun x4 x5 => it (s0 x2 x3 x4 x5) k) (fun y1 => k (o0 x2 x3 y1)) (fun r1 r2 => K (m r1 r2)) x4 x5 := by kernel_rfl
theorem i0 (K : Res → Option Res) (k : St → Option Res) (x2 : List (List Cl)) (x3 : Int) : ∀ (n : Nat) (x4 : Int) (x5 : List Int), iter (X K) 0 b0 n (s0 x2 x3 x4 x5) k = l0 x2 x3 (fun y1 => k (o0 x2 x3 y1)) (fun r1 r2 => K (m r1 r2)) n x4 x5
 | 0, _, _ => rfl
 | n + 1, x4, x5 => by
  rw [iter_succ, t0, show (fun x4 x5 => iter (X K) 0 b0 n (s0 x2 x3 x4 x5) k) = (fun x4 x5 => l0 x2 x3 (fun y1 => k (o0 x2 x3 y1)) (fun r1 r2 => K (m r1 r2)) n x4 x5) from funext fun x4 => funext fun x5 => i0 K k x2 x3 n x4 x5]; rfl
theorem v0 {K : Res → Option Res} {l : List Lf} {k : St → Option Res} {r : Res} (h : p0 K l k = some r) : ∃ x2 x3 x4 x5, l = [.q (.cells x2), .i x3, .i x4, .q (.ints x5)] ∧ l0 x2 x3 (fun y1 => k (o0 x2 x3 y1)) (fun r1 r2 => K (m r1 r2)) fuel x4 x5 = some r := by
 unfold p0 at h; split at h
 ·exact ⟨_, _, _, _, rfl, h⟩
 ·cases h
theorem w0 (K : Res → Option Res) : LpSound Go.Proofs.Try.prog (X K) 0 b0 := lp_ok ((cx K).ok laid) (by rw [show loopsOf b0 = [] from by kernel_rfl]; intro p hp; cases hp) rfl fun p hp hid => by
 rcases List.mem_cons.1 hp with rfl | hp
 ·intro st k r h1 h2; obtain ⟨x2, x3, x4, x5, e, h⟩ := v0 (K := K) h2; have := St.like_eq (y := s0 x2 x3 x4 x5) h1 (by kernel_rfl) e; subst this; exact ⟨fuel, (i0 K k x2 x3 fuel x4 x5).trans h⟩
 cases hp
theorem tie (K : Res → Option Res) (a1 : List (List Cl)) : exec (X K) c (entry 73 [.v ⟨true, [.tr 0 1 [.int .i64, .int .i64, .int .i64, .int .i64, .int .i64, .int .i64, .ints .i64] (.cells a1)]⟩] [] []) (endK (X K)) = g a1 (fun r1 r2 => K (m r1 r2)) := Eq.trans (b := b a1 (fun r1 r2 => K (m r1 r2))) (by kernel_rfl) (by rw [e])
theorem runv {l : List Lf} {K : Res → Option Res} {r : Res} (h : run l K = some r) : ∃ a1, l = [.q (.cells a1)] ∧ g a1 (fun r1 r2 => K (m r1 r2)) = some r := by
 unfold run at h; split at h
 ·exact ⟨_, rfl, h⟩
 ·cases h
theorem ok : Con Go.Proofs.Try.prog con := con_of (fn := Go.Proofs.Try.f98) (c := c) (Fi := fi) (X := X) (fun_of laid (by kernel_rfl) (by kernel_rfl) (by kernel_rfl) rfl (by kernel_rfl) (by kernel_rfl) cx (fun _ => rfl) (fun _ => rfl) (fun K => by
 rw [show loopsOf c = [(0, b0)] from by kernel_rfl]; intro p hp
 rcases List.mem_cons.1 hp with rfl | hp
 ·exact w0 K
 cases hp)) fun xs rows boxes K r hl hr => by
 obtain ⟨a1, e, h⟩ := runv hr
 have := St.like_eq (y := a a1) hl (by kernel_rfl) e
 obtain ⟨rfl, rfl, rfl⟩ := argSt_inj this
 exact (tie K a1).trans h
end impl_owned
namespace impl_TreeOk
noncomputable def c : Code := bodyOf Go.Proofs.Try.f53
noncomputable def fi : Fin := ⟨Γ0, [(.tmp 2, 4)], [[1]], [], [], []⟩
noncomputable def m (r1 : Bool) : Res := ⟨[⟨false, [.bool r1]⟩], [], [], [], []⟩
noncomputable def os : List (FuncId × St × (List Lf → (Res → Option Res) → Option Res)) := [impl_within.con, slices_ContainsFunc_impl_Expr_impl_Expr.con, impl_owned.con]
noncomputable def X (K : Res → Option Res) : Ctx := { Γ := Γ0, orc := orcOf os, io := [], share := [], opn := [], shr := [], bun := [], cut := [], own := [], cin := [], cout := [], lp := lpOf [], kl := Env.kl, nk := true, eqs := eqs0, byt := byt0, fin := finK fi K }
noncomputable def b (a1 : List (List Cl)) (R : Bool → Option Res) : Option Res :=
 impl_within.g (a1.length : Int) 1 60 fun r2 =>
 bif !r2 then R false
 else (slices_ContainsFunc_impl_Expr_impl_Expr.g a1 fun r3 =>
 bif r3 then R false
 else (impl_owned.g a1 fun r4 r5 =>
 bif r5 then (bif decide (0 ≤ IntKind.i64.wrap ((a1.length : Int) - 1)) && decide (IntKind.i64.wrap ((a1.length : Int) - 1) < (r4.length : Int)) then R (r4.getD ((IntKind.i64.wrap ((a1.length : Int) - 1)).toNat) 0 == (a1.length : Int))
  else none)
 else R false))
theorem gx : ∃ x : List (List Cl) → (Bool → Option Res) → Option Res, x = b := ⟨_, rfl⟩
noncomputable def g : List (List Cl) → (Bool → Option Res) → Option Res := Classical.choose gx
theorem e : g = b := Classical.choose_spec gx
noncomputable def run : List Lf → (Res → Option Res) → Option Res
 | [.q (.cells a1)], K => g a1 (fun r1 => K (m r1))
 | _, _ => none
noncomputable def a (a1 : List (List Cl)) : St := argSt [.v ⟨true, [.tr 0 1 [.int .i64, .int .i64, .int .i64, .int .i64, .int .i64, .int .i64, .ints .i64] (.cells a1)]⟩] [] []
noncomputable def con : FuncId × St × (List Lf → (Res → Option Res) → Option Res) := (53, a [], run)
theorem cx (K : Res → Option Res) : CtxOk Go.Proofs.Try.prog Γ0 byt0 eqs0 (X K) os := ⟨rfl, rfl, rfl, (fun p hp => by
 rcases List.mem_cons.1 hp with rfl | hp
 ·exact impl_within.ok
 rcases List.mem_cons.1 hp with rfl | hp
 ·exact slices_ContainsFunc_impl_Expr_impl_Expr.ok
 rcases List.mem_cons.1 hp with rfl | hp
 ·exact impl_owned.ok
 cases hp), rfl, rfl, rfl⟩
theorem tie (K : Res → Option Res) (a1 : List (List Cl)) : exec (X K) c (entry 32 [.v ⟨true, [.tr 0 1 [.int .i64, .int .i64, .int .i64, .int .i64, .int .i64, .int .i64, .ints .i64] (.cells a1)]⟩] [] []) (endK (X K)) = g a1 (fun r1 => K (m r1)) := Eq.trans (b := b a1 (fun r1 => K (m r1))) (by kernel_rfl) (by rw [e])
theorem runv {l : List Lf} {K : Res → Option Res} {r : Res} (h : run l K = some r) : ∃ a1, l = [.q (.cells a1)] ∧ g a1 (fun r1 => K (m r1)) = some r := by
 unfold run at h; split at h
 ·exact ⟨_, rfl, h⟩
 ·cases h
theorem ok : Con Go.Proofs.Try.prog con := con_of (fn := Go.Proofs.Try.f53) (c := c) (Fi := fi) (X := X) (fun_of laid (by kernel_rfl) (by kernel_rfl) (by kernel_rfl) rfl (by kernel_rfl) (by kernel_rfl) cx (fun _ => rfl) (fun _ => rfl) (fun K => by
 rw [show loopsOf c = [] from by kernel_rfl]; intro p hp
 cases hp)) fun xs rows boxes K r hl hr => by
 obtain ⟨a1, e, h⟩ := runv hr
 have := St.like_eq (y := a a1) hl (by kernel_rfl) e
 obtain ⟨rfl, rfl, rfl⟩ := argSt_inj this
 exact (tie K a1).trans h
end impl_TreeOk
namespace impl_Compile
noncomputable def c : Code := bodyOf Go.Proofs.Try.f26
noncomputable def fi : Fin := ⟨Γ0, [(.tmp 2, 26), (.tmp 3, 4)], [[1], [1]], [], [], []⟩
noncomputable def m (r1 : List (List Cl)) (r2 : Bool) : Res := ⟨[⟨false, [.ow 1000]⟩, ⟨false, [.bool r2]⟩], [], [⟨[.int .i64, .int .i64, .int .i64, .int .i64, .int .i64, .ints .i64], .cells r1, true, 0, none⟩], [], []⟩
noncomputable def b0 : Code := codeAt c [1, 1, 1, 0, 1, 0, 0]
noncomputable def s0 (x3 : List (List Cl)) (x4 x5 : Int) (x6 : List (List Cl)) : St := ⟨mkT 43 [(4, one (.ow 7152)), (12, one (.tr 0 1 [.int .i64, .int .i64, .int .i64, .int .i64, .int .i64, .int .i64, .ints .i64] (.cells x3))), (13, one (.int .i64 x4)), (14, one (.int .i64 x5))], [(7152, ⟨[.int .i64, .int .i64, .int .i64, .int .i64, .int .i64, .ints .i64], .cells x6, true, 0, none⟩)], []⟩
noncomputable def l0s (x3 : List (List Cl)) (x4 : Int) (rec : Int → List (List Cl) → Option Res) (k : List (List Cl) → Option Res) (x5 : Int) (x6 : List (List Cl)) : Option Res :=
 bif decide (x5 < x4) then (bif decide (0 ≤ x5) && decide (x5 < (x3.length : Int)) then (bif decide ((((x3.getD x5.toNat []).getD 6 (.i 0)).toL).length * 8 ≤ 140737488355328) then (bif (((x3.getD x5.toNat []).getD 0 (.i 0)).toI == 2) then (bif decide ((x6.length + 1) * 64 ≤ 140737488355328) then rec (IntKind.i64.wrap (x5 + 1)) (x6 ++ ([[.i (((x3.getD x5.toNat []).getD 0 (.i 0)).toI), .i (((x3.getD x5.toNat []).getD 1 (.i 0)).toI), .i (((x3.getD x5.toNat []).getD 3 (.i 0)).toI), .i (((x3.getD x5.toNat []).getD 4 (.i 0)).toI), .i (((x3.getD x5.toNat []).getD 5 (.i 0)).toI), .l (((x3.getD x5.toNat []).getD 6 (.i 0)).toL)]] : List (List Cl)))
  else none)
  else bif (((x3.getD x5.toNat []).getD 0 (.i 0)).toI == 3) then (bif decide ((x6.length + 1) * 64 ≤ 140737488355328) then rec (IntKind.i64.wrap (x5 + 1)) (x6 ++ ([[.i (((x3.getD x5.toNat []).getD 0 (.i 0)).toI), .i (((x3.getD x5.toNat []).getD 1 (.i 0)).toI), .i (((x3.getD x5.toNat []).getD 3 (.i 0)).toI), .i (((x3.getD x5.toNat []).getD 4 (.i 0)).toI), .i (((x3.getD x5.toNat []).getD 5 (.i 0)).toI), .l (((x3.getD x5.toNat []).getD 6 (.i 0)).toL)]] : List (List Cl)))
   else none)
  else bif decide ((x6.length + 1) * 64 ≤ 140737488355328) then rec (IntKind.i64.wrap (x5 + 1)) (x6 ++ ([[.i (((x3.getD x5.toNat []).getD 0 (.i 0)).toI), .i 0, .i (((x3.getD x5.toNat []).getD 3 (.i 0)).toI), .i (((x3.getD x5.toNat []).getD 4 (.i 0)).toI), .i (((x3.getD x5.toNat []).getD 5 (.i 0)).toI), .l (((x3.getD x5.toNat []).getD 6 (.i 0)).toL)]] : List (List Cl)))
  else none)
  else none)
  else none)
 else k x6
noncomputable def l0 (x3 : List (List Cl)) (x4 : Int) (k : List (List Cl) → Option Res) : Nat → Int → List (List Cl) → Option Res
 | 0, _, _ => none
 | n + 1, x5, x6 => l0s x3 x4 (fun x5 x6 => l0 x3 x4 k n x5 x6) k x5 x6
noncomputable def o0 (x3 : List (List Cl)) (x4 : Int) (y1 : List (List Cl)) : St := ⟨mkT 43 [(4, one (.ow 7152))], [(7152, ⟨[.int .i64, .int .i64, .int .i64, .int .i64, .int .i64, .ints .i64], .cells y1, true, 0, none⟩)], []⟩
noncomputable def p0 (K : Res → Option Res) : List Lf → (St → Option Res) → Option Res
 | [.q (.cells x3), .i x4, .i x5, .q (.cells x6)], k => l0 x3 x4 (fun y1 => k (o0 x3 x4 y1)) fuel x5 x6
 | _, _ => none
noncomputable def os : List (FuncId × St × (List Lf → (Res → Option Res) → Option Res)) := [impl_TreeOk.con]
noncomputable def X (K : Res → Option Res) : Ctx := { Γ := Γ0, orc := orcOf os, io := [], share := [], opn := [], shr := [], bun := [], cut := [], own := [(3, 0, 0, [.int .i64, .int .i64, .int .i64, .int .i64, .int .i64, .ints .i64])], cin := [(0, ⟨[4, 12, 13, 14], [(7152, 7152), (21528, 7152)], [], [], [], []⟩)], cout := [(0, ⟨[4], [(7152, 7152)], [], [], [], []⟩)], lp := lpOf [(0, s0 [] 0 0 [], p0 K)], kl := Env.kl, nk := true, eqs := eqs0, byt := byt0, fin := finK fi K }
noncomputable def b (a1 : List (List Cl)) (R : List (List Cl) → Bool → Option Res) : Option Res :=
 impl_TreeOk.g a1 fun r2 =>
 bif !r2 then R ([] : List (List Cl)) false
 else (l0 a1 (a1.length : Int) (fun y7 =>
 R y7 true) fuel 0 ([] : List (List Cl)))
theorem gx : ∃ x : List (List Cl) → (List (List Cl) → Bool → Option Res) → Option Res, x = b := ⟨_, rfl⟩
noncomputable def g : List (List Cl) → (List (List Cl) → Bool → Option Res) → Option Res := Classical.choose gx
theorem e : g = b := Classical.choose_spec gx
noncomputable def run : List Lf → (Res → Option Res) → Option Res
 | [.q (.cells a1)], K => g a1 (fun r1 r2 => K (m r1 r2))
 | _, _ => none
noncomputable def a (a1 : List (List Cl)) : St := argSt [.v ⟨true, [.tr 0 1 [.int .i64, .int .i64, .int .i64, .int .i64, .int .i64, .int .i64, .ints .i64] (.cells a1)]⟩] [] []
noncomputable def con : FuncId × St × (List Lf → (Res → Option Res) → Option Res) := (26, a [], run)
theorem cx (K : Res → Option Res) : CtxOk Go.Proofs.Try.prog Γ0 byt0 eqs0 (X K) os := ⟨rfl, rfl, rfl, (fun p hp => by
 rcases List.mem_cons.1 hp with rfl | hp
 ·exact impl_TreeOk.ok
 cases hp), rfl, rfl, rfl⟩
theorem t0 (K : Res → Option Res) (k : St → Option Res) (it : St → (St → Option Res) → Option Res) (x3 : List (List Cl)) (x4 x5 : Int) (x6 : List (List Cl)) : iterS (X K) 0 b0 it (s0 x3 x4 x5 x6) k = l0s x3 x4 (fun x5 x6 => it (s0 x3 x4 x5 x6) k) (fun y1 => k (o0 x3 x4 y1)) x5 x6 := by kernel_rfl
theorem i0 (K : Res → Option Res) (k : St → Option Res) (x3 : List (List Cl)) (x4 : Int) : ∀ (n : Nat) (x5 : Int) (x6 : List (List Cl)), iter (X K) 0 b0 n (s0 x3 x4 x5 x6) k = l0 x3 x4 (fun y1 => k (o0 x3 x4 y1)) n x5 x6
 | 0, _, _ => rfl
 | n + 1, x5, x6 => by
  rw [iter_succ, t0, show (fun x5 x6 => iter (X K) 0 b0 n (s0 x3 x4 x5 x6) k) = (fun x5 x6 => l0 x3 x4 (fun y1 => k (o0 x3 x4 y1)) n x5 x6) from funext fun x5 => funext fun x6 => i0 K k x3 x4 n x5 x6]; rfl
theorem v0 {K : Res → Option Res} {l : List Lf} {k : St → Option Res} {r : Res} (h : p0 K l k = some r) : ∃ x3 x4 x5 x6, l = [.q (.cells x3), .i x4, .i x5, .q (.cells x6)] ∧ l0 x3 x4 (fun y1 => k (o0 x3 x4 y1)) fuel x5 x6 = some r := by
 unfold p0 at h; split at h
 ·exact ⟨_, _, _, _, rfl, h⟩
 ·cases h
theorem w0 (K : Res → Option Res) : LpSound Go.Proofs.Try.prog (X K) 0 b0 := lp_ok ((cx K).ok laid) (by rw [show loopsOf b0 = [] from by kernel_rfl]; intro p hp; cases hp) rfl fun p hp hid => by
 rcases List.mem_cons.1 hp with rfl | hp
 ·intro st k r h1 h2; obtain ⟨x3, x4, x5, x6, e, h⟩ := v0 (K := K) h2; have := St.like_eq (y := s0 x3 x4 x5 x6) h1 (by kernel_rfl) e; subst this; exact ⟨fuel, (i0 K k x3 x4 fuel x5 x6).trans h⟩
 cases hp
theorem tie (K : Res → Option Res) (a1 : List (List Cl)) : exec (X K) c (entry 43 [.v ⟨true, [.tr 0 1 [.int .i64, .int .i64, .int .i64, .int .i64, .int .i64, .int .i64, .ints .i64] (.cells a1)]⟩] [] []) (endK (X K)) = g a1 (fun r1 r2 => K (m r1 r2)) := Eq.trans (b := b a1 (fun r1 r2 => K (m r1 r2))) (by kernel_rfl) (by rw [e])
theorem runv {l : List Lf} {K : Res → Option Res} {r : Res} (h : run l K = some r) : ∃ a1, l = [.q (.cells a1)] ∧ g a1 (fun r1 r2 => K (m r1 r2)) = some r := by
 unfold run at h; split at h
 ·exact ⟨_, rfl, h⟩
 ·cases h
theorem ok : Con Go.Proofs.Try.prog con := con_of (fn := Go.Proofs.Try.f26) (c := c) (Fi := fi) (X := X) (fun_of laid (by kernel_rfl) (by kernel_rfl) (by kernel_rfl) rfl (by kernel_rfl) (by kernel_rfl) cx (fun _ => rfl) (fun _ => rfl) (fun K => by
 rw [show loopsOf c = [(0, b0)] from by kernel_rfl]; intro p hp
 rcases List.mem_cons.1 hp with rfl | hp
 ·exact w0 K
 cases hp)) fun xs rows boxes K r hl hr => by
 obtain ⟨a1, e, h⟩ := runv hr
 have := St.like_eq (y := a a1) hl (by kernel_rfl) e
 obtain ⟨rfl, rfl, rfl⟩ := argSt_inj this
 exact (tie K a1).trans h
end impl_Compile
namespace impl_LineCode
noncomputable def c : Code := bodyOf Go.Proofs.Try.f21
noncomputable def fi : Fin := ⟨Γ0, [(.tmp 2, 26), (.tmp 3, 3)], [[1], [1]], [], [], []⟩
noncomputable def m (r1 : List (List Cl)) (r2 : Int) : Res := ⟨[⟨false, [.ow 1000]⟩, ⟨false, [.int .i64 r2]⟩], [], [⟨[.int .i64, .int .i64, .int .i64, .int .i64, .int .i64, .ints .i64], .cells r1, true, 0, none⟩], [], []⟩
noncomputable def os : List (FuncId × St × (List Lf → (Res → Option Res) → Option Res)) := [impl_Lex.con, impl_Parse.con, impl_Compile.con]
noncomputable def X (K : Res → Option Res) : Ctx := { Γ := Γ0, orc := orcOf os, io := [(25, [⟨false, 2, 2⟩])], share := [], opn := [], shr := [], bun := [], cut := [], own := [], cin := [], cout := [], lp := lpOf [], kl := Env.kl, nk := true, eqs := eqs0, byt := byt0, fin := finK fi K }
noncomputable def b (a1 : ByteArray) (R : List (List Cl) → Int → Option Res) : Option Res :=
 impl_Lex.g a1 fun r2 r3 r4 =>
 bif (r3 != 0) then R ([] : List (List Cl)) r3
 else (impl_Parse.g r2 fun r5 r6 =>
 bif (r6 != 0) then R ([] : List (List Cl)) r6
 else (impl_Compile.g r5 fun r7 r8 =>
 R r7 0))
theorem gx : ∃ x : ByteArray → (List (List Cl) → Int → Option Res) → Option Res, x = b := ⟨_, rfl⟩
noncomputable def g : ByteArray → (List (List Cl) → Int → Option Res) → Option Res := Classical.choose gx
theorem e : g = b := Classical.choose_spec gx
noncomputable def run : List Lf → (Res → Option Res) → Option Res
 | [.s a1], K => g a1 (fun r1 r2 => K (m r1 r2))
 | _, _ => none
noncomputable def a (a1 : ByteArray) : St := argSt [one (.str a1)] [] []
noncomputable def con : FuncId × St × (List Lf → (Res → Option Res) → Option Res) := (21, a ByteArray.empty, run)
theorem cx (K : Res → Option Res) : CtxOk Go.Proofs.Try.prog Γ0 byt0 eqs0 (X K) os := ⟨rfl, rfl, rfl, (fun p hp => by
 rcases List.mem_cons.1 hp with rfl | hp
 ·exact impl_Lex.ok
 rcases List.mem_cons.1 hp with rfl | hp
 ·exact impl_Parse.ok
 rcases List.mem_cons.1 hp with rfl | hp
 ·exact impl_Compile.ok
 cases hp), rfl, rfl, rfl⟩
theorem tie (K : Res → Option Res) (a1 : ByteArray) : exec (X K) c (entry 33 [one (.str a1)] [] []) (endK (X K)) = g a1 (fun r1 r2 => K (m r1 r2)) := Eq.trans (b := b a1 (fun r1 r2 => K (m r1 r2))) (by kernel_rfl) (by rw [e])
theorem runv {l : List Lf} {K : Res → Option Res} {r : Res} (h : run l K = some r) : ∃ a1, l = [.s a1] ∧ g a1 (fun r1 r2 => K (m r1 r2)) = some r := by
 unfold run at h; split at h
 ·exact ⟨_, rfl, h⟩
 ·cases h
theorem ok : Con Go.Proofs.Try.prog con := con_of (fn := Go.Proofs.Try.f21) (c := c) (Fi := fi) (X := X) (fun_of laid (by kernel_rfl) (by kernel_rfl) (by kernel_rfl) rfl (by kernel_rfl) (by kernel_rfl) cx (fun _ => rfl) (fun _ => rfl) (fun K => by
 rw [show loopsOf c = [] from by kernel_rfl]; intro p hp
 cases hp)) fun xs rows boxes K r hl hr => by
 obtain ⟨a1, e, h⟩ := runv hr
 have := St.like_eq (y := a a1) hl (by kernel_rfl) e
 obtain ⟨rfl, rfl, rfl⟩ := argSt_inj this
 exact (tie K a1).trans h
end impl_LineCode
namespace spec_l8Digit
noncomputable def c : Code := bodyOf Go.Proofs.Try.f75
noncomputable def fi : Fin := ⟨Γ0, [(.tmp 4, 4)], [[1]], [], [], []⟩
noncomputable def m (r1 : Bool) : Res := ⟨[⟨false, [.bool r1]⟩], [], [], [], []⟩
noncomputable def os : List (FuncId × St × (List Lf → (Res → Option Res) → Option Res)) := []
noncomputable def X (K : Res → Option Res) : Ctx := { Γ := Γ0, orc := orcOf os, io := [], share := [], opn := [], shr := [], bun := [], cut := [], own := [], cin := [], cout := [], lp := lpOf [], kl := Env.kl, nk := true, eqs := eqs0, byt := byt0, fin := finK fi K }
noncomputable def b (a1 : ByteArray) (a2 : Int) (R : Bool → Option Res) : Option Res :=
 bif decide (a2 < (a1.size : Int)) then (bif decide (0 ≤ a2) && decide (a2 < (a1.size : Int)) then (bif decide (48 ≤ (bytesOf a1).getD a2.toNat 0) then (bif decide (0 ≤ a2) && decide (a2 < (a1.size : Int)) then R (decide ((bytesOf a1).getD a2.toNat 0 ≤ 57))
  else none)
  else R false)
  else none)
 else R false
theorem gx : ∃ x : ByteArray → Int → (Bool → Option Res) → Option Res, x = b := ⟨_, rfl⟩
noncomputable def g : ByteArray → Int → (Bool → Option Res) → Option Res := Classical.choose gx
theorem e : g = b := Classical.choose_spec gx
noncomputable def run : List Lf → (Res → Option Res) → Option Res
 | [.s a1, .i a2], K => g a1 a2 (fun r1 => K (m r1))
 | _, _ => none
noncomputable def a (a1 : ByteArray) (a2 : Int) : St := argSt [one (.str a1), one (.int .i64 a2)] [] []
noncomputable def con : FuncId × St × (List Lf → (Res → Option Res) → Option Res) := (75, a ByteArray.empty 0, run)
theorem cx (K : Res → Option Res) : CtxOk Go.Proofs.Try.prog Γ0 byt0 eqs0 (X K) os := ⟨rfl, rfl, rfl, (fun p hp => by
 cases hp), rfl, rfl, rfl⟩
theorem tie (K : Res → Option Res) (a1 : ByteArray) (a2 : Int) : exec (X K) c (entry 21 [one (.str a1), one (.int .i64 a2)] [] []) (endK (X K)) = g a1 a2 (fun r1 => K (m r1)) := Eq.trans (b := b a1 a2 (fun r1 => K (m r1))) (by kernel_rfl) (by rw [e])
theorem runv {l : List Lf} {K : Res → Option Res} {r : Res} (h : run l K = some r) : ∃ a1 a2, l = [.s a1, .i a2] ∧ g a1 a2 (fun r1 => K (m r1)) = some r := by
 unfold run at h; split at h
 ·exact ⟨_, _, rfl, h⟩
 ·cases h
theorem ok : Con Go.Proofs.Try.prog con := con_of (fn := Go.Proofs.Try.f75) (c := c) (Fi := fi) (X := X) (fun_of laid (by kernel_rfl) (by kernel_rfl) (by kernel_rfl) rfl (by kernel_rfl) (by kernel_rfl) cx (fun _ => rfl) (fun _ => rfl) (fun K => by
 rw [show loopsOf c = [] from by kernel_rfl]; intro p hp
 cases hp)) fun xs rows boxes K r hl hr => by
 obtain ⟨a1, a2, e, h⟩ := runv hr
 have := St.like_eq (y := a a1 a2) hl (by kernel_rfl) e
 obtain ⟨rfl, rfl, rfl⟩ := argSt_inj this
 exact (tie K a1 a2).trans h
end spec_l8Digit
namespace spec_l1In
noncomputable def c : Code := bodyOf Go.Proofs.Try.f42
noncomputable def fi : Fin := ⟨Γ0, [(.tmp 6, 4)], [[1]], [], [], []⟩
noncomputable def m (r1 : Bool) : Res := ⟨[⟨false, [.bool r1]⟩], [], [], [], []⟩
noncomputable def os : List (FuncId × St × (List Lf → (Res → Option Res) → Option Res)) := []
noncomputable def X (K : Res → Option Res) : Ctx := { Γ := Γ0, orc := orcOf os, io := [], share := [], opn := [], shr := [], bun := [], cut := [], own := [], cin := [], cout := [], lp := lpOf [], kl := Env.kl, nk := true, eqs := eqs0, byt := byt0, fin := finK fi K }
noncomputable def b (a1 a2 a3 : Int) (R : Bool → Option Res) : Option Res :=
 bif decide (a2 ≤ a1) then R (decide (a1 ≤ a3))
 else R false
theorem gx : ∃ x : Int → Int → Int → (Bool → Option Res) → Option Res, x = b := ⟨_, rfl⟩
noncomputable def g : Int → Int → Int → (Bool → Option Res) → Option Res := Classical.choose gx
theorem e : g = b := Classical.choose_spec gx
noncomputable def run : List Lf → (Res → Option Res) → Option Res
 | [.i a1, .i a2, .i a3], K => g a1 a2 a3 (fun r1 => K (m r1))
 | _, _ => none
noncomputable def a (a1 a2 a3 : Int) : St := argSt [one (.int .i64 a1), one (.int .i64 a2), one (.int .i64 a3)] [] []
noncomputable def con : FuncId × St × (List Lf → (Res → Option Res) → Option Res) := (42, a 0 0 0, run)
theorem cx (K : Res → Option Res) : CtxOk Go.Proofs.Try.prog Γ0 byt0 eqs0 (X K) os := ⟨rfl, rfl, rfl, (fun p hp => by
 cases hp), rfl, rfl, rfl⟩
theorem tie (K : Res → Option Res) (a1 a2 a3 : Int) : exec (X K) c (entry 15 [one (.int .i64 a1), one (.int .i64 a2), one (.int .i64 a3)] [] []) (endK (X K)) = g a1 a2 a3 (fun r1 => K (m r1)) := Eq.trans (b := b a1 a2 a3 (fun r1 => K (m r1))) (by kernel_rfl) (by rw [e])
theorem runv {l : List Lf} {K : Res → Option Res} {r : Res} (h : run l K = some r) : ∃ a1 a2 a3, l = [.i a1, .i a2, .i a3] ∧ g a1 a2 a3 (fun r1 => K (m r1)) = some r := by
 unfold run at h; split at h
 ·exact ⟨_, _, _, rfl, h⟩
 ·cases h
theorem ok : Con Go.Proofs.Try.prog con := con_of (fn := Go.Proofs.Try.f42) (c := c) (Fi := fi) (X := X) (fun_of laid (by kernel_rfl) (by kernel_rfl) (by kernel_rfl) rfl (by kernel_rfl) (by kernel_rfl) cx (fun _ => rfl) (fun _ => rfl) (fun K => by
 rw [show loopsOf c = [] from by kernel_rfl]; intro p hp
 cases hp)) fun xs rows boxes K r hl hr => by
 obtain ⟨a1, a2, a3, e, h⟩ := runv hr
 have := St.like_eq (y := a a1 a2 a3) hl (by kernel_rfl) e
 obtain ⟨rfl, rfl, rfl⟩ := argSt_inj this
 exact (tie K a1 a2 a3).trans h
end spec_l1In
namespace spec_NumOk
noncomputable def c : Code := bodyOf Go.Proofs.Try.f110
noncomputable def fi : Fin := ⟨Γ0, [(.tmp 2, 4)], [[1]], [], [], []⟩
noncomputable def m (r1 : Bool) : Res := ⟨[⟨false, [.bool r1]⟩], [], [], [], []⟩
noncomputable def os : List (FuncId × St × (List Lf → (Res → Option Res) → Option Res)) := [spec_l1In.con]
noncomputable def X (K : Res → Option Res) : Ctx := { Γ := Γ0, orc := orcOf os, io := [], share := [], opn := [], shr := [], bun := [], cut := [], own := [], cin := [], cout := [], lp := lpOf [], kl := Env.kl, nk := true, eqs := eqs0, byt := byt0, fin := finK fi K }
noncomputable def b (a1 : Int) (R : Bool → Option Res) : Option Res :=
 spec_l1In.g a1 (-1000000000000) 1000000000000 fun r2 =>
 R r2
theorem gx : ∃ x : Int → (Bool → Option Res) → Option Res, x = b := ⟨_, rfl⟩
noncomputable def g : Int → (Bool → Option Res) → Option Res := Classical.choose gx
theorem e : g = b := Classical.choose_spec gx
noncomputable def run : List Lf → (Res → Option Res) → Option Res
 | [.i a1], K => g a1 (fun r1 => K (m r1))
 | _, _ => none
noncomputable def a (a1 : Int) : St := argSt [one (.int .i64 a1)] [] []
noncomputable def con : FuncId × St × (List Lf → (Res → Option Res) → Option Res) := (110, a 0, run)
theorem cx (K : Res → Option Res) : CtxOk Go.Proofs.Try.prog Γ0 byt0 eqs0 (X K) os := ⟨rfl, rfl, rfl, (fun p hp => by
 rcases List.mem_cons.1 hp with rfl | hp
 ·exact spec_l1In.ok
 cases hp), rfl, rfl, rfl⟩
theorem tie (K : Res → Option Res) (a1 : Int) : exec (X K) c (entry 5 [one (.int .i64 a1)] [] []) (endK (X K)) = g a1 (fun r1 => K (m r1)) := Eq.trans (b := b a1 (fun r1 => K (m r1))) (by kernel_rfl) (by rw [e])
theorem runv {l : List Lf} {K : Res → Option Res} {r : Res} (h : run l K = some r) : ∃ a1, l = [.i a1] ∧ g a1 (fun r1 => K (m r1)) = some r := by
 unfold run at h; split at h
 ·exact ⟨_, rfl, h⟩
 ·cases h
theorem ok : Con Go.Proofs.Try.prog con := con_of (fn := Go.Proofs.Try.f110) (c := c) (Fi := fi) (X := X) (fun_of laid (by kernel_rfl) (by kernel_rfl) (by kernel_rfl) rfl (by kernel_rfl) (by kernel_rfl) cx (fun _ => rfl) (fun _ => rfl) (fun K => by
 rw [show loopsOf c = [] from by kernel_rfl]; intro p hp
 cases hp)) fun xs rows boxes K r hl hr => by
 obtain ⟨a1, e, h⟩ := runv hr
 have := St.like_eq (y := a a1) hl (by kernel_rfl) e
 obtain ⟨rfl, rfl, rfl⟩ := argSt_inj this
 exact (tie K a1).trans h
end spec_NumOk
namespace spec_l8Num
noncomputable def c : Code := bodyOf Go.Proofs.Try.f76
noncomputable def fi : Fin := ⟨Γ0, [(.tmp 4, 3), (.tmp 5, 3), (.tmp 6, 3)], [[1], [1], [1]], [], [], []⟩
noncomputable def m (r1 r2 r3 : Int) : Res := ⟨[⟨false, [.int .i64 r1]⟩, ⟨false, [.int .i64 r2]⟩, ⟨false, [.int .i64 r3]⟩], [], [], [], []⟩
noncomputable def b0 : Code := codeAt c [1, 1, 1, 1, 1, 0, 0, 0]
noncomputable def s0 (x4 : ByteArray) (x5 : Int) (x6 : Bool) (x7 : Int) : St := ⟨mkT 44 [(0, one (.str x4)), (1, one (.int .i64 x5)), (7, one (.bool x6)), (8, one (.int .i64 x7))], [], []⟩
noncomputable def l0s (x4 : ByteArray) (x6 : Bool) (rec : Int → Int → Option Res) (k : Int → Int → Option Res) (x5 x7 : Int) : Option Res :=
 spec_l8Digit.g x4 x5 fun r8 =>
 bif r8 then (bif decide (0 ≤ x5) && decide (x5 < (x4.size : Int)) then (spec_l1Min.g (IntKind.i64.wrap ((IntKind.i64.wrap ((IntKind.i64.wrap (10 * x7)) + (IntKind.i64.wrap ((bytesOf x4).getD x5.toNat 0)))) - 48)) 1000000000001 fun r9 =>
  rec (IntKind.i64.wrap (x5 + 1)) r9)
  else none)
 else k x5 x7
noncomputable def l0 (x4 : ByteArray) (x6 : Bool) (k : Int → Int → Option Res) : Nat → Int → Int → Option Res
 | 0, _, _ => none
 | n + 1, x5, x7 => l0s x4 x6 (fun x5 x7 => l0 x4 x6 k n x5 x7) k x5 x7
noncomputable def o0 (x4 : ByteArray) (x6 : Bool) (y1 y3 : Int) : St := ⟨mkT 44 [(1, one (.int .i64 y1)), (7, one (.bool x6)), (8, one (.int .i64 y3))], [], []⟩
noncomputable def p0 (K : Res → Option Res) : List Lf → (St → Option Res) → Option Res
 | [.s x4, .i x5, .b x6, .i x7], k => l0 x4 x6 (fun y1 y3 => k (o0 x4 x6 y1 y3)) fuel x5 x7
 | _, _ => none
noncomputable def os : List (FuncId × St × (List Lf → (Res → Option Res) → Option Res)) := [spec_l8Digit.con, spec_l1Min.con, spec_NumOk.con]
noncomputable def X (K : Res → Option Res) : Ctx := { Γ := Γ0, orc := orcOf os, io := [], share := [], opn := [], shr := [], bun := [], cut := [], own := [], cin := [(0, ⟨[0, 1, 7, 8], [], [], [], [], []⟩)], cout := [(0, ⟨[1, 7, 8], [], [], [], [], []⟩)], lp := lpOf [(0, s0 ByteArray.empty 0 false 0, p0 K)], kl := Env.kl, nk := true, eqs := eqs0, byt := byt0, fin := finK fi K }
noncomputable def b (a1 : ByteArray) (a2 : Int) (R : Int → Int → Int → Option Res) : Option Res :=
 bif decide (0 ≤ a2) && decide (a2 < (a1.size : Int)) then (bif ((bytesOf a1).getD a2.toNat 0 == 95) then (spec_l8Digit.g a1 (IntKind.i64.wrap (a2 + 1)) fun r3 =>
  bif !r3 then R 0 (IntKind.i64.wrap (a2 + 1)) 8
  else (l0 a1 ((bytesOf a1).getD a2.toNat 0 == 95) (fun y10 y11 =>
  spec_NumOk.g y11 fun r12 =>
  bif !r12 then R 0 y10 6
  else bif ((bytesOf a1).getD a2.toNat 0 == 95) then R (IntKind.i64.wrap (0 - y11)) y10 0
  else R y11 y10 0) fuel (IntKind.i64.wrap (a2 + 1)) 0))
  else (spec_l8Digit.g a1 a2 fun r13 =>
  bif !r13 then R 0 a2 8
  else (l0 a1 ((bytesOf a1).getD a2.toNat 0 == 95) (fun y14 y15 =>
  spec_NumOk.g y15 fun r16 =>
  bif !r16 then R 0 y14 6
  else bif ((bytesOf a1).getD a2.toNat 0 == 95) then R (IntKind.i64.wrap (0 - y15)) y14 0
  else R y15 y14 0) fuel a2 0)))
 else none
theorem gx : ∃ x : ByteArray → Int → (Int → Int → Int → Option Res) → Option Res, x = b := ⟨_, rfl⟩
noncomputable def g : ByteArray → Int → (Int → Int → Int → Option Res) → Option Res := Classical.choose gx
theorem e : g = b := Classical.choose_spec gx
noncomputable def run : List Lf → (Res → Option Res) → Option Res
 | [.s a1, .i a2], K => g a1 a2 (fun r1 r2 r3 => K (m r1 r2 r3))
 | _, _ => none
noncomputable def a (a1 : ByteArray) (a2 : Int) : St := argSt [one (.str a1), one (.int .i64 a2)] [] []
noncomputable def con : FuncId × St × (List Lf → (Res → Option Res) → Option Res) := (76, a ByteArray.empty 0, run)
theorem cx (K : Res → Option Res) : CtxOk Go.Proofs.Try.prog Γ0 byt0 eqs0 (X K) os := ⟨rfl, rfl, rfl, (fun p hp => by
 rcases List.mem_cons.1 hp with rfl | hp
 ·exact spec_l8Digit.ok
 rcases List.mem_cons.1 hp with rfl | hp
 ·exact spec_l1Min.ok
 rcases List.mem_cons.1 hp with rfl | hp
 ·exact spec_NumOk.ok
 cases hp), rfl, rfl, rfl⟩
theorem t0 (K : Res → Option Res) (k : St → Option Res) (it : St → (St → Option Res) → Option Res) (x4 : ByteArray) (x5 : Int) (x6 : Bool) (x7 : Int) : iterS (X K) 0 b0 it (s0 x4 x5 x6 x7) k = l0s x4 x6 (fun x5 x7 => it (s0 x4 x5 x6 x7) k) (fun y1 y3 => k (o0 x4 x6 y1 y3)) x5 x7 := by kernel_rfl
theorem i0 (K : Res → Option Res) (k : St → Option Res) (x4 : ByteArray) (x6 : Bool) : ∀ (n : Nat) (x5 x7 : Int), iter (X K) 0 b0 n (s0 x4 x5 x6 x7) k = l0 x4 x6 (fun y1 y3 => k (o0 x4 x6 y1 y3)) n x5 x7
 | 0, _, _ => rfl
 | n + 1, x5, x7 => by
  rw [iter_succ, t0, show (fun x5 x7 => iter (X K) 0 b0 n (s0 x4 x5 x6 x7) k) = (fun x5 x7 => l0 x4 x6 (fun y1 y3 => k (o0 x4 x6 y1 y3)) n x5 x7) from funext fun x5 => funext fun x7 => i0 K k x4 x6 n x5 x7]; rfl
theorem v0 {K : Res → Option Res} {l : List Lf} {k : St → Option Res} {r : Res} (h : p0 K l k = some r) : ∃ x4 x5 x6 x7, l = [.s x4, .i x5, .b x6, .i x7] ∧ l0 x4 x6 (fun y1 y3 => k (o0 x4 x6 y1 y3)) fuel x5 x7 = some r := by
 unfold p0 at h; split at h
 ·exact ⟨_, _, _, _, rfl, h⟩
 ·cases h
theorem w0 (K : Res → Option Res) : LpSound Go.Proofs.Try.prog (X K) 0 b0 := lp_ok ((cx K).ok laid) (by rw [show loopsOf b0 = [] from by kernel_rfl]; intro p hp; cases hp) rfl fun p hp hid => by
 rcases List.mem_cons.1 hp with rfl | hp
 ·intro st k r h1 h2; obtain ⟨x4, x5, x6, x7, e, h⟩ := v0 (K := K) h2; have := St.like_eq (y := s0 x4 x5 x6 x7) h1 (by kernel_rfl) e; subst this; exact ⟨fuel, (i0 K k x4 x6 fuel x5 x7).trans h⟩
 cases hp
theorem tie (K : Res → Option Res) (a1 : ByteArray) (a2 : Int) : exec (X K) c (entry 44 [one (.str a1), one (.int .i64 a2)] [] []) (endK (X K)) = g a1 a2 (fun r1 r2 r3 => K (m r1 r2 r3)) := Eq.trans (b := b a1 a2 (fun r1 r2 r3 => K (m r1 r2 r3))) (by kernel_rfl) (by rw [e])
theorem runv {l : List Lf} {K : Res → Option Res} {r : Res} (h : run l K = some r) : ∃ a1 a2, l = [.s a1, .i a2] ∧ g a1 a2 (fun r1 r2 r3 => K (m r1 r2 r3)) = some r := by
 unfold run at h; split at h
 ·exact ⟨_, _, rfl, h⟩
 ·cases h
theorem ok : Con Go.Proofs.Try.prog con := con_of (fn := Go.Proofs.Try.f76) (c := c) (Fi := fi) (X := X) (fun_of laid (by kernel_rfl) (by kernel_rfl) (by kernel_rfl) rfl (by kernel_rfl) (by kernel_rfl) cx (fun _ => rfl) (fun _ => rfl) (fun K => by
 rw [show loopsOf c = [(0, b0)] from by kernel_rfl]; intro p hp
 rcases List.mem_cons.1 hp with rfl | hp
 ·exact w0 K
 cases hp)) fun xs rows boxes K r hl hr => by
 obtain ⟨a1, a2, e, h⟩ := runv hr
 have := St.like_eq (y := a a1 a2) hl (by kernel_rfl) e
 obtain ⟨rfl, rfl, rfl⟩ := argSt_inj this
 exact (tie K a1 a2).trans h
end spec_l8Num
namespace spec_l8Sign
noncomputable def c : Code := bodyOf Go.Proofs.Try.f77
noncomputable def fi : Fin := ⟨Γ0, [(.tmp 2, 4)], [[1]], [], [], []⟩
noncomputable def m (r1 : Bool) : Res := ⟨[⟨false, [.bool r1]⟩], [], [], [], []⟩
noncomputable def b0 : Code := codeAt c [1, 1, 0, 1, 0, 0]
noncomputable def s0 (x2 : Int) (x3 : ByteArray) (x4 : Int) : St := ⟨mkT 17 [(0, one (.int .i64 x2)), (3, one (.str x3)), (4, one (.int .i64 x4))], [], []⟩
noncomputable def l0s (x2 : Int) (x3 : ByteArray) (rec : Int → Option Res) (k : Option Res) (R : Bool → Option Res) (x4 : Int) : Option Res :=
 bif decide (x4 < (x3.size : Int)) then (bif decide (0 ≤ x4) && decide (x4 < (x3.size : Int)) then (bif (IntKind.i64.wrap ((bytesOf x3).getD x4.toNat 0) == x2) then R true
  else rec (IntKind.i64.wrap (x4 + 1)))
  else none)
 else k
noncomputable def l0 (x2 : Int) (x3 : ByteArray) (k : Option Res) (R : Bool → Option Res) : Nat → Int → Option Res
 | 0, _ => none
 | n + 1, x4 => l0s x2 x3 (fun x4 => l0 x2 x3 k R n x4) k R x4
noncomputable def o0 (x2 : Int) (x3 : ByteArray) : St := ⟨mkT 17 [], [], []⟩
noncomputable def p0 (K : Res → Option Res) : List Lf → (St → Option Res) → Option Res
 | [.i x2, .s x3, .i x4], k => l0 x2 x3 (k (o0 x2 x3)) (fun r1 => K (m r1)) fuel x4
 | _, _ => none
noncomputable def os : List (FuncId × St × (List Lf → (Res → Option Res) → Option Res)) := []
noncomputable def X (K : Res → Option Res) : Ctx := { Γ := Γ0, orc := orcOf os, io := [], share := [], opn := [], shr := [], bun := [], cut := [], own := [], cin := [(0, ⟨[0, 3, 4], [], [], [], [], []⟩)], cout := [(0, ⟨[], [], [], [], [], []⟩)], lp := lpOf [(0, s0 0 ByteArray.empty 0, p0 K)], kl := Env.kl, nk := true, eqs := eqs0, byt := byt0, fin := finK fi K }
noncomputable def b (a1 : Int) (R : Bool → Option Res) : Option Res :=
 l0 a1 (⟨#[43, 45, 42, 37, 124, 38, 94, 61, 60, 62, 126, 105, 35, 44, 116, 100, 114, 122, 64, 63, 103, 36, 101, 47, 92, 46, 111]⟩ : ByteArray) (
 R false) R fuel 0
theorem gx : ∃ x : Int → (Bool → Option Res) → Option Res, x = b := ⟨_, rfl⟩
noncomputable def g : Int → (Bool → Option Res) → Option Res := Classical.choose gx
theorem e : g = b := Classical.choose_spec gx
noncomputable def run : List Lf → (Res → Option Res) → Option Res
 | [.i a1], K => g a1 (fun r1 => K (m r1))
 | _, _ => none
noncomputable def a (a1 : Int) : St := argSt [one (.int .i64 a1)] [] []
noncomputable def con : FuncId × St × (List Lf → (Res → Option Res) → Option Res) := (77, a 0, run)
theorem cx (K : Res → Option Res) : CtxOk Go.Proofs.Try.prog Γ0 byt0 eqs0 (X K) os := ⟨rfl, rfl, rfl, (fun p hp => by
 cases hp), rfl, rfl, rfl⟩
theorem t0 (K : Res → Option Res) (k : St → Option Res) (it : St → (St → Option Res) → Option Res) (x2 : Int) (x3 : ByteArray) (x4 : Int) : iterS (X K) 0 b0 it (s0 x2 x3 x4) k = l0s x2 x3 (fun x4 => it (s0 x2 x3 x4) k) (k (o0 x2 x3)) (fun r1 => K (m r1)) x4 := by kernel_rfl
theorem i0 (K : Res → Option Res) (k : St → Option Res) (x2 : Int) (x3 : ByteArray) : ∀ (n : Nat) (x4 : Int), iter (X K) 0 b0 n (s0 x2 x3 x4) k = l0 x2 x3 (k (o0 x2 x3)) (fun r1 => K (m r1)) n x4
 | 0, _ => rfl
 | n + 1, x4 => by
  rw [iter_succ, t0, show (fun x4 => iter (X K) 0 b0 n (s0 x2 x3 x4) k) = (fun x4 => l0 x2 x3 (k (o0 x2 x3)) (fun r1 => K (m r1)) n x4) from funext fun x4 => i0 K k x2 x3 n x4]; rfl
theorem v0 {K : Res → Option Res} {l : List Lf} {k : St → Option Res} {r : Res} (h : p0 K l k = some r) : ∃ x2 x3 x4, l = [.i x2, .s x3, .i x4] ∧ l0 x2 x3 (k (o0 x2 x3)) (fun r1 => K (m r1)) fuel x4 = some r := by
 unfold p0 at h; split at h
 ·exact ⟨_, _, _, rfl, h⟩
 ·cases h
theorem w0 (K : Res → Option Res) : LpSound Go.Proofs.Try.prog (X K) 0 b0 := lp_ok ((cx K).ok laid) (by rw [show loopsOf b0 = [] from by kernel_rfl]; intro p hp; cases hp) rfl fun p hp hid => by
 rcases List.mem_cons.1 hp with rfl | hp
 ·intro st k r h1 h2; obtain ⟨x2, x3, x4, e, h⟩ := v0 (K := K) h2; have := St.like_eq (y := s0 x2 x3 x4) h1 (by kernel_rfl) e; subst this; exact ⟨fuel, (i0 K k x2 x3 fuel x4).trans h⟩
 cases hp
theorem tie (K : Res → Option Res) (a1 : Int) : exec (X K) c (entry 17 [one (.int .i64 a1)] [] []) (endK (X K)) = g a1 (fun r1 => K (m r1)) := Eq.trans (b := b a1 (fun r1 => K (m r1))) (by kernel_rfl) (by rw [e])
theorem runv {l : List Lf} {K : Res → Option Res} {r : Res} (h : run l K = some r) : ∃ a1, l = [.i a1] ∧ g a1 (fun r1 => K (m r1)) = some r := by
 unfold run at h; split at h
 ·exact ⟨_, rfl, h⟩
 ·cases h
theorem ok : Con Go.Proofs.Try.prog con := con_of (fn := Go.Proofs.Try.f77) (c := c) (Fi := fi) (X := X) (fun_of laid (by kernel_rfl) (by kernel_rfl) (by kernel_rfl) rfl (by kernel_rfl) (by kernel_rfl) cx (fun _ => rfl) (fun _ => rfl) (fun K => by
 rw [show loopsOf c = [(0, b0)] from by kernel_rfl]; intro p hp
 rcases List.mem_cons.1 hp with rfl | hp
 ·exact w0 K
 cases hp)) fun xs rows boxes K r hl hr => by
 obtain ⟨a1, e, h⟩ := runv hr
 have := St.like_eq (y := a a1) hl (by kernel_rfl) e
 obtain ⟨rfl, rfl, rfl⟩ := argSt_inj this
 exact (tie K a1).trans h
end spec_l8Sign
namespace spec_Lex
noncomputable def c : Code := bodyOf Go.Proofs.Try.f45
noncomputable def fi : Fin := ⟨Γ0, [(.tmp 2, 48), (.tmp 3, 3), (.tmp 4, 3)], [[1], [1], [1]], [], [], []⟩
noncomputable def m (r1 : List (List Cl)) (r2 r3 : Int) : Res := ⟨[⟨false, [.ow 1000]⟩, ⟨false, [.int .i64 r2]⟩, ⟨false, [.int .i64 r3]⟩], [], [⟨[.int .i64, .int .i64], .cells r1, true, 0, none⟩], [], []⟩
noncomputable def b0 : Code := codeAt c [1, 1, 1, 1, 0, 0, 0]
noncomputable def s0 (x2 : ByteArray) (x3 : Int) (x4 : List (List Cl)) : St := ⟨mkT 90 [(0, one (.str x2)), (5, one (.ow 3048)), (6, one (.int .i64 x3))], [(3048, ⟨[.int .i64, .int .i64], .cells x4, true, 0, none⟩)], []⟩
noncomputable def l0s (x2 : ByteArray) (rec : Int → List (List Cl) → Option Res) (k : List (List Cl) → Option Res) (R : List (List Cl) → Int → Int → Option Res) (x3 : Int) (x4 : List (List Cl)) : Option Res :=
 bif decide (x3 < (x2.size : Int)) then (bif decide (0 ≤ x3) && decide (x3 < (x2.size : Int)) then (bif (IntKind.i64.wrap ((bytesOf x2).getD x3.toNat 0) == 32) then rec (IntKind.i64.wrap (x3 + 1)) x4
  else (spec_l8Digit.g x2 x3 fun r5 =>
  bif r5 then (spec_l8Num.g x2 x3 fun r6 r7 r8 =>
   bif (r8 != 0) then R ([] : List (List Cl)) r8 x3
   else bif decide ((x4.length + 1) * 16 ≤ 140737488355328) then rec r7 (x4 ++ ([[.i 1, .i r6]] : List (List Cl)))
   else none)
  else bif (IntKind.i64.wrap ((bytesOf x2).getD x3.toNat 0) == 95) then (spec_l8Num.g x2 x3 fun r9 r10 r11 =>
   bif (r11 != 0) then R ([] : List (List Cl)) r11 x3
   else bif decide ((x4.length + 1) * 16 ≤ 140737488355328) then rec r10 (x4 ++ ([[.i 1, .i r9]] : List (List Cl)))
   else none)
  else (spec_l1In.g (IntKind.i64.wrap ((bytesOf x2).getD x3.toNat 0)) 65 90 fun r12 =>
  bif r12 then (bif decide ((x4.length + 1) * 16 ≤ 140737488355328) then rec (IntKind.i64.wrap (x3 + 1)) (x4 ++ ([[.i 2, .i (IntKind.i64.wrap ((IntKind.i64.wrap ((bytesOf x2).getD x3.toNat 0)) - 65))]] : List (List Cl)))
   else none)
  else bif (IntKind.i64.wrap ((bytesOf x2).getD x3.toNat 0) == 40) then (bif decide ((x4.length + 1) * 16 ≤ 140737488355328) then rec (IntKind.i64.wrap (x3 + 1)) (x4 ++ ([[.i 4, .i 0]] : List (List Cl)))
   else none)
  else bif (IntKind.i64.wrap ((bytesOf x2).getD x3.toNat 0) == 41) then (bif decide ((x4.length + 1) * 16 ≤ 140737488355328) then rec (IntKind.i64.wrap (x3 + 1)) (x4 ++ ([[.i 5, .i 0]] : List (List Cl)))
   else none)
  else bif (IntKind.i64.wrap ((bytesOf x2).getD x3.toNat 0) == 58) then (bif decide ((x4.length + 1) * 16 ≤ 140737488355328) then rec (IntKind.i64.wrap (x3 + 1)) (x4 ++ ([[.i 6, .i 0]] : List (List Cl)))
   else none)
  else (spec_l8Sign.g (IntKind.i64.wrap ((bytesOf x2).getD x3.toNat 0)) fun r13 =>
  bif r13 then (bif decide ((x4.length + 1) * 16 ≤ 140737488355328) then rec (IntKind.i64.wrap (x3 + 1)) (x4 ++ ([[.i 3, .i (IntKind.i64.wrap ((bytesOf x2).getD x3.toNat 0))]] : List (List Cl)))
   else none)
  else R ([] : List (List Cl)) 8 x3))))
  else none)
 else k x4
noncomputable def l0 (x2 : ByteArray) (k : List (List Cl) → Option Res) (R : List (List Cl) → Int → Int → Option Res) : Nat → Int → List (List Cl) → Option Res
 | 0, _, _ => none
 | n + 1, x3, x4 => l0s x2 (fun x3 x4 => l0 x2 k R n x3 x4) k R x3 x4
noncomputable def o0 (x2 : ByteArray) (y2 : List (List Cl)) : St := ⟨mkT 90 [(0, one (.str x2)), (5, one (.ow 3048))], [(3048, ⟨[.int .i64, .int .i64], .cells y2, true, 0, none⟩)], []⟩
noncomputable def p0 (K : Res → Option Res) : List Lf → (St → Option Res) → Option Res
 | [.s x2, .i x3, .q (.cells x4)], k => l0 x2 (fun y2 => k (o0 x2 y2)) (fun r1 r2 r3 => K (m r1 r2 r3)) fuel x3 x4
 | _, _ => none
noncomputable def os : List (FuncId × St × (List Lf → (Res → Option Res) → Option Res)) := [spec_l8Digit.con, spec_l8Num.con, spec_l1In.con, spec_l8Sign.con]
noncomputable def X (K : Res → Option Res) : Ctx := { Γ := Γ0, orc := orcOf os, io := [], share := [], opn := [], shr := [], bun := [], cut := [], own := [], cin := [(0, ⟨[0, 5, 6], [(3048, 3048), (58392, 3048)], [], [], [], []⟩)], cout := [(0, ⟨[0, 5], [(3048, 3048)], [], [], [], []⟩)], lp := lpOf [(0, s0 ByteArray.empty 0 [], p0 K)], kl := Env.kl, nk := true, eqs := eqs0, byt := byt0, fin := finK fi K }
noncomputable def b (a1 : ByteArray) (R : List (List Cl) → Int → Int → Option Res) : Option Res :=
 bif decide (300 < (a1.size : Int)) then R ([] : List (List Cl)) 6 0
 else (l0 a1 (fun y14 =>
 R y14 0 (a1.size : Int)) R fuel 0 ([] : List (List Cl)))
theorem gx : ∃ x : ByteArray → (List (List Cl) → Int → Int → Option Res) → Option Res, x = b := ⟨_, rfl⟩
noncomputable def g : ByteArray → (List (List Cl) → Int → Int → Option Res) → Option Res := Classical.choose gx
theorem e : g = b := Classical.choose_spec gx
noncomputable def run : List Lf → (Res → Option Res) → Option Res
 | [.s a1], K => g a1 (fun r1 r2 r3 => K (m r1 r2 r3))
 | _, _ => none
noncomputable def a (a1 : ByteArray) : St := argSt [one (.str a1)] [] []
noncomputable def con : FuncId × St × (List Lf → (Res → Option Res) → Option Res) := (45, a ByteArray.empty, run)
theorem cx (K : Res → Option Res) : CtxOk Go.Proofs.Try.prog Γ0 byt0 eqs0 (X K) os := ⟨rfl, rfl, rfl, (fun p hp => by
 rcases List.mem_cons.1 hp with rfl | hp
 ·exact spec_l8Digit.ok
 rcases List.mem_cons.1 hp with rfl | hp
 ·exact spec_l8Num.ok
 rcases List.mem_cons.1 hp with rfl | hp
 ·exact spec_l1In.ok
 rcases List.mem_cons.1 hp with rfl | hp
 ·exact spec_l8Sign.ok
 cases hp), rfl, rfl, rfl⟩
theorem t0 (K : Res → Option Res) (k : St → Option Res) (it : St → (St → Option Res) → Option Res) (x2 : ByteArray) (x3 : Int) (x4 : List (List Cl)) : iterS (X K) 0 b0 it (s0 x2 x3 x4) k = l0s x2 (fun x3 x4 => it (s0 x2 x3 x4) k) (fun y2 => k (o0 x2 y2)) (fun r1 r2 r3 => K (m r1 r2 r3)) x3 x4 := by kernel_rfl
theorem i0 (K : Res → Option Res) (k : St → Option Res) (x2 : ByteArray) : ∀ (n : Nat) (x3 : Int) (x4 : List (List Cl)), iter (X K) 0 b0 n (s0 x2 x3 x4) k = l0 x2 (fun y2 => k (o0 x2 y2)) (fun r1 r2 r3 => K (m r1 r2 r3)) n x3 x4
 | 0, _, _ => rfl
 | n + 1, x3, x4 => by
  rw [iter_succ, t0, show (fun x3 x4 => iter (X K) 0 b0 n (s0 x2 x3 x4) k) = (fun x3 x4 => l0 x2 (fun y2 => k (o0 x2 y2)) (fun r1 r2 r3 => K (m r1 r2 r3)) n x3 x4) from funext fun x3 => funext fun x4 => i0 K k x2 n x3 x4]; rfl
theorem v0 {K : Res → Option Res} {l : List Lf} {k : St → Option Res} {r : Res} (h : p0 K l k = some r) : ∃ x2 x3 x4, l = [.s x2, .i x3, .q (.cells x4)] ∧ l0 x2 (fun y2 => k (o0 x2 y2)) (fun r1 r2 r3 => K (m r1 r2 r3)) fuel x3 x4 = some r := by
 unfold p0 at h; split at h
 ·exact ⟨_, _, _, rfl, h⟩
 ·cases h
theorem w0 (K : Res → Option Res) : LpSound Go.Proofs.Try.prog (X K) 0 b0 := lp_ok ((cx K).ok laid) (by rw [show loopsOf b0 = [] from by kernel_rfl]; intro p hp; cases hp) rfl fun p hp hid => by
 rcases List.mem_cons.1 hp with rfl | hp
 ·intro st k r h1 h2; obtain ⟨x2, x3, x4, e, h⟩ := v0 (K := K) h2; have := St.like_eq (y := s0 x2 x3 x4) h1 (by kernel_rfl) e; subst this; exact ⟨fuel, (i0 K k x2 fuel x3 x4).trans h⟩
 cases hp
theorem tie (K : Res → Option Res) (a1 : ByteArray) : exec (X K) c (entry 90 [one (.str a1)] [] []) (endK (X K)) = g a1 (fun r1 r2 r3 => K (m r1 r2 r3)) := Eq.trans (b := b a1 (fun r1 r2 r3 => K (m r1 r2 r3))) (by kernel_rfl) (by rw [e])
theorem runv {l : List Lf} {K : Res → Option Res} {r : Res} (h : run l K = some r) : ∃ a1, l = [.s a1] ∧ g a1 (fun r1 r2 r3 => K (m r1 r2 r3)) = some r := by
 unfold run at h; split at h
 ·exact ⟨_, rfl, h⟩
 ·cases h
theorem ok : Con Go.Proofs.Try.prog con := con_of (fn := Go.Proofs.Try.f45) (c := c) (Fi := fi) (X := X) (fun_of laid (by kernel_rfl) (by kernel_rfl) (by kernel_rfl) rfl (by kernel_rfl) (by kernel_rfl) cx (fun _ => rfl) (fun _ => rfl) (fun K => by
 rw [show loopsOf c = [(0, b0)] from by kernel_rfl]; intro p hp
 rcases List.mem_cons.1 hp with rfl | hp
 ·exact w0 K
 cases hp)) fun xs rows boxes K r hl hr => by
 obtain ⟨a1, e, h⟩ := runv hr
 have := St.like_eq (y := a a1) hl (by kernel_rfl) e
 obtain ⟨rfl, rfl, rfl⟩ := argSt_inj this
 exact (tie K a1).trans h
end spec_Lex
namespace spec_TokenOk
noncomputable def c : Code := bodyOf Go.Proofs.Try.f112
noncomputable def fi : Fin := ⟨Γ0, [(.tmp 2, 4)], [[1]], [], [], []⟩
noncomputable def m (r1 : Bool) : Res := ⟨[⟨false, [.bool r1]⟩], [], [], [], []⟩
noncomputable def os : List (FuncId × St × (List Lf → (Res → Option Res) → Option Res)) := [spec_NumOk.con, spec_l1In.con, spec_l8Sign.con]
noncomputable def X (K : Res → Option Res) : Ctx := { Γ := Γ0, orc := orcOf os, io := [], share := [], opn := [], shr := [], bun := [], cut := [], own := [], cin := [], cout := [], lp := lpOf [], kl := Env.kl, nk := true, eqs := eqs0, byt := byt0, fin := finK fi K }
noncomputable def b (a1 a2 : Int) (R : Bool → Option Res) : Option Res :=
 bif (a1 == 1) then (spec_NumOk.g a2 fun r3 =>
  R r3)
 else bif (a1 == 2) then (spec_l1In.g a2 0 25 fun r4 =>
  R r4)
 else bif (a1 == 3) then (spec_l8Sign.g a2 fun r5 =>
  R r5)
 else bif (a1 == 4) then R (a2 == 0)
 else bif (a1 == 5) then R (a2 == 0)
 else bif (a1 == 6) then R (a2 == 0)
 else R false
theorem gx : ∃ x : Int → Int → (Bool → Option Res) → Option Res, x = b := ⟨_, rfl⟩
noncomputable def g : Int → Int → (Bool → Option Res) → Option Res := Classical.choose gx
theorem e : g = b := Classical.choose_spec gx
noncomputable def run : List Lf → (Res → Option Res) → Option Res
 | [.i a1, .i a2], K => g a1 a2 (fun r1 => K (m r1))
 | _, _ => none
noncomputable def a (a1 a2 : Int) : St := argSt [.v ⟨true, [.int .i64 a1, .int .i64 a2]⟩] [] []
noncomputable def con : FuncId × St × (List Lf → (Res → Option Res) → Option Res) := (112, a 0 0, run)
theorem cx (K : Res → Option Res) : CtxOk Go.Proofs.Try.prog Γ0 byt0 eqs0 (X K) os := ⟨rfl, rfl, rfl, (fun p hp => by
 rcases List.mem_cons.1 hp with rfl | hp
 ·exact spec_NumOk.ok
 rcases List.mem_cons.1 hp with rfl | hp
 ·exact spec_l1In.ok
 rcases List.mem_cons.1 hp with rfl | hp
 ·exact spec_l8Sign.ok
 cases hp), rfl, rfl, rfl⟩
theorem tie (K : Res → Option Res) (a1 a2 : Int) : exec (X K) c (entry 27 [.v ⟨true, [.int .i64 a1, .int .i64 a2]⟩] [] []) (endK (X K)) = g a1 a2 (fun r1 => K (m r1)) := Eq.trans (b := b a1 a2 (fun r1 => K (m r1))) (by kernel_rfl) (by rw [e])
theorem runv {l : List Lf} {K : Res → Option Res} {r : Res} (h : run l K = some r) : ∃ a1 a2, l = [.i a1, .i a2] ∧ g a1 a2 (fun r1 => K (m r1)) = some r := by
 unfold run at h; split at h
 ·exact ⟨_, _, rfl, h⟩
 ·cases h
theorem ok : Con Go.Proofs.Try.prog con := con_of (fn := Go.Proofs.Try.f112) (c := c) (Fi := fi) (X := X) (fun_of laid (by kernel_rfl) (by kernel_rfl) (by kernel_rfl) rfl (by kernel_rfl) (by kernel_rfl) cx (fun _ => rfl) (fun _ => rfl) (fun K => by
 rw [show loopsOf c = [] from by kernel_rfl]; intro p hp
 cases hp)) fun xs rows boxes K r hl hr => by
 obtain ⟨a1, a2, e, h⟩ := runv hr
 have := St.like_eq (y := a a1 a2) hl (by kernel_rfl) e
 obtain ⟨rfl, rfl, rfl⟩ := argSt_inj this
 exact (tie K a1 a2).trans h
end spec_TokenOk
namespace spec_l8Tokens
noncomputable def c : Code := bodyOf Go.Proofs.Try.f78
noncomputable def fi : Fin := ⟨Γ0, [(.tmp 2, 4)], [[1]], [], [], []⟩
noncomputable def m (r1 : Bool) : Res := ⟨[⟨false, [.bool r1]⟩], [], [], [], []⟩
noncomputable def b0 : Code := codeAt c [1, 0, 1, 0, 0]
noncomputable def s0 (x2 : List (List Cl)) (x3 : Int) : St := ⟨mkT 19 [(0, one (.tr 0 1 [.int .i64, .int .i64] (.cells x2))), (3, one (.int .i64 x3))], [], []⟩
noncomputable def l0s (x2 : List (List Cl)) (rec : Int → Option Res) (k : Option Res) (R : Bool → Option Res) (x3 : Int) : Option Res :=
 bif decide (x3 < (x2.length : Int)) then (bif decide (0 ≤ x3) && decide (x3 < (x2.length : Int)) then (spec_TokenOk.g (((x2.getD x3.toNat []).getD 0 (.i 0)).toI) (((x2.getD x3.toNat []).getD 1 (.i 0)).toI) fun r4 =>
  bif !r4 then R false
  else rec (IntKind.i64.wrap (x3 + 1)))
  else none)
 else k
noncomputable def l0 (x2 : List (List Cl)) (k : Option Res) (R : Bool → Option Res) : Nat → Int → Option Res
 | 0, _ => none
 | n + 1, x3 => l0s x2 (fun x3 => l0 x2 k R n x3) k R x3
noncomputable def o0 (x2 : List (List Cl)) : St := ⟨mkT 19 [(0, one (.tr 0 1 [.int .i64, .int .i64] (.cells x2)))], [], []⟩
noncomputable def p0 (K : Res → Option Res) : List Lf → (St → Option Res) → Option Res
 | [.q (.cells x2), .i x3], k => l0 x2 (k (o0 x2)) (fun r1 => K (m r1)) fuel x3
 | _, _ => none
noncomputable def os : List (FuncId × St × (List Lf → (Res → Option Res) → Option Res)) := [spec_TokenOk.con]
noncomputable def X (K : Res → Option Res) : Ctx := { Γ := Γ0, orc := orcOf os, io := [], share := [], opn := [], shr := [], bun := [], cut := [], own := [], cin := [(0, ⟨[0, 3], [], [], [], [], []⟩)], cout := [(0, ⟨[0], [], [], [], [], []⟩)], lp := lpOf [(0, s0 [] 0, p0 K)], kl := Env.kl, nk := true, eqs := eqs0, byt := byt0, fin := finK fi K }
noncomputable def b (a1 : List (List Cl)) (R : Bool → Option Res) : Option Res :=
 l0 a1 (
 R (decide ((a1.length : Int) ≤ 300))) R fuel 0
theorem gx : ∃ x : List (List Cl) → (Bool → Option Res) → Option Res, x = b := ⟨_, rfl⟩
noncomputable def g : List (List Cl) → (Bool → Option Res) → Option Res := Classical.choose gx
theorem e : g = b := Classical.choose_spec gx
noncomputable def run : List Lf → (Res → Option Res) → Option Res
 | [.q (.cells a1)], K => g a1 (fun r1 => K (m r1))
 | _, _ => none
noncomputable def a (a1 : List (List Cl)) : St := argSt [one (.tr 0 1 [.int .i64, .int .i64] (.cells a1))] [] []
noncomputable def con : FuncId × St × (List Lf → (Res → Option Res) → Option Res) := (78, a [], run)
theorem cx (K : Res → Option Res) : CtxOk Go.Proofs.Try.prog Γ0 byt0 eqs0 (X K) os := ⟨rfl, rfl, rfl, (fun p hp => by
 rcases List.mem_cons.1 hp with rfl | hp
 ·exact spec_TokenOk.ok
 cases hp), rfl, rfl, rfl⟩
theorem t0 (K : Res → Option Res) (k : St → Option Res) (it : St → (St → Option Res) → Option Res) (x2 : List (List Cl)) (x3 : Int) : iterS (X K) 0 b0 it (s0 x2 x3) k = l0s x2 (fun x3 => it (s0 x2 x3) k) (k (o0 x2)) (fun r1 => K (m r1)) x3 := by kernel_rfl
theorem i0 (K : Res → Option Res) (k : St → Option Res) (x2 : List (List Cl)) : ∀ (n : Nat) (x3 : Int), iter (X K) 0 b0 n (s0 x2 x3) k = l0 x2 (k (o0 x2)) (fun r1 => K (m r1)) n x3
 | 0, _ => rfl
 | n + 1, x3 => by
  rw [iter_succ, t0, show (fun x3 => iter (X K) 0 b0 n (s0 x2 x3) k) = (fun x3 => l0 x2 (k (o0 x2)) (fun r1 => K (m r1)) n x3) from funext fun x3 => i0 K k x2 n x3]; rfl
theorem v0 {K : Res → Option Res} {l : List Lf} {k : St → Option Res} {r : Res} (h : p0 K l k = some r) : ∃ x2 x3, l = [.q (.cells x2), .i x3] ∧ l0 x2 (k (o0 x2)) (fun r1 => K (m r1)) fuel x3 = some r := by
 unfold p0 at h; split at h
 ·exact ⟨_, _, rfl, h⟩
 ·cases h
theorem w0 (K : Res → Option Res) : LpSound Go.Proofs.Try.prog (X K) 0 b0 := lp_ok ((cx K).ok laid) (by rw [show loopsOf b0 = [] from by kernel_rfl]; intro p hp; cases hp) rfl fun p hp hid => by
 rcases List.mem_cons.1 hp with rfl | hp
 ·intro st k r h1 h2; obtain ⟨x2, x3, e, h⟩ := v0 (K := K) h2; have := St.like_eq (y := s0 x2 x3) h1 (by kernel_rfl) e; subst this; exact ⟨fuel, (i0 K k x2 fuel x3).trans h⟩
 cases hp
theorem tie (K : Res → Option Res) (a1 : List (List Cl)) : exec (X K) c (entry 19 [one (.tr 0 1 [.int .i64, .int .i64] (.cells a1))] [] []) (endK (X K)) = g a1 (fun r1 => K (m r1)) := Eq.trans (b := b a1 (fun r1 => K (m r1))) (by kernel_rfl) (by rw [e])
theorem runv {l : List Lf} {K : Res → Option Res} {r : Res} (h : run l K = some r) : ∃ a1, l = [.q (.cells a1)] ∧ g a1 (fun r1 => K (m r1)) = some r := by
 unfold run at h; split at h
 ·exact ⟨_, rfl, h⟩
 ·cases h
theorem ok : Con Go.Proofs.Try.prog con := con_of (fn := Go.Proofs.Try.f78) (c := c) (Fi := fi) (X := X) (fun_of laid (by kernel_rfl) (by kernel_rfl) (by kernel_rfl) rfl (by kernel_rfl) (by kernel_rfl) cx (fun _ => rfl) (fun _ => rfl) (fun K => by
 rw [show loopsOf c = [(0, b0)] from by kernel_rfl]; intro p hp
 rcases List.mem_cons.1 hp with rfl | hp
 ·exact w0 K
 cases hp)) fun xs rows boxes K r hl hr => by
 obtain ⟨a1, e, h⟩ := runv hr
 have := St.like_eq (y := a a1) hl (by kernel_rfl) e
 obtain ⟨rfl, rfl, rfl⟩ := argSt_inj this
 exact (tie K a1).trans h
end spec_l8Tokens
namespace spec_l9Kind
noncomputable def c : Code := bodyOf Go.Proofs.Try.f113
noncomputable def fi : Fin := ⟨Γ0, [(.tmp 4, 3)], [[1]], [true], [([.sl [.int .i64, .int .i64] 16, .int .i64, .sl [.int .i64, .int .i64, .int .i64, .int .i64, .int .i64, .int .i64, .ints .i64] 72], [0, 1, 2])], []⟩
noncomputable def m (a2 a3 : List (List Cl)) (a4 r1 : Int) : Res := ⟨[⟨false, [.int .i64 r1]⟩], [some ⟨[.int .i64, .int .i64, .int .i64, .int .i64, .int .i64, .int .i64, .ints .i64], .cells a2, true, 0, none⟩], [], [[.tr 2 2 [.int .i64, .int .i64] (.cells a3), .int .i64 a4, .ow 0]], []⟩
noncomputable def os : List (FuncId × St × (List Lf → (Res → Option Res) → Option Res)) := []
noncomputable def X (K : Res → Option Res) : Ctx := { Γ := Γ0, orc := orcOf os, io := [], share := [], opn := [], shr := [], bun := [], cut := [], own := [], cin := [], cout := [], lp := lpOf [], kl := Env.kl, nk := true, eqs := eqs0, byt := byt0, fin := finK fi K }
noncomputable def b (a1 : Int) (a2 a3 : List (List Cl)) (a4 : Int) (R : Int → Option Res) : Option Res :=
 bif decide ((a3.length : Int) ≤ IntKind.i64.wrap (a4 + a1)) then R 0
 else bif decide (0 ≤ IntKind.i64.wrap (a4 + a1)) && decide (IntKind.i64.wrap (a4 + a1) < (a3.length : Int)) then R (((a3.getD ((IntKind.i64.wrap (a4 + a1)).toNat) []).getD 0 (.i 0)).toI)
 else none
theorem gx : ∃ x : Int → List (List Cl) → List (List Cl) → Int → (Int → Option Res) → Option Res, x = b := ⟨_, rfl⟩
noncomputable def g : Int → List (List Cl) → List (List Cl) → Int → (Int → Option Res) → Option Res := Classical.choose gx
theorem e : g = b := Classical.choose_spec gx
noncomputable def run : List Lf → (Res → Option Res) → Option Res
 | [.i a1, .q (.cells a2), .q (.cells a3), .i a4], K => g a1 a2 a3 a4 (fun r1 => K (m a2 a3 a4 r1))
 | _, _ => none
noncomputable def a (a1 : Int) (a2 a3 : List (List Cl)) (a4 : Int) : St := argSt [one (.bp 0 0), one (.int .i64 a1)] [⟨[.int .i64, .int .i64, .int .i64, .int .i64, .int .i64, .int .i64, .ints .i64], .cells a2, true, 0, none⟩] [[.tr 2 2 [.int .i64, .int .i64] (.cells a3), .int .i64 a4, .ow 0]]
noncomputable def con : FuncId × St × (List Lf → (Res → Option Res) → Option Res) := (113, a 0 [] [] 0, run)
theorem cx (K : Res → Option Res) : CtxOk Go.Proofs.Try.prog Γ0 byt0 eqs0 (X K) os := ⟨rfl, rfl, rfl, (fun p hp => by
 cases hp), rfl, rfl, rfl⟩
theorem tie (K : Res → Option Res) (a1 : Int) (a2 a3 : List (List Cl)) (a4 : Int) : exec (X K) c (entry 30 [one (.bp 0 0), one (.int .i64 a1)] [⟨[.int .i64, .int .i64, .int .i64, .int .i64, .int .i64, .int .i64, .ints .i64], .cells a2, true, 0, none⟩] [[.tr 2 2 [.int .i64, .int .i64] (.cells a3), .int .i64 a4, .ow 0]]) (endK (X K)) = g a1 a2 a3 a4 (fun r1 => K (m a2 a3 a4 r1)) := Eq.trans (b := b a1 a2 a3 a4 (fun r1 => K (m a2 a3 a4 r1))) (by kernel_rfl) (by rw [e])
theorem runv {l : List Lf} {K : Res → Option Res} {r : Res} (h : run l K = some r) : ∃ a1 a2 a3 a4, l = [.i a1, .q (.cells a2), .q (.cells a3), .i a4] ∧ g a1 a2 a3 a4 (fun r1 => K (m a2 a3 a4 r1)) = some r := by
 unfold run at h; split at h
 ·exact ⟨_, _, _, _, rfl, h⟩
 ·cases h
theorem ok : Con Go.Proofs.Try.prog con := con_of (fn := Go.Proofs.Try.f113) (c := c) (Fi := fi) (X := X) (fun_of laid (by kernel_rfl) (by kernel_rfl) (by kernel_rfl) rfl (by kernel_rfl) (by kernel_rfl) cx (fun _ => rfl) (fun _ => rfl) (fun K => by
 rw [show loopsOf c = [] from by kernel_rfl]; intro p hp
 cases hp)) fun xs rows boxes K r hl hr => by
 obtain ⟨a1, a2, a3, a4, e, h⟩ := runv hr
 have := St.like_eq (y := a a1 a2 a3 a4) hl (by kernel_rfl) e
 obtain ⟨rfl, rfl, rfl⟩ := argSt_inj this
 exact (tie K a1 a2 a3 a4).trans h
end spec_l9Kind
namespace spec_l9Sign
noncomputable def c : Code := bodyOf Go.Proofs.Try.f125
noncomputable def fi : Fin := ⟨Γ0, [(.tmp 4, 3)], [[1]], [true], [([.sl [.int .i64, .int .i64] 16, .int .i64, .sl [.int .i64, .int .i64, .int .i64, .int .i64, .int .i64, .int .i64, .ints .i64] 72], [0, 1, 2])], []⟩
noncomputable def m (a2 a3 : List (List Cl)) (a4 r1 : Int) : Res := ⟨[⟨false, [.int .i64 r1]⟩], [some ⟨[.int .i64, .int .i64, .int .i64, .int .i64, .int .i64, .int .i64, .ints .i64], .cells a2, true, 0, none⟩], [], [[.tr 2 2 [.int .i64, .int .i64] (.cells a3), .int .i64 a4, .ow 0]], []⟩
noncomputable def os : List (FuncId × St × (List Lf → (Res → Option Res) → Option Res)) := [spec_l9Kind.con]
noncomputable def X (K : Res → Option Res) : Ctx := { Γ := Γ0, orc := orcOf os, io := [], share := [], opn := [], shr := [], bun := [], cut := [], own := [], cin := [], cout := [], lp := lpOf [], kl := Env.kl, nk := true, eqs := eqs0, byt := byt0, fin := finK fi K }
noncomputable def b (a1 : Int) (a2 a3 : List (List Cl)) (a4 : Int) (R : Int → Option Res) : Option Res :=
 spec_l9Kind.g a1 a2 a3 a4 fun r5 =>
 bif (r5 != 3) then R 0
 else bif decide (0 ≤ IntKind.i64.wrap (a4 + a1)) && decide (IntKind.i64.wrap (a4 + a1) < (a3.length : Int)) then R (((a3.getD ((IntKind.i64.wrap (a4 + a1)).toNat) []).getD 1 (.i 0)).toI)
 else none
theorem gx : ∃ x : Int → List (List Cl) → List (List Cl) → Int → (Int → Option Res) → Option Res, x = b := ⟨_, rfl⟩
noncomputable def g : Int → List (List Cl) → List (List Cl) → Int → (Int → Option Res) → Option Res := Classical.choose gx
theorem e : g = b := Classical.choose_spec gx
noncomputable def run : List Lf → (Res → Option Res) → Option Res
 | [.i a1, .q (.cells a2), .q (.cells a3), .i a4], K => g a1 a2 a3 a4 (fun r1 => K (m a2 a3 a4 r1))
 | _, _ => none
noncomputable def a (a1 : Int) (a2 a3 : List (List Cl)) (a4 : Int) : St := argSt [one (.bp 0 0), one (.int .i64 a1)] [⟨[.int .i64, .int .i64, .int .i64, .int .i64, .int .i64, .int .i64, .ints .i64], .cells a2, true, 0, none⟩] [[.tr 2 2 [.int .i64, .int .i64] (.cells a3), .int .i64 a4, .ow 0]]
noncomputable def con : FuncId × St × (List Lf → (Res → Option Res) → Option Res) := (125, a 0 [] [] 0, run)
theorem cx (K : Res → Option Res) : CtxOk Go.Proofs.Try.prog Γ0 byt0 eqs0 (X K) os := ⟨rfl, rfl, rfl, (fun p hp => by
 rcases List.mem_cons.1 hp with rfl | hp
 ·exact spec_l9Kind.ok
 cases hp), rfl, rfl, rfl⟩
theorem tie (K : Res → Option Res) (a1 : Int) (a2 a3 : List (List Cl)) (a4 : Int) : exec (X K) c (entry 22 [one (.bp 0 0), one (.int .i64 a1)] [⟨[.int .i64, .int .i64, .int .i64, .int .i64, .int .i64, .int .i64, .ints .i64], .cells a2, true, 0, none⟩] [[.tr 2 2 [.int .i64, .int .i64] (.cells a3), .int .i64 a4, .ow 0]]) (endK (X K)) = g a1 a2 a3 a4 (fun r1 => K (m a2 a3 a4 r1)) := Eq.trans (b := b a1 a2 a3 a4 (fun r1 => K (m a2 a3 a4 r1))) (by kernel_rfl) (by rw [e])
theorem runv {l : List Lf} {K : Res → Option Res} {r : Res} (h : run l K = some r) : ∃ a1 a2 a3 a4, l = [.i a1, .q (.cells a2), .q (.cells a3), .i a4] ∧ g a1 a2 a3 a4 (fun r1 => K (m a2 a3 a4 r1)) = some r := by
 unfold run at h; split at h
 ·exact ⟨_, _, _, _, rfl, h⟩
 ·cases h
theorem ok : Con Go.Proofs.Try.prog con := con_of (fn := Go.Proofs.Try.f125) (c := c) (Fi := fi) (X := X) (fun_of laid (by kernel_rfl) (by kernel_rfl) (by kernel_rfl) rfl (by kernel_rfl) (by kernel_rfl) cx (fun _ => rfl) (fun _ => rfl) (fun K => by
 rw [show loopsOf c = [] from by kernel_rfl]; intro p hp
 cases hp)) fun xs rows boxes K r hl hr => by
 obtain ⟨a1, a2, a3, a4, e, h⟩ := runv hr
 have := St.like_eq (y := a a1 a2 a3 a4) hl (by kernel_rfl) e
 obtain ⟨rfl, rfl, rfl⟩ := argSt_inj this
 exact (tie K a1 a2 a3 a4).trans h
end spec_l9Sign
namespace spec_l9Fun
noncomputable def c : Code := bodyOf Go.Proofs.Try.f114
noncomputable def fi : Fin := ⟨Γ0, [(.cell 2 40, 40), (.tmp 3, 4)], [[1, 1, 1], [1]], [true], [([.sl [.int .i64, .int .i64] 16, .int .i64, .sl [.int .i64, .int .i64, .int .i64, .int .i64, .int .i64, .int .i64, .ints .i64] 72], [0, 1, 2])], []⟩
noncomputable def m (a1 a2 : List (List Cl)) (r1 r2 r3 : Int) (r4 : Bool) (r7 : Int) : Res := ⟨[⟨true, [.int .i64 r1, .int .i64 r2, .int .i64 r3]⟩, ⟨false, [.bool r4]⟩], [some ⟨[.int .i64, .int .i64, .int .i64, .int .i64, .int .i64, .int .i64, .ints .i64], .cells a1, true, 0, none⟩], [], [[.tr 2 2 [.int .i64, .int .i64] (.cells a2), .int .i64 r7, .ow 0]], []⟩
noncomputable def os : List (FuncId × St × (List Lf → (Res → Option Res) → Option Res)) := [spec_l9Sign.con]
noncomputable def X (K : Res → Option Res) : Ctx := { Γ := Γ0, orc := orcOf os, io := [], share := [], opn := [], shr := [], bun := [], cut := [], own := [], cin := [], cout := [], lp := lpOf [], kl := Env.kl, nk := true, eqs := eqs0, byt := byt0, fin := finK fi K }
noncomputable def b (a1 a2 : List (List Cl)) (a3 : Int) (R : Int → Int → Int → Bool → Int → Option Res) : Option Res :=
 spec_l9Sign.g 0 a1 a2 a3 fun r4 =>
 spec_l9Sign.g 1 a1 a2 a3 fun r5 =>
 spec_l9Sign.g 2 a1 a2 a3 fun r6 =>
 bif (r4 == 0) then R 0 0 0 false a3
 else bif (r4 == 111) then (bif (r5 != 0) then R r5 111 0 true (IntKind.i64.wrap (a3 + 2))
  else bif (r5 == 47) then R r4 r5 0 true (IntKind.i64.wrap (a3 + 2))
  else bif (r5 == 92) then R r4 r5 0 true (IntKind.i64.wrap (a3 + 2))
  else bif (r5 == 46) then (bif (r6 != 0) then R r4 46 r6 true (IntKind.i64.wrap (a3 + 3))
   else R r4 0 0 true (IntKind.i64.wrap (a3 + 1)))
  else R r4 0 0 true (IntKind.i64.wrap (a3 + 1)))
 else bif (r5 == 47) then R r4 r5 0 true (IntKind.i64.wrap (a3 + 2))
 else bif (r5 == 92) then R r4 r5 0 true (IntKind.i64.wrap (a3 + 2))
 else bif (r5 == 46) then (bif (r6 != 0) then R r4 46 r6 true (IntKind.i64.wrap (a3 + 3))
  else R r4 0 0 true (IntKind.i64.wrap (a3 + 1)))
 else R r4 0 0 true (IntKind.i64.wrap (a3 + 1))
theorem gx : ∃ x : List (List Cl) → List (List Cl) → Int → (Int → Int → Int → Bool → Int → Option Res) → Option Res, x = b := ⟨_, rfl⟩
noncomputable def g : List (List Cl) → List (List Cl) → Int → (Int → Int → Int → Bool → Int → Option Res) → Option Res := Classical.choose gx
theorem e : g = b := Classical.choose_spec gx
noncomputable def run : List Lf → (Res → Option Res) → Option Res
 | [.q (.cells a1), .q (.cells a2), .i a3], K => g a1 a2 a3 (fun r1 r2 r3 r4 r7 => K (m a1 a2 r1 r2 r3 r4 r7))
 | _, _ => none
noncomputable def a (a1 a2 : List (List Cl)) (a3 : Int) : St := argSt [one (.bp 0 0)] [⟨[.int .i64, .int .i64, .int .i64, .int .i64, .int .i64, .int .i64, .ints .i64], .cells a1, true, 0, none⟩] [[.tr 2 2 [.int .i64, .int .i64] (.cells a2), .int .i64 a3, .ow 0]]
noncomputable def con : FuncId × St × (List Lf → (Res → Option Res) → Option Res) := (114, a [] [] 0, run)
theorem cx (K : Res → Option Res) : CtxOk Go.Proofs.Try.prog Γ0 byt0 eqs0 (X K) os := ⟨rfl, rfl, rfl, (fun p hp => by
 rcases List.mem_cons.1 hp with rfl | hp
 ·exact spec_l9Sign.ok
 cases hp), rfl, rfl, rfl⟩
theorem tie (K : Res → Option Res) (a1 a2 : List (List Cl)) (a3 : Int) : exec (X K) c (entry 80 [one (.bp 0 0)] [⟨[.int .i64, .int .i64, .int .i64, .int .i64, .int .i64, .int .i64, .ints .i64], .cells a1, true, 0, none⟩] [[.tr 2 2 [.int .i64, .int .i64] (.cells a2), .int .i64 a3, .ow 0]]) (endK (X K)) = g a1 a2 a3 (fun r1 r2 r3 r4 r7 => K (m a1 a2 r1 r2 r3 r4 r7)) := Eq.trans (b := b a1 a2 a3 (fun r1 r2 r3 r4 r7 => K (m a1 a2 r1 r2 r3 r4 r7))) (by kernel_rfl) (by rw [e])
theorem runv {l : List Lf} {K : Res → Option Res} {r : Res} (h : run l K = some r) : ∃ a1 a2 a3, l = [.q (.cells a1), .q (.cells a2), .i a3] ∧ g a1 a2 a3 (fun r1 r2 r3 r4 r7 => K (m a1 a2 r1 r2 r3 r4 r7)) = some r := by
 unfold run at h; split at h
 ·exact ⟨_, _, _, rfl, h⟩
 ·cases h
theorem ok : Con Go.Proofs.Try.prog con := con_of (fn := Go.Proofs.Try.f114) (c := c) (Fi := fi) (X := X) (fun_of laid (by kernel_rfl) (by kernel_rfl) (by kernel_rfl) rfl (by kernel_rfl) (by kernel_rfl) cx (fun _ => rfl) (fun _ => rfl) (fun K => by
 rw [show loopsOf c = [] from by kernel_rfl]; intro p hp
 cases hp)) fun xs rows boxes K r hl hr => by
 obtain ⟨a1, a2, a3, e, h⟩ := runv hr
 have := St.like_eq (y := a a1 a2 a3) hl (by kernel_rfl) e
 obtain ⟨rfl, rfl, rfl⟩ := argSt_inj this
 exact (tie K a1 a2 a3).trans h
end spec_l9Fun
namespace spec_l1Sign2
noncomputable def c : Code := bodyOf Go.Proofs.Try.f100
noncomputable def fi : Fin := ⟨Γ0, [(.tmp 2, 4)], [[1]], [], [], []⟩
noncomputable def m (r1 : Bool) : Res := ⟨[⟨false, [.bool r1]⟩], [], [], [], []⟩
noncomputable def os : List (FuncId × St × (List Lf → (Res → Option Res) → Option Res)) := []
noncomputable def X (K : Res → Option Res) : Ctx := { Γ := Γ0, orc := orcOf os, io := [], share := [], opn := [], shr := [], bun := [], cut := [], own := [], cin := [], cout := [], lp := lpOf [], kl := Env.kl, nk := true, eqs := eqs0, byt := byt0, fin := finK fi K }
noncomputable def b (a1 : Int) (R : Bool → Option Res) : Option Res :=
 bif (a1 == 43) then R true
 else bif (a1 == 45) then R true
 else bif (a1 == 42) then R true
 else bif (a1 == 37) then R true
 else bif (a1 == 124) then R true
 else bif (a1 == 38) then R true
 else bif (a1 == 94) then R true
 else bif (a1 == 61) then R true
 else bif (a1 == 60) then R true
 else R (a1 == 62)
theorem gx : ∃ x : Int → (Bool → Option Res) → Option Res, x = b := ⟨_, rfl⟩
noncomputable def g : Int → (Bool → Option Res) → Option Res := Classical.choose gx
theorem e : g = b := Classical.choose_spec gx
noncomputable def run : List Lf → (Res → Option Res) → Option Res
 | [.i a1], K => g a1 (fun r1 => K (m r1))
 | _, _ => none
noncomputable def a (a1 : Int) : St := argSt [one (.int .i64 a1)] [] []
noncomputable def con : FuncId × St × (List Lf → (Res → Option Res) → Option Res) := (100, a 0, run)
theorem cx (K : Res → Option Res) : CtxOk Go.Proofs.Try.prog Γ0 byt0 eqs0 (X K) os := ⟨rfl, rfl, rfl, (fun p hp => by
 cases hp), rfl, rfl, rfl⟩
theorem tie (K : Res → Option Res) (a1 : Int) : exec (X K) c (entry 41 [one (.int .i64 a1)] [] []) (endK (X K)) = g a1 (fun r1 => K (m r1)) := Eq.trans (b := b a1 (fun r1 => K (m r1))) (by kernel_rfl) (by rw [e])
theorem runv {l : List Lf} {K : Res → Option Res} {r : Res} (h : run l K = some r) : ∃ a1, l = [.i a1] ∧ g a1 (fun r1 => K (m r1)) = some r := by
 unfold run at h; split at h
 ·exact ⟨_, rfl, h⟩
 ·cases h
theorem ok : Con Go.Proofs.Try.prog con := con_of (fn := Go.Proofs.Try.f100) (c := c) (Fi := fi) (X := X) (fun_of laid (by kernel_rfl) (by kernel_rfl) (by kernel_rfl) rfl (by kernel_rfl) (by kernel_rfl) cx (fun _ => rfl) (fun _ => rfl) (fun K => by
 rw [show loopsOf c = [] from by kernel_rfl]; intro p hp
 cases hp)) fun xs rows boxes K r hl hr => by
 obtain ⟨a1, e, h⟩ := runv hr
 have := St.like_eq (y := a a1) hl (by kernel_rfl) e
 obtain ⟨rfl, rfl, rfl⟩ := argSt_inj this
 exact (tie K a1).trans h
end spec_l1Sign2
namespace spec_l1Sign1
noncomputable def c : Code := bodyOf Go.Proofs.Try.f99
noncomputable def fi : Fin := ⟨Γ0, [(.tmp 2, 4)], [[1]], [], [], []⟩
noncomputable def m (r1 : Bool) : Res := ⟨[⟨false, [.bool r1]⟩], [], [], [], []⟩
noncomputable def os : List (FuncId × St × (List Lf → (Res → Option Res) → Option Res)) := []
noncomputable def X (K : Res → Option Res) : Ctx := { Γ := Γ0, orc := orcOf os, io := [], share := [], opn := [], shr := [], bun := [], cut := [], own := [], cin := [], cout := [], lp := lpOf [], kl := Env.kl, nk := true, eqs := eqs0, byt := byt0, fin := finK fi K }
noncomputable def b (a1 : Int) (R : Bool → Option Res) : Option Res :=
 bif (a1 == 43) then R true
 else bif (a1 == 45) then R true
 else bif (a1 == 42) then R true
 else bif (a1 == 124) then R true
 else R (a1 == 126)
theorem gx : ∃ x : Int → (Bool → Option Res) → Option Res, x = b := ⟨_, rfl⟩
noncomputable def g : Int → (Bool → Option Res) → Option Res := Classical.choose gx
theorem e : g = b := Classical.choose_spec gx
noncomputable def run : List Lf → (Res → Option Res) → Option Res
 | [.i a1], K => g a1 (fun r1 => K (m r1))
 | _, _ => none
noncomputable def a (a1 : Int) : St := argSt [one (.int .i64 a1)] [] []
noncomputable def con : FuncId × St × (List Lf → (Res → Option Res) → Option Res) := (99, a 0, run)
theorem cx (K : Res → Option Res) : CtxOk Go.Proofs.Try.prog Γ0 byt0 eqs0 (X K) os := ⟨rfl, rfl, rfl, (fun p hp => by
 cases hp), rfl, rfl, rfl⟩
theorem tie (K : Res → Option Res) (a1 : Int) : exec (X K) c (entry 21 [one (.int .i64 a1)] [] []) (endK (X K)) = g a1 (fun r1 => K (m r1)) := Eq.trans (b := b a1 (fun r1 => K (m r1))) (by kernel_rfl) (by rw [e])
theorem runv {l : List Lf} {K : Res → Option Res} {r : Res} (h : run l K = some r) : ∃ a1, l = [.i a1] ∧ g a1 (fun r1 => K (m r1)) = some r := by
 unfold run at h; split at h
 ·exact ⟨_, rfl, h⟩
 ·cases h
theorem ok : Con Go.Proofs.Try.prog con := con_of (fn := Go.Proofs.Try.f99) (c := c) (Fi := fi) (X := X) (fun_of laid (by kernel_rfl) (by kernel_rfl) (by kernel_rfl) rfl (by kernel_rfl) (by kernel_rfl) cx (fun _ => rfl) (fun _ => rfl) (fun K => by
 rw [show loopsOf c = [] from by kernel_rfl]; intro p hp
 cases hp)) fun xs rows boxes K r hl hr => by
 obtain ⟨a1, e, h⟩ := runv hr
 have := St.like_eq (y := a a1) hl (by kernel_rfl) e
 obtain ⟨rfl, rfl, rfl⟩ := argSt_inj this
 exact (tie K a1).trans h
end spec_l1Sign1
namespace spec_FunOne
noncomputable def c : Code := bodyOf Go.Proofs.Try.f73
noncomputable def fi : Fin := ⟨Γ0, [(.tmp 2, 4)], [[1]], [], [], []⟩
noncomputable def m (r1 : Bool) : Res := ⟨[⟨false, [.bool r1]⟩], [], [], [], []⟩
noncomputable def os : List (FuncId × St × (List Lf → (Res → Option Res) → Option Res)) := [spec_l1Sign2.con, spec_l1Sign1.con]
noncomputable def X (K : Res → Option Res) : Ctx := { Γ := Γ0, orc := orcOf os, io := [], share := [], opn := [], shr := [], bun := [], cut := [], own := [], cin := [], cout := [], lp := lpOf [], kl := Env.kl, nk := true, eqs := eqs0, byt := byt0, fin := finK fi K }
noncomputable def b (a1 a2 a3 : Int) (R : Bool → Option Res) : Option Res :=
 bif (a3 != 0) then R false
 else bif (a2 == 47) then (spec_l1Sign2.g a1 fun r4 =>
  R r4)
 else bif (a2 == 92) then (spec_l1Sign2.g a1 fun r5 =>
  R r5)
 else bif (a2 != 0) then R false
 else (spec_l1Sign1.g a1 fun r6 =>
 bif r6 then R true
 else bif (a1 == 105) then R true
 else bif (a1 == 35) then R true
 else bif (a1 == 44) then R true
 else bif (a1 == 114) then R true
 else bif (a1 == 122) then R true
 else R (a1 == 103))
theorem gx : ∃ x : Int → Int → Int → (Bool → Option Res) → Option Res, x = b := ⟨_, rfl⟩
noncomputable def g : Int → Int → Int → (Bool → Option Res) → Option Res := Classical.choose gx
theorem e : g = b := Classical.choose_spec gx
noncomputable def run : List Lf → (Res → Option Res) → Option Res
 | [.i a1, .i a2, .i a3], K => g a1 a2 a3 (fun r1 => K (m r1))
 | _, _ => none
noncomputable def a (a1 a2 a3 : Int) : St := argSt [.v ⟨true, [.int .i64 a1, .int .i64 a2, .int .i64 a3]⟩] [] []
noncomputable def con : FuncId × St × (List Lf → (Res → Option Res) → Option Res) := (73, a 0 0 0, run)
theorem cx (K : Res → Option Res) : CtxOk Go.Proofs.Try.prog Γ0 byt0 eqs0 (X K) os := ⟨rfl, rfl, rfl, (fun p hp => by
 rcases List.mem_cons.1 hp with rfl | hp
 ·exact spec_l1Sign2.ok
 rcases List.mem_cons.1 hp with rfl | hp
 ·exact spec_l1Sign1.ok
 cases hp), rfl, rfl, rfl⟩
theorem tie (K : Res → Option Res) (a1 a2 a3 : Int) : exec (X K) c (entry 56 [.v ⟨true, [.int .i64 a1, .int .i64 a2, .int .i64 a3]⟩] [] []) (endK (X K)) = g a1 a2 a3 (fun r1 => K (m r1)) := Eq.trans (b := b a1 a2 a3 (fun r1 => K (m r1))) (by kernel_rfl) (by rw [e])
theorem runv {l : List Lf} {K : Res → Option Res} {r : Res} (h : run l K = some r) : ∃ a1 a2 a3, l = [.i a1, .i a2, .i a3] ∧ g a1 a2 a3 (fun r1 => K (m r1)) = some r := by
 unfold run at h; split at h
 ·exact ⟨_, _, _, rfl, h⟩
 ·cases h
theorem ok : Con Go.Proofs.Try.prog con := con_of (fn := Go.Proofs.Try.f73) (c := c) (Fi := fi) (X := X) (fun_of laid (by kernel_rfl) (by kernel_rfl) (by kernel_rfl) rfl (by kernel_rfl) (by kernel_rfl) cx (fun _ => rfl) (fun _ => rfl) (fun K => by
 rw [show loopsOf c = [] from by kernel_rfl]; intro p hp
 cases hp)) fun xs rows boxes K r hl hr => by
 obtain ⟨a1, a2, a3, e, h⟩ := runv hr
 have := St.like_eq (y := a a1 a2 a3) hl (by kernel_rfl) e
 obtain ⟨rfl, rfl, rfl⟩ := argSt_inj this
 exact (tie K a1 a2 a3).trans h
end spec_FunOne
end Go.Tv.F
