/- The law's functions, printed by a program of ours, each with its contract. They hold without condition. -/
import Derived.Test.YtdejjcgikcfgjaaProg
import Derived.Test.YtdejjcgikcfgjaaTvC
set_option linter.unusedVariables false
set_option linter.unusedSectionVars false
set_option linter.unusedSimpArgs false
set_option linter.unnecessarySimpa false
set_option maxRecDepth 100000
set_option autoImplicit false
namespace Go.Tv.F
open Go Go.Tv
instance envI : Env := envT [3, 4, 5, 13, 17, 35]
noncomputable def Γ0 : List (Nat × TI) := [(3, ⟨false, [.int .i64], []⟩),
 (4, ⟨false, [.bool], []⟩),
 (5, ⟨false, [.int .u8], []⟩),
 (9, ⟨false, [.str], []⟩),
 (22, ⟨false, [.sl [.int .i64, .int .i64, .int .i64, .int .i64, .int .i64, .ints .i64] 64], []⟩),
 (24, ⟨false, [.sl [.int .i64, .int .i64] 16], []⟩),
 (26, ⟨false, [.sl [.int .i64, .int .i64, .int .i64, .int .i64, .int .i64, .ints .i64] 64], []⟩),
 (33, ⟨false, [.sl [.int .u8] 1], []⟩),
 (38, ⟨true, [.int .i64, .int .i64], [(0, 1, false), (1, 1, false)]⟩),
 (40, ⟨true, [.int .i64, .int .i64, .int .i64], [(0, 1, false), (1, 1, false), (2, 1, false)]⟩),
 (41, ⟨false, [.sl [.int .i64] 8], []⟩),
 (43, ⟨true, [.int .i64, .int .i64, .int .i64, .int .i64, .int .i64, .sl [.int .i64] 8], [(0, 1, false), (1, 1, false), (2, 3, true), (5, 1, false)]⟩),
 (48, ⟨false, [.sl [.int .i64, .int .i64] 16], []⟩),
 (51, ⟨false, [.sl [.int .i64, .int .i64, .int .i64, .int .i64, .int .i64, .int .i64, .ints .i64] 72], []⟩),
 (53, ⟨true, [.sl [.int .i64, .int .i64, .int .i64, .int .i64, .int .i64, .int .i64, .ints .i64] 72], [(0, 1, false)]⟩),
 (59, ⟨true, [.int .i64, .int .i64, .int .i64], [(0, 1, false), (1, 1, false), (2, 1, false)]⟩),
 (61, ⟨true, [.int .i64, .int .i64, .int .i64, .int .i64, .int .i64, .sl [.int .i64] 8], [(0, 1, false), (1, 1, false), (2, 3, true), (5, 1, false)]⟩),
 (67, ⟨false, [.ptr], []⟩),
 (71, ⟨false, [.fn], []⟩),
 (76, ⟨true, [.int .i64, .int .i64], [(0, 1, false), (1, 1, false)]⟩),
 (80, ⟨false, [.ptr], []⟩),
 (82, ⟨true, [.sl [.int .i64, .int .i64] 16, .int .i64, .sl [.int .i64, .int .i64, .int .i64, .int .i64, .int .i64, .int .i64, .ints .i64] 72, .bool], [(0, 1, false), (1, 1, false), (2, 1, false), (3, 1, false)]⟩),
 (86, ⟨true, [.int .i64, .int .i64, .int .i64, .int .i64, .int .i64, .int .i64, .sl [.int .i64] 8], [(0, 1, false), (1, 1, false), (2, 1, false), (3, 3, true), (6, 1, false)]⟩),
 (98, ⟨true, [.sl [.int .u8] 1, .int .i64, .int .i64], [(0, 1, false), (1, 1, false), (2, 1, false)]⟩),
 (105, ⟨false, [.fn], []⟩),
 (106, ⟨false, [.ptr], []⟩),
 (108, ⟨true, [.sl [.int .i64, .int .i64] 16, .int .i64, .sl [.int .i64, .int .i64, .int .i64, .int .i64, .int .i64, .int .i64, .ints .i64] 72], [(0, 1, false), (1, 1, false), (2, 1, false)]⟩),
 (113, ⟨false, [.sl [.str] 16], []⟩),
 (116, ⟨false, [.fn], []⟩),
 (124, ⟨false, [.fn], []⟩)]
noncomputable def byt0 : List TypeId := [33]
noncomputable def eqs0 : List TypeId := [38, 40, 59, 76]
theorem laid : Laid Go.Proofs.Try.prog Γ0 byt0 eqs0 := ⟨by kernel_rfl, by kernel_rfl, by kernel_rfl, by kernel_rfl⟩
namespace impl_hasSign
noncomputable def c : Code := bodyOf Go.Proofs.Try.f86
noncomputable def fi : Fin := ⟨Γ0, [(.tmp 4, 4)], [[1]], [], [], []⟩
noncomputable def m (r1 : Bool) : Res := ⟨[⟨false, [.bool r1]⟩], [], [], [], []⟩
noncomputable def b0 : Code := codeAt c [1, 0, 1, 0, 0]
noncomputable def s0 (x3 : ByteArray) (x4 x5 : Int) : St := ⟨mkT 18 [(0, one (.str x3)), (1, one (.int .i64 x4)), (5, one (.int .i64 x5))], [], []⟩
noncomputable def l0s (x3 : ByteArray) (x4 : Int) (rec : Int → Option Res) (k : Option Res) (R : Bool → Option Res) (x5 : Int) : Option Res :=
 bif decide (x5 < (x3.size : Int)) then (bif decide (0 ≤ x5) && decide (x5 < (x3.size : Int)) then (bif (IntKind.i64.wrap ((bytesOf x3).getD x5.toNat 0) == x4) then R true
  else rec (IntKind.i64.wrap (x5 + 1)))
  else none)
 else k
noncomputable def l0 (x3 : ByteArray) (x4 : Int) (k : Option Res) (R : Bool → Option Res) : Nat → Int → Option Res
 | 0, _ => none
 | n + 1, x5 => l0s x3 x4 (fun x5 => l0 x3 x4 k R n x5) k R x5
noncomputable def o0 (x3 : ByteArray) (x4 : Int) : St := ⟨mkT 18 [], [], []⟩
noncomputable def p0 (K : Res → Option Res) : List Lf → (St → Option Res) → Option Res
 | [.s x3, .i x4, .i x5], k => l0 x3 x4 (k (o0 x3 x4)) (fun r1 => K (m r1)) fuel x5
 | _, _ => none
noncomputable def os : List (FuncId × St × (List Lf → (Res → Option Res) → Option Res)) := []
noncomputable def X (K : Res → Option Res) : Ctx := { Γ := Γ0, orc := orcOf os, io := [], share := [], opn := [], shr := [], bun := [], cut := [], own := [], cin := [(0, ⟨[0, 1, 5], [], [], [], [], []⟩)], cout := [(0, ⟨[], [], [], [], [], []⟩)], lp := lpOf [(0, s0 ByteArray.empty 0 0, p0 K)], kl := Env.kl, nk := true, eqs := eqs0, byt := byt0, fin := finK fi K }
noncomputable def b (a1 : ByteArray) (a2 : Int) (R : Bool → Option Res) : Option Res :=
 l0 a1 a2 (
 R false) R fuel 0
theorem gx : ∃ x : ByteArray → Int → (Bool → Option Res) → Option Res, x = b := ⟨_, rfl⟩
noncomputable def g : ByteArray → Int → (Bool → Option Res) → Option Res := Classical.choose gx
theorem e : g = b := Classical.choose_spec gx
noncomputable def run : List Lf → (Res → Option Res) → Option Res
 | [.s a1, .i a2], K => g a1 a2 (fun r1 => K (m r1))
 | _, _ => none
noncomputable def a (a1 : ByteArray) (a2 : Int) : St := argSt [one (.str a1), one (.int .i64 a2)] [] []
noncomputable def con : FuncId × St × (List Lf → (Res → Option Res) → Option Res) := (86, a ByteArray.empty 0, run)
theorem cx (K : Res → Option Res) : CtxOk Go.Proofs.Try.prog Γ0 byt0 eqs0 (X K) os := ⟨rfl, rfl, rfl, (fun p hp => by
 cases hp), rfl, rfl, rfl⟩
theorem t0 (K : Res → Option Res) (k : St → Option Res) (it : St → (St → Option Res) → Option Res) (x3 : ByteArray) (x4 x5 : Int) : iterS (X K) 0 b0 it (s0 x3 x4 x5) k = l0s x3 x4 (fun x5 => it (s0 x3 x4 x5) k) (k (o0 x3 x4)) (fun r1 => K (m r1)) x5 := by kernel_rfl
theorem i0 (K : Res → Option Res) (k : St → Option Res) (x3 : ByteArray) (x4 : Int) : ∀ (n : Nat) (x5 : Int), iter (X K) 0 b0 n (s0 x3 x4 x5) k = l0 x3 x4 (k (o0 x3 x4)) (fun r1 => K (m r1)) n x5
 | 0, _ => rfl
 | n + 1, x5 => by
  rw [iter_succ, t0, show (fun x5 => iter (X K) 0 b0 n (s0 x3 x4 x5) k) = (fun x5 => l0 x3 x4 (k (o0 x3 x4)) (fun r1 => K (m r1)) n x5) from funext fun x5 => i0 K k x3 x4 n x5]; rfl
theorem v0 {K : Res → Option Res} {l : List Lf} {k : St → Option Res} {r : Res} (h : p0 K l k = some r) : ∃ x3 x4 x5, l = [.s x3, .i x4, .i x5] ∧ l0 x3 x4 (k (o0 x3 x4)) (fun r1 => K (m r1)) fuel x5 = some r := by
 unfold p0 at h; split at h
 ·exact ⟨_, _, _, rfl, h⟩
 ·cases h
theorem w0 (K : Res → Option Res) : LpSound Go.Proofs.Try.prog (X K) 0 b0 := lp_ok ((cx K).ok laid) (by rw [show loopsOf b0 = [] from by kernel_rfl]; intro p hp; cases hp) rfl fun p hp hid => by
 rcases List.mem_cons.1 hp with rfl | hp
 ·intro st k r h1 h2; obtain ⟨x3, x4, x5, e, h⟩ := v0 (K := K) h2; have := St.like_eq (y := s0 x3 x4 x5) h1 (by kernel_rfl) e; subst this; exact ⟨fuel, (i0 K k x3 x4 fuel x5).trans h⟩
 cases hp
theorem tie (K : Res → Option Res) (a1 : ByteArray) (a2 : Int) : exec (X K) c (entry 18 [one (.str a1), one (.int .i64 a2)] [] []) (endK (X K)) = g a1 a2 (fun r1 => K (m r1)) := Eq.trans (b := b a1 a2 (fun r1 => K (m r1))) (by kernel_rfl) (by rw [e])
theorem runv {l : List Lf} {K : Res → Option Res} {r : Res} (h : run l K = some r) : ∃ a1 a2, l = [.s a1, .i a2] ∧ g a1 a2 (fun r1 => K (m r1)) = some r := by
 unfold run at h; split at h
 ·exact ⟨_, _, rfl, h⟩
 ·cases h
theorem ok : Con Go.Proofs.Try.prog con := con_of (fn := Go.Proofs.Try.f86) (c := c) (Fi := fi) (X := X) (fun_of laid (by kernel_rfl) (by kernel_rfl) (by kernel_rfl) rfl (by kernel_rfl) (by kernel_rfl) cx (fun _ => rfl) (fun _ => rfl) (fun K => by
 rw [show loopsOf c = [(0, b0)] from by kernel_rfl]; intro p hp
 rcases List.mem_cons.1 hp with rfl | hp
 ·exact w0 K
 cases hp)) fun xs rows boxes K r hl hr => by
 obtain ⟨a1, a2, e, h⟩ := runv hr
 have := St.like_eq (y := a a1 a2) hl (by kernel_rfl) e
 obtain ⟨rfl, rfl, rfl⟩ := argSt_inj this
 exact (tie K a1 a2).trans h
end impl_hasSign
namespace impl_within
noncomputable def c : Code := bodyOf Go.Proofs.Try.f37
noncomputable def fi : Fin := ⟨Γ0, [(.tmp 6, 4)], [[1]], [], [], []⟩
noncomputable def m (r1 : Bool) : Res := ⟨[⟨false, [.bool r1]⟩], [], [], [], []⟩
noncomputable def os : List (FuncId × St × (List Lf → (Res → Option Res) → Option Res)) := []
noncomputable def X (K : Res → Option Res) : Ctx := { Γ := Γ0, orc := orcOf os, io := [], share := [], opn := [], shr := [], bun := [], cut := [], own := [], cin := [], cout := [], lp := lpOf [], kl := Env.kl, nk := true, eqs := eqs0, byt := byt0, fin := finK fi K }
noncomputable def b (a1 a2 a3 : Int) (R : Bool → Option Res) : Option Res :=
 bif decide (a2 ≤ a1) then R (decide (a1 ≤ a3))
 else R false
theorem gx : ∃ x : Int → Int → Int → (Bool → Option Res) → Option Res, x = b := ⟨_, rfl⟩
noncomputable def g : Int → Int → Int → (Bool → Option Res) → Option Res := Classical.choose gx
theorem e : g = b := Classical.choose_spec gx
noncomputable def run : List Lf → (Res → Option Res) → Option Res
 | [.i a1, .i a2, .i a3], K => g a1 a2 a3 (fun r1 => K (m r1))
 | _, _ => none
noncomputable def a (a1 a2 a3 : Int) : St := argSt [one (.int .i64 a1), one (.int .i64 a2), one (.int .i64 a3)] [] []
noncomputable def con : FuncId × St × (List Lf → (Res → Option Res) → Option Res) := (37, a 0 0 0, run)
theorem cx (K : Res → Option Res) : CtxOk Go.Proofs.Try.prog Γ0 byt0 eqs0 (X K) os := ⟨rfl, rfl, rfl, (fun p hp => by
 cases hp), rfl, rfl, rfl⟩
theorem tie (K : Res → Option Res) (a1 a2 a3 : Int) : exec (X K) c (entry 15 [one (.int .i64 a1), one (.int .i64 a2), one (.int .i64 a3)] [] []) (endK (X K)) = g a1 a2 a3 (fun r1 => K (m r1)) := Eq.trans (b := b a1 a2 a3 (fun r1 => K (m r1))) (by kernel_rfl) (by rw [e])
theorem runv {l : List Lf} {K : Res → Option Res} {r : Res} (h : run l K = some r) : ∃ a1 a2 a3, l = [.i a1, .i a2, .i a3] ∧ g a1 a2 a3 (fun r1 => K (m r1)) = some r := by
 unfold run at h; split at h
 ·exact ⟨_, _, _, rfl, h⟩
 ·cases h
theorem ok : Con Go.Proofs.Try.prog con := con_of (fn := Go.Proofs.Try.f37) (c := c) (Fi := fi) (X := X) (fun_of laid (by kernel_rfl) (by kernel_rfl) (by kernel_rfl) rfl (by kernel_rfl) (by kernel_rfl) cx (fun _ => rfl) (fun _ => rfl) (fun K => by
 rw [show loopsOf c = [] from by kernel_rfl]; intro p hp
 cases hp)) fun xs rows boxes K r hl hr => by
 obtain ⟨a1, a2, a3, e, h⟩ := runv hr
 have := St.like_eq (y := a a1 a2 a3) hl (by kernel_rfl) e
 obtain ⟨rfl, rfl, rfl⟩ := argSt_inj this
 exact (tie K a1 a2 a3).trans h
end impl_within
namespace impl_NumOk
noncomputable def c : Code := bodyOf Go.Proofs.Try.f109
noncomputable def fi : Fin := ⟨Γ0, [(.tmp 2, 4)], [[1]], [], [], []⟩
noncomputable def m (r1 : Bool) : Res := ⟨[⟨false, [.bool r1]⟩], [], [], [], []⟩
noncomputable def os : List (FuncId × St × (List Lf → (Res → Option Res) → Option Res)) := [impl_within.con]
noncomputable def X (K : Res → Option Res) : Ctx := { Γ := Γ0, orc := orcOf os, io := [], share := [], opn := [], shr := [], bun := [], cut := [], own := [], cin := [], cout := [], lp := lpOf [], kl := Env.kl, nk := true, eqs := eqs0, byt := byt0, fin := finK fi K }
noncomputable def b (a1 : Int) (R : Bool → Option Res) : Option Res :=
 impl_within.g a1 (-1000000000000) 1000000000000 fun r2 =>
 R r2
theorem gx : ∃ x : Int → (Bool → Option Res) → Option Res, x = b := ⟨_, rfl⟩
noncomputable def g : Int → (Bool → Option Res) → Option Res := Classical.choose gx
theorem e : g = b := Classical.choose_spec gx
noncomputable def run : List Lf → (Res → Option Res) → Option Res
 | [.i a1], K => g a1 (fun r1 => K (m r1))
 | _, _ => none
noncomputable def a (a1 : Int) : St := argSt [one (.int .i64 a1)] [] []
noncomputable def con : FuncId × St × (List Lf → (Res → Option Res) → Option Res) := (109, a 0, run)
theorem cx (K : Res → Option Res) : CtxOk Go.Proofs.Try.prog Γ0 byt0 eqs0 (X K) os := ⟨rfl, rfl, rfl, (fun p hp => by
 rcases List.mem_cons.1 hp with rfl | hp
 ·exact impl_within.ok
 cases hp), rfl, rfl, rfl⟩
theorem tie (K : Res → Option Res) (a1 : Int) : exec (X K) c (entry 5 [one (.int .i64 a1)] [] []) (endK (X K)) = g a1 (fun r1 => K (m r1)) := Eq.trans (b := b a1 (fun r1 => K (m r1))) (by kernel_rfl) (by rw [e])
theorem runv {l : List Lf} {K : Res → Option Res} {r : Res} (h : run l K = some r) : ∃ a1, l = [.i a1] ∧ g a1 (fun r1 => K (m r1)) = some r := by
 unfold run at h; split at h
 ·exact ⟨_, rfl, h⟩
 ·cases h
theorem ok : Con Go.Proofs.Try.prog con := con_of (fn := Go.Proofs.Try.f109) (c := c) (Fi := fi) (X := X) (fun_of laid (by kernel_rfl) (by kernel_rfl) (by kernel_rfl) rfl (by kernel_rfl) (by kernel_rfl) cx (fun _ => rfl) (fun _ => rfl) (fun K => by
 rw [show loopsOf c = [] from by kernel_rfl]; intro p hp
 cases hp)) fun xs rows boxes K r hl hr => by
 obtain ⟨a1, e, h⟩ := runv hr
 have := St.like_eq (y := a a1) hl (by kernel_rfl) e
 obtain ⟨rfl, rfl, rfl⟩ := argSt_inj this
 exact (tie K a1).trans h
end impl_NumOk
namespace impl_oneSign
noncomputable def c : Code := bodyOf Go.Proofs.Try.f101
noncomputable def fi : Fin := ⟨Γ0, [(.tmp 2, 4)], [[1]], [], [], []⟩
noncomputable def m (r1 : Bool) : Res := ⟨[⟨false, [.bool r1]⟩], [], [], [], []⟩
noncomputable def os : List (FuncId × St × (List Lf → (Res → Option Res) → Option Res)) := [impl_hasSign.con]
noncomputable def X (K : Res → Option Res) : Ctx := { Γ := Γ0, orc := orcOf os, io := [], share := [], opn := [], shr := [], bun := [], cut := [], own := [], cin := [], cout := [], lp := lpOf [], kl := Env.kl, nk := true, eqs := eqs0, byt := byt0, fin := finK fi K }
noncomputable def b (a1 : Int) (R : Bool → Option Res) : Option Res :=
 impl_hasSign.g (⟨#[43, 45, 42, 124, 126]⟩ : ByteArray) a1 fun r2 =>
 R r2
theorem gx : ∃ x : Int → (Bool → Option Res) → Option Res, x = b := ⟨_, rfl⟩
noncomputable def g : Int → (Bool → Option Res) → Option Res := Classical.choose gx
theorem e : g = b := Classical.choose_spec gx
noncomputable def run : List Lf → (Res → Option Res) → Option Res
 | [.i a1], K => g a1 (fun r1 => K (m r1))
 | _, _ => none
noncomputable def a (a1 : Int) : St := argSt [one (.int .i64 a1)] [] []
noncomputable def con : FuncId × St × (List Lf → (Res → Option Res) → Option Res) := (101, a 0, run)
theorem cx (K : Res → Option Res) : CtxOk Go.Proofs.Try.prog Γ0 byt0 eqs0 (X K) os := ⟨rfl, rfl, rfl, (fun p hp => by
 rcases List.mem_cons.1 hp with rfl | hp
 ·exact impl_hasSign.ok
 cases hp), rfl, rfl, rfl⟩
theorem tie (K : Res → Option Res) (a1 : Int) : exec (X K) c (entry 5 [one (.int .i64 a1)] [] []) (endK (X K)) = g a1 (fun r1 => K (m r1)) := Eq.trans (b := b a1 (fun r1 => K (m r1))) (by kernel_rfl) (by rw [e])
theorem runv {l : List Lf} {K : Res → Option Res} {r : Res} (h : run l K = some r) : ∃ a1, l = [.i a1] ∧ g a1 (fun r1 => K (m r1)) = some r := by
 unfold run at h; split at h
 ·exact ⟨_, rfl, h⟩
 ·cases h
theorem ok : Con Go.Proofs.Try.prog con := con_of (fn := Go.Proofs.Try.f101) (c := c) (Fi := fi) (X := X) (fun_of laid (by kernel_rfl) (by kernel_rfl) (by kernel_rfl) rfl (by kernel_rfl) (by kernel_rfl) cx (fun _ => rfl) (fun _ => rfl) (fun K => by
 rw [show loopsOf c = [] from by kernel_rfl]; intro p hp
 cases hp)) fun xs rows boxes K r hl hr => by
 obtain ⟨a1, e, h⟩ := runv hr
 have := St.like_eq (y := a a1) hl (by kernel_rfl) e
 obtain ⟨rfl, rfl, rfl⟩ := argSt_inj this
 exact (tie K a1).trans h
end impl_oneSign
namespace impl_twoSign
noncomputable def c : Code := bodyOf Go.Proofs.Try.f102
noncomputable def fi : Fin := ⟨Γ0, [(.tmp 2, 4)], [[1]], [], [], []⟩
noncomputable def m (r1 : Bool) : Res := ⟨[⟨false, [.bool r1]⟩], [], [], [], []⟩
noncomputable def os : List (FuncId × St × (List Lf → (Res → Option Res) → Option Res)) := [impl_hasSign.con]
noncomputable def X (K : Res → Option Res) : Ctx := { Γ := Γ0, orc := orcOf os, io := [], share := [], opn := [], shr := [], bun := [], cut := [], own := [], cin := [], cout := [], lp := lpOf [], kl := Env.kl, nk := true, eqs := eqs0, byt := byt0, fin := finK fi K }
noncomputable def b (a1 : Int) (R : Bool → Option Res) : Option Res :=
 impl_hasSign.g (⟨#[43, 45, 42, 37, 124, 38, 94, 61, 60, 62]⟩ : ByteArray) a1 fun r2 =>
 R r2
theorem gx : ∃ x : Int → (Bool → Option Res) → Option Res, x = b := ⟨_, rfl⟩
noncomputable def g : Int → (Bool → Option Res) → Option Res := Classical.choose gx
theorem e : g = b := Classical.choose_spec gx
noncomputable def run : List Lf → (Res → Option Res) → Option Res
 | [.i a1], K => g a1 (fun r1 => K (m r1))
 | _, _ => none
noncomputable def a (a1 : Int) : St := argSt [one (.int .i64 a1)] [] []
noncomputable def con : FuncId × St × (List Lf → (Res → Option Res) → Option Res) := (102, a 0, run)
theorem cx (K : Res → Option Res) : CtxOk Go.Proofs.Try.prog Γ0 byt0 eqs0 (X K) os := ⟨rfl, rfl, rfl, (fun p hp => by
 rcases List.mem_cons.1 hp with rfl | hp
 ·exact impl_hasSign.ok
 cases hp), rfl, rfl, rfl⟩
theorem tie (K : Res → Option Res) (a1 : Int) : exec (X K) c (entry 5 [one (.int .i64 a1)] [] []) (endK (X K)) = g a1 (fun r1 => K (m r1)) := Eq.trans (b := b a1 (fun r1 => K (m r1))) (by kernel_rfl) (by rw [e])
theorem runv {l : List Lf} {K : Res → Option Res} {r : Res} (h : run l K = some r) : ∃ a1, l = [.i a1] ∧ g a1 (fun r1 => K (m r1)) = some r := by
 unfold run at h; split at h
 ·exact ⟨_, rfl, h⟩
 ·cases h
theorem ok : Con Go.Proofs.Try.prog con := con_of (fn := Go.Proofs.Try.f102) (c := c) (Fi := fi) (X := X) (fun_of laid (by kernel_rfl) (by kernel_rfl) (by kernel_rfl) rfl (by kernel_rfl) (by kernel_rfl) cx (fun _ => rfl) (fun _ => rfl) (fun K => by
 rw [show loopsOf c = [] from by kernel_rfl]; intro p hp
 cases hp)) fun xs rows boxes K r hl hr => by
 obtain ⟨a1, e, h⟩ := runv hr
 have := St.like_eq (y := a a1) hl (by kernel_rfl) e
 obtain ⟨rfl, rfl, rfl⟩ := argSt_inj this
 exact (tie K a1).trans h
end impl_twoSign
namespace impl_FunOne
noncomputable def c : Code := bodyOf Go.Proofs.Try.f70
noncomputable def fi : Fin := ⟨Γ0, [(.tmp 2, 4)], [[1]], [], [], []⟩
noncomputable def m (r1 : Bool) : Res := ⟨[⟨false, [.bool r1]⟩], [], [], [], []⟩
noncomputable def os : List (FuncId × St × (List Lf → (Res → Option Res) → Option Res)) := [impl_oneSign.con, impl_hasSign.con, impl_twoSign.con]
noncomputable def X (K : Res → Option Res) : Ctx := { Γ := Γ0, orc := orcOf os, io := [], share := [], opn := [], shr := [], bun := [], cut := [], own := [], cin := [], cout := [], lp := lpOf [], kl := Env.kl, nk := true, eqs := eqs0, byt := byt0, fin := finK fi K }
noncomputable def b (a1 a2 a3 : Int) (R : Bool → Option Res) : Option Res :=
 bif (a2 == 0) then (bif (a3 == 0) then (impl_oneSign.g a1 fun r4 =>
  bif r4 then R true
  else (impl_hasSign.g (⟨#[105, 35, 44, 114, 122, 103]⟩ : ByteArray) a1 fun r5 =>
  R r5))
  else R false)
 else bif (a2 == 47) then (bif (a3 == 0) then (impl_twoSign.g a1 fun r6 =>
  R r6)
  else R false)
 else bif (a2 == 92) then (bif (a3 == 0) then (impl_twoSign.g a1 fun r7 =>
  R r7)
  else R false)
 else R false
theorem gx : ∃ x : Int → Int → Int → (Bool → Option Res) → Option Res, x = b := ⟨_, rfl⟩
noncomputable def g : Int → Int → Int → (Bool → Option Res) → Option Res := Classical.choose gx
theorem e : g = b := Classical.choose_spec gx
noncomputable def run : List Lf → (Res → Option Res) → Option Res
 | [.i a1, .i a2, .i a3], K => g a1 a2 a3 (fun r1 => K (m r1))
 | _, _ => none
noncomputable def a (a1 a2 a3 : Int) : St := argSt [.v ⟨true, [.int .i64 a1, .int .i64 a2, .int .i64 a3]⟩] [] []
noncomputable def con : FuncId × St × (List Lf → (Res → Option Res) → Option Res) := (70, a 0 0 0, run)
theorem cx (K : Res → Option Res) : CtxOk Go.Proofs.Try.prog Γ0 byt0 eqs0 (X K) os := ⟨rfl, rfl, rfl, (fun p hp => by
 rcases List.mem_cons.1 hp with rfl | hp
 ·exact impl_oneSign.ok
 rcases List.mem_cons.1 hp with rfl | hp
 ·exact impl_hasSign.ok
 rcases List.mem_cons.1 hp with rfl | hp
 ·exact impl_twoSign.ok
 cases hp), rfl, rfl, rfl⟩
theorem tie (K : Res → Option Res) (a1 a2 a3 : Int) : exec (X K) c (entry 31 [.v ⟨true, [.int .i64 a1, .int .i64 a2, .int .i64 a3]⟩] [] []) (endK (X K)) = g a1 a2 a3 (fun r1 => K (m r1)) := Eq.trans (b := b a1 a2 a3 (fun r1 => K (m r1))) (by kernel_rfl) (by rw [e])
theorem runv {l : List Lf} {K : Res → Option Res} {r : Res} (h : run l K = some r) : ∃ a1 a2 a3, l = [.i a1, .i a2, .i a3] ∧ g a1 a2 a3 (fun r1 => K (m r1)) = some r := by
 unfold run at h; split at h
 ·exact ⟨_, _, _, rfl, h⟩
 ·cases h
theorem ok : Con Go.Proofs.Try.prog con := con_of (fn := Go.Proofs.Try.f70) (c := c) (Fi := fi) (X := X) (fun_of laid (by kernel_rfl) (by kernel_rfl) (by kernel_rfl) rfl (by kernel_rfl) (by kernel_rfl) cx (fun _ => rfl) (fun _ => rfl) (fun K => by
 rw [show loopsOf c = [] from by kernel_rfl]; intro p hp
 cases hp)) fun xs rows boxes K r hl hr => by
 obtain ⟨a1, a2, a3, e, h⟩ := runv hr
 have := St.like_eq (y := a a1 a2 a3) hl (by kernel_rfl) e
 obtain ⟨rfl, rfl, rfl⟩ := argSt_inj this
 exact (tie K a1 a2 a3).trans h
end impl_FunOne
namespace impl_FunTwo
noncomputable def c : Code := bodyOf Go.Proofs.Try.f71
noncomputable def fi : Fin := ⟨Γ0, [(.tmp 2, 4)], [[1]], [], [], []⟩
noncomputable def m (r1 : Bool) : Res := ⟨[⟨false, [.bool r1]⟩], [], [], [], []⟩
noncomputable def os : List (FuncId × St × (List Lf → (Res → Option Res) → Option Res)) := [impl_twoSign.con, impl_hasSign.con]
noncomputable def X (K : Res → Option Res) : Ctx := { Γ := Γ0, orc := orcOf os, io := [], share := [], opn := [], shr := [], bun := [], cut := [], own := [], cin := [], cout := [], lp := lpOf [], kl := Env.kl, nk := true, eqs := eqs0, byt := byt0, fin := finK fi K }
noncomputable def b (a1 a2 a3 : Int) (R : Bool → Option Res) : Option Res :=
 bif (a2 == 0) then (bif (a3 == 0) then (impl_twoSign.g a1 fun r4 =>
  bif r4 then R true
  else (impl_hasSign.g (⟨#[35, 44, 116, 100, 114, 64, 63, 36, 101]⟩ : ByteArray) a1 fun r5 =>
  R r5))
  else R false)
 else bif (a2 == 111) then (bif (a3 == 0) then (impl_twoSign.g a1 fun r6 =>
  R r6)
  else R false)
 else bif (a2 == 46) then (impl_twoSign.g a1 fun r7 =>
  bif r7 then (impl_twoSign.g a3 fun r8 =>
   R r8)
  else R false)
 else R false
theorem gx : ∃ x : Int → Int → Int → (Bool → Option Res) → Option Res, x = b := ⟨_, rfl⟩
noncomputable def g : Int → Int → Int → (Bool → Option Res) → Option Res := Classical.choose gx
theorem e : g = b := Classical.choose_spec gx
noncomputable def run : List Lf → (Res → Option Res) → Option Res
 | [.i a1, .i a2, .i a3], K => g a1 a2 a3 (fun r1 => K (m r1))
 | _, _ => none
noncomputable def a (a1 a2 a3 : Int) : St := argSt [.v ⟨true, [.int .i64 a1, .int .i64 a2, .int .i64 a3]⟩] [] []
noncomputable def con : FuncId × St × (List Lf → (Res → Option Res) → Option Res) := (71, a 0 0 0, run)
theorem cx (K : Res → Option Res) : CtxOk Go.Proofs.Try.prog Γ0 byt0 eqs0 (X K) os := ⟨rfl, rfl, rfl, (fun p hp => by
 rcases List.mem_cons.1 hp with rfl | hp
 ·exact impl_twoSign.ok
 rcases List.mem_cons.1 hp with rfl | hp
 ·exact impl_hasSign.ok
 cases hp), rfl, rfl, rfl⟩
theorem tie (K : Res → Option Res) (a1 a2 a3 : Int) : exec (X K) c (entry 40 [.v ⟨true, [.int .i64 a1, .int .i64 a2, .int .i64 a3]⟩] [] []) (endK (X K)) = g a1 a2 a3 (fun r1 => K (m r1)) := Eq.trans (b := b a1 a2 a3 (fun r1 => K (m r1))) (by kernel_rfl) (by rw [e])
theorem runv {l : List Lf} {K : Res → Option Res} {r : Res} (h : run l K = some r) : ∃ a1 a2 a3, l = [.i a1, .i a2, .i a3] ∧ g a1 a2 a3 (fun r1 => K (m r1)) = some r := by
 unfold run at h; split at h
 ·exact ⟨_, _, _, rfl, h⟩
 ·cases h
theorem ok : Con Go.Proofs.Try.prog con := con_of (fn := Go.Proofs.Try.f71) (c := c) (Fi := fi) (X := X) (fun_of laid (by kernel_rfl) (by kernel_rfl) (by kernel_rfl) rfl (by kernel_rfl) (by kernel_rfl) cx (fun _ => rfl) (fun _ => rfl) (fun K => by
 rw [show loopsOf c = [] from by kernel_rfl]; intro p hp
 cases hp)) fun xs rows boxes K r hl hr => by
 obtain ⟨a1, a2, a3, e, h⟩ := runv hr
 have := St.like_eq (y := a a1 a2 a3) hl (by kernel_rfl) e
 obtain ⟨rfl, rfl, rfl⟩ := argSt_inj this
 exact (tie K a1 a2 a3).trans h
end impl_FunTwo
namespace impl_numsOk_1
noncomputable def c : Code := bodyOf Go.Proofs.Try.f108
noncomputable def fi : Fin := ⟨Γ0, [(.tmp 2, 4)], [[1]], [], [], []⟩
noncomputable def m (r1 : Bool) : Res := ⟨[⟨false, [.bool r1]⟩], [], [], [], []⟩
noncomputable def os : List (FuncId × St × (List Lf → (Res → Option Res) → Option Res)) := [impl_NumOk.con]
noncomputable def X (K : Res → Option Res) : Ctx := { Γ := Γ0, orc := orcOf os, io := [], share := [], opn := [], shr := [], bun := [], cut := [], own := [], cin := [], cout := [], lp := lpOf [], kl := Env.kl, nk := true, eqs := eqs0, byt := byt0, fin := finK fi K }
noncomputable def b (a1 : Int) (R : Bool → Option Res) : Option Res :=
 impl_NumOk.g a1 fun r2 =>
 R (!r2)
theorem gx : ∃ x : Int → (Bool → Option Res) → Option Res, x = b := ⟨_, rfl⟩
noncomputable def g : Int → (Bool → Option Res) → Option Res := Classical.choose gx
theorem e : g = b := Classical.choose_spec gx
noncomputable def run : List Lf → (Res → Option Res) → Option Res
 | [.i a1], K => g a1 (fun r1 => K (m r1))
 | _, _ => none
noncomputable def a (a1 : Int) : St := argSt [one (.int .i64 a1)] [] []
noncomputable def con : FuncId × St × (List Lf → (Res → Option Res) → Option Res) := (108, a 0, run)
theorem cx (K : Res → Option Res) : CtxOk Go.Proofs.Try.prog Γ0 byt0 eqs0 (X K) os := ⟨rfl, rfl, rfl, (fun p hp => by
 rcases List.mem_cons.1 hp with rfl | hp
 ·exact impl_NumOk.ok
 cases hp), rfl, rfl, rfl⟩
theorem tie (K : Res → Option Res) (a1 : Int) : exec (X K) c (entry 6 [one (.int .i64 a1)] [] []) (endK (X K)) = g a1 (fun r1 => K (m r1)) := Eq.trans (b := b a1 (fun r1 => K (m r1))) (by kernel_rfl) (by rw [e])
theorem runv {l : List Lf} {K : Res → Option Res} {r : Res} (h : run l K = some r) : ∃ a1, l = [.i a1] ∧ g a1 (fun r1 => K (m r1)) = some r := by
 unfold run at h; split at h
 ·exact ⟨_, rfl, h⟩
 ·cases h
theorem ok : Con Go.Proofs.Try.prog con := con_of (fn := Go.Proofs.Try.f108) (c := c) (Fi := fi) (X := X) (fun_of laid (by kernel_rfl) (by kernel_rfl) (by kernel_rfl) rfl (by kernel_rfl) (by kernel_rfl) cx (fun _ => rfl) (fun _ => rfl) (fun K => by
 rw [show loopsOf c = [] from by kernel_rfl]; intro p hp
 cases hp)) fun xs rows boxes K r hl hr => by
 obtain ⟨a1, e, h⟩ := runv hr
 have := St.like_eq (y := a a1) hl (by kernel_rfl) e
 obtain ⟨rfl, rfl, rfl⟩ := argSt_inj this
 exact (tie K a1).trans h
end impl_numsOk_1
namespace slices_IndexFunc_int_int_i3
noncomputable def c : Code := bodyOf Go.Proofs.Try.f124
noncomputable def fi : Fin := ⟨Γ0, [(.tmp 4, 3)], [[1]], [], [], []⟩
noncomputable def m (r1 : Int) : Res := ⟨[⟨false, [.int .i64 r1]⟩], [], [], [], []⟩
noncomputable def b0 : Code := codeAt c [1, 0, 1, 0, 0]
noncomputable def s0 (x2 : List Int) (x3 x4 : Int) : St := ⟨mkT 19 [(0, one (.tr 0 1 [.int .i64] (.ints x2))), (1, one (.fn 108 [])), (7, one (.int .i64 x3)), (8, one (.int .i64 x4))], [], []⟩
noncomputable def l0s (x2 : List Int) (x3 : Int) (rec : Int → Option Res) (k : Option Res) (R : Int → Option Res) (x4 : Int) : Option Res :=
 bif decide (x4 < x3) then (bif decide (0 ≤ x4) && decide (x4 < (x2.length : Int)) then (impl_numsOk_1.g (x2.getD x4.toNat 0) fun r5 =>
  bif r5 then R x4
  else rec (IntKind.i64.wrap (x4 + 1)))
  else none)
 else k
noncomputable def l0 (x2 : List Int) (x3 : Int) (k : Option Res) (R : Int → Option Res) : Nat → Int → Option Res
 | 0, _ => none
 | n + 1, x4 => l0s x2 x3 (fun x4 => l0 x2 x3 k R n x4) k R x4
noncomputable def o0 (x2 : List Int) (x3 : Int) : St := ⟨mkT 19 [], [], []⟩
noncomputable def p0 (K : Res → Option Res) : List Lf → (St → Option Res) → Option Res
 | [.q (.ints x2), .i x3, .i x4], k => l0 x2 x3 (k (o0 x2 x3)) (fun r1 => K (m r1)) fuel x4
 | _, _ => none
noncomputable def os : List (FuncId × St × (List Lf → (Res → Option Res) → Option Res)) := [impl_numsOk_1.con]
noncomputable def X (K : Res → Option Res) : Ctx := { Γ := Γ0, orc := orcOf os, io := [], share := [], opn := [], shr := [], bun := [], cut := [], own := [], cin := [(0, ⟨[0, 1, 7, 8], [], [], [], [], []⟩)], cout := [(0, ⟨[], [], [], [], [], []⟩)], lp := lpOf [(0, s0 [] 0 0, p0 K)], kl := Env.kl, nk := true, eqs := eqs0, byt := byt0, fin := finK fi K }
noncomputable def b (a1 : List Int) (R : Int → Option Res) : Option Res :=
 l0 a1 (a1.length : Int) (
 R (-1)) R fuel 0
theorem gx : ∃ x : List Int → (Int → Option Res) → Option Res, x = b := ⟨_, rfl⟩
noncomputable def g : List Int → (Int → Option Res) → Option Res := Classical.choose gx
theorem e : g = b := Classical.choose_spec gx
noncomputable def run : List Lf → (Res → Option Res) → Option Res
 | [.q (.ints a1)], K => g a1 (fun r1 => K (m r1))
 | _, _ => none
noncomputable def a (a1 : List Int) : St := argSt [one (.tr 0 1 [.int .i64] (.ints a1)), one (.fn 108 [])] [] []
noncomputable def con : FuncId × St × (List Lf → (Res → Option Res) → Option Res) := (124, a [], run)
theorem cx (K : Res → Option Res) : CtxOk Go.Proofs.Try.prog Γ0 byt0 eqs0 (X K) os := ⟨rfl, rfl, rfl, (fun p hp => by
 rcases List.mem_cons.1 hp with rfl | hp
 ·exact impl_numsOk_1.ok
 cases hp), rfl, rfl, rfl⟩
theorem t0 (K : Res → Option Res) (k : St → Option Res) (it : St → (St → Option Res) → Option Res) (x2 : List Int) (x3 x4 : Int) : iterS (X K) 0 b0 it (s0 x2 x3 x4) k = l0s x2 x3 (fun x4 => it (s0 x2 x3 x4) k) (k (o0 x2 x3)) (fun r1 => K (m r1)) x4 := by kernel_rfl
theorem i0 (K : Res → Option Res) (k : St → Option Res) (x2 : List Int) (x3 : Int) : ∀ (n : Nat) (x4 : Int), iter (X K) 0 b0 n (s0 x2 x3 x4) k = l0 x2 x3 (k (o0 x2 x3)) (fun r1 => K (m r1)) n x4
 | 0, _ => rfl
 | n + 1, x4 => by
  rw [iter_succ, t0, show (fun x4 => iter (X K) 0 b0 n (s0 x2 x3 x4) k) = (fun x4 => l0 x2 x3 (k (o0 x2 x3)) (fun r1 => K (m r1)) n x4) from funext fun x4 => i0 K k x2 x3 n x4]; rfl
theorem v0 {K : Res → Option Res} {l : List Lf} {k : St → Option Res} {r : Res} (h : p0 K l k = some r) : ∃ x2 x3 x4, l = [.q (.ints x2), .i x3, .i x4] ∧ l0 x2 x3 (k (o0 x2 x3)) (fun r1 => K (m r1)) fuel x4 = some r := by
 unfold p0 at h; split at h
 ·exact ⟨_, _, _, rfl, h⟩
 ·cases h
theorem w0 (K : Res → Option Res) : LpSound Go.Proofs.Try.prog (X K) 0 b0 := lp_ok ((cx K).ok laid) (by rw [show loopsOf b0 = [] from by kernel_rfl]; intro p hp; cases hp) rfl fun p hp hid => by
 rcases List.mem_cons.1 hp with rfl | hp
 ·intro st k r h1 h2; obtain ⟨x2, x3, x4, e, h⟩ := v0 (K := K) h2; have := St.like_eq (y := s0 x2 x3 x4) h1 (by kernel_rfl) e; subst this; exact ⟨fuel, (i0 K k x2 x3 fuel x4).trans h⟩
 cases hp
theorem tie (K : Res → Option Res) (a1 : List Int) : exec (X K) c (entry 19 [one (.tr 0 1 [.int .i64] (.ints a1)), one (.fn 108 [])] [] []) (endK (X K)) = g a1 (fun r1 => K (m r1)) := Eq.trans (b := b a1 (fun r1 => K (m r1))) (by kernel_rfl) (by rw [e])
theorem runv {l : List Lf} {K : Res → Option Res} {r : Res} (h : run l K = some r) : ∃ a1, l = [.q (.ints a1)] ∧ g a1 (fun r1 => K (m r1)) = some r := by
 unfold run at h; split at h
 ·exact ⟨_, rfl, h⟩
 ·cases h
theorem ok : Con Go.Proofs.Try.prog con := con_of (fn := Go.Proofs.Try.f124) (c := c) (Fi := fi) (X := X) (fun_of laid (by kernel_rfl) (by kernel_rfl) (by kernel_rfl) rfl (by kernel_rfl) (by kernel_rfl) cx (fun _ => rfl) (fun _ => rfl) (fun K => by
 rw [show loopsOf c = [(0, b0)] from by kernel_rfl]; intro p hp
 rcases List.mem_cons.1 hp with rfl | hp
 ·exact w0 K
 cases hp)) fun xs rows boxes K r hl hr => by
 obtain ⟨a1, e, h⟩ := runv hr
 have := St.like_eq (y := a a1) hl (by kernel_rfl) e
 obtain ⟨rfl, rfl, rfl⟩ := argSt_inj this
 exact (tie K a1).trans h
end slices_IndexFunc_int_int_i3
namespace slices_ContainsFunc_int_int_i3
noncomputable def c : Code := bodyOf Go.Proofs.Try.f107
noncomputable def fi : Fin := ⟨Γ0, [(.tmp 4, 4)], [[1]], [], [], []⟩
noncomputable def m (r1 : Bool) : Res := ⟨[⟨false, [.bool r1]⟩], [], [], [], []⟩
noncomputable def os : List (FuncId × St × (List Lf → (Res → Option Res) → Option Res)) := [slices_IndexFunc_int_int_i3.con]
noncomputable def X (K : Res → Option Res) : Ctx := { Γ := Γ0, orc := orcOf os, io := [], share := [], opn := [], shr := [], bun := [], cut := [], own := [], cin := [], cout := [], lp := lpOf [], kl := Env.kl, nk := true, eqs := eqs0, byt := byt0, fin := finK fi K }
noncomputable def b (a1 : List Int) (R : Bool → Option Res) : Option Res :=
 slices_IndexFunc_int_int_i3.g a1 fun r2 =>
 R (decide (0 ≤ r2))
theorem gx : ∃ x : List Int → (Bool → Option Res) → Option Res, x = b := ⟨_, rfl⟩
noncomputable def g : List Int → (Bool → Option Res) → Option Res := Classical.choose gx
theorem e : g = b := Classical.choose_spec gx
noncomputable def run : List Lf → (Res → Option Res) → Option Res
 | [.q (.ints a1)], K => g a1 (fun r1 => K (m r1))
 | _, _ => none
noncomputable def a (a1 : List Int) : St := argSt [one (.tr 0 1 [.int .i64] (.ints a1)), one (.fn 108 [])] [] []
noncomputable def con : FuncId × St × (List Lf → (Res → Option Res) → Option Res) := (107, a [], run)
theorem cx (K : Res → Option Res) : CtxOk Go.Proofs.Try.prog Γ0 byt0 eqs0 (X K) os := ⟨rfl, rfl, rfl, (fun p hp => by
 rcases List.mem_cons.1 hp with rfl | hp
 ·exact slices_IndexFunc_int_int_i3.ok
 cases hp), rfl, rfl, rfl⟩
theorem tie (K : Res → Option Res) (a1 : List Int) : exec (X K) c (entry 9 [one (.tr 0 1 [.int .i64] (.ints a1)), one (.fn 108 [])] [] []) (endK (X K)) = g a1 (fun r1 => K (m r1)) := Eq.trans (b := b a1 (fun r1 => K (m r1))) (by kernel_rfl) (by rw [e])
theorem runv {l : List Lf} {K : Res → Option Res} {r : Res} (h : run l K = some r) : ∃ a1, l = [.q (.ints a1)] ∧ g a1 (fun r1 => K (m r1)) = some r := by
 unfold run at h; split at h
 ·exact ⟨_, rfl, h⟩
 ·cases h
theorem ok : Con Go.Proofs.Try.prog con := con_of (fn := Go.Proofs.Try.f107) (c := c) (Fi := fi) (X := X) (fun_of laid (by kernel_rfl) (by kernel_rfl) (by kernel_rfl) rfl (by kernel_rfl) (by kernel_rfl) cx (fun _ => rfl) (fun _ => rfl) (fun K => by
 rw [show loopsOf c = [] from by kernel_rfl]; intro p hp
 cases hp)) fun xs rows boxes K r hl hr => by
 obtain ⟨a1, e, h⟩ := runv hr
 have := St.like_eq (y := a a1) hl (by kernel_rfl) e
 obtain ⟨rfl, rfl, rfl⟩ := argSt_inj this
 exact (tie K a1).trans h
end slices_ContainsFunc_int_int_i3
namespace impl_numsOk
noncomputable def c : Code := bodyOf Go.Proofs.Try.f69
noncomputable def fi : Fin := ⟨Γ0, [(.tmp 2, 4)], [[1]], [], [], []⟩
noncomputable def m (r1 : Bool) : Res := ⟨[⟨false, [.bool r1]⟩], [], [], [], []⟩
noncomputable def os : List (FuncId × St × (List Lf → (Res → Option Res) → Option Res)) := [impl_within.con, slices_ContainsFunc_int_int_i3.con]
noncomputable def X (K : Res → Option Res) : Ctx := { Γ := Γ0, orc := orcOf os, io := [], share := [], opn := [], shr := [], bun := [], cut := [], own := [], cin := [], cout := [], lp := lpOf [], kl := Env.kl, nk := true, eqs := eqs0, byt := byt0, fin := finK fi K }
noncomputable def b (a1 : List Int) (R : Bool → Option Res) : Option Res :=
 impl_within.g (a1.length : Int) 1 300 fun r2 =>
 bif r2 then (slices_ContainsFunc_int_int_i3.g a1 fun r3 =>
  R (!r3))
 else R false
theorem gx : ∃ x : List Int → (Bool → Option Res) → Option Res, x = b := ⟨_, rfl⟩
noncomputable def g : List Int → (Bool → Option Res) → Option Res := Classical.choose gx
theorem e : g = b := Classical.choose_spec gx
noncomputable def run : List Lf → (Res → Option Res) → Option Res
 | [.q (.ints a1)], K => g a1 (fun r1 => K (m r1))
 | _, _ => none
noncomputable def a (a1 : List Int) : St := argSt [one (.tr 0 1 [.int .i64] (.ints a1))] [] []
noncomputable def con : FuncId × St × (List Lf → (Res → Option Res) → Option Res) := (69, a [], run)
theorem cx (K : Res → Option Res) : CtxOk Go.Proofs.Try.prog Γ0 byt0 eqs0 (X K) os := ⟨rfl, rfl, rfl, (fun p hp => by
 rcases List.mem_cons.1 hp with rfl | hp
 ·exact impl_within.ok
 rcases List.mem_cons.1 hp with rfl | hp
 ·exact slices_ContainsFunc_int_int_i3.ok
 cases hp), rfl, rfl, rfl⟩
theorem tie (K : Res → Option Res) (a1 : List Int) : exec (X K) c (entry 11 [one (.tr 0 1 [.int .i64] (.ints a1))] [] []) (endK (X K)) = g a1 (fun r1 => K (m r1)) := Eq.trans (b := b a1 (fun r1 => K (m r1))) (by kernel_rfl) (by rw [e])
theorem runv {l : List Lf} {K : Res → Option Res} {r : Res} (h : run l K = some r) : ∃ a1, l = [.q (.ints a1)] ∧ g a1 (fun r1 => K (m r1)) = some r := by
 unfold run at h; split at h
 ·exact ⟨_, rfl, h⟩
 ·cases h
theorem ok : Con Go.Proofs.Try.prog con := con_of (fn := Go.Proofs.Try.f69) (c := c) (Fi := fi) (X := X) (fun_of laid (by kernel_rfl) (by kernel_rfl) (by kernel_rfl) rfl (by kernel_rfl) (by kernel_rfl) cx (fun _ => rfl) (fun _ => rfl) (fun K => by
 rw [show loopsOf c = [] from by kernel_rfl]; intro p hp
 cases hp)) fun xs rows boxes K r hl hr => by
 obtain ⟨a1, e, h⟩ := runv hr
 have := St.like_eq (y := a a1) hl (by kernel_rfl) e
 obtain ⟨rfl, rfl, rfl⟩ := argSt_inj this
 exact (tie K a1).trans h
end impl_numsOk
namespace spec_l1In
noncomputable def c : Code := bodyOf Go.Proofs.Try.f42
noncomputable def fi : Fin := ⟨Γ0, [(.tmp 6, 4)], [[1]], [], [], []⟩
noncomputable def m (r1 : Bool) : Res := ⟨[⟨false, [.bool r1]⟩], [], [], [], []⟩
noncomputable def os : List (FuncId × St × (List Lf → (Res → Option Res) → Option Res)) := []
noncomputable def X (K : Res → Option Res) : Ctx := { Γ := Γ0, orc := orcOf os, io := [], share := [], opn := [], shr := [], bun := [], cut := [], own := [], cin := [], cout := [], lp := lpOf [], kl := Env.kl, nk := true, eqs := eqs0, byt := byt0, fin := finK fi K }
noncomputable def b (a1 a2 a3 : Int) (R : Bool → Option Res) : Option Res :=
 bif decide (a2 ≤ a1) then R (decide (a1 ≤ a3))
 else R false
theorem gx : ∃ x : Int → Int → Int → (Bool → Option Res) → Option Res, x = b := ⟨_, rfl⟩
noncomputable def g : Int → Int → Int → (Bool → Option Res) → Option Res := Classical.choose gx
theorem e : g = b := Classical.choose_spec gx
noncomputable def run : List Lf → (Res → Option Res) → Option Res
 | [.i a1, .i a2, .i a3], K => g a1 a2 a3 (fun r1 => K (m r1))
 | _, _ => none
noncomputable def a (a1 a2 a3 : Int) : St := argSt [one (.int .i64 a1), one (.int .i64 a2), one (.int .i64 a3)] [] []
noncomputable def con : FuncId × St × (List Lf → (Res → Option Res) → Option Res) := (42, a 0 0 0, run)
theorem cx (K : Res → Option Res) : CtxOk Go.Proofs.Try.prog Γ0 byt0 eqs0 (X K) os := ⟨rfl, rfl, rfl, (fun p hp => by
 cases hp), rfl, rfl, rfl⟩
theorem tie (K : Res → Option Res) (a1 a2 a3 : Int) : exec (X K) c (entry 15 [one (.int .i64 a1), one (.int .i64 a2), one (.int .i64 a3)] [] []) (endK (X K)) = g a1 a2 a3 (fun r1 => K (m r1)) := Eq.trans (b := b a1 a2 a3 (fun r1 => K (m r1))) (by kernel_rfl) (by rw [e])
theorem runv {l : List Lf} {K : Res → Option Res} {r : Res} (h : run l K = some r) : ∃ a1 a2 a3, l = [.i a1, .i a2, .i a3] ∧ g a1 a2 a3 (fun r1 => K (m r1)) = some r := by
 unfold run at h; split at h
 ·exact ⟨_, _, _, rfl, h⟩
 ·cases h
theorem ok : Con Go.Proofs.Try.prog con := con_of (fn := Go.Proofs.Try.f42) (c := c) (Fi := fi) (X := X) (fun_of laid (by kernel_rfl) (by kernel_rfl) (by kernel_rfl) rfl (by kernel_rfl) (by kernel_rfl) cx (fun _ => rfl) (fun _ => rfl) (fun K => by
 rw [show loopsOf c = [] from by kernel_rfl]; intro p hp
 cases hp)) fun xs rows boxes K r hl hr => by
 obtain ⟨a1, a2, a3, e, h⟩ := runv hr
 have := St.like_eq (y := a a1 a2 a3) hl (by kernel_rfl) e
 obtain ⟨rfl, rfl, rfl⟩ := argSt_inj this
 exact (tie K a1 a2 a3).trans h
end spec_l1In
namespace spec_NumOk
noncomputable def c : Code := bodyOf Go.Proofs.Try.f110
noncomputable def fi : Fin := ⟨Γ0, [(.tmp 2, 4)], [[1]], [], [], []⟩
noncomputable def m (r1 : Bool) : Res := ⟨[⟨false, [.bool r1]⟩], [], [], [], []⟩
noncomputable def os : List (FuncId × St × (List Lf → (Res → Option Res) → Option Res)) := [spec_l1In.con]
noncomputable def X (K : Res → Option Res) : Ctx := { Γ := Γ0, orc := orcOf os, io := [], share := [], opn := [], shr := [], bun := [], cut := [], own := [], cin := [], cout := [], lp := lpOf [], kl := Env.kl, nk := true, eqs := eqs0, byt := byt0, fin := finK fi K }
noncomputable def b (a1 : Int) (R : Bool → Option Res) : Option Res :=
 spec_l1In.g a1 (-1000000000000) 1000000000000 fun r2 =>
 R r2
theorem gx : ∃ x : Int → (Bool → Option Res) → Option Res, x = b := ⟨_, rfl⟩
noncomputable def g : Int → (Bool → Option Res) → Option Res := Classical.choose gx
theorem e : g = b := Classical.choose_spec gx
noncomputable def run : List Lf → (Res → Option Res) → Option Res
 | [.i a1], K => g a1 (fun r1 => K (m r1))
 | _, _ => none
noncomputable def a (a1 : Int) : St := argSt [one (.int .i64 a1)] [] []
noncomputable def con : FuncId × St × (List Lf → (Res → Option Res) → Option Res) := (110, a 0, run)
theorem cx (K : Res → Option Res) : CtxOk Go.Proofs.Try.prog Γ0 byt0 eqs0 (X K) os := ⟨rfl, rfl, rfl, (fun p hp => by
 rcases List.mem_cons.1 hp with rfl | hp
 ·exact spec_l1In.ok
 cases hp), rfl, rfl, rfl⟩
theorem tie (K : Res → Option Res) (a1 : Int) : exec (X K) c (entry 5 [one (.int .i64 a1)] [] []) (endK (X K)) = g a1 (fun r1 => K (m r1)) := Eq.trans (b := b a1 (fun r1 => K (m r1))) (by kernel_rfl) (by rw [e])
theorem runv {l : List Lf} {K : Res → Option Res} {r : Res} (h : run l K = some r) : ∃ a1, l = [.i a1] ∧ g a1 (fun r1 => K (m r1)) = some r := by
 unfold run at h; split at h
 ·exact ⟨_, rfl, h⟩
 ·cases h
theorem ok : Con Go.Proofs.Try.prog con := con_of (fn := Go.Proofs.Try.f110) (c := c) (Fi := fi) (X := X) (fun_of laid (by kernel_rfl) (by kernel_rfl) (by kernel_rfl) rfl (by kernel_rfl) (by kernel_rfl) cx (fun _ => rfl) (fun _ => rfl) (fun K => by
 rw [show loopsOf c = [] from by kernel_rfl]; intro p hp
 cases hp)) fun xs rows boxes K r hl hr => by
 obtain ⟨a1, e, h⟩ := runv hr
 have := St.like_eq (y := a a1) hl (by kernel_rfl) e
 obtain ⟨rfl, rfl, rfl⟩ := argSt_inj this
 exact (tie K a1).trans h
end spec_NumOk
namespace spec_l1Sign2
noncomputable def c : Code := bodyOf Go.Proofs.Try.f100
noncomputable def fi : Fin := ⟨Γ0, [(.tmp 2, 4)], [[1]], [], [], []⟩
noncomputable def m (r1 : Bool) : Res := ⟨[⟨false, [.bool r1]⟩], [], [], [], []⟩
noncomputable def os : List (FuncId × St × (List Lf → (Res → Option Res) → Option Res)) := []
noncomputable def X (K : Res → Option Res) : Ctx := { Γ := Γ0, orc := orcOf os, io := [], share := [], opn := [], shr := [], bun := [], cut := [], own := [], cin := [], cout := [], lp := lpOf [], kl := Env.kl, nk := true, eqs := eqs0, byt := byt0, fin := finK fi K }
noncomputable def b (a1 : Int) (R : Bool → Option Res) : Option Res :=
 bif (a1 == 43) then R true
 else bif (a1 == 45) then R true
 else bif (a1 == 42) then R true
 else bif (a1 == 37) then R true
 else bif (a1 == 124) then R true
 else bif (a1 == 38) then R true
 else bif (a1 == 94) then R true
 else bif (a1 == 61) then R true
 else bif (a1 == 60) then R true
 else R (a1 == 62)
theorem gx : ∃ x : Int → (Bool → Option Res) → Option Res, x = b := ⟨_, rfl⟩
noncomputable def g : Int → (Bool → Option Res) → Option Res := Classical.choose gx
theorem e : g = b := Classical.choose_spec gx
noncomputable def run : List Lf → (Res → Option Res) → Option Res
 | [.i a1], K => g a1 (fun r1 => K (m r1))
 | _, _ => none
noncomputable def a (a1 : Int) : St := argSt [one (.int .i64 a1)] [] []
noncomputable def con : FuncId × St × (List Lf → (Res → Option Res) → Option Res) := (100, a 0, run)
theorem cx (K : Res → Option Res) : CtxOk Go.Proofs.Try.prog Γ0 byt0 eqs0 (X K) os := ⟨rfl, rfl, rfl, (fun p hp => by
 cases hp), rfl, rfl, rfl⟩
theorem tie (K : Res → Option Res) (a1 : Int) : exec (X K) c (entry 41 [one (.int .i64 a1)] [] []) (endK (X K)) = g a1 (fun r1 => K (m r1)) := Eq.trans (b := b a1 (fun r1 => K (m r1))) (by kernel_rfl) (by rw [e])
theorem runv {l : List Lf} {K : Res → Option Res} {r : Res} (h : run l K = some r) : ∃ a1, l = [.i a1] ∧ g a1 (fun r1 => K (m r1)) = some r := by
 unfold run at h; split at h
 ·exact ⟨_, rfl, h⟩
 ·cases h
theorem ok : Con Go.Proofs.Try.prog con := con_of (fn := Go.Proofs.Try.f100) (c := c) (Fi := fi) (X := X) (fun_of laid (by kernel_rfl) (by kernel_rfl) (by kernel_rfl) rfl (by kernel_rfl) (by kernel_rfl) cx (fun _ => rfl) (fun _ => rfl) (fun K => by
 rw [show loopsOf c = [] from by kernel_rfl]; intro p hp
 cases hp)) fun xs rows boxes K r hl hr => by
 obtain ⟨a1, e, h⟩ := runv hr
 have := St.like_eq (y := a a1) hl (by kernel_rfl) e
 obtain ⟨rfl, rfl, rfl⟩ := argSt_inj this
 exact (tie K a1).trans h
end spec_l1Sign2
namespace spec_l1Sign1
noncomputable def c : Code := bodyOf Go.Proofs.Try.f99
noncomputable def fi : Fin := ⟨Γ0, [(.tmp 2, 4)], [[1]], [], [], []⟩
noncomputable def m (r1 : Bool) : Res := ⟨[⟨false, [.bool r1]⟩], [], [], [], []⟩
noncomputable def os : List (FuncId × St × (List Lf → (Res → Option Res) → Option Res)) := []
noncomputable def X (K : Res → Option Res) : Ctx := { Γ := Γ0, orc := orcOf os, io := [], share := [], opn := [], shr := [], bun := [], cut := [], own := [], cin := [], cout := [], lp := lpOf [], kl := Env.kl, nk := true, eqs := eqs0, byt := byt0, fin := finK fi K }
noncomputable def b (a1 : Int) (R : Bool → Option Res) : Option Res :=
 bif (a1 == 43) then R true
 else bif (a1 == 45) then R true
 else bif (a1 == 42) then R true
 else bif (a1 == 124) then R true
 else R (a1 == 126)
theorem gx : ∃ x : Int → (Bool → Option Res) → Option Res, x = b := ⟨_, rfl⟩
noncomputable def g : Int → (Bool → Option Res) → Option Res := Classical.choose gx
theorem e : g = b := Classical.choose_spec gx
noncomputable def run : List Lf → (Res → Option Res) → Option Res
 | [.i a1], K => g a1 (fun r1 => K (m r1))
 | _, _ => none
noncomputable def a (a1 : Int) : St := argSt [one (.int .i64 a1)] [] []
noncomputable def con : FuncId × St × (List Lf → (Res → Option Res) → Option Res) := (99, a 0, run)
theorem cx (K : Res → Option Res) : CtxOk Go.Proofs.Try.prog Γ0 byt0 eqs0 (X K) os := ⟨rfl, rfl, rfl, (fun p hp => by
 cases hp), rfl, rfl, rfl⟩
theorem tie (K : Res → Option Res) (a1 : Int) : exec (X K) c (entry 21 [one (.int .i64 a1)] [] []) (endK (X K)) = g a1 (fun r1 => K (m r1)) := Eq.trans (b := b a1 (fun r1 => K (m r1))) (by kernel_rfl) (by rw [e])
theorem runv {l : List Lf} {K : Res → Option Res} {r : Res} (h : run l K = some r) : ∃ a1, l = [.i a1] ∧ g a1 (fun r1 => K (m r1)) = some r := by
 unfold run at h; split at h
 ·exact ⟨_, rfl, h⟩
 ·cases h
theorem ok : Con Go.Proofs.Try.prog con := con_of (fn := Go.Proofs.Try.f99) (c := c) (Fi := fi) (X := X) (fun_of laid (by kernel_rfl) (by kernel_rfl) (by kernel_rfl) rfl (by kernel_rfl) (by kernel_rfl) cx (fun _ => rfl) (fun _ => rfl) (fun K => by
 rw [show loopsOf c = [] from by kernel_rfl]; intro p hp
 cases hp)) fun xs rows boxes K r hl hr => by
 obtain ⟨a1, e, h⟩ := runv hr
 have := St.like_eq (y := a a1) hl (by kernel_rfl) e
 obtain ⟨rfl, rfl, rfl⟩ := argSt_inj this
 exact (tie K a1).trans h
end spec_l1Sign1
namespace spec_FunOne
noncomputable def c : Code := bodyOf Go.Proofs.Try.f73
noncomputable def fi : Fin := ⟨Γ0, [(.tmp 2, 4)], [[1]], [], [], []⟩
noncomputable def m (r1 : Bool) : Res := ⟨[⟨false, [.bool r1]⟩], [], [], [], []⟩
noncomputable def os : List (FuncId × St × (List Lf → (Res → Option Res) → Option Res)) := [spec_l1Sign2.con, spec_l1Sign1.con]
noncomputable def X (K : Res → Option Res) : Ctx := { Γ := Γ0, orc := orcOf os, io := [], share := [], opn := [], shr := [], bun := [], cut := [], own := [], cin := [], cout := [], lp := lpOf [], kl := Env.kl, nk := true, eqs := eqs0, byt := byt0, fin := finK fi K }
noncomputable def b (a1 a2 a3 : Int) (R : Bool → Option Res) : Option Res :=
 bif (a3 != 0) then R false
 else bif (a2 == 47) then (spec_l1Sign2.g a1 fun r4 =>
  R r4)
 else bif (a2 == 92) then (spec_l1Sign2.g a1 fun r5 =>
  R r5)
 else bif (a2 != 0) then R false
 else (spec_l1Sign1.g a1 fun r6 =>
 bif r6 then R true
 else bif (a1 == 105) then R true
 else bif (a1 == 35) then R true
 else bif (a1 == 44) then R true
 else bif (a1 == 114) then R true
 else bif (a1 == 122) then R true
 else R (a1 == 103))
theorem gx : ∃ x : Int → Int → Int → (Bool → Option Res) → Option Res, x = b := ⟨_, rfl⟩
noncomputable def g : Int → Int → Int → (Bool → Option Res) → Option Res := Classical.choose gx
theorem e : g = b := Classical.choose_spec gx
noncomputable def run : List Lf → (Res → Option Res) → Option Res
 | [.i a1, .i a2, .i a3], K => g a1 a2 a3 (fun r1 => K (m r1))
 | _, _ => none
noncomputable def a (a1 a2 a3 : Int) : St := argSt [.v ⟨true, [.int .i64 a1, .int .i64 a2, .int .i64 a3]⟩] [] []
noncomputable def con : FuncId × St × (List Lf → (Res → Option Res) → Option Res) := (73, a 0 0 0, run)
theorem cx (K : Res → Option Res) : CtxOk Go.Proofs.Try.prog Γ0 byt0 eqs0 (X K) os := ⟨rfl, rfl, rfl, (fun p hp => by
 rcases List.mem_cons.1 hp with rfl | hp
 ·exact spec_l1Sign2.ok
 rcases List.mem_cons.1 hp with rfl | hp
 ·exact spec_l1Sign1.ok
 cases hp), rfl, rfl, rfl⟩
theorem tie (K : Res → Option Res) (a1 a2 a3 : Int) : exec (X K) c (entry 56 [.v ⟨true, [.int .i64 a1, .int .i64 a2, .int .i64 a3]⟩] [] []) (endK (X K)) = g a1 a2 a3 (fun r1 => K (m r1)) := Eq.trans (b := b a1 a2 a3 (fun r1 => K (m r1))) (by kernel_rfl) (by rw [e])
theorem runv {l : List Lf} {K : Res → Option Res} {r : Res} (h : run l K = some r) : ∃ a1 a2 a3, l = [.i a1, .i a2, .i a3] ∧ g a1 a2 a3 (fun r1 => K (m r1)) = some r := by
 unfold run at h; split at h
 ·exact ⟨_, _, _, rfl, h⟩
 ·cases h
theorem ok : Con Go.Proofs.Try.prog con := con_of (fn := Go.Proofs.Try.f73) (c := c) (Fi := fi) (X := X) (fun_of laid (by kernel_rfl) (by kernel_rfl) (by kernel_rfl) rfl (by kernel_rfl) (by kernel_rfl) cx (fun _ => rfl) (fun _ => rfl) (fun K => by
 rw [show loopsOf c = [] from by kernel_rfl]; intro p hp
 cases hp)) fun xs rows boxes K r hl hr => by
 obtain ⟨a1, a2, a3, e, h⟩ := runv hr
 have := St.like_eq (y := a a1 a2 a3) hl (by kernel_rfl) e
 obtain ⟨rfl, rfl, rfl⟩ := argSt_inj this
 exact (tie K a1 a2 a3).trans h
end spec_FunOne
namespace spec_l9Behind
noncomputable def c : Code := bodyOf Go.Proofs.Try.f116
noncomputable def fi : Fin := ⟨Γ0, [], [], [false], [([.sl [.int .i64, .int .i64] 16, .int .i64, .sl [.int .i64, .int .i64, .int .i64, .int .i64, .int .i64, .int .i64, .ints .i64] 72], [0, 1, 1])], []⟩
noncomputable def m (r1 : List (List Cl)) (r2 : Int) (r3 : List (List Cl)) : Res := ⟨[], [none], [⟨[.int .i64, .int .i64, .int .i64, .int .i64, .int .i64, .int .i64, .ints .i64], .cells r3, false, 0, none⟩], [[.tr 2 2 [.int .i64, .int .i64] (.cells r1), .int .i64 r2, .ow 1000]], []⟩
noncomputable def b0 : Code := codeAt c [1, 1, 0, 0]
noncomputable def s0 (x5 : List (List Cl)) (x6 x7 : Int) (x8 x9 : List (List Cl)) (x10 : Int) : St := ⟨mkT 54 [(0, one (.bp 0 0)), (1, one (.tr 0 2 [.int .i64, .int .i64, .int .i64, .int .i64, .int .i64, .int .i64, .ints .i64] (.cells x5))), (4, one (.int .i64 x6)), (5, one (.int .i64 x7))], [(102401000, ⟨[.int .i64, .int .i64, .int .i64, .int .i64, .int .i64, .int .i64, .ints .i64], .cells x8, false, 0, none⟩)], [(0, [.tr 2 2 [.int .i64, .int .i64] (.cells x9), .int .i64 x10, .ow 102401000])]⟩
noncomputable def l0s (x5 : List (List Cl)) (x6 : Int) (x9 : List (List Cl)) (x10 : Int) (rec : Int → List (List Cl) → Option Res) (k : List (List Cl) → Option Res) (x7 : Int) (x8 : List (List Cl)) : Option Res :=
 bif decide (x7 < (x5.length : Int)) then (bif decide (0 ≤ x7) && decide (x7 < (x5.length : Int)) then (bif (((x5.getD x7.toNat []).getD 0 (.i 0)).toI == 5) then (bif decide ((x8.length + 1) * 72 ≤ 140737488355328) then rec (IntKind.i64.wrap (x7 + 1)) (x8 ++ ([[.i (((x5.getD x7.toNat []).getD 0 (.i 0)).toI), .i (IntKind.i64.wrap ((((x5.getD x7.toNat []).getD 1 (.i 0)).toI) + x6)), .i (IntKind.i64.wrap ((((x5.getD x7.toNat []).getD 2 (.i 0)).toI) + x6)), .i (((x5.getD x7.toNat []).getD 3 (.i 0)).toI), .i (((x5.getD x7.toNat []).getD 4 (.i 0)).toI), .i (((x5.getD x7.toNat []).getD 5 (.i 0)).toI), .l (((x5.getD x7.toNat []).getD 6 (.i 0)).toL)]] : List (List Cl)))
  else none)
  else bif (((x5.getD x7.toNat []).getD 0 (.i 0)).toI == 4) then (bif decide ((x8.length + 1) * 72 ≤ 140737488355328) then rec (IntKind.i64.wrap (x7 + 1)) (x8 ++ ([[.i (((x5.getD x7.toNat []).getD 0 (.i 0)).toI), .i (((x5.getD x7.toNat []).getD 1 (.i 0)).toI), .i (IntKind.i64.wrap ((((x5.getD x7.toNat []).getD 2 (.i 0)).toI) + x6)), .i (((x5.getD x7.toNat []).getD 3 (.i 0)).toI), .i (((x5.getD x7.toNat []).getD 4 (.i 0)).toI), .i (((x5.getD x7.toNat []).getD 5 (.i 0)).toI), .l (((x5.getD x7.toNat []).getD 6 (.i 0)).toL)]] : List (List Cl)))
   else none)
  else bif (((x5.getD x7.toNat []).getD 0 (.i 0)).toI == 3) then (bif decide ((x8.length + 1) * 72 ≤ 140737488355328) then rec (IntKind.i64.wrap (x7 + 1)) (x8 ++ ([[.i (((x5.getD x7.toNat []).getD 0 (.i 0)).toI), .i (((x5.getD x7.toNat []).getD 1 (.i 0)).toI), .i (IntKind.i64.wrap ((((x5.getD x7.toNat []).getD 2 (.i 0)).toI) + x6)), .i (((x5.getD x7.toNat []).getD 3 (.i 0)).toI), .i (((x5.getD x7.toNat []).getD 4 (.i 0)).toI), .i (((x5.getD x7.toNat []).getD 5 (.i 0)).toI), .l (((x5.getD x7.toNat []).getD 6 (.i 0)).toL)]] : List (List Cl)))
   else none)
  else bif decide ((x8.length + 1) * 72 ≤ 140737488355328) then rec (IntKind.i64.wrap (x7 + 1)) (x8 ++ ([[.i (((x5.getD x7.toNat []).getD 0 (.i 0)).toI), .i (((x5.getD x7.toNat []).getD 1 (.i 0)).toI), .i (((x5.getD x7.toNat []).getD 2 (.i 0)).toI), .i (((x5.getD x7.toNat []).getD 3 (.i 0)).toI), .i (((x5.getD x7.toNat []).getD 4 (.i 0)).toI), .i (((x5.getD x7.toNat []).getD 5 (.i 0)).toI), .l (((x5.getD x7.toNat []).getD 6 (.i 0)).toL)]] : List (List Cl)))
  else none)
  else none)
 else k x8
noncomputable def l0 (x5 : List (List Cl)) (x6 : Int) (x9 : List (List Cl)) (x10 : Int) (k : List (List Cl) → Option Res) : Nat → Int → List (List Cl) → Option Res
 | 0, _, _ => none
 | n + 1, x7, x8 => l0s x5 x6 x9 x10 (fun x7 x8 => l0 x5 x6 x9 x10 k n x7 x8) k x7 x8
noncomputable def o0 (x5 : List (List Cl)) (x6 : Int) (x9 : List (List Cl)) (x10 : Int) (y1 : List (List Cl)) : St := ⟨mkT 54 [], [(102401000, ⟨[.int .i64, .int .i64, .int .i64, .int .i64, .int .i64, .int .i64, .ints .i64], .cells y1, false, 0, none⟩)], [(0, [.tr 2 2 [.int .i64, .int .i64] (.cells x9), .int .i64 x10, .ow 102401000])]⟩
noncomputable def p0 (K : Res → Option Res) : List Lf → (St → Option Res) → Option Res
 | [.q (.cells x5), .i x6, .i x7, .q (.cells x8), .q (.cells x9), .i x10], k => l0 x5 x6 x9 x10 (fun y1 => k (o0 x5 x6 x9 x10 y1)) fuel x7 x8
 | _, _ => none
noncomputable def os : List (FuncId × St × (List Lf → (Res → Option Res) → Option Res)) := []
noncomputable def X (K : Res → Option Res) : Ctx := { Γ := Γ0, orc := orcOf os, io := [], share := [], opn := [], shr := [], bun := [], cut := [], own := [], cin := [(0, ⟨[0, 1, 4, 5], [(0, 102401000), (25688, 102401000)], [0], [102401000], [], []⟩)], cout := [(0, ⟨[], [(102401000, 102401000)], [0], [], [], []⟩)], lp := lpOf [(0, s0 [] 0 0 [] [] 0, p0 K)], kl := Env.kl, nk := true, eqs := eqs0, byt := byt0, fin := finK fi K }
noncomputable def b (a1 a2 a3 : List (List Cl)) (a4 : Int) (R : List (List Cl) → Int → List (List Cl) → Option Res) : Option Res :=
 l0 a1 (a2.length : Int) a3 a4 (fun y11 =>
 R a3 a4 y11) fuel 0 a2
theorem gx : ∃ x : List (List Cl) → List (List Cl) → List (List Cl) → Int → (List (List Cl) → Int → List (List Cl) → Option Res) → Option Res, x = b := ⟨_, rfl⟩
noncomputable def g : List (List Cl) → List (List Cl) → List (List Cl) → Int → (List (List Cl) → Int → List (List Cl) → Option Res) → Option Res := Classical.choose gx
theorem e : g = b := Classical.choose_spec gx
noncomputable def run : List Lf → (Res → Option Res) → Option Res
 | [.q (.cells a1), .q (.cells a2), .q (.cells a3), .i a4], K => g a1 a2 a3 a4 (fun r1 r2 r3 => K (m r1 r2 r3))
 | _, _ => none
noncomputable def a (a1 a2 a3 : List (List Cl)) (a4 : Int) : St := argSt [one (.bp 0 0), one (.tr 0 2 [.int .i64, .int .i64, .int .i64, .int .i64, .int .i64, .int .i64, .ints .i64] (.cells a1))] [⟨[.int .i64, .int .i64, .int .i64, .int .i64, .int .i64, .int .i64, .ints .i64], .cells a2, true, 0, none⟩] [[.tr 2 2 [.int .i64, .int .i64] (.cells a3), .int .i64 a4, .ow 0]]
noncomputable def con : FuncId × St × (List Lf → (Res → Option Res) → Option Res) := (116, a [] [] [] 0, run)
theorem cx (K : Res → Option Res) : CtxOk Go.Proofs.Try.prog Γ0 byt0 eqs0 (X K) os := ⟨rfl, rfl, rfl, (fun p hp => by
 cases hp), rfl, rfl, rfl⟩
theorem t0 (K : Res → Option Res) (k : St → Option Res) (it : St → (St → Option Res) → Option Res) (x5 : List (List Cl)) (x6 x7 : Int) (x8 x9 : List (List Cl)) (x10 : Int) : iterS (X K) 0 b0 it (s0 x5 x6 x7 x8 x9 x10) k = l0s x5 x6 x9 x10 (fun x7 x8 => it (s0 x5 x6 x7 x8 x9 x10) k) (fun y1 => k (o0 x5 x6 x9 x10 y1)) x7 x8 := by kernel_rfl
theorem i0 (K : Res → Option Res) (k : St → Option Res) (x5 : List (List Cl)) (x6 : Int) (x9 : List (List Cl)) (x10 : Int) : ∀ (n : Nat) (x7 : Int) (x8 : List (List Cl)), iter (X K) 0 b0 n (s0 x5 x6 x7 x8 x9 x10) k = l0 x5 x6 x9 x10 (fun y1 => k (o0 x5 x6 x9 x10 y1)) n x7 x8
 | 0, _, _ => rfl
 | n + 1, x7, x8 => by
  rw [iter_succ, t0, show (fun x7 x8 => iter (X K) 0 b0 n (s0 x5 x6 x7 x8 x9 x10) k) = (fun x7 x8 => l0 x5 x6 x9 x10 (fun y1 => k (o0 x5 x6 x9 x10 y1)) n x7 x8) from funext fun x7 => funext fun x8 => i0 K k x5 x6 x9 x10 n x7 x8]; rfl
theorem v0 {K : Res → Option Res} {l : List Lf} {k : St → Option Res} {r : Res} (h : p0 K l k = some r) : ∃ x5 x6 x7 x8 x9 x10, l = [.q (.cells x5), .i x6, .i x7, .q (.cells x8), .q (.cells x9), .i x10] ∧ l0 x5 x6 x9 x10 (fun y1 => k (o0 x5 x6 x9 x10 y1)) fuel x7 x8 = some r := by
 unfold p0 at h; split at h
 ·exact ⟨_, _, _, _, _, _, rfl, h⟩
 ·cases h
theorem w0 (K : Res → Option Res) : LpSound Go.Proofs.Try.prog (X K) 0 b0 := lp_ok ((cx K).ok laid) (by rw [show loopsOf b0 = [] from by kernel_rfl]; intro p hp; cases hp) rfl fun p hp hid => by
 rcases List.mem_cons.1 hp with rfl | hp
 ·intro st k r h1 h2; obtain ⟨x5, x6, x7, x8, x9, x10, e, h⟩ := v0 (K := K) h2; have := St.like_eq (y := s0 x5 x6 x7 x8 x9 x10) h1 (by kernel_rfl) e; subst this; exact ⟨fuel, (i0 K k x5 x6 x9 x10 fuel x7 x8).trans h⟩
 cases hp
theorem tie (K : Res → Option Res) (a1 a2 a3 : List (List Cl)) (a4 : Int) : exec (X K) c (entry 54 [one (.bp 0 0), one (.tr 0 2 [.int .i64, .int .i64, .int .i64, .int .i64, .int .i64, .int .i64, .ints .i64] (.cells a1))] [⟨[.int .i64, .int .i64, .int .i64, .int .i64, .int .i64, .int .i64, .ints .i64], .cells a2, true, 0, none⟩] [[.tr 2 2 [.int .i64, .int .i64] (.cells a3), .int .i64 a4, .ow 0]]) (endK (X K)) = g a1 a2 a3 a4 (fun r1 r2 r3 => K (m r1 r2 r3)) := Eq.trans (b := b a1 a2 a3 a4 (fun r1 r2 r3 => K (m r1 r2 r3))) (by kernel_rfl) (by rw [e])
theorem runv {l : List Lf} {K : Res → Option Res} {r : Res} (h : run l K = some r) : ∃ a1 a2 a3 a4, l = [.q (.cells a1), .q (.cells a2), .q (.cells a3), .i a4] ∧ g a1 a2 a3 a4 (fun r1 r2 r3 => K (m r1 r2 r3)) = some r := by
 unfold run at h; split at h
 ·exact ⟨_, _, _, _, rfl, h⟩
 ·cases h
theorem ok : Con Go.Proofs.Try.prog con := con_of (fn := Go.Proofs.Try.f116) (c := c) (Fi := fi) (X := X) (fun_of laid (by kernel_rfl) (by kernel_rfl) (by kernel_rfl) rfl (by kernel_rfl) (by kernel_rfl) cx (fun _ => rfl) (fun _ => rfl) (fun K => by
 rw [show loopsOf c = [(0, b0)] from by kernel_rfl]; intro p hp
 rcases List.mem_cons.1 hp with rfl | hp
 ·exact w0 K
 cases hp)) fun xs rows boxes K r hl hr => by
 obtain ⟨a1, a2, a3, a4, e, h⟩ := runv hr
 have := St.like_eq (y := a a1 a2 a3 a4) hl (by kernel_rfl) e
 obtain ⟨rfl, rfl, rfl⟩ := argSt_inj this
 exact (tie K a1 a2 a3 a4).trans h
end spec_l9Behind
namespace spec_FunTwo
noncomputable def c : Code := bodyOf Go.Proofs.Try.f74
noncomputable def fi : Fin := ⟨Γ0, [(.tmp 2, 4)], [[1]], [], [], []⟩
noncomputable def m (r1 : Bool) : Res := ⟨[⟨false, [.bool r1]⟩], [], [], [], []⟩
noncomputable def os : List (FuncId × St × (List Lf → (Res → Option Res) → Option Res)) := [spec_l1Sign2.con]
noncomputable def X (K : Res → Option Res) : Ctx := { Γ := Γ0, orc := orcOf os, io := [], share := [], opn := [], shr := [], bun := [], cut := [], own := [], cin := [], cout := [], lp := lpOf [], kl := Env.kl, nk := true, eqs := eqs0, byt := byt0, fin := finK fi K }
noncomputable def b (a1 a2 a3 : Int) (R : Bool → Option Res) : Option Res :=
 bif (a2 == 46) then (spec_l1Sign2.g a1 fun r4 =>
  bif r4 then (spec_l1Sign2.g a3 fun r5 =>
   R r5)
  else R false)
 else bif (a3 != 0) then R false
 else bif (a2 == 111) then (spec_l1Sign2.g a1 fun r6 =>
  R r6)
 else bif (a2 != 0) then R false
 else (spec_l1Sign2.g a1 fun r7 =>
 bif r7 then R true
 else bif (a1 == 35) then R true
 else bif (a1 == 44) then R true
 else bif (a1 == 116) then R true
 else bif (a1 == 100) then R true
 else bif (a1 == 114) then R true
 else bif (a1 == 64) then R true
 else bif (a1 == 63) then R true
 else bif (a1 == 36) then R true
 else R (a1 == 101))
theorem gx : ∃ x : Int → Int → Int → (Bool → Option Res) → Option Res, x = b := ⟨_, rfl⟩
noncomputable def g : Int → Int → Int → (Bool → Option Res) → Option Res := Classical.choose gx
theorem e : g = b := Classical.choose_spec gx
noncomputable def run : List Lf → (Res → Option Res) → Option Res
 | [.i a1, .i a2, .i a3], K => g a1 a2 a3 (fun r1 => K (m r1))
 | _, _ => none
noncomputable def a (a1 a2 a3 : Int) : St := argSt [.v ⟨true, [.int .i64 a1, .int .i64 a2, .int .i64 a3]⟩] [] []
noncomputable def con : FuncId × St × (List Lf → (Res → Option Res) → Option Res) := (74, a 0 0 0, run)
theorem cx (K : Res → Option Res) : CtxOk Go.Proofs.Try.prog Γ0 byt0 eqs0 (X K) os := ⟨rfl, rfl, rfl, (fun p hp => by
 rcases List.mem_cons.1 hp with rfl | hp
 ·exact spec_l1Sign2.ok
 cases hp), rfl, rfl, rfl⟩
theorem tie (K : Res → Option Res) (a1 a2 a3 : Int) : exec (X K) c (entry 77 [.v ⟨true, [.int .i64 a1, .int .i64 a2, .int .i64 a3]⟩] [] []) (endK (X K)) = g a1 a2 a3 (fun r1 => K (m r1)) := Eq.trans (b := b a1 a2 a3 (fun r1 => K (m r1))) (by kernel_rfl) (by rw [e])
theorem runv {l : List Lf} {K : Res → Option Res} {r : Res} (h : run l K = some r) : ∃ a1 a2 a3, l = [.i a1, .i a2, .i a3] ∧ g a1 a2 a3 (fun r1 => K (m r1)) = some r := by
 unfold run at h; split at h
 ·exact ⟨_, _, _, rfl, h⟩
 ·cases h
theorem ok : Con Go.Proofs.Try.prog con := con_of (fn := Go.Proofs.Try.f74) (c := c) (Fi := fi) (X := X) (fun_of laid (by kernel_rfl) (by kernel_rfl) (by kernel_rfl) rfl (by kernel_rfl) (by kernel_rfl) cx (fun _ => rfl) (fun _ => rfl) (fun K => by
 rw [show loopsOf c = [] from by kernel_rfl]; intro p hp
 cases hp)) fun xs rows boxes K r hl hr => by
 obtain ⟨a1, a2, a3, e, h⟩ := runv hr
 have := St.like_eq (y := a a1 a2 a3) hl (by kernel_rfl) e
 obtain ⟨rfl, rfl, rfl⟩ := argSt_inj this
 exact (tie K a1 a2 a3).trans h
end spec_FunTwo
namespace spec_l9Nums
noncomputable def c : Code := bodyOf Go.Proofs.Try.f72
noncomputable def fi : Fin := ⟨Γ0, [(.tmp 2, 4)], [[1]], [], [], []⟩
noncomputable def m (r1 : Bool) : Res := ⟨[⟨false, [.bool r1]⟩], [], [], [], []⟩
noncomputable def b0 : Code := codeAt c [1, 0, 1, 0, 0]
noncomputable def s0 (x2 : List Int) (x3 : Int) : St := ⟨mkT 19 [(0, one (.tr 0 1 [.int .i64] (.ints x2))), (3, one (.int .i64 x3))], [], []⟩
noncomputable def l0s (x2 : List Int) (rec : Int → Option Res) (k : Option Res) (R : Bool → Option Res) (x3 : Int) : Option Res :=
 bif decide (x3 < (x2.length : Int)) then (bif decide (0 ≤ x3) && decide (x3 < (x2.length : Int)) then (spec_NumOk.g (x2.getD x3.toNat 0) fun r4 =>
  bif !r4 then R false
  else rec (IntKind.i64.wrap (x3 + 1)))
  else none)
 else k
noncomputable def l0 (x2 : List Int) (k : Option Res) (R : Bool → Option Res) : Nat → Int → Option Res
 | 0, _ => none
 | n + 1, x3 => l0s x2 (fun x3 => l0 x2 k R n x3) k R x3
noncomputable def o0 (x2 : List Int) : St := ⟨mkT 19 [(0, one (.tr 0 1 [.int .i64] (.ints x2)))], [], []⟩
noncomputable def p0 (K : Res → Option Res) : List Lf → (St → Option Res) → Option Res
 | [.q (.ints x2), .i x3], k => l0 x2 (k (o0 x2)) (fun r1 => K (m r1)) fuel x3
 | _, _ => none
noncomputable def os : List (FuncId × St × (List Lf → (Res → Option Res) → Option Res)) := [spec_NumOk.con, spec_l1In.con]
noncomputable def X (K : Res → Option Res) : Ctx := { Γ := Γ0, orc := orcOf os, io := [], share := [], opn := [], shr := [], bun := [], cut := [], own := [], cin := [(0, ⟨[0, 3], [], [], [], [], []⟩)], cout := [(0, ⟨[0], [], [], [], [], []⟩)], lp := lpOf [(0, s0 [] 0, p0 K)], kl := Env.kl, nk := true, eqs := eqs0, byt := byt0, fin := finK fi K }
noncomputable def b (a1 : List Int) (R : Bool → Option Res) : Option Res :=
 l0 a1 (
 spec_l1In.g (a1.length : Int) 1 300 fun r5 =>
 R r5) R fuel 0
theorem gx : ∃ x : List Int → (Bool → Option Res) → Option Res, x = b := ⟨_, rfl⟩
noncomputable def g : List Int → (Bool → Option Res) → Option Res := Classical.choose gx
theorem e : g = b := Classical.choose_spec gx
noncomputable def run : List Lf → (Res → Option Res) → Option Res
 | [.q (.ints a1)], K => g a1 (fun r1 => K (m r1))
 | _, _ => none
noncomputable def a (a1 : List Int) : St := argSt [one (.tr 0 1 [.int .i64] (.ints a1))] [] []
noncomputable def con : FuncId × St × (List Lf → (Res → Option Res) → Option Res) := (72, a [], run)
theorem cx (K : Res → Option Res) : CtxOk Go.Proofs.Try.prog Γ0 byt0 eqs0 (X K) os := ⟨rfl, rfl, rfl, (fun p hp => by
 rcases List.mem_cons.1 hp with rfl | hp
 ·exact spec_NumOk.ok
 rcases List.mem_cons.1 hp with rfl | hp
 ·exact spec_l1In.ok
 cases hp), rfl, rfl, rfl⟩
theorem t0 (K : Res → Option Res) (k : St → Option Res) (it : St → (St → Option Res) → Option Res) (x2 : List Int) (x3 : Int) : iterS (X K) 0 b0 it (s0 x2 x3) k = l0s x2 (fun x3 => it (s0 x2 x3) k) (k (o0 x2)) (fun r1 => K (m r1)) x3 := by kernel_rfl
theorem i0 (K : Res → Option Res) (k : St → Option Res) (x2 : List Int) : ∀ (n : Nat) (x3 : Int), iter (X K) 0 b0 n (s0 x2 x3) k = l0 x2 (k (o0 x2)) (fun r1 => K (m r1)) n x3
 | 0, _ => rfl
 | n + 1, x3 => by
  rw [iter_succ, t0, show (fun x3 => iter (X K) 0 b0 n (s0 x2 x3) k) = (fun x3 => l0 x2 (k (o0 x2)) (fun r1 => K (m r1)) n x3) from funext fun x3 => i0 K k x2 n x3]; rfl
theorem v0 {K : Res → Option Res} {l : List Lf} {k : St → Option Res} {r : Res} (h : p0 K l k = some r) : ∃ x2 x3, l = [.q (.ints x2), .i x3] ∧ l0 x2 (k (o0 x2)) (fun r1 => K (m r1)) fuel x3 = some r := by
 unfold p0 at h; split at h
 ·exact ⟨_, _, rfl, h⟩
 ·cases h
theorem w0 (K : Res → Option Res) : LpSound Go.Proofs.Try.prog (X K) 0 b0 := lp_ok ((cx K).ok laid) (by rw [show loopsOf b0 = [] from by kernel_rfl]; intro p hp; cases hp) rfl fun p hp hid => by
 rcases List.mem_cons.1 hp with rfl | hp
 ·intro st k r h1 h2; obtain ⟨x2, x3, e, h⟩ := v0 (K := K) h2; have := St.like_eq (y := s0 x2 x3) h1 (by kernel_rfl) e; subst this; exact ⟨fuel, (i0 K k x2 fuel x3).trans h⟩
 cases hp
theorem tie (K : Res → Option Res) (a1 : List Int) : exec (X K) c (entry 19 [one (.tr 0 1 [.int .i64] (.ints a1))] [] []) (endK (X K)) = g a1 (fun r1 => K (m r1)) := Eq.trans (b := b a1 (fun r1 => K (m r1))) (by kernel_rfl) (by rw [e])
theorem runv {l : List Lf} {K : Res → Option Res} {r : Res} (h : run l K = some r) : ∃ a1, l = [.q (.ints a1)] ∧ g a1 (fun r1 => K (m r1)) = some r := by
 unfold run at h; split at h
 ·exact ⟨_, rfl, h⟩
 ·cases h
theorem ok : Con Go.Proofs.Try.prog con := con_of (fn := Go.Proofs.Try.f72) (c := c) (Fi := fi) (X := X) (fun_of laid (by kernel_rfl) (by kernel_rfl) (by kernel_rfl) rfl (by kernel_rfl) (by kernel_rfl) cx (fun _ => rfl) (fun _ => rfl) (fun K => by
 rw [show loopsOf c = [(0, b0)] from by kernel_rfl]; intro p hp
 rcases List.mem_cons.1 hp with rfl | hp
 ·exact w0 K
 cases hp)) fun xs rows boxes K r hl hr => by
 obtain ⟨a1, e, h⟩ := runv hr
 have := St.like_eq (y := a a1) hl (by kernel_rfl) e
 obtain ⟨rfl, rfl, rfl⟩ := argSt_inj this
 exact (tie K a1).trans h
end spec_l9Nums
namespace impl_instrOk
noncomputable def c : Code := bodyOf Go.Proofs.Try.f40
noncomputable def fi : Fin := ⟨Γ0, [(.tmp 2, 4)], [[1]], [], [], []⟩
noncomputable def m (r1 : Bool) : Res := ⟨[⟨false, [.bool r1]⟩], [], [], [], []⟩
noncomputable def os : List (FuncId × St × (List Lf → (Res → Option Res) → Option Res)) := [impl_numsOk.con, impl_within.con, impl_FunOne.con, impl_FunTwo.con]
noncomputable def X (K : Res → Option Res) : Ctx := { Γ := Γ0, orc := orcOf os, io := [], share := [], opn := [], shr := [], bun := [], cut := [], own := [], cin := [], cout := [], lp := lpOf [], kl := Env.kl, nk := true, eqs := eqs0, byt := byt0, fin := finK fi K }
noncomputable def b (a1 a2 a3 a4 a5 : Int) (a6 : List Int) (R : Bool → Option Res) : Option Res :=
 bif (a1 == 1) then (impl_numsOk.g a6 fun r7 =>
  bif (a2 == 0) then (bif ((a3 == 0) && ((a4 == 0) && ((a5 == 0) && true))) then R r7
   else R false)
  else R false)
 else bif (a1 == 2) then (impl_within.g a2 0 25 fun r8 =>
  bif r8 then (bif ((a3 == 0) && ((a4 == 0) && ((a5 == 0) && true))) then R ((a6.length : Int) == 0)
   else R false)
  else R false)
 else bif (a1 == 3) then (impl_within.g a2 0 25 fun r9 =>
  bif r9 then (bif ((a3 == 0) && ((a4 == 0) && ((a5 == 0) && true))) then R ((a6.length : Int) == 0)
   else R false)
  else R false)
 else bif (a1 == 4) then (impl_FunOne.g a3 a4 a5 fun r10 =>
  bif (a2 == 0) then (bif r10 then R ((a6.length : Int) == 0)
   else R false)
  else R false)
 else bif (a1 == 5) then (impl_FunTwo.g a3 a4 a5 fun r11 =>
  bif (a2 == 0) then (bif r11 then R ((a6.length : Int) == 0)
   else R false)
  else R false)
 else R false
theorem gx : ∃ x : Int → Int → Int → Int → Int → List Int → (Bool → Option Res) → Option Res, x = b := ⟨_, rfl⟩
noncomputable def g : Int → Int → Int → Int → Int → List Int → (Bool → Option Res) → Option Res := Classical.choose gx
theorem e : g = b := Classical.choose_spec gx
noncomputable def run : List Lf → (Res → Option Res) → Option Res
 | [.i a1, .i a2, .i a3, .i a4, .i a5, .q (.ints a6)], K => g a1 a2 a3 a4 a5 a6 (fun r1 => K (m r1))
 | _, _ => none
noncomputable def a (a1 a2 a3 a4 a5 : Int) (a6 : List Int) : St := argSt [.v ⟨true, [.int .i64 a1, .int .i64 a2, .int .i64 a3, .int .i64 a4, .int .i64 a5, .tr 0 1 [.int .i64] (.ints a6)]⟩] [] []
noncomputable def con : FuncId × St × (List Lf → (Res → Option Res) → Option Res) := (40, a 0 0 0 0 0 [], run)
theorem cx (K : Res → Option Res) : CtxOk Go.Proofs.Try.prog Γ0 byt0 eqs0 (X K) os := ⟨rfl, rfl, rfl, (fun p hp => by
 rcases List.mem_cons.1 hp with rfl | hp
 ·exact impl_numsOk.ok
 rcases List.mem_cons.1 hp with rfl | hp
 ·exact impl_within.ok
 rcases List.mem_cons.1 hp with rfl | hp
 ·exact impl_FunOne.ok
 rcases List.mem_cons.1 hp with rfl | hp
 ·exact impl_FunTwo.ok
 cases hp), rfl, rfl, rfl⟩
theorem tie (K : Res → Option Res) (a1 a2 a3 a4 a5 : Int) (a6 : List Int) : exec (X K) c (entry 47 [.v ⟨true, [.int .i64 a1, .int .i64 a2, .int .i64 a3, .int .i64 a4, .int .i64 a5, .tr 0 1 [.int .i64] (.ints a6)]⟩] [] []) (endK (X K)) = g a1 a2 a3 a4 a5 a6 (fun r1 => K (m r1)) := Eq.trans (b := b a1 a2 a3 a4 a5 a6 (fun r1 => K (m r1))) (by kernel_rfl) (by rw [e])
theorem runv {l : List Lf} {K : Res → Option Res} {r : Res} (h : run l K = some r) : ∃ a1 a2 a3 a4 a5 a6, l = [.i a1, .i a2, .i a3, .i a4, .i a5, .q (.ints a6)] ∧ g a1 a2 a3 a4 a5 a6 (fun r1 => K (m r1)) = some r := by
 unfold run at h; split at h
 ·exact ⟨_, _, _, _, _, _, rfl, h⟩
 ·cases h
theorem ok : Con Go.Proofs.Try.prog con := con_of (fn := Go.Proofs.Try.f40) (c := c) (Fi := fi) (X := X) (fun_of laid (by kernel_rfl) (by kernel_rfl) (by kernel_rfl) rfl (by kernel_rfl) (by kernel_rfl) cx (fun _ => rfl) (fun _ => rfl) (fun K => by
 rw [show loopsOf c = [] from by kernel_rfl]; intro p hp
 cases hp)) fun xs rows boxes K r hl hr => by
 obtain ⟨a1, a2, a3, a4, a5, a6, e, h⟩ := runv hr
 have := St.like_eq (y := a a1 a2 a3 a4 a5 a6) hl (by kernel_rfl) e
 obtain ⟨rfl, rfl, rfl⟩ := argSt_inj this
 exact (tie K a1 a2 a3 a4 a5 a6).trans h
end impl_instrOk
namespace impl_CodeOk_1
noncomputable def c : Code := bodyOf Go.Proofs.Try.f39
noncomputable def fi : Fin := ⟨Γ0, [(.tmp 2, 4)], [[1]], [], [], []⟩
noncomputable def m (r1 : Bool) : Res := ⟨[⟨false, [.bool r1]⟩], [], [], [], []⟩
noncomputable def os : List (FuncId × St × (List Lf → (Res → Option Res) → Option Res)) := [impl_instrOk.con]
noncomputable def X (K : Res → Option Res) : Ctx := { Γ := Γ0, orc := orcOf os, io := [], share := [], opn := [], shr := [], bun := [], cut := [], own := [], cin := [], cout := [], lp := lpOf [], kl := Env.kl, nk := true, eqs := eqs0, byt := byt0, fin := finK fi K }
noncomputable def b (a1 a2 a3 a4 a5 : Int) (a6 : List Int) (R : Bool → Option Res) : Option Res :=
 impl_instrOk.g a1 a2 a3 a4 a5 a6 fun r7 =>
 R (!r7)
theorem gx : ∃ x : Int → Int → Int → Int → Int → List Int → (Bool → Option Res) → Option Res, x = b := ⟨_, rfl⟩
noncomputable def g : Int → Int → Int → Int → Int → List Int → (Bool → Option Res) → Option Res := Classical.choose gx
theorem e : g = b := Classical.choose_spec gx
noncomputable def run : List Lf → (Res → Option Res) → Option Res
 | [.i a1, .i a2, .i a3, .i a4, .i a5, .q (.ints a6)], K => g a1 a2 a3 a4 a5 a6 (fun r1 => K (m r1))
 | _, _ => none
noncomputable def a (a1 a2 a3 a4 a5 : Int) (a6 : List Int) : St := argSt [.v ⟨true, [.int .i64 a1, .int .i64 a2, .int .i64 a3, .int .i64 a4, .int .i64 a5, .tr 0 1 [.int .i64] (.ints a6)]⟩] [] []
noncomputable def con : FuncId × St × (List Lf → (Res → Option Res) → Option Res) := (39, a 0 0 0 0 0 [], run)
theorem cx (K : Res → Option Res) : CtxOk Go.Proofs.Try.prog Γ0 byt0 eqs0 (X K) os := ⟨rfl, rfl, rfl, (fun p hp => by
 rcases List.mem_cons.1 hp with rfl | hp
 ·exact impl_instrOk.ok
 cases hp), rfl, rfl, rfl⟩
theorem tie (K : Res → Option Res) (a1 a2 a3 a4 a5 : Int) (a6 : List Int) : exec (X K) c (entry 6 [.v ⟨true, [.int .i64 a1, .int .i64 a2, .int .i64 a3, .int .i64 a4, .int .i64 a5, .tr 0 1 [.int .i64] (.ints a6)]⟩] [] []) (endK (X K)) = g a1 a2 a3 a4 a5 a6 (fun r1 => K (m r1)) := Eq.trans (b := b a1 a2 a3 a4 a5 a6 (fun r1 => K (m r1))) (by kernel_rfl) (by rw [e])
theorem runv {l : List Lf} {K : Res → Option Res} {r : Res} (h : run l K = some r) : ∃ a1 a2 a3 a4 a5 a6, l = [.i a1, .i a2, .i a3, .i a4, .i a5, .q (.ints a6)] ∧ g a1 a2 a3 a4 a5 a6 (fun r1 => K (m r1)) = some r := by
 unfold run at h; split at h
 ·exact ⟨_, _, _, _, _, _, rfl, h⟩
 ·cases h
theorem ok : Con Go.Proofs.Try.prog con := con_of (fn := Go.Proofs.Try.f39) (c := c) (Fi := fi) (X := X) (fun_of laid (by kernel_rfl) (by kernel_rfl) (by kernel_rfl) rfl (by kernel_rfl) (by kernel_rfl) cx (fun _ => rfl) (fun _ => rfl) (fun K => by
 rw [show loopsOf c = [] from by kernel_rfl]; intro p hp
 cases hp)) fun xs rows boxes K r hl hr => by
 obtain ⟨a1, a2, a3, a4, a5, a6, e, h⟩ := runv hr
 have := St.like_eq (y := a a1 a2 a3 a4 a5 a6) hl (by kernel_rfl) e
 obtain ⟨rfl, rfl, rfl⟩ := argSt_inj this
 exact (tie K a1 a2 a3 a4 a5 a6).trans h
end impl_CodeOk_1
namespace slices_IndexFunc_impl_Instr_impl_Instr
noncomputable def c : Code := bodyOf Go.Proofs.Try.f68
noncomputable def fi : Fin := ⟨Γ0, [(.tmp 4, 3)], [[1]], [], [], []⟩
noncomputable def m (r1 : Int) : Res := ⟨[⟨false, [.int .i64 r1]⟩], [], [], [], []⟩
noncomputable def b0 : Code := codeAt c [1, 0, 1, 0, 0]
noncomputable def s0 (x2 : List (List Cl)) (x3 x4 : Int) : St := ⟨mkT 19 [(0, one (.tr 0 1 [.int .i64, .int .i64, .int .i64, .int .i64, .int .i64, .ints .i64] (.cells x2))), (1, one (.fn 39 [])), (7, one (.int .i64 x3)), (8, one (.int .i64 x4))], [], []⟩
noncomputable def l0s (x2 : List (List Cl)) (x3 : Int) (rec : Int → Option Res) (k : Option Res) (R : Int → Option Res) (x4 : Int) : Option Res :=
 bif decide (x4 < x3) then (bif decide (0 ≤ x4) && decide (x4 < (x2.length : Int)) then (impl_CodeOk_1.g (((x2.getD x4.toNat []).getD 0 (.i 0)).toI) (((x2.getD x4.toNat []).getD 1 (.i 0)).toI) (((x2.getD x4.toNat []).getD 2 (.i 0)).toI) (((x2.getD x4.toNat []).getD 3 (.i 0)).toI) (((x2.getD x4.toNat []).getD 4 (.i 0)).toI) (((x2.getD x4.toNat []).getD 5 (.i 0)).toL) fun r5 =>
  bif r5 then R x4
  else rec (IntKind.i64.wrap (x4 + 1)))
  else none)
 else k
noncomputable def l0 (x2 : List (List Cl)) (x3 : Int) (k : Option Res) (R : Int → Option Res) : Nat → Int → Option Res
 | 0, _ => none
 | n + 1, x4 => l0s x2 x3 (fun x4 => l0 x2 x3 k R n x4) k R x4
noncomputable def o0 (x2 : List (List Cl)) (x3 : Int) : St := ⟨mkT 19 [], [], []⟩
noncomputable def p0 (K : Res → Option Res) : List Lf → (St → Option Res) → Option Res
 | [.q (.cells x2), .i x3, .i x4], k => l0 x2 x3 (k (o0 x2 x3)) (fun r1 => K (m r1)) fuel x4
 | _, _ => none
noncomputable def os : List (FuncId × St × (List Lf → (Res → Option Res) → Option Res)) := [impl_CodeOk_1.con]
noncomputable def X (K : Res → Option Res) : Ctx := { Γ := Γ0, orc := orcOf os, io := [], share := [], opn := [], shr := [], bun := [], cut := [], own := [], cin := [(0, ⟨[0, 1, 7, 8], [], [], [], [], []⟩)], cout := [(0, ⟨[], [], [], [], [], []⟩)], lp := lpOf [(0, s0 [] 0 0, p0 K)], kl := Env.kl, nk := true, eqs := eqs0, byt := byt0, fin := finK fi K }
noncomputable def b (a1 : List (List Cl)) (R : Int → Option Res) : Option Res :=
 l0 a1 (a1.length : Int) (
 R (-1)) R fuel 0
theorem gx : ∃ x : List (List Cl) → (Int → Option Res) → Option Res, x = b := ⟨_, rfl⟩
noncomputable def g : List (List Cl) → (Int → Option Res) → Option Res := Classical.choose gx
theorem e : g = b := Classical.choose_spec gx
noncomputable def run : List Lf → (Res → Option Res) → Option Res
 | [.q (.cells a1)], K => g a1 (fun r1 => K (m r1))
 | _, _ => none
noncomputable def a (a1 : List (List Cl)) : St := argSt [one (.tr 0 1 [.int .i64, .int .i64, .int .i64, .int .i64, .int .i64, .ints .i64] (.cells a1)), one (.fn 39 [])] [] []
noncomputable def con : FuncId × St × (List Lf → (Res → Option Res) → Option Res) := (68, a [], run)
theorem cx (K : Res → Option Res) : CtxOk Go.Proofs.Try.prog Γ0 byt0 eqs0 (X K) os := ⟨rfl, rfl, rfl, (fun p hp => by
 rcases List.mem_cons.1 hp with rfl | hp
 ·exact impl_CodeOk_1.ok
 cases hp), rfl, rfl, rfl⟩
theorem t0 (K : Res → Option Res) (k : St → Option Res) (it : St → (St → Option Res) → Option Res) (x2 : List (List Cl)) (x3 x4 : Int) : iterS (X K) 0 b0 it (s0 x2 x3 x4) k = l0s x2 x3 (fun x4 => it (s0 x2 x3 x4) k) (k (o0 x2 x3)) (fun r1 => K (m r1)) x4 := by kernel_rfl
theorem i0 (K : Res → Option Res) (k : St → Option Res) (x2 : List (List Cl)) (x3 : Int) : ∀ (n : Nat) (x4 : Int), iter (X K) 0 b0 n (s0 x2 x3 x4) k = l0 x2 x3 (k (o0 x2 x3)) (fun r1 => K (m r1)) n x4
 | 0, _ => rfl
 | n + 1, x4 => by
  rw [iter_succ, t0, show (fun x4 => iter (X K) 0 b0 n (s0 x2 x3 x4) k) = (fun x4 => l0 x2 x3 (k (o0 x2 x3)) (fun r1 => K (m r1)) n x4) from funext fun x4 => i0 K k x2 x3 n x4]; rfl
theorem v0 {K : Res → Option Res} {l : List Lf} {k : St → Option Res} {r : Res} (h : p0 K l k = some r) : ∃ x2 x3 x4, l = [.q (.cells x2), .i x3, .i x4] ∧ l0 x2 x3 (k (o0 x2 x3)) (fun r1 => K (m r1)) fuel x4 = some r := by
 unfold p0 at h; split at h
 ·exact ⟨_, _, _, rfl, h⟩
 ·cases h
theorem w0 (K : Res → Option Res) : LpSound Go.Proofs.Try.prog (X K) 0 b0 := lp_ok ((cx K).ok laid) (by rw [show loopsOf b0 = [] from by kernel_rfl]; intro p hp; cases hp) rfl fun p hp hid => by
 rcases List.mem_cons.1 hp with rfl | hp
 ·intro st k r h1 h2; obtain ⟨x2, x3, x4, e, h⟩ := v0 (K := K) h2; have := St.like_eq (y := s0 x2 x3 x4) h1 (by kernel_rfl) e; subst this; exact ⟨fuel, (i0 K k x2 x3 fuel x4).trans h⟩
 cases hp
theorem tie (K : Res → Option Res) (a1 : List (List Cl)) : exec (X K) c (entry 19 [one (.tr 0 1 [.int .i64, .int .i64, .int .i64, .int .i64, .int .i64, .ints .i64] (.cells a1)), one (.fn 39 [])] [] []) (endK (X K)) = g a1 (fun r1 => K (m r1)) := Eq.trans (b := b a1 (fun r1 => K (m r1))) (by kernel_rfl) (by rw [e])
theorem runv {l : List Lf} {K : Res → Option Res} {r : Res} (h : run l K = some r) : ∃ a1, l = [.q (.cells a1)] ∧ g a1 (fun r1 => K (m r1)) = some r := by
 unfold run at h; split at h
 ·exact ⟨_, rfl, h⟩
 ·cases h
theorem ok : Con Go.Proofs.Try.prog con := con_of (fn := Go.Proofs.Try.f68) (c := c) (Fi := fi) (X := X) (fun_of laid (by kernel_rfl) (by kernel_rfl) (by kernel_rfl) rfl (by kernel_rfl) (by kernel_rfl) cx (fun _ => rfl) (fun _ => rfl) (fun K => by
 rw [show loopsOf c = [(0, b0)] from by kernel_rfl]; intro p hp
 rcases List.mem_cons.1 hp with rfl | hp
 ·exact w0 K
 cases hp)) fun xs rows boxes K r hl hr => by
 obtain ⟨a1, e, h⟩ := runv hr
 have := St.like_eq (y := a a1) hl (by kernel_rfl) e
 obtain ⟨rfl, rfl, rfl⟩ := argSt_inj this
 exact (tie K a1).trans h
end slices_IndexFunc_impl_Instr_impl_Instr
namespace slices_ContainsFunc_impl_Instr_impl_Instr
noncomputable def c : Code := bodyOf Go.Proofs.Try.f38
noncomputable def fi : Fin := ⟨Γ0, [(.tmp 4, 4)], [[1]], [], [], []⟩
noncomputable def m (r1 : Bool) : Res := ⟨[⟨false, [.bool r1]⟩], [], [], [], []⟩
noncomputable def os : List (FuncId × St × (List Lf → (Res → Option Res) → Option Res)) := [slices_IndexFunc_impl_Instr_impl_Instr.con]
noncomputable def X (K : Res → Option Res) : Ctx := { Γ := Γ0, orc := orcOf os, io := [], share := [], opn := [], shr := [], bun := [], cut := [], own := [], cin := [], cout := [], lp := lpOf [], kl := Env.kl, nk := true, eqs := eqs0, byt := byt0, fin := finK fi K }
noncomputable def b (a1 : List (List Cl)) (R : Bool → Option Res) : Option Res :=
 slices_IndexFunc_impl_Instr_impl_Instr.g a1 fun r2 =>
 R (decide (0 ≤ r2))
theorem gx : ∃ x : List (List Cl) → (Bool → Option Res) → Option Res, x = b := ⟨_, rfl⟩
noncomputable def g : List (List Cl) → (Bool → Option Res) → Option Res := Classical.choose gx
theorem e : g = b := Classical.choose_spec gx
noncomputable def run : List Lf → (Res → Option Res) → Option Res
 | [.q (.cells a1)], K => g a1 (fun r1 => K (m r1))
 | _, _ => none
noncomputable def a (a1 : List (List Cl)) : St := argSt [one (.tr 0 1 [.int .i64, .int .i64, .int .i64, .int .i64, .int .i64, .ints .i64] (.cells a1)), one (.fn 39 [])] [] []
noncomputable def con : FuncId × St × (List Lf → (Res → Option Res) → Option Res) := (38, a [], run)
theorem cx (K : Res → Option Res) : CtxOk Go.Proofs.Try.prog Γ0 byt0 eqs0 (X K) os := ⟨rfl, rfl, rfl, (fun p hp => by
 rcases List.mem_cons.1 hp with rfl | hp
 ·exact slices_IndexFunc_impl_Instr_impl_Instr.ok
 cases hp), rfl, rfl, rfl⟩
theorem tie (K : Res → Option Res) (a1 : List (List Cl)) : exec (X K) c (entry 9 [one (.tr 0 1 [.int .i64, .int .i64, .int .i64, .int .i64, .int .i64, .ints .i64] (.cells a1)), one (.fn 39 [])] [] []) (endK (X K)) = g a1 (fun r1 => K (m r1)) := Eq.trans (b := b a1 (fun r1 => K (m r1))) (by kernel_rfl) (by rw [e])
theorem runv {l : List Lf} {K : Res → Option Res} {r : Res} (h : run l K = some r) : ∃ a1, l = [.q (.cells a1)] ∧ g a1 (fun r1 => K (m r1)) = some r := by
 unfold run at h; split at h
 ·exact ⟨_, rfl, h⟩
 ·cases h
theorem ok : Con Go.Proofs.Try.prog con := con_of (fn := Go.Proofs.Try.f38) (c := c) (Fi := fi) (X := X) (fun_of laid (by kernel_rfl) (by kernel_rfl) (by kernel_rfl) rfl (by kernel_rfl) (by kernel_rfl) cx (fun _ => rfl) (fun _ => rfl) (fun K => by
 rw [show loopsOf c = [] from by kernel_rfl]; intro p hp
 cases hp)) fun xs rows boxes K r hl hr => by
 obtain ⟨a1, e, h⟩ := runv hr
 have := St.like_eq (y := a a1) hl (by kernel_rfl) e
 obtain ⟨rfl, rfl, rfl⟩ := argSt_inj this
 exact (tie K a1).trans h
end slices_ContainsFunc_impl_Instr_impl_Instr
namespace impl_takes
noncomputable def c : Code := bodyOf Go.Proofs.Try.f61
noncomputable def fi : Fin := ⟨Γ0, [(.tmp 2, 3)], [[1]], [], [], []⟩
noncomputable def m (r1 : Int) : Res := ⟨[⟨false, [.int .i64 r1]⟩], [], [], [], []⟩
noncomputable def os : List (FuncId × St × (List Lf → (Res → Option Res) → Option Res)) := []
noncomputable def X (K : Res → Option Res) : Ctx := { Γ := Γ0, orc := orcOf os, io := [], share := [], opn := [], shr := [], bun := [], cut := [], own := [], cin := [], cout := [], lp := lpOf [], kl := Env.kl, nk := true, eqs := eqs0, byt := byt0, fin := finK fi K }
noncomputable def b (a1 a2 a3 a4 a5 : Int) (a6 : List Int) (R : Int → Option Res) : Option Res :=
 bif (a1 == 3) then R 1
 else bif (a1 == 4) then R 1
 else bif (a1 == 5) then R 2
 else R 0
theorem gx : ∃ x : Int → Int → Int → Int → Int → List Int → (Int → Option Res) → Option Res, x = b := ⟨_, rfl⟩
noncomputable def g : Int → Int → Int → Int → Int → List Int → (Int → Option Res) → Option Res := Classical.choose gx
theorem e : g = b := Classical.choose_spec gx
noncomputable def run : List Lf → (Res → Option Res) → Option Res
 | [.i a1, .i a2, .i a3, .i a4, .i a5, .q (.ints a6)], K => g a1 a2 a3 a4 a5 a6 (fun r1 => K (m r1))
 | _, _ => none
noncomputable def a (a1 a2 a3 a4 a5 : Int) (a6 : List Int) : St := argSt [.v ⟨true, [.int .i64 a1, .int .i64 a2, .int .i64 a3, .int .i64 a4, .int .i64 a5, .tr 0 1 [.int .i64] (.ints a6)]⟩] [] []
noncomputable def con : FuncId × St × (List Lf → (Res → Option Res) → Option Res) := (61, a 0 0 0 0 0 [], run)
theorem cx (K : Res → Option Res) : CtxOk Go.Proofs.Try.prog Γ0 byt0 eqs0 (X K) os := ⟨rfl, rfl, rfl, (fun p hp => by
 cases hp), rfl, rfl, rfl⟩
theorem tie (K : Res → Option Res) (a1 a2 a3 a4 a5 : Int) (a6 : List Int) : exec (X K) c (entry 10 [.v ⟨true, [.int .i64 a1, .int .i64 a2, .int .i64 a3, .int .i64 a4, .int .i64 a5, .tr 0 1 [.int .i64] (.ints a6)]⟩] [] []) (endK (X K)) = g a1 a2 a3 a4 a5 a6 (fun r1 => K (m r1)) := Eq.trans (b := b a1 a2 a3 a4 a5 a6 (fun r1 => K (m r1))) (by kernel_rfl) (by rw [e])
theorem runv {l : List Lf} {K : Res → Option Res} {r : Res} (h : run l K = some r) : ∃ a1 a2 a3 a4 a5 a6, l = [.i a1, .i a2, .i a3, .i a4, .i a5, .q (.ints a6)] ∧ g a1 a2 a3 a4 a5 a6 (fun r1 => K (m r1)) = some r := by
 unfold run at h; split at h
 ·exact ⟨_, _, _, _, _, _, rfl, h⟩
 ·cases h
theorem ok : Con Go.Proofs.Try.prog con := con_of (fn := Go.Proofs.Try.f61) (c := c) (Fi := fi) (X := X) (fun_of laid (by kernel_rfl) (by kernel_rfl) (by kernel_rfl) rfl (by kernel_rfl) (by kernel_rfl) cx (fun _ => rfl) (fun _ => rfl) (fun K => by
 rw [show loopsOf c = [] from by kernel_rfl]; intro p hp
 cases hp)) fun xs rows boxes K r hl hr => by
 obtain ⟨a1, a2, a3, a4, a5, a6, e, h⟩ := runv hr
 have := St.like_eq (y := a a1 a2 a3 a4 a5 a6) hl (by kernel_rfl) e
 obtain ⟨rfl, rfl, rfl⟩ := argSt_inj this
 exact (tie K a1 a2 a3 a4 a5 a6).trans h
end impl_takes
namespace impl_deep
noncomputable def c : Code := bodyOf Go.Proofs.Try.f41
noncomputable def fi : Fin := ⟨Γ0, [(.tmp 2, 41), (.tmp 3, 4)], [[1], [1]], [], [], []⟩
noncomputable def m (r1 : List Int) (r2 : Bool) : Res := ⟨[⟨false, [.ow 1000]⟩, ⟨false, [.bool r2]⟩], [], [⟨[.int .i64], .ints r1, true, 0, none⟩], [], []⟩
noncomputable def b0 : Code := codeAt c [1, 1, 0, 1, 0, 0]
noncomputable def s0 (x2 : List (List Cl)) (x3 x4 : Int) (x5 : List Int) : St := ⟨mkT 35 [(4, one (.ow 3048)), (8, one (.tr 0 1 [.int .i64, .int .i64, .int .i64, .int .i64, .int .i64, .ints .i64] (.cells x2))), (9, one (.int .i64 x3)), (10, one (.int .i64 x4))], [(3048, ⟨[.int .i64], .ints x5, true, 0, none⟩)], []⟩
noncomputable def l0s (x2 : List (List Cl)) (x3 : Int) (rec : Int → List Int → Option Res) (k : List Int → Option Res) (R : List Int → Bool → Option Res) (x4 : Int) (x5 : List Int) : Option Res :=
 bif decide (x4 < x3) then (bif decide (0 ≤ x4) && decide (x4 < (x2.length : Int)) then (bif decide (0 ≤ x4) && decide (x4 < (x5.length : Int)) then (impl_takes.g (((x2.getD x4.toNat []).getD 0 (.i 0)).toI) (((x2.getD x4.toNat []).getD 1 (.i 0)).toI) (((x2.getD x4.toNat []).getD 2 (.i 0)).toI) (((x2.getD x4.toNat []).getD 3 (.i 0)).toI) (((x2.getD x4.toNat []).getD 4 (.i 0)).toI) (((x2.getD x4.toNat []).getD 5 (.i 0)).toL) fun r6 =>
  bif decide (x5.getD x4.toNat 0 < r6) then R ([] : List Int) false
  else bif decide (0 ≤ x4) && decide (x4 < (x5.length : Int)) then (impl_takes.g (((x2.getD x4.toNat []).getD 0 (.i 0)).toI) (((x2.getD x4.toNat []).getD 1 (.i 0)).toI) (((x2.getD x4.toNat []).getD 2 (.i 0)).toI) (((x2.getD x4.toNat []).getD 3 (.i 0)).toI) (((x2.getD x4.toNat []).getD 4 (.i 0)).toI) (((x2.getD x4.toNat []).getD 5 (.i 0)).toL) fun r7 =>
   bif decide ((x5.length + 1) * 8 ≤ 140737488355328) then rec (IntKind.i64.wrap (x4 + 1)) (x5 ++ ([IntKind.i64.wrap ((IntKind.i64.wrap ((x5.getD x4.toNat 0) - r7)) + 1)] : List Int))
   else none)
  else none)
  else none)
  else none)
 else k x5
noncomputable def l0 (x2 : List (List Cl)) (x3 : Int) (k : List Int → Option Res) (R : List Int → Bool → Option Res) : Nat → Int → List Int → Option Res
 | 0, _, _ => none
 | n + 1, x4, x5 => l0s x2 x3 (fun x4 x5 => l0 x2 x3 k R n x4 x5) k R x4 x5
noncomputable def o0 (x2 : List (List Cl)) (x3 : Int) (y1 : List Int) : St := ⟨mkT 35 [(4, one (.ow 3048))], [(3048, ⟨[.int .i64], .ints y1, true, 0, none⟩)], []⟩
noncomputable def p0 (K : Res → Option Res) : List Lf → (St → Option Res) → Option Res
 | [.q (.cells x2), .i x3, .i x4, .q (.ints x5)], k => l0 x2 x3 (fun y1 => k (o0 x2 x3 y1)) (fun r1 r2 => K (m r1 r2)) fuel x4 x5
 | _, _ => none
noncomputable def os : List (FuncId × St × (List Lf → (Res → Option Res) → Option Res)) := [impl_takes.con]
noncomputable def X (K : Res → Option Res) : Ctx := { Γ := Γ0, orc := orcOf os, io := [], share := [], opn := [], shr := [], bun := [], cut := [], own := [], cin := [(0, ⟨[4, 8, 9, 10], [(3048, 3048), (15496, 3048)], [], [], [], []⟩)], cout := [(0, ⟨[4], [(3048, 3048)], [], [], [], []⟩)], lp := lpOf [(0, s0 [] 0 0 [], p0 K)], kl := Env.kl, nk := true, eqs := eqs0, byt := byt0, fin := finK fi K }
noncomputable def b (a1 : List (List Cl)) (R : List Int → Bool → Option Res) : Option Res :=
 l0 a1 (a1.length : Int) (fun y8 =>
 R y8 true) R fuel 0 ([0] : List Int)
theorem gx : ∃ x : List (List Cl) → (List Int → Bool → Option Res) → Option Res, x = b := ⟨_, rfl⟩
noncomputable def g : List (List Cl) → (List Int → Bool → Option Res) → Option Res := Classical.choose gx
theorem e : g = b := Classical.choose_spec gx
noncomputable def run : List Lf → (Res → Option Res) → Option Res
 | [.q (.cells a1)], K => g a1 (fun r1 r2 => K (m r1 r2))
 | _, _ => none
noncomputable def a (a1 : List (List Cl)) : St := argSt [one (.tr 0 1 [.int .i64, .int .i64, .int .i64, .int .i64, .int .i64, .ints .i64] (.cells a1))] [] []
noncomputable def con : FuncId × St × (List Lf → (Res → Option Res) → Option Res) := (41, a [], run)
theorem cx (K : Res → Option Res) : CtxOk Go.Proofs.Try.prog Γ0 byt0 eqs0 (X K) os := ⟨rfl, rfl, rfl, (fun p hp => by
 rcases List.mem_cons.1 hp with rfl | hp
 ·exact impl_takes.ok
 cases hp), rfl, rfl, rfl⟩
theorem t0 (K : Res → Option Res) (k : St → Option Res) (it : St → (St → Option Res) → Option Res) (x2 : List (List Cl)) (x3 x4 : Int) (x5 : List Int) : iterS (X K) 0 b0 it (s0 x2 x3 x4 x5) k = l0s x2 x3 (fun x4 x5 => it (s0 x2 x3 x4 x5) k) (fun y1 => k (o0 x2 x3 y1)) (fun r1 r2 => K (m r1 r2)) x4 x5 := by kernel_rfl
theorem i0 (K : Res → Option Res) (k : St → Option Res) (x2 : List (List Cl)) (x3 : Int) : ∀ (n : Nat) (x4 : Int) (x5 : List Int), iter (X K) 0 b0 n (s0 x2 x3 x4 x5) k = l0 x2 x3 (fun y1 => k (o0 x2 x3 y1)) (fun r1 r2 => K (m r1 r2)) n x4 x5
 | 0, _, _ => rfl
 | n + 1, x4, x5 => by
  rw [iter_succ, t0, show (fun x4 x5 => iter (X K) 0 b0 n (s0 x2 x3 x4 x5) k) = (fun x4 x5 => l0 x2 x3 (fun y1 => k (o0 x2 x3 y1)) (fun r1 r2 => K (m r1 r2)) n x4 x5) from funext fun x4 => funext fun x5 => i0 K k x2 x3 n x4 x5]; rfl
theorem v0 {K : Res → Option Res} {l : List Lf} {k : St → Option Res} {r : Res} (h : p0 K l k = some r) : ∃ x2 x3 x4 x5, l = [.q (.cells x2), .i x3, .i x4, .q (.ints x5)] ∧ l0 x2 x3 (fun y1 => k (o0 x2 x3 y1)) (fun r1 r2 => K (m r1 r2)) fuel x4 x5 = some r := by
 unfold p0 at h; split at h
 ·exact ⟨_, _, _, _, rfl, h⟩
 ·cases h
theorem w0 (K : Res → Option Res) : LpSound Go.Proofs.Try.prog (X K) 0 b0 := lp_ok ((cx K).ok laid) (by rw [show loopsOf b0 = [] from by kernel_rfl]; intro p hp; cases hp) rfl fun p hp hid => by
 rcases List.mem_cons.1 hp with rfl | hp
 ·intro st k r h1 h2; obtain ⟨x2, x3, x4, x5, e, h⟩ := v0 (K := K) h2; have := St.like_eq (y := s0 x2 x3 x4 x5) h1 (by kernel_rfl) e; subst this; exact ⟨fuel, (i0 K k x2 x3 fuel x4 x5).trans h⟩
 cases hp
theorem tie (K : Res → Option Res) (a1 : List (List Cl)) : exec (X K) c (entry 35 [one (.tr 0 1 [.int .i64, .int .i64, .int .i64, .int .i64, .int .i64, .ints .i64] (.cells a1))] [] []) (endK (X K)) = g a1 (fun r1 r2 => K (m r1 r2)) := Eq.trans (b := b a1 (fun r1 r2 => K (m r1 r2))) (by kernel_rfl) (by rw [e])
theorem runv {l : List Lf} {K : Res → Option Res} {r : Res} (h : run l K = some r) : ∃ a1, l = [.q (.cells a1)] ∧ g a1 (fun r1 r2 => K (m r1 r2)) = some r := by
 unfold run at h; split at h
 ·exact ⟨_, rfl, h⟩
 ·cases h
theorem ok : Con Go.Proofs.Try.prog con := con_of (fn := Go.Proofs.Try.f41) (c := c) (Fi := fi) (X := X) (fun_of laid (by kernel_rfl) (by kernel_rfl) (by kernel_rfl) rfl (by kernel_rfl) (by kernel_rfl) cx (fun _ => rfl) (fun _ => rfl) (fun K => by
 rw [show loopsOf c = [(0, b0)] from by kernel_rfl]; intro p hp
 rcases List.mem_cons.1 hp with rfl | hp
 ·exact w0 K
 cases hp)) fun xs rows boxes K r hl hr => by
 obtain ⟨a1, e, h⟩ := runv hr
 have := St.like_eq (y := a a1) hl (by kernel_rfl) e
 obtain ⟨rfl, rfl, rfl⟩ := argSt_inj this
 exact (tie K a1).trans h
end impl_deep
namespace impl_CodeOk
noncomputable def c : Code := bodyOf Go.Proofs.Try.f18
noncomputable def fi : Fin := ⟨Γ0, [(.tmp 2, 4)], [[1]], [], [], []⟩
noncomputable def m (r1 : Bool) : Res := ⟨[⟨false, [.bool r1]⟩], [], [], [], []⟩
noncomputable def os : List (FuncId × St × (List Lf → (Res → Option Res) → Option Res)) := [impl_within.con, slices_ContainsFunc_impl_Instr_impl_Instr.con, impl_deep.con]
noncomputable def X (K : Res → Option Res) : Ctx := { Γ := Γ0, orc := orcOf os, io := [], share := [], opn := [], shr := [], bun := [], cut := [], own := [], cin := [], cout := [], lp := lpOf [], kl := Env.kl, nk := true, eqs := eqs0, byt := byt0, fin := finK fi K }
noncomputable def b (a1 : List (List Cl)) (R : Bool → Option Res) : Option Res :=
 impl_within.g (a1.length : Int) 1 60 fun r2 =>
 bif !r2 then R false
 else (slices_ContainsFunc_impl_Instr_impl_Instr.g a1 fun r3 =>
 bif r3 then R false
 else (impl_deep.g a1 fun r4 r5 =>
 bif r5 then (bif decide (0 ≤ (a1.length : Int)) && decide ((a1.length : Int) < (r4.length : Int)) then R (r4.getD ((a1.length : Int).toNat) 0 == 1)
  else none)
 else R false))
theorem gx : ∃ x : List (List Cl) → (Bool → Option Res) → Option Res, x = b := ⟨_, rfl⟩
noncomputable def g : List (List Cl) → (Bool → Option Res) → Option Res := Classical.choose gx
theorem e : g = b := Classical.choose_spec gx
noncomputable def run : List Lf → (Res → Option Res) → Option Res
 | [.q (.cells a1)], K => g a1 (fun r1 => K (m r1))
 | _, _ => none
noncomputable def a (a1 : List (List Cl)) : St := argSt [one (.tr 0 1 [.int .i64, .int .i64, .int .i64, .int .i64, .int .i64, .ints .i64] (.cells a1))] [] []
noncomputable def con : FuncId × St × (List Lf → (Res → Option Res) → Option Res) := (18, a [], run)
theorem cx (K : Res → Option Res) : CtxOk Go.Proofs.Try.prog Γ0 byt0 eqs0 (X K) os := ⟨rfl, rfl, rfl, (fun p hp => by
 rcases List.mem_cons.1 hp with rfl | hp
 ·exact impl_within.ok
 rcases List.mem_cons.1 hp with rfl | hp
 ·exact slices_ContainsFunc_impl_Instr_impl_Instr.ok
 rcases List.mem_cons.1 hp with rfl | hp
 ·exact impl_deep.ok
 cases hp), rfl, rfl, rfl⟩
theorem tie (K : Res → Option Res) (a1 : List (List Cl)) : exec (X K) c (entry 27 [one (.tr 0 1 [.int .i64, .int .i64, .int .i64, .int .i64, .int .i64, .ints .i64] (.cells a1))] [] []) (endK (X K)) = g a1 (fun r1 => K (m r1)) := Eq.trans (b := b a1 (fun r1 => K (m r1))) (by kernel_rfl) (by rw [e])
theorem runv {l : List Lf} {K : Res → Option Res} {r : Res} (h : run l K = some r) : ∃ a1, l = [.q (.cells a1)] ∧ g a1 (fun r1 => K (m r1)) = some r := by
 unfold run at h; split at h
 ·exact ⟨_, rfl, h⟩
 ·cases h
theorem ok : Con Go.Proofs.Try.prog con := con_of (fn := Go.Proofs.Try.f18) (c := c) (Fi := fi) (X := X) (fun_of laid (by kernel_rfl) (by kernel_rfl) (by kernel_rfl) rfl (by kernel_rfl) (by kernel_rfl) cx (fun _ => rfl) (fun _ => rfl) (fun K => by
 rw [show loopsOf c = [] from by kernel_rfl]; intro p hp
 cases hp)) fun xs rows boxes K r hl hr => by
 obtain ⟨a1, e, h⟩ := runv hr
 have := St.like_eq (y := a a1) hl (by kernel_rfl) e
 obtain ⟨rfl, rfl, rfl⟩ := argSt_inj this
 exact (tie K a1).trans h
end impl_CodeOk
namespace laws_szIntS
noncomputable def c : Code := bodyOf Go.Proofs.Try.f55
noncomputable def fi : Fin := ⟨Γ0, [(.tmp 4, 3)], [[1]], [], [], []⟩
noncomputable def m (r1 : Int) : Res := ⟨[⟨false, [.int .i64 r1]⟩], [], [], [], []⟩
noncomputable def os : List (FuncId × St × (List Lf → (Res → Option Res) → Option Res)) := []
noncomputable def X (K : Res → Option Res) : Ctx := { Γ := Γ0, orc := orcOf os, io := [], share := [], opn := [], shr := [], bun := [], cut := [], own := [], cin := [], cout := [], lp := lpOf [], kl := Env.kl, nk := true, eqs := eqs0, byt := byt0, fin := finK fi K }
noncomputable def b (a1 : List Int) (a2 : Int) (R : Int → Option Res) : Option Res :=
 bif decide (IntKind.i64.wrap (a2 - (a1.length : Int)) < 0) then R (-1)
 else R (IntKind.i64.wrap (a2 - (a1.length : Int)))
theorem gx : ∃ x : List Int → Int → (Int → Option Res) → Option Res, x = b := ⟨_, rfl⟩
noncomputable def g : List Int → Int → (Int → Option Res) → Option Res := Classical.choose gx
theorem e : g = b := Classical.choose_spec gx
noncomputable def run : List Lf → (Res → Option Res) → Option Res
 | [.q (.ints a1), .i a2], K => g a1 a2 (fun r1 => K (m r1))
 | _, _ => none
noncomputable def a (a1 : List Int) (a2 : Int) : St := argSt [one (.tr 0 1 [.int .i64] (.ints a1)), one (.int .i64 a2)] [] []
noncomputable def con : FuncId × St × (List Lf → (Res → Option Res) → Option Res) := (55, a [] 0, run)
theorem cx (K : Res → Option Res) : CtxOk Go.Proofs.Try.prog Γ0 byt0 eqs0 (X K) os := ⟨rfl, rfl, rfl, (fun p hp => by
 cases hp), rfl, rfl, rfl⟩
theorem tie (K : Res → Option Res) (a1 : List Int) (a2 : Int) : exec (X K) c (entry 12 [one (.tr 0 1 [.int .i64] (.ints a1)), one (.int .i64 a2)] [] []) (endK (X K)) = g a1 a2 (fun r1 => K (m r1)) := Eq.trans (b := b a1 a2 (fun r1 => K (m r1))) (by kernel_rfl) (by rw [e])
theorem runv {l : List Lf} {K : Res → Option Res} {r : Res} (h : run l K = some r) : ∃ a1 a2, l = [.q (.ints a1), .i a2] ∧ g a1 a2 (fun r1 => K (m r1)) = some r := by
 unfold run at h; split at h
 ·exact ⟨_, _, rfl, h⟩
 ·cases h
theorem ok : Con Go.Proofs.Try.prog con := con_of (fn := Go.Proofs.Try.f55) (c := c) (Fi := fi) (X := X) (fun_of laid (by kernel_rfl) (by kernel_rfl) (by kernel_rfl) rfl (by kernel_rfl) (by kernel_rfl) cx (fun _ => rfl) (fun _ => rfl) (fun K => by
 rw [show loopsOf c = [] from by kernel_rfl]; intro p hp
 cases hp)) fun xs rows boxes K r hl hr => by
 obtain ⟨a1, a2, e, h⟩ := runv hr
 have := St.like_eq (y := a a1 a2) hl (by kernel_rfl) e
 obtain ⟨rfl, rfl, rfl⟩ := argSt_inj this
 exact (tie K a1 a2).trans h
end laws_szIntS
namespace laws_szInstr
noncomputable def c : Code := bodyOf Go.Proofs.Try.f28
noncomputable def fi : Fin := ⟨Γ0, [(.tmp 4, 3)], [[1]], [], [], []⟩
noncomputable def m (r1 : Int) : Res := ⟨[⟨false, [.int .i64 r1]⟩], [], [], [], []⟩
noncomputable def os : List (FuncId × St × (List Lf → (Res → Option Res) → Option Res)) := [laws_szIntS.con]
noncomputable def X (K : Res → Option Res) : Ctx := { Γ := Γ0, orc := orcOf os, io := [], share := [], opn := [], shr := [], bun := [], cut := [], own := [], cin := [], cout := [], lp := lpOf [], kl := Env.kl, nk := true, eqs := eqs0, byt := byt0, fin := finK fi K }
noncomputable def b (a1 a2 a3 a4 a5 : Int) (a6 : List Int) (a7 : Int) (R : Int → Option Res) : Option Res :=
 laws_szIntS.g a6 a7 fun r8 =>
 bif decide (r8 < 0) then R (-1)
 else R r8
theorem gx : ∃ x : Int → Int → Int → Int → Int → List Int → Int → (Int → Option Res) → Option Res, x = b := ⟨_, rfl⟩
noncomputable def g : Int → Int → Int → Int → Int → List Int → Int → (Int → Option Res) → Option Res := Classical.choose gx
theorem e : g = b := Classical.choose_spec gx
noncomputable def run : List Lf → (Res → Option Res) → Option Res
 | [.i a1, .i a2, .i a3, .i a4, .i a5, .q (.ints a6), .i a7], K => g a1 a2 a3 a4 a5 a6 a7 (fun r1 => K (m r1))
 | _, _ => none
noncomputable def a (a1 a2 a3 a4 a5 : Int) (a6 : List Int) (a7 : Int) : St := argSt [.v ⟨true, [.int .i64 a1, .int .i64 a2, .int .i64 a3, .int .i64 a4, .int .i64 a5, .tr 0 1 [.int .i64] (.ints a6)]⟩, one (.int .i64 a7)] [] []
noncomputable def con : FuncId × St × (List Lf → (Res → Option Res) → Option Res) := (28, a 0 0 0 0 0 [] 0, run)
theorem cx (K : Res → Option Res) : CtxOk Go.Proofs.Try.prog Γ0 byt0 eqs0 (X K) os := ⟨rfl, rfl, rfl, (fun p hp => by
 rcases List.mem_cons.1 hp with rfl | hp
 ·exact laws_szIntS.ok
 cases hp), rfl, rfl, rfl⟩
theorem tie (K : Res → Option Res) (a1 a2 a3 a4 a5 : Int) (a6 : List Int) (a7 : Int) : exec (X K) c (entry 12 [.v ⟨true, [.int .i64 a1, .int .i64 a2, .int .i64 a3, .int .i64 a4, .int .i64 a5, .tr 0 1 [.int .i64] (.ints a6)]⟩, one (.int .i64 a7)] [] []) (endK (X K)) = g a1 a2 a3 a4 a5 a6 a7 (fun r1 => K (m r1)) := Eq.trans (b := b a1 a2 a3 a4 a5 a6 a7 (fun r1 => K (m r1))) (by kernel_rfl) (by rw [e])
theorem runv {l : List Lf} {K : Res → Option Res} {r : Res} (h : run l K = some r) : ∃ a1 a2 a3 a4 a5 a6 a7, l = [.i a1, .i a2, .i a3, .i a4, .i a5, .q (.ints a6), .i a7] ∧ g a1 a2 a3 a4 a5 a6 a7 (fun r1 => K (m r1)) = some r := by
 unfold run at h; split at h
 ·exact ⟨_, _, _, _, _, _, _, rfl, h⟩
 ·cases h
theorem ok : Con Go.Proofs.Try.prog con := con_of (fn := Go.Proofs.Try.f28) (c := c) (Fi := fi) (X := X) (fun_of laid (by kernel_rfl) (by kernel_rfl) (by kernel_rfl) rfl (by kernel_rfl) (by kernel_rfl) cx (fun _ => rfl) (fun _ => rfl) (fun K => by
 rw [show loopsOf c = [] from by kernel_rfl]; intro p hp
 cases hp)) fun xs rows boxes K r hl hr => by
 obtain ⟨a1, a2, a3, a4, a5, a6, a7, e, h⟩ := runv hr
 have := St.like_eq (y := a a1 a2 a3 a4 a5 a6 a7) hl (by kernel_rfl) e
 obtain ⟨rfl, rfl, rfl⟩ := argSt_inj this
 exact (tie K a1 a2 a3 a4 a5 a6 a7).trans h
end laws_szInstr
namespace laws_szInstrS
noncomputable def c : Code := bodyOf Go.Proofs.Try.f7
noncomputable def fi : Fin := ⟨Γ0, [(.tmp 4, 3)], [[1]], [], [], []⟩
noncomputable def m (r1 : Int) : Res := ⟨[⟨false, [.int .i64 r1]⟩], [], [], [], []⟩
noncomputable def b0 : Code := codeAt c [1, 1, 1, 0, 1, 0, 0]
noncomputable def s0 (x3 : List (List Cl)) (x4 x5 : Int) : St := ⟨mkT 27 [(0, one (.tr 0 1 [.int .i64, .int .i64, .int .i64, .int .i64, .int .i64, .ints .i64] (.cells x3))), (1, one (.int .i64 x4)), (5, one (.int .i64 x5))], [], []⟩
noncomputable def l0s (x3 : List (List Cl)) (rec : Int → Int → Option Res) (k : Int → Option Res) (R : Int → Option Res) (x4 x5 : Int) : Option Res :=
 bif decide (x5 < (x3.length : Int)) then (bif decide (0 ≤ x5) && decide (x5 < (x3.length : Int)) then (laws_szInstr.g (((x3.getD x5.toNat []).getD 0 (.i 0)).toI) (((x3.getD x5.toNat []).getD 1 (.i 0)).toI) (((x3.getD x5.toNat []).getD 2 (.i 0)).toI) (((x3.getD x5.toNat []).getD 3 (.i 0)).toI) (((x3.getD x5.toNat []).getD 4 (.i 0)).toI) (((x3.getD x5.toNat []).getD 5 (.i 0)).toL) x4 fun r6 =>
  bif decide (r6 < 0) then R (-1)
  else rec r6 (IntKind.i64.wrap (x5 + 1)))
  else none)
 else k x4
noncomputable def l0 (x3 : List (List Cl)) (k : Int → Option Res) (R : Int → Option Res) : Nat → Int → Int → Option Res
 | 0, _, _ => none
 | n + 1, x4, x5 => l0s x3 (fun x4 x5 => l0 x3 k R n x4 x5) k R x4 x5
noncomputable def o0 (x3 : List (List Cl)) (y1 : Int) : St := ⟨mkT 27 [(1, one (.int .i64 y1))], [], []⟩
noncomputable def p0 (K : Res → Option Res) : List Lf → (St → Option Res) → Option Res
 | [.q (.cells x3), .i x4, .i x5], k => l0 x3 (fun y1 => k (o0 x3 y1)) (fun r1 => K (m r1)) fuel x4 x5
 | _, _ => none
noncomputable def os : List (FuncId × St × (List Lf → (Res → Option Res) → Option Res)) := [laws_szInstr.con]
noncomputable def X (K : Res → Option Res) : Ctx := { Γ := Γ0, orc := orcOf os, io := [], share := [], opn := [], shr := [], bun := [], cut := [], own := [], cin := [(0, ⟨[0, 1, 5], [], [], [], [], []⟩)], cout := [(0, ⟨[1], [], [], [], [], []⟩)], lp := lpOf [(0, s0 [] 0 0, p0 K)], kl := Env.kl, nk := true, eqs := eqs0, byt := byt0, fin := finK fi K }
noncomputable def b (a1 : List (List Cl)) (a2 : Int) (R : Int → Option Res) : Option Res :=
 bif decide (IntKind.i64.wrap (a2 - (a1.length : Int)) < 0) then R (-1)
 else (l0 a1 (fun y7 =>
 R y7) R fuel (IntKind.i64.wrap (a2 - (a1.length : Int))) 0)
theorem gx : ∃ x : List (List Cl) → Int → (Int → Option Res) → Option Res, x = b := ⟨_, rfl⟩
noncomputable def g : List (List Cl) → Int → (Int → Option Res) → Option Res := Classical.choose gx
theorem e : g = b := Classical.choose_spec gx
noncomputable def run : List Lf → (Res → Option Res) → Option Res
 | [.q (.cells a1), .i a2], K => g a1 a2 (fun r1 => K (m r1))
 | _, _ => none
noncomputable def a (a1 : List (List Cl)) (a2 : Int) : St := argSt [one (.tr 0 1 [.int .i64, .int .i64, .int .i64, .int .i64, .int .i64, .ints .i64] (.cells a1)), one (.int .i64 a2)] [] []
noncomputable def con : FuncId × St × (List Lf → (Res → Option Res) → Option Res) := (7, a [] 0, run)
theorem cx (K : Res → Option Res) : CtxOk Go.Proofs.Try.prog Γ0 byt0 eqs0 (X K) os := ⟨rfl, rfl, rfl, (fun p hp => by
 rcases List.mem_cons.1 hp with rfl | hp
 ·exact laws_szInstr.ok
 cases hp), rfl, rfl, rfl⟩
theorem t0 (K : Res → Option Res) (k : St → Option Res) (it : St → (St → Option Res) → Option Res) (x3 : List (List Cl)) (x4 x5 : Int) : iterS (X K) 0 b0 it (s0 x3 x4 x5) k = l0s x3 (fun x4 x5 => it (s0 x3 x4 x5) k) (fun y1 => k (o0 x3 y1)) (fun r1 => K (m r1)) x4 x5 := by kernel_rfl
theorem i0 (K : Res → Option Res) (k : St → Option Res) (x3 : List (List Cl)) : ∀ (n : Nat) (x4 x5 : Int), iter (X K) 0 b0 n (s0 x3 x4 x5) k = l0 x3 (fun y1 => k (o0 x3 y1)) (fun r1 => K (m r1)) n x4 x5
 | 0, _, _ => rfl
 | n + 1, x4, x5 => by
  rw [iter_succ, t0, show (fun x4 x5 => iter (X K) 0 b0 n (s0 x3 x4 x5) k) = (fun x4 x5 => l0 x3 (fun y1 => k (o0 x3 y1)) (fun r1 => K (m r1)) n x4 x5) from funext fun x4 => funext fun x5 => i0 K k x3 n x4 x5]; rfl
theorem v0 {K : Res → Option Res} {l : List Lf} {k : St → Option Res} {r : Res} (h : p0 K l k = some r) : ∃ x3 x4 x5, l = [.q (.cells x3), .i x4, .i x5] ∧ l0 x3 (fun y1 => k (o0 x3 y1)) (fun r1 => K (m r1)) fuel x4 x5 = some r := by
 unfold p0 at h; split at h
 ·exact ⟨_, _, _, rfl, h⟩
 ·cases h
theorem w0 (K : Res → Option Res) : LpSound Go.Proofs.Try.prog (X K) 0 b0 := lp_ok ((cx K).ok laid) (by rw [show loopsOf b0 = [] from by kernel_rfl]; intro p hp; cases hp) rfl fun p hp hid => by
 rcases List.mem_cons.1 hp with rfl | hp
 ·intro st k r h1 h2; obtain ⟨x3, x4, x5, e, h⟩ := v0 (K := K) h2; have := St.like_eq (y := s0 x3 x4 x5) h1 (by kernel_rfl) e; subst this; exact ⟨fuel, (i0 K k x3 fuel x4 x5).trans h⟩
 cases hp
theorem tie (K : Res → Option Res) (a1 : List (List Cl)) (a2 : Int) : exec (X K) c (entry 27 [one (.tr 0 1 [.int .i64, .int .i64, .int .i64, .int .i64, .int .i64, .ints .i64] (.cells a1)), one (.int .i64 a2)] [] []) (endK (X K)) = g a1 a2 (fun r1 => K (m r1)) := Eq.trans (b := b a1 a2 (fun r1 => K (m r1))) (by kernel_rfl) (by rw [e])
theorem runv {l : List Lf} {K : Res → Option Res} {r : Res} (h : run l K = some r) : ∃ a1 a2, l = [.q (.cells a1), .i a2] ∧ g a1 a2 (fun r1 => K (m r1)) = some r := by
 unfold run at h; split at h
 ·exact ⟨_, _, rfl, h⟩
 ·cases h
theorem ok : Con Go.Proofs.Try.prog con := con_of (fn := Go.Proofs.Try.f7) (c := c) (Fi := fi) (X := X) (fun_of laid (by kernel_rfl) (by kernel_rfl) (by kernel_rfl) rfl (by kernel_rfl) (by kernel_rfl) cx (fun _ => rfl) (fun _ => rfl) (fun K => by
 rw [show loopsOf c = [(0, b0)] from by kernel_rfl]; intro p hp
 rcases List.mem_cons.1 hp with rfl | hp
 ·exact w0 K
 cases hp)) fun xs rows boxes K r hl hr => by
 obtain ⟨a1, a2, e, h⟩ := runv hr
 have := St.like_eq (y := a a1 a2) hl (by kernel_rfl) e
 obtain ⟨rfl, rfl, rfl⟩ := argSt_inj this
 exact (tie K a1 a2).trans h
end laws_szInstrS
namespace laws_toFun
noncomputable def c : Code := bodyOf Go.Proofs.Try.f58
noncomputable def fi : Fin := ⟨Γ0, [(.cell 2 40, 40)], [[1, 1, 1]], [], [], []⟩
noncomputable def m (a1 a2 a3 : Int) : Res := ⟨[⟨true, [.int .i64 a1, .int .i64 a2, .int .i64 a3]⟩], [], [], [], []⟩
noncomputable def os : List (FuncId × St × (List Lf → (Res → Option Res) → Option Res)) := []
noncomputable def X (K : Res → Option Res) : Ctx := { Γ := Γ0, orc := orcOf os, io := [], share := [], opn := [], shr := [], bun := [], cut := [], own := [], cin := [], cout := [], lp := lpOf [], kl := Env.kl, nk := true, eqs := eqs0, byt := byt0, fin := finK fi K }
noncomputable def b (a1 a2 a3 : Int) (R : Option Res) : Option Res :=
 R
theorem gx : ∃ x : Int → Int → Int → (Option Res) → Option Res, x = b := ⟨_, rfl⟩
noncomputable def g : Int → Int → Int → (Option Res) → Option Res := Classical.choose gx
theorem e : g = b := Classical.choose_spec gx
noncomputable def run : List Lf → (Res → Option Res) → Option Res
 | [.i a1, .i a2, .i a3], K => g a1 a2 a3 (K (m a1 a2 a3))
 | _, _ => none
noncomputable def a (a1 a2 a3 : Int) : St := argSt [.v ⟨true, [.int .i64 a1, .int .i64 a2, .int .i64 a3]⟩] [] []
noncomputable def con : FuncId × St × (List Lf → (Res → Option Res) → Option Res) := (58, a 0 0 0, run)
theorem cx (K : Res → Option Res) : CtxOk Go.Proofs.Try.prog Γ0 byt0 eqs0 (X K) os := ⟨rfl, rfl, rfl, (fun p hp => by
 cases hp), rfl, rfl, rfl⟩
theorem tie (K : Res → Option Res) (a1 a2 a3 : Int) : exec (X K) c (entry 14 [.v ⟨true, [.int .i64 a1, .int .i64 a2, .int .i64 a3]⟩] [] []) (endK (X K)) = g a1 a2 a3 (K (m a1 a2 a3)) := Eq.trans (b := b a1 a2 a3 (K (m a1 a2 a3))) (by kernel_rfl) (by rw [e])
theorem runv {l : List Lf} {K : Res → Option Res} {r : Res} (h : run l K = some r) : ∃ a1 a2 a3, l = [.i a1, .i a2, .i a3] ∧ g a1 a2 a3 (K (m a1 a2 a3)) = some r := by
 unfold run at h; split at h
 ·exact ⟨_, _, _, rfl, h⟩
 ·cases h
theorem ok : Con Go.Proofs.Try.prog con := con_of (fn := Go.Proofs.Try.f58) (c := c) (Fi := fi) (X := X) (fun_of laid (by kernel_rfl) (by kernel_rfl) (by kernel_rfl) rfl (by kernel_rfl) (by kernel_rfl) cx (fun _ => rfl) (fun _ => rfl) (fun K => by
 rw [show loopsOf c = [] from by kernel_rfl]; intro p hp
 cases hp)) fun xs rows boxes K r hl hr => by
 obtain ⟨a1, a2, a3, e, h⟩ := runv hr
 have := St.like_eq (y := a a1 a2 a3) hl (by kernel_rfl) e
 obtain ⟨rfl, rfl, rfl⟩ := argSt_inj this
 exact (tie K a1 a2 a3).trans h
end laws_toFun
namespace laws_toIntS
noncomputable def c : Code := bodyOf Go.Proofs.Try.f59
noncomputable def fi : Fin := ⟨Γ0, [(.tmp 2, 41)], [[1]], [], [], []⟩
noncomputable def m (r1 : List Int) : Res := ⟨[⟨false, [.ow 1000]⟩], [], [⟨[.int .i64], .ints r1, true, 0, none⟩], [], []⟩
noncomputable def b0 : Code := codeAt c [1, 1, 0, 1, 0, 0]
noncomputable def s0 (x2 : List Int) (x3 : Int) (x4 : List Int) : St := ⟨mkT 22 [(0, one (.tr 0 1 [.int .i64] (.ints x2))), (3, one (.ow 3080)), (4, one (.int .i64 x3))], [(3080, ⟨[.int .i64], .ints x4, true, 0, none⟩)], []⟩
noncomputable def l0s (x2 : List Int) (rec : Int → List Int → Option Res) (k : List Int → Option Res) (x3 : Int) (x4 : List Int) : Option Res :=
 bif decide (x3 < (x2.length : Int)) then (bif decide (0 ≤ x3) && decide (x3 < (x2.length : Int)) then (bif decide (0 ≤ x3) && decide (x3 < (x4.length : Int)) then rec (IntKind.i64.wrap (x3 + 1)) (x4.set x3.toNat (x2.getD x3.toNat 0))
  else none)
  else none)
 else k x4
noncomputable def l0 (x2 : List Int) (k : List Int → Option Res) : Nat → Int → List Int → Option Res
 | 0, _, _ => none
 | n + 1, x3, x4 => l0s x2 (fun x3 x4 => l0 x2 k n x3 x4) k x3 x4
noncomputable def o0 (x2 y1 : List Int) : St := ⟨mkT 22 [(3, one (.ow 3080))], [(3080, ⟨[.int .i64], .ints y1, true, 0, none⟩)], []⟩
noncomputable def p0 (K : Res → Option Res) : List Lf → (St → Option Res) → Option Res
 | [.q (.ints x2), .i x3, .q (.ints x4)], k => l0 x2 (fun y1 => k (o0 x2 y1)) fuel x3 x4
 | _, _ => none
noncomputable def os : List (FuncId × St × (List Lf → (Res → Option Res) → Option Res)) := []
noncomputable def X (K : Res → Option Res) : Ctx := { Γ := Γ0, orc := orcOf os, io := [], share := [], opn := [], shr := [], bun := [], cut := [], own := [], cin := [(0, ⟨[0, 3, 4], [(3080, 3080)], [], [], [], []⟩)], cout := [(0, ⟨[3], [(3080, 3080)], [], [], [], []⟩)], lp := lpOf [(0, s0 [] 0 [], p0 K)], kl := Env.kl, nk := true, eqs := eqs0, byt := byt0, fin := finK fi K }
noncomputable def b (a1 : List Int) (R : List Int → Option Res) : Option Res :=
 bif decide ((a1.length : Int) = (a1.length : Int)) && decide (0 ≤ (a1.length : Int)) && decide ((a1.length : Int) * 8 ≤ 140737488355328) then (l0 a1 (fun y5 =>
  R y5) fuel 0 (List.replicate ((a1.length : Int).toNat) 0))
 else none
theorem gx : ∃ x : List Int → (List Int → Option Res) → Option Res, x = b := ⟨_, rfl⟩
noncomputable def g : List Int → (List Int → Option Res) → Option Res := Classical.choose gx
theorem e : g = b := Classical.choose_spec gx
noncomputable def run : List Lf → (Res → Option Res) → Option Res
 | [.q (.ints a1)], K => g a1 (fun r1 => K (m r1))
 | _, _ => none
noncomputable def a (a1 : List Int) : St := argSt [one (.tr 0 1 [.int .i64] (.ints a1))] [] []
noncomputable def con : FuncId × St × (List Lf → (Res → Option Res) → Option Res) := (59, a [], run)
theorem cx (K : Res → Option Res) : CtxOk Go.Proofs.Try.prog Γ0 byt0 eqs0 (X K) os := ⟨rfl, rfl, rfl, (fun p hp => by
 cases hp), rfl, rfl, rfl⟩
theorem t0 (K : Res → Option Res) (k : St → Option Res) (it : St → (St → Option Res) → Option Res) (x2 : List Int) (x3 : Int) (x4 : List Int) : iterS (X K) 0 b0 it (s0 x2 x3 x4) k = l0s x2 (fun x3 x4 => it (s0 x2 x3 x4) k) (fun y1 => k (o0 x2 y1)) x3 x4 := by kernel_rfl
theorem i0 (K : Res → Option Res) (k : St → Option Res) (x2 : List Int) : ∀ (n : Nat) (x3 : Int) (x4 : List Int), iter (X K) 0 b0 n (s0 x2 x3 x4) k = l0 x2 (fun y1 => k (o0 x2 y1)) n x3 x4
 | 0, _, _ => rfl
 | n + 1, x3, x4 => by
  rw [iter_succ, t0, show (fun x3 x4 => iter (X K) 0 b0 n (s0 x2 x3 x4) k) = (fun x3 x4 => l0 x2 (fun y1 => k (o0 x2 y1)) n x3 x4) from funext fun x3 => funext fun x4 => i0 K k x2 n x3 x4]; rfl
theorem v0 {K : Res → Option Res} {l : List Lf} {k : St → Option Res} {r : Res} (h : p0 K l k = some r) : ∃ x2 x3 x4, l = [.q (.ints x2), .i x3, .q (.ints x4)] ∧ l0 x2 (fun y1 => k (o0 x2 y1)) fuel x3 x4 = some r := by
 unfold p0 at h; split at h
 ·exact ⟨_, _, _, rfl, h⟩
 ·cases h
theorem w0 (K : Res → Option Res) : LpSound Go.Proofs.Try.prog (X K) 0 b0 := lp_ok ((cx K).ok laid) (by rw [show loopsOf b0 = [] from by kernel_rfl]; intro p hp; cases hp) rfl fun p hp hid => by
 rcases List.mem_cons.1 hp with rfl | hp
 ·intro st k r h1 h2; obtain ⟨x2, x3, x4, e, h⟩ := v0 (K := K) h2; have := St.like_eq (y := s0 x2 x3 x4) h1 (by kernel_rfl) e; subst this; exact ⟨fuel, (i0 K k x2 fuel x3 x4).trans h⟩
 cases hp
theorem tie (K : Res → Option Res) (a1 : List Int) : exec (X K) c (entry 22 [one (.tr 0 1 [.int .i64] (.ints a1))] [] []) (endK (X K)) = g a1 (fun r1 => K (m r1)) := Eq.trans (b := b a1 (fun r1 => K (m r1))) (by kernel_rfl) (by rw [e])
theorem runv {l : List Lf} {K : Res → Option Res} {r : Res} (h : run l K = some r) : ∃ a1, l = [.q (.ints a1)] ∧ g a1 (fun r1 => K (m r1)) = some r := by
 unfold run at h; split at h
 ·exact ⟨_, rfl, h⟩
 ·cases h
theorem ok : Con Go.Proofs.Try.prog con := con_of (fn := Go.Proofs.Try.f59) (c := c) (Fi := fi) (X := X) (fun_of laid (by kernel_rfl) (by kernel_rfl) (by kernel_rfl) rfl (by kernel_rfl) (by kernel_rfl) cx (fun _ => rfl) (fun _ => rfl) (fun K => by
 rw [show loopsOf c = [(0, b0)] from by kernel_rfl]; intro p hp
 rcases List.mem_cons.1 hp with rfl | hp
 ·exact w0 K
 cases hp)) fun xs rows boxes K r hl hr => by
 obtain ⟨a1, e, h⟩ := runv hr
 have := St.like_eq (y := a a1) hl (by kernel_rfl) e
 obtain ⟨rfl, rfl, rfl⟩ := argSt_inj this
 exact (tie K a1).trans h
end laws_toIntS
namespace laws_toInstr
noncomputable def c : Code := bodyOf Go.Proofs.Try.f30
noncomputable def fi : Fin := ⟨Γ0, [(.cell 2 43, 43)], [[1, 1, 1, 1, 1, 1]], [], [], []⟩
noncomputable def m (a1 a2 a3 a4 a5 : Int) (r6 : List Int) : Res := ⟨[⟨true, [.int .i64 a1, .int .i64 a2, .int .i64 a3, .int .i64 a4, .int .i64 a5, .ow 1000]⟩], [], [⟨[.int .i64], .ints r6, true, 0, none⟩], [], []⟩
noncomputable def os : List (FuncId × St × (List Lf → (Res → Option Res) → Option Res)) := [laws_toFun.con, laws_toIntS.con]
noncomputable def X (K : Res → Option Res) : Ctx := { Γ := Γ0, orc := orcOf os, io := [], share := [], opn := [], shr := [], bun := [], cut := [], own := [], cin := [], cout := [], lp := lpOf [], kl := Env.kl, nk := true, eqs := eqs0, byt := byt0, fin := finK fi K }
noncomputable def b (a1 a2 a3 a4 a5 : Int) (a6 : List Int) (R : List Int → Option Res) : Option Res :=
 laws_toFun.g a3 a4 a5 (
 laws_toIntS.g a6 fun r7 =>
 R r7)
theorem gx : ∃ x : Int → Int → Int → Int → Int → List Int → (List Int → Option Res) → Option Res, x = b := ⟨_, rfl⟩
noncomputable def g : Int → Int → Int → Int → Int → List Int → (List Int → Option Res) → Option Res := Classical.choose gx
theorem e : g = b := Classical.choose_spec gx
noncomputable def run : List Lf → (Res → Option Res) → Option Res
 | [.i a1, .i a2, .i a3, .i a4, .i a5, .q (.ints a6)], K => g a1 a2 a3 a4 a5 a6 (fun r6 => K (m a1 a2 a3 a4 a5 r6))
 | _, _ => none
noncomputable def a (a1 a2 a3 a4 a5 : Int) (a6 : List Int) : St := argSt [.v ⟨true, [.int .i64 a1, .int .i64 a2, .int .i64 a3, .int .i64 a4, .int .i64 a5, .tr 0 1 [.int .i64] (.ints a6)]⟩] [] []
noncomputable def con : FuncId × St × (List Lf → (Res → Option Res) → Option Res) := (30, a 0 0 0 0 0 [], run)
theorem cx (K : Res → Option Res) : CtxOk Go.Proofs.Try.prog Γ0 byt0 eqs0 (X K) os := ⟨rfl, rfl, rfl, (fun p hp => by
 rcases List.mem_cons.1 hp with rfl | hp
 ·exact laws_toFun.ok
 rcases List.mem_cons.1 hp with rfl | hp
 ·exact laws_toIntS.ok
 cases hp), rfl, rfl, rfl⟩
theorem tie (K : Res → Option Res) (a1 a2 a3 a4 a5 : Int) (a6 : List Int) : exec (X K) c (entry 19 [.v ⟨true, [.int .i64 a1, .int .i64 a2, .int .i64 a3, .int .i64 a4, .int .i64 a5, .tr 0 1 [.int .i64] (.ints a6)]⟩] [] []) (endK (X K)) = g a1 a2 a3 a4 a5 a6 (fun r6 => K (m a1 a2 a3 a4 a5 r6)) := Eq.trans (b := b a1 a2 a3 a4 a5 a6 (fun r6 => K (m a1 a2 a3 a4 a5 r6))) (by kernel_rfl) (by rw [e])
theorem runv {l : List Lf} {K : Res → Option Res} {r : Res} (h : run l K = some r) : ∃ a1 a2 a3 a4 a5 a6, l = [.i a1, .i a2, .i a3, .i a4, .i a5, .q (.ints a6)] ∧ g a1 a2 a3 a4 a5 a6 (fun r6 => K (m a1 a2 a3 a4 a5 r6)) = some r := by
 unfold run at h; split at h
 ·exact ⟨_, _, _, _, _, _, rfl, h⟩
 ·cases h
theorem ok : Con Go.Proofs.Try.prog con := con_of (fn := Go.Proofs.Try.f30) (c := c) (Fi := fi) (X := X) (fun_of laid (by kernel_rfl) (by kernel_rfl) (by kernel_rfl) rfl (by kernel_rfl) (by kernel_rfl) cx (fun _ => rfl) (fun _ => rfl) (fun K => by
 rw [show loopsOf c = [] from by kernel_rfl]; intro p hp
 cases hp)) fun xs rows boxes K r hl hr => by
 obtain ⟨a1, a2, a3, a4, a5, a6, e, h⟩ := runv hr
 have := St.like_eq (y := a a1 a2 a3 a4 a5 a6) hl (by kernel_rfl) e
 obtain ⟨rfl, rfl, rfl⟩ := argSt_inj this
 exact (tie K a1 a2 a3 a4 a5 a6).trans h
end laws_toInstr
namespace laws_toInstrS
noncomputable def c : Code := bodyOf Go.Proofs.Try.f9
noncomputable def fi : Fin := ⟨Γ0, [(.tmp 2, 26)], [[1]], [], [], []⟩
noncomputable def m (r1 : List (List Cl)) : Res := ⟨[⟨false, [.ow 1000]⟩], [], [⟨[.int .i64, .int .i64, .int .i64, .int .i64, .int .i64, .ints .i64], .cells r1, true, 0, none⟩], [], []⟩
noncomputable def b0 : Code := codeAt c [1, 1, 0, 1, 0, 0]
noncomputable def s0 (x2 : List (List Cl)) (x3 : Int) (x4 : List (List Cl)) : St := ⟨mkT 23 [(0, one (.tr 0 1 [.int .i64, .int .i64, .int .i64, .int .i64, .int .i64, .ints .i64] (.cells x2))), (3, one (.ow 3080)), (4, one (.int .i64 x3))], [(3080, ⟨[.int .i64, .int .i64, .int .i64, .int .i64, .int .i64, .ints .i64], .cells x4, true, 0, none⟩)], []⟩
noncomputable def l0s (x2 : List (List Cl)) (rec : Int → List (List Cl) → Option Res) (k : List (List Cl) → Option Res) (x3 : Int) (x4 : List (List Cl)) : Option Res :=
 bif decide (x3 < (x2.length : Int)) then (bif decide (0 ≤ x3) && decide (x3 < (x2.length : Int)) then (laws_toInstr.g (((x2.getD x3.toNat []).getD 0 (.i 0)).toI) (((x2.getD x3.toNat []).getD 1 (.i 0)).toI) (((x2.getD x3.toNat []).getD 2 (.i 0)).toI) (((x2.getD x3.toNat []).getD 3 (.i 0)).toI) (((x2.getD x3.toNat []).getD 4 (.i 0)).toI) (((x2.getD x3.toNat []).getD 5 (.i 0)).toL) fun r5 =>
  bif decide (0 ≤ x3) && decide (x3 < (x4.length : Int)) then rec (IntKind.i64.wrap (x3 + 1)) (x4.set x3.toNat [.i (((x2.getD x3.toNat []).getD 0 (.i 0)).toI), .i (((x2.getD x3.toNat []).getD 1 (.i 0)).toI), .i (((x2.getD x3.toNat []).getD 2 (.i 0)).toI), .i (((x2.getD x3.toNat []).getD 3 (.i 0)).toI), .i (((x2.getD x3.toNat []).getD 4 (.i 0)).toI), .l r5])
  else none)
  else none)
 else k x4
noncomputable def l0 (x2 : List (List Cl)) (k : List (List Cl) → Option Res) : Nat → Int → List (List Cl) → Option Res
 | 0, _, _ => none
 | n + 1, x3, x4 => l0s x2 (fun x3 x4 => l0 x2 k n x3 x4) k x3 x4
noncomputable def o0 (x2 y1 : List (List Cl)) : St := ⟨mkT 23 [(3, one (.ow 3080))], [(3080, ⟨[.int .i64, .int .i64, .int .i64, .int .i64, .int .i64, .ints .i64], .cells y1, true, 0, none⟩)], []⟩
noncomputable def p0 (K : Res → Option Res) : List Lf → (St → Option Res) → Option Res
 | [.q (.cells x2), .i x3, .q (.cells x4)], k => l0 x2 (fun y1 => k (o0 x2 y1)) fuel x3 x4
 | _, _ => none
noncomputable def os : List (FuncId × St × (List Lf → (Res → Option Res) → Option Res)) := [laws_toInstr.con]
noncomputable def X (K : Res → Option Res) : Ctx := { Γ := Γ0, orc := orcOf os, io := [], share := [], opn := [], shr := [], bun := [], cut := [], own := [], cin := [(0, ⟨[0, 3, 4], [(3080, 3080)], [], [], [], []⟩)], cout := [(0, ⟨[3], [(3080, 3080)], [], [], [], []⟩)], lp := lpOf [(0, s0 [] 0 [], p0 K)], kl := Env.kl, nk := true, eqs := eqs0, byt := byt0, fin := finK fi K }
noncomputable def b (a1 : List (List Cl)) (R : List (List Cl) → Option Res) : Option Res :=
 bif decide ((a1.length : Int) = (a1.length : Int)) && decide (0 ≤ (a1.length : Int)) && decide ((a1.length : Int) * 64 ≤ 140737488355328) then (l0 a1 (fun y6 =>
  R y6) fuel 0 (List.replicate ((a1.length : Int).toNat) [.i 0, .i 0, .i 0, .i 0, .i 0, .l []]))
 else none
theorem gx : ∃ x : List (List Cl) → (List (List Cl) → Option Res) → Option Res, x = b := ⟨_, rfl⟩
noncomputable def g : List (List Cl) → (List (List Cl) → Option Res) → Option Res := Classical.choose gx
theorem e : g = b := Classical.choose_spec gx
noncomputable def run : List Lf → (Res → Option Res) → Option Res
 | [.q (.cells a1)], K => g a1 (fun r1 => K (m r1))
 | _, _ => none
noncomputable def a (a1 : List (List Cl)) : St := argSt [one (.tr 0 1 [.int .i64, .int .i64, .int .i64, .int .i64, .int .i64, .ints .i64] (.cells a1))] [] []
noncomputable def con : FuncId × St × (List Lf → (Res → Option Res) → Option Res) := (9, a [], run)
theorem cx (K : Res → Option Res) : CtxOk Go.Proofs.Try.prog Γ0 byt0 eqs0 (X K) os := ⟨rfl, rfl, rfl, (fun p hp => by
 rcases List.mem_cons.1 hp with rfl | hp
 ·exact laws_toInstr.ok
 cases hp), rfl, rfl, rfl⟩
theorem t0 (K : Res → Option Res) (k : St → Option Res) (it : St → (St → Option Res) → Option Res) (x2 : List (List Cl)) (x3 : Int) (x4 : List (List Cl)) : iterS (X K) 0 b0 it (s0 x2 x3 x4) k = l0s x2 (fun x3 x4 => it (s0 x2 x3 x4) k) (fun y1 => k (o0 x2 y1)) x3 x4 := by kernel_rfl
theorem i0 (K : Res → Option Res) (k : St → Option Res) (x2 : List (List Cl)) : ∀ (n : Nat) (x3 : Int) (x4 : List (List Cl)), iter (X K) 0 b0 n (s0 x2 x3 x4) k = l0 x2 (fun y1 => k (o0 x2 y1)) n x3 x4
 | 0, _, _ => rfl
 | n + 1, x3, x4 => by
  rw [iter_succ, t0, show (fun x3 x4 => iter (X K) 0 b0 n (s0 x2 x3 x4) k) = (fun x3 x4 => l0 x2 (fun y1 => k (o0 x2 y1)) n x3 x4) from funext fun x3 => funext fun x4 => i0 K k x2 n x3 x4]; rfl
theorem v0 {K : Res → Option Res} {l : List Lf} {k : St → Option Res} {r : Res} (h : p0 K l k = some r) : ∃ x2 x3 x4, l = [.q (.cells x2), .i x3, .q (.cells x4)] ∧ l0 x2 (fun y1 => k (o0 x2 y1)) fuel x3 x4 = some r := by
 unfold p0 at h; split at h
 ·exact ⟨_, _, _, rfl, h⟩
 ·cases h
theorem w0 (K : Res → Option Res) : LpSound Go.Proofs.Try.prog (X K) 0 b0 := lp_ok ((cx K).ok laid) (by rw [show loopsOf b0 = [] from by kernel_rfl]; intro p hp; cases hp) rfl fun p hp hid => by
 rcases List.mem_cons.1 hp with rfl | hp
 ·intro st k r h1 h2; obtain ⟨x2, x3, x4, e, h⟩ := v0 (K := K) h2; have := St.like_eq (y := s0 x2 x3 x4) h1 (by kernel_rfl) e; subst this; exact ⟨fuel, (i0 K k x2 fuel x3 x4).trans h⟩
 cases hp
theorem tie (K : Res → Option Res) (a1 : List (List Cl)) : exec (X K) c (entry 23 [one (.tr 0 1 [.int .i64, .int .i64, .int .i64, .int .i64, .int .i64, .ints .i64] (.cells a1))] [] []) (endK (X K)) = g a1 (fun r1 => K (m r1)) := Eq.trans (b := b a1 (fun r1 => K (m r1))) (by kernel_rfl) (by rw [e])
theorem runv {l : List Lf} {K : Res → Option Res} {r : Res} (h : run l K = some r) : ∃ a1, l = [.q (.cells a1)] ∧ g a1 (fun r1 => K (m r1)) = some r := by
 unfold run at h; split at h
 ·exact ⟨_, rfl, h⟩
 ·cases h
theorem ok : Con Go.Proofs.Try.prog con := con_of (fn := Go.Proofs.Try.f9) (c := c) (Fi := fi) (X := X) (fun_of laid (by kernel_rfl) (by kernel_rfl) (by kernel_rfl) rfl (by kernel_rfl) (by kernel_rfl) cx (fun _ => rfl) (fun _ => rfl) (fun K => by
 rw [show loopsOf c = [(0, b0)] from by kernel_rfl]; intro p hp
 rcases List.mem_cons.1 hp with rfl | hp
 ·exact w0 K
 cases hp)) fun xs rows boxes K r hl hr => by
 obtain ⟨a1, e, h⟩ := runv hr
 have := St.like_eq (y := a a1) hl (by kernel_rfl) e
 obtain ⟨rfl, rfl, rfl⟩ := argSt_inj this
 exact (tie K a1).trans h
end laws_toInstrS
namespace spec_l11Instr
noncomputable def c : Code := bodyOf Go.Proofs.Try.f43
noncomputable def fi : Fin := ⟨Γ0, [(.tmp 2, 4)], [[1]], [], [], []⟩
noncomputable def m (r1 : Bool) : Res := ⟨[⟨false, [.bool r1]⟩], [], [], [], []⟩
noncomputable def os : List (FuncId × St × (List Lf → (Res → Option Res) → Option Res)) := [spec_l9Nums.con, spec_l1In.con, spec_FunOne.con, spec_FunTwo.con]
noncomputable def X (K : Res → Option Res) : Ctx := { Γ := Γ0, orc := orcOf os, io := [], share := [], opn := [], shr := [], bun := [], cut := [], own := [], cin := [], cout := [], lp := lpOf [], kl := Env.kl, nk := true, eqs := eqs0, byt := byt0, fin := finK fi K }
noncomputable def b (a1 a2 a3 a4 a5 : Int) (a6 : List Int) (R : Bool → Option Res) : Option Res :=
 bif (a1 == 1) then (bif (a2 == 0) then (bif ((a3 == 0) && ((a4 == 0) && ((a5 == 0) && true))) then (spec_l9Nums.g a6 fun r7 =>
  R r7)
  else R false)
  else R false)
 else bif (a1 == 2) then (spec_l1In.g a2 0 25 fun r8 =>
  bif r8 then (bif ((a3 == 0) && ((a4 == 0) && ((a5 == 0) && true))) then R ((a6.length : Int) == 0)
   else R false)
  else R false)
 else bif (a1 == 3) then (spec_l1In.g a2 0 25 fun r9 =>
  bif r9 then (bif ((a3 == 0) && ((a4 == 0) && ((a5 == 0) && true))) then R ((a6.length : Int) == 0)
   else R false)
  else R false)
 else bif (a1 == 4) then (bif (a2 == 0) then (spec_FunOne.g a3 a4 a5 fun r10 =>
  bif r10 then R ((a6.length : Int) == 0)
  else R false)
  else R false)
 else bif (a1 == 5) then (bif (a2 == 0) then (spec_FunTwo.g a3 a4 a5 fun r11 =>
  bif r11 then R ((a6.length : Int) == 0)
  else R false)
  else R false)
 else R false
theorem gx : ∃ x : Int → Int → Int → Int → Int → List Int → (Bool → Option Res) → Option Res, x = b := ⟨_, rfl⟩
noncomputable def g : Int → Int → Int → Int → Int → List Int → (Bool → Option Res) → Option Res := Classical.choose gx
theorem e : g = b := Classical.choose_spec gx
noncomputable def run : List Lf → (Res → Option Res) → Option Res
 | [.i a1, .i a2, .i a3, .i a4, .i a5, .q (.ints a6)], K => g a1 a2 a3 a4 a5 a6 (fun r1 => K (m r1))
 | _, _ => none
noncomputable def a (a1 a2 a3 a4 a5 : Int) (a6 : List Int) : St := argSt [.v ⟨true, [.int .i64 a1, .int .i64 a2, .int .i64 a3, .int .i64 a4, .int .i64 a5, .tr 0 1 [.int .i64] (.ints a6)]⟩] [] []
noncomputable def con : FuncId × St × (List Lf → (Res → Option Res) → Option Res) := (43, a 0 0 0 0 0 [], run)
theorem cx (K : Res → Option Res) : CtxOk Go.Proofs.Try.prog Γ0 byt0 eqs0 (X K) os := ⟨rfl, rfl, rfl, (fun p hp => by
 rcases List.mem_cons.1 hp with rfl | hp
 ·exact spec_l9Nums.ok
 rcases List.mem_cons.1 hp with rfl | hp
 ·exact spec_l1In.ok
 rcases List.mem_cons.1 hp with rfl | hp
 ·exact spec_FunOne.ok
 rcases List.mem_cons.1 hp with rfl | hp
 ·exact spec_FunTwo.ok
 cases hp), rfl, rfl, rfl⟩
theorem tie (K : Res → Option Res) (a1 a2 a3 a4 a5 : Int) (a6 : List Int) : exec (X K) c (entry 73 [.v ⟨true, [.int .i64 a1, .int .i64 a2, .int .i64 a3, .int .i64 a4, .int .i64 a5, .tr 0 1 [.int .i64] (.ints a6)]⟩] [] []) (endK (X K)) = g a1 a2 a3 a4 a5 a6 (fun r1 => K (m r1)) := Eq.trans (b := b a1 a2 a3 a4 a5 a6 (fun r1 => K (m r1))) (by kernel_rfl) (by rw [e])
theorem runv {l : List Lf} {K : Res → Option Res} {r : Res} (h : run l K = some r) : ∃ a1 a2 a3 a4 a5 a6, l = [.i a1, .i a2, .i a3, .i a4, .i a5, .q (.ints a6)] ∧ g a1 a2 a3 a4 a5 a6 (fun r1 => K (m r1)) = some r := by
 unfold run at h; split at h
 ·exact ⟨_, _, _, _, _, _, rfl, h⟩
 ·cases h
theorem ok : Con Go.Proofs.Try.prog con := con_of (fn := Go.Proofs.Try.f43) (c := c) (Fi := fi) (X := X) (fun_of laid (by kernel_rfl) (by kernel_rfl) (by kernel_rfl) rfl (by kernel_rfl) (by kernel_rfl) cx (fun _ => rfl) (fun _ => rfl) (fun K => by
 rw [show loopsOf c = [] from by kernel_rfl]; intro p hp
 cases hp)) fun xs rows boxes K r hl hr => by
 obtain ⟨a1, a2, a3, a4, a5, a6, e, h⟩ := runv hr
 have := St.like_eq (y := a a1 a2 a3 a4 a5 a6) hl (by kernel_rfl) e
 obtain ⟨rfl, rfl, rfl⟩ := argSt_inj this
 exact (tie K a1 a2 a3 a4 a5 a6).trans h
end spec_l11Instr
namespace spec_l11Takes
noncomputable def c : Code := bodyOf Go.Proofs.Try.f57
noncomputable def fi : Fin := ⟨Γ0, [(.tmp 2, 3), (.tmp 3, 3)], [[1], [1]], [], [], []⟩
noncomputable def m (r1 r2 : Int) : Res := ⟨[⟨false, [.int .i64 r1]⟩, ⟨false, [.int .i64 r2]⟩], [], [], [], []⟩
noncomputable def os : List (FuncId × St × (List Lf → (Res → Option Res) → Option Res)) := []
noncomputable def X (K : Res → Option Res) : Ctx := { Γ := Γ0, orc := orcOf os, io := [], share := [], opn := [], shr := [], bun := [], cut := [], own := [], cin := [], cout := [], lp := lpOf [], kl := Env.kl, nk := true, eqs := eqs0, byt := byt0, fin := finK fi K }
noncomputable def b (a1 a2 a3 a4 a5 : Int) (a6 : List Int) (R : Int → Int → Option Res) : Option Res :=
 bif (a1 == 1) then R 0 1
 else bif (a1 == 2) then R 0 1
 else bif (a1 == 5) then R 2 (-1)
 else R 1 0
theorem gx : ∃ x : Int → Int → Int → Int → Int → List Int → (Int → Int → Option Res) → Option Res, x = b := ⟨_, rfl⟩
noncomputable def g : Int → Int → Int → Int → Int → List Int → (Int → Int → Option Res) → Option Res := Classical.choose gx
theorem e : g = b := Classical.choose_spec gx
noncomputable def run : List Lf → (Res → Option Res) → Option Res
 | [.i a1, .i a2, .i a3, .i a4, .i a5, .q (.ints a6)], K => g a1 a2 a3 a4 a5 a6 (fun r1 r2 => K (m r1 r2))
 | _, _ => none
noncomputable def a (a1 a2 a3 a4 a5 : Int) (a6 : List Int) : St := argSt [.v ⟨true, [.int .i64 a1, .int .i64 a2, .int .i64 a3, .int .i64 a4, .int .i64 a5, .tr 0 1 [.int .i64] (.ints a6)]⟩] [] []
noncomputable def con : FuncId × St × (List Lf → (Res → Option Res) → Option Res) := (57, a 0 0 0 0 0 [], run)
theorem cx (K : Res → Option Res) : CtxOk Go.Proofs.Try.prog Γ0 byt0 eqs0 (X K) os := ⟨rfl, rfl, rfl, (fun p hp => by
 cases hp), rfl, rfl, rfl⟩
theorem tie (K : Res → Option Res) (a1 a2 a3 a4 a5 : Int) (a6 : List Int) : exec (X K) c (entry 11 [.v ⟨true, [.int .i64 a1, .int .i64 a2, .int .i64 a3, .int .i64 a4, .int .i64 a5, .tr 0 1 [.int .i64] (.ints a6)]⟩] [] []) (endK (X K)) = g a1 a2 a3 a4 a5 a6 (fun r1 r2 => K (m r1 r2)) := Eq.trans (b := b a1 a2 a3 a4 a5 a6 (fun r1 r2 => K (m r1 r2))) (by kernel_rfl) (by rw [e])
theorem runv {l : List Lf} {K : Res → Option Res} {r : Res} (h : run l K = some r) : ∃ a1 a2 a3 a4 a5 a6, l = [.i a1, .i a2, .i a3, .i a4, .i a5, .q (.ints a6)] ∧ g a1 a2 a3 a4 a5 a6 (fun r1 r2 => K (m r1 r2)) = some r := by
 unfold run at h; split at h
 ·exact ⟨_, _, _, _, _, _, rfl, h⟩
 ·cases h
theorem ok : Con Go.Proofs.Try.prog con := con_of (fn := Go.Proofs.Try.f57) (c := c) (Fi := fi) (X := X) (fun_of laid (by kernel_rfl) (by kernel_rfl) (by kernel_rfl) rfl (by kernel_rfl) (by kernel_rfl) cx (fun _ => rfl) (fun _ => rfl) (fun K => by
 rw [show loopsOf c = [] from by kernel_rfl]; intro p hp
 cases hp)) fun xs rows boxes K r hl hr => by
 obtain ⟨a1, a2, a3, a4, a5, a6, e, h⟩ := runv hr
 have := St.like_eq (y := a a1 a2 a3 a4 a5 a6) hl (by kernel_rfl) e
 obtain ⟨rfl, rfl, rfl⟩ := argSt_inj this
 exact (tie K a1 a2 a3 a4 a5 a6).trans h
end spec_l11Takes
namespace spec_l11Depths
noncomputable def c : Code := bodyOf Go.Proofs.Try.f44
noncomputable def fi : Fin := ⟨Γ0, [(.tmp 2, 41), (.tmp 3, 4)], [[1], [1]], [], [], []⟩
noncomputable def m (r1 : List Int) (r2 : Bool) : Res := ⟨[⟨false, [.ow 1000]⟩, ⟨false, [.bool r2]⟩], [], [⟨[.int .i64], .ints r1, true, 0, none⟩], [], []⟩
noncomputable def b0 : Code := codeAt c [1, 1, 1, 0, 1, 0, 0]
noncomputable def s0 (x2 : List (List Cl)) (x3 x4 : Int) (x5 : List Int) : St := ⟨mkT 36 [(0, one (.tr 0 1 [.int .i64, .int .i64, .int .i64, .int .i64, .int .i64, .ints .i64] (.cells x2))), (4, one (.ow 3048)), (5, one (.int .i64 x3)), (6, one (.int .i64 x4))], [(3048, ⟨[.int .i64], .ints x5, true, 0, none⟩)], []⟩
noncomputable def l0s (x2 : List (List Cl)) (rec : Int → Int → List Int → Option Res) (k : List Int → Option Res) (R : List Int → Bool → Option Res) (x3 x4 : Int) (x5 : List Int) : Option Res :=
 bif decide (x4 < (x2.length : Int)) then (bif decide (0 ≤ x4) && decide (x4 < (x2.length : Int)) then (spec_l11Takes.g (((x2.getD x4.toNat []).getD 0 (.i 0)).toI) (((x2.getD x4.toNat []).getD 1 (.i 0)).toI) (((x2.getD x4.toNat []).getD 2 (.i 0)).toI) (((x2.getD x4.toNat []).getD 3 (.i 0)).toI) (((x2.getD x4.toNat []).getD 4 (.i 0)).toI) (((x2.getD x4.toNat []).getD 5 (.i 0)).toL) fun r6 r7 =>
  bif decide (x3 < r6) then R x5 false
  else bif decide ((x5.length + 1) * 8 ≤ 140737488355328) then rec (IntKind.i64.wrap (x3 + r7)) (IntKind.i64.wrap (x4 + 1)) (x5 ++ ([IntKind.i64.wrap (x3 + r7)] : List Int))
  else none)
  else none)
 else k x5
noncomputable def l0 (x2 : List (List Cl)) (k : List Int → Option Res) (R : List Int → Bool → Option Res) : Nat → Int → Int → List Int → Option Res
 | 0, _, _, _ => none
 | n + 1, x3, x4, x5 => l0s x2 (fun x3 x4 x5 => l0 x2 k R n x3 x4 x5) k R x3 x4 x5
noncomputable def o0 (x2 : List (List Cl)) (y1 : List Int) : St := ⟨mkT 36 [(4, one (.ow 3048))], [(3048, ⟨[.int .i64], .ints y1, true, 0, none⟩)], []⟩
noncomputable def p0 (K : Res → Option Res) : List Lf → (St → Option Res) → Option Res
 | [.q (.cells x2), .i x3, .i x4, .q (.ints x5)], k => l0 x2 (fun y1 => k (o0 x2 y1)) (fun r1 r2 => K (m r1 r2)) fuel x3 x4 x5
 | _, _ => none
noncomputable def os : List (FuncId × St × (List Lf → (Res → Option Res) → Option Res)) := [spec_l11Takes.con]
noncomputable def X (K : Res → Option Res) : Ctx := { Γ := Γ0, orc := orcOf os, io := [], share := [], opn := [], shr := [], bun := [], cut := [], own := [], cin := [(0, ⟨[0, 4, 5, 6], [(3048, 3048), (21528, 3048)], [], [], [], []⟩)], cout := [(0, ⟨[4], [(3048, 3048)], [], [], [], []⟩)], lp := lpOf [(0, s0 [] 0 0 [], p0 K)], kl := Env.kl, nk := true, eqs := eqs0, byt := byt0, fin := finK fi K }
noncomputable def b (a1 : List (List Cl)) (R : List Int → Bool → Option Res) : Option Res :=
 l0 a1 (fun y8 =>
 R y8 true) R fuel 0 0 ([0] : List Int)
theorem gx : ∃ x : List (List Cl) → (List Int → Bool → Option Res) → Option Res, x = b := ⟨_, rfl⟩
noncomputable def g : List (List Cl) → (List Int → Bool → Option Res) → Option Res := Classical.choose gx
theorem e : g = b := Classical.choose_spec gx
noncomputable def run : List Lf → (Res → Option Res) → Option Res
 | [.q (.cells a1)], K => g a1 (fun r1 r2 => K (m r1 r2))
 | _, _ => none
noncomputable def a (a1 : List (List Cl)) : St := argSt [one (.tr 0 1 [.int .i64, .int .i64, .int .i64, .int .i64, .int .i64, .ints .i64] (.cells a1))] [] []
noncomputable def con : FuncId × St × (List Lf → (Res → Option Res) → Option Res) := (44, a [], run)
theorem cx (K : Res → Option Res) : CtxOk Go.Proofs.Try.prog Γ0 byt0 eqs0 (X K) os := ⟨rfl, rfl, rfl, (fun p hp => by
 rcases List.mem_cons.1 hp with rfl | hp
 ·exact spec_l11Takes.ok
 cases hp), rfl, rfl, rfl⟩
theorem t0 (K : Res → Option Res) (k : St → Option Res) (it : St → (St → Option Res) → Option Res) (x2 : List (List Cl)) (x3 x4 : Int) (x5 : List Int) : iterS (X K) 0 b0 it (s0 x2 x3 x4 x5) k = l0s x2 (fun x3 x4 x5 => it (s0 x2 x3 x4 x5) k) (fun y1 => k (o0 x2 y1)) (fun r1 r2 => K (m r1 r2)) x3 x4 x5 := by kernel_rfl
theorem i0 (K : Res → Option Res) (k : St → Option Res) (x2 : List (List Cl)) : ∀ (n : Nat) (x3 x4 : Int) (x5 : List Int), iter (X K) 0 b0 n (s0 x2 x3 x4 x5) k = l0 x2 (fun y1 => k (o0 x2 y1)) (fun r1 r2 => K (m r1 r2)) n x3 x4 x5
 | 0, _, _, _ => rfl
 | n + 1, x3, x4, x5 => by
  rw [iter_succ, t0, show (fun x3 x4 x5 => iter (X K) 0 b0 n (s0 x2 x3 x4 x5) k) = (fun x3 x4 x5 => l0 x2 (fun y1 => k (o0 x2 y1)) (fun r1 r2 => K (m r1 r2)) n x3 x4 x5) from funext fun x3 => funext fun x4 => funext fun x5 => i0 K k x2 n x3 x4 x5]; rfl
theorem v0 {K : Res → Option Res} {l : List Lf} {k : St → Option Res} {r : Res} (h : p0 K l k = some r) : ∃ x2 x3 x4 x5, l = [.q (.cells x2), .i x3, .i x4, .q (.ints x5)] ∧ l0 x2 (fun y1 => k (o0 x2 y1)) (fun r1 r2 => K (m r1 r2)) fuel x3 x4 x5 = some r := by
 unfold p0 at h; split at h
 ·exact ⟨_, _, _, _, rfl, h⟩
 ·cases h
theorem w0 (K : Res → Option Res) : LpSound Go.Proofs.Try.prog (X K) 0 b0 := lp_ok ((cx K).ok laid) (by rw [show loopsOf b0 = [] from by kernel_rfl]; intro p hp; cases hp) rfl fun p hp hid => by
 rcases List.mem_cons.1 hp with rfl | hp
 ·intro st k r h1 h2; obtain ⟨x2, x3, x4, x5, e, h⟩ := v0 (K := K) h2; have := St.like_eq (y := s0 x2 x3 x4 x5) h1 (by kernel_rfl) e; subst this; exact ⟨fuel, (i0 K k x2 fuel x3 x4 x5).trans h⟩
 cases hp
theorem tie (K : Res → Option Res) (a1 : List (List Cl)) : exec (X K) c (entry 36 [one (.tr 0 1 [.int .i64, .int .i64, .int .i64, .int .i64, .int .i64, .ints .i64] (.cells a1))] [] []) (endK (X K)) = g a1 (fun r1 r2 => K (m r1 r2)) := Eq.trans (b := b a1 (fun r1 r2 => K (m r1 r2))) (by kernel_rfl) (by rw [e])
theorem runv {l : List Lf} {K : Res → Option Res} {r : Res} (h : run l K = some r) : ∃ a1, l = [.q (.cells a1)] ∧ g a1 (fun r1 r2 => K (m r1 r2)) = some r := by
 unfold run at h; split at h
 ·exact ⟨_, rfl, h⟩
 ·cases h
theorem ok : Con Go.Proofs.Try.prog con := con_of (fn := Go.Proofs.Try.f44) (c := c) (Fi := fi) (X := X) (fun_of laid (by kernel_rfl) (by kernel_rfl) (by kernel_rfl) rfl (by kernel_rfl) (by kernel_rfl) cx (fun _ => rfl) (fun _ => rfl) (fun K => by
 rw [show loopsOf c = [(0, b0)] from by kernel_rfl]; intro p hp
 rcases List.mem_cons.1 hp with rfl | hp
 ·exact w0 K
 cases hp)) fun xs rows boxes K r hl hr => by
 obtain ⟨a1, e, h⟩ := runv hr
 have := St.like_eq (y := a a1) hl (by kernel_rfl) e
 obtain ⟨rfl, rfl, rfl⟩ := argSt_inj this
 exact (tie K a1).trans h
end spec_l11Depths
namespace spec_CodeOk
noncomputable def c : Code := bodyOf Go.Proofs.Try.f19
noncomputable def fi : Fin := ⟨Γ0, [(.tmp 2, 4)], [[1]], [], [], []⟩
noncomputable def m (r1 : Bool) : Res := ⟨[⟨false, [.bool r1]⟩], [], [], [], []⟩
noncomputable def b0 : Code := codeAt c [1, 1, 0, 1, 0, 0]
noncomputable def s0 (x3 : List (List Cl)) (x4 : Int) : St := ⟨mkT 36 [(0, one (.tr 0 1 [.int .i64, .int .i64, .int .i64, .int .i64, .int .i64, .ints .i64] (.cells x3))), (3, one (.int .i64 x4))], [], []⟩
noncomputable def l0s (x3 : List (List Cl)) (rec : Int → Option Res) (k : Option Res) (R : Bool → Option Res) (x4 : Int) : Option Res :=
 bif decide (x4 < (x3.length : Int)) then (bif decide (0 ≤ x4) && decide (x4 < (x3.length : Int)) then (spec_l11Instr.g (((x3.getD x4.toNat []).getD 0 (.i 0)).toI) (((x3.getD x4.toNat []).getD 1 (.i 0)).toI) (((x3.getD x4.toNat []).getD 2 (.i 0)).toI) (((x3.getD x4.toNat []).getD 3 (.i 0)).toI) (((x3.getD x4.toNat []).getD 4 (.i 0)).toI) (((x3.getD x4.toNat []).getD 5 (.i 0)).toL) fun r5 =>
  bif !r5 then R false
  else rec (IntKind.i64.wrap (x4 + 1)))
  else none)
 else k
noncomputable def l0 (x3 : List (List Cl)) (k : Option Res) (R : Bool → Option Res) : Nat → Int → Option Res
 | 0, _ => none
 | n + 1, x4 => l0s x3 (fun x4 => l0 x3 k R n x4) k R x4
noncomputable def o0 (x3 : List (List Cl)) : St := ⟨mkT 36 [(0, one (.tr 0 1 [.int .i64, .int .i64, .int .i64, .int .i64, .int .i64, .ints .i64] (.cells x3)))], [], []⟩
noncomputable def p0 (K : Res → Option Res) : List Lf → (St → Option Res) → Option Res
 | [.q (.cells x3), .i x4], k => l0 x3 (k (o0 x3)) (fun r1 => K (m r1)) fuel x4
 | _, _ => none
noncomputable def os : List (FuncId × St × (List Lf → (Res → Option Res) → Option Res)) := [spec_l1In.con, spec_l11Instr.con, spec_l11Depths.con]
noncomputable def X (K : Res → Option Res) : Ctx := { Γ := Γ0, orc := orcOf os, io := [], share := [], opn := [], shr := [], bun := [], cut := [], own := [], cin := [(0, ⟨[0, 3], [], [], [], [], []⟩)], cout := [(0, ⟨[0], [], [], [], [], []⟩)], lp := lpOf [(0, s0 [] 0, p0 K)], kl := Env.kl, nk := true, eqs := eqs0, byt := byt0, fin := finK fi K }
noncomputable def b (a1 : List (List Cl)) (R : Bool → Option Res) : Option Res :=
 spec_l1In.g (a1.length : Int) 1 60 fun r2 =>
 bif !r2 then R false
 else (l0 a1 (
 spec_l11Depths.g a1 fun r6 r7 =>
 bif r7 then (bif decide (0 ≤ (a1.length : Int)) && decide ((a1.length : Int) < (r6.length : Int)) then R (r6.getD ((a1.length : Int).toNat) 0 == 1)
  else none)
 else R false) R fuel 0)
theorem gx : ∃ x : List (List Cl) → (Bool → Option Res) → Option Res, x = b := ⟨_, rfl⟩
noncomputable def g : List (List Cl) → (Bool → Option Res) → Option Res := Classical.choose gx
theorem e : g = b := Classical.choose_spec gx
noncomputable def run : List Lf → (Res → Option Res) → Option Res
 | [.q (.cells a1)], K => g a1 (fun r1 => K (m r1))
 | _, _ => none
noncomputable def a (a1 : List (List Cl)) : St := argSt [one (.tr 0 1 [.int .i64, .int .i64, .int .i64, .int .i64, .int .i64, .ints .i64] (.cells a1))] [] []
noncomputable def con : FuncId × St × (List Lf → (Res → Option Res) → Option Res) := (19, a [], run)
theorem cx (K : Res → Option Res) : CtxOk Go.Proofs.Try.prog Γ0 byt0 eqs0 (X K) os := ⟨rfl, rfl, rfl, (fun p hp => by
 rcases List.mem_cons.1 hp with rfl | hp
 ·exact spec_l1In.ok
 rcases List.mem_cons.1 hp with rfl | hp
 ·exact spec_l11Instr.ok
 rcases List.mem_cons.1 hp with rfl | hp
 ·exact spec_l11Depths.ok
 cases hp), rfl, rfl, rfl⟩
theorem t0 (K : Res → Option Res) (k : St → Option Res) (it : St → (St → Option Res) → Option Res) (x3 : List (List Cl)) (x4 : Int) : iterS (X K) 0 b0 it (s0 x3 x4) k = l0s x3 (fun x4 => it (s0 x3 x4) k) (k (o0 x3)) (fun r1 => K (m r1)) x4 := by kernel_rfl
theorem i0 (K : Res → Option Res) (k : St → Option Res) (x3 : List (List Cl)) : ∀ (n : Nat) (x4 : Int), iter (X K) 0 b0 n (s0 x3 x4) k = l0 x3 (k (o0 x3)) (fun r1 => K (m r1)) n x4
 | 0, _ => rfl
 | n + 1, x4 => by
  rw [iter_succ, t0, show (fun x4 => iter (X K) 0 b0 n (s0 x3 x4) k) = (fun x4 => l0 x3 (k (o0 x3)) (fun r1 => K (m r1)) n x4) from funext fun x4 => i0 K k x3 n x4]; rfl
theorem v0 {K : Res → Option Res} {l : List Lf} {k : St → Option Res} {r : Res} (h : p0 K l k = some r) : ∃ x3 x4, l = [.q (.cells x3), .i x4] ∧ l0 x3 (k (o0 x3)) (fun r1 => K (m r1)) fuel x4 = some r := by
 unfold p0 at h; split at h
 ·exact ⟨_, _, rfl, h⟩
 ·cases h
theorem w0 (K : Res → Option Res) : LpSound Go.Proofs.Try.prog (X K) 0 b0 := lp_ok ((cx K).ok laid) (by rw [show loopsOf b0 = [] from by kernel_rfl]; intro p hp; cases hp) rfl fun p hp hid => by
 rcases List.mem_cons.1 hp with rfl | hp
 ·intro st k r h1 h2; obtain ⟨x3, x4, e, h⟩ := v0 (K := K) h2; have := St.like_eq (y := s0 x3 x4) h1 (by kernel_rfl) e; subst this; exact ⟨fuel, (i0 K k x3 fuel x4).trans h⟩
 cases hp
theorem tie (K : Res → Option Res) (a1 : List (List Cl)) : exec (X K) c (entry 36 [one (.tr 0 1 [.int .i64, .int .i64, .int .i64, .int .i64, .int .i64, .ints .i64] (.cells a1))] [] []) (endK (X K)) = g a1 (fun r1 => K (m r1)) := Eq.trans (b := b a1 (fun r1 => K (m r1))) (by kernel_rfl) (by rw [e])
theorem runv {l : List Lf} {K : Res → Option Res} {r : Res} (h : run l K = some r) : ∃ a1, l = [.q (.cells a1)] ∧ g a1 (fun r1 => K (m r1)) = some r := by
 unfold run at h; split at h
 ·exact ⟨_, rfl, h⟩
 ·cases h
theorem ok : Con Go.Proofs.Try.prog con := con_of (fn := Go.Proofs.Try.f19) (c := c) (Fi := fi) (X := X) (fun_of laid (by kernel_rfl) (by kernel_rfl) (by kernel_rfl) rfl (by kernel_rfl) (by kernel_rfl) cx (fun _ => rfl) (fun _ => rfl) (fun K => by
 rw [show loopsOf c = [(0, b0)] from by kernel_rfl]; intro p hp
 rcases List.mem_cons.1 hp with rfl | hp
 ·exact w0 K
 cases hp)) fun xs rows boxes K r hl hr => by
 obtain ⟨a1, e, h⟩ := runv hr
 have := St.like_eq (y := a a1) hl (by kernel_rfl) e
 obtain ⟨rfl, rfl, rfl⟩ := argSt_inj this
 exact (tie K a1).trans h
end spec_CodeOk
namespace spec_l15Plain
noncomputable def c : Code := bodyOf Go.Proofs.Try.f56
noncomputable def fi : Fin := ⟨Γ0, [(.tmp 2, 4)], [[1]], [], [], []⟩
noncomputable def m (r1 : Bool) : Res := ⟨[⟨false, [.bool r1]⟩], [], [], [], []⟩
noncomputable def os : List (FuncId × St × (List Lf → (Res → Option Res) → Option Res)) := [spec_l1Sign1.con, spec_l1Sign2.con]
noncomputable def X (K : Res → Option Res) : Ctx := { Γ := Γ0, orc := orcOf os, io := [], share := [], opn := [], shr := [], bun := [], cut := [], own := [], cin := [], cout := [], lp := lpOf [], kl := Env.kl, nk := true, eqs := eqs0, byt := byt0, fin := finK fi K }
noncomputable def b (a1 a2 a3 a4 a5 : Int) (a6 : List Int) (R : Bool → Option Res) : Option Res :=
 bif (a1 == 1) then R true
 else bif (a1 == 2) then R true
 else bif (a1 == 4) then (bif (a4 == 0) then (spec_l1Sign1.g a3 fun r7 =>
  R r7)
  else R false)
 else bif (a1 == 5) then (bif (a4 == 0) then (spec_l1Sign2.g a3 fun r8 =>
  R r8)
  else R false)
 else R false
theorem gx : ∃ x : Int → Int → Int → Int → Int → List Int → (Bool → Option Res) → Option Res, x = b := ⟨_, rfl⟩
noncomputable def g : Int → Int → Int → Int → Int → List Int → (Bool → Option Res) → Option Res := Classical.choose gx
theorem e : g = b := Classical.choose_spec gx
noncomputable def run : List Lf → (Res → Option Res) → Option Res
 | [.i a1, .i a2, .i a3, .i a4, .i a5, .q (.ints a6)], K => g a1 a2 a3 a4 a5 a6 (fun r1 => K (m r1))
 | _, _ => none
noncomputable def a (a1 a2 a3 a4 a5 : Int) (a6 : List Int) : St := argSt [.v ⟨true, [.int .i64 a1, .int .i64 a2, .int .i64 a3, .int .i64 a4, .int .i64 a5, .tr 0 1 [.int .i64] (.ints a6)]⟩] [] []
noncomputable def con : FuncId × St × (List Lf → (Res → Option Res) → Option Res) := (56, a 0 0 0 0 0 [], run)
theorem cx (K : Res → Option Res) : CtxOk Go.Proofs.Try.prog Γ0 byt0 eqs0 (X K) os := ⟨rfl, rfl, rfl, (fun p hp => by
 rcases List.mem_cons.1 hp with rfl | hp
 ·exact spec_l1Sign1.ok
 rcases List.mem_cons.1 hp with rfl | hp
 ·exact spec_l1Sign2.ok
 cases hp), rfl, rfl, rfl⟩
theorem tie (K : Res → Option Res) (a1 a2 a3 a4 a5 : Int) (a6 : List Int) : exec (X K) c (entry 32 [.v ⟨true, [.int .i64 a1, .int .i64 a2, .int .i64 a3, .int .i64 a4, .int .i64 a5, .tr 0 1 [.int .i64] (.ints a6)]⟩] [] []) (endK (X K)) = g a1 a2 a3 a4 a5 a6 (fun r1 => K (m r1)) := Eq.trans (b := b a1 a2 a3 a4 a5 a6 (fun r1 => K (m r1))) (by kernel_rfl) (by rw [e])
theorem runv {l : List Lf} {K : Res → Option Res} {r : Res} (h : run l K = some r) : ∃ a1 a2 a3 a4 a5 a6, l = [.i a1, .i a2, .i a3, .i a4, .i a5, .q (.ints a6)] ∧ g a1 a2 a3 a4 a5 a6 (fun r1 => K (m r1)) = some r := by
 unfold run at h; split at h
 ·exact ⟨_, _, _, _, _, _, rfl, h⟩
 ·cases h
theorem ok : Con Go.Proofs.Try.prog con := con_of (fn := Go.Proofs.Try.f56) (c := c) (Fi := fi) (X := X) (fun_of laid (by kernel_rfl) (by kernel_rfl) (by kernel_rfl) rfl (by kernel_rfl) (by kernel_rfl) cx (fun _ => rfl) (fun _ => rfl) (fun K => by
 rw [show loopsOf c = [] from by kernel_rfl]; intro p hp
 cases hp)) fun xs rows boxes K r hl hr => by
 obtain ⟨a1, a2, a3, a4, a5, a6, e, h⟩ := runv hr
 have := St.like_eq (y := a a1 a2 a3 a4 a5 a6) hl (by kernel_rfl) e
 obtain ⟨rfl, rfl, rfl⟩ := argSt_inj this
 exact (tie K a1 a2 a3 a4 a5 a6).trans h
end spec_l15Plain
namespace spec_l15End
noncomputable def c : Code := bodyOf Go.Proofs.Try.f29
noncomputable def fi : Fin := ⟨Γ0, [(.tmp 4, 3)], [[1]], [], [], []⟩
noncomputable def m (r1 : Int) : Res := ⟨[⟨false, [.int .i64 r1]⟩], [], [], [], []⟩
noncomputable def b0 : Code := codeAt c [1, 1, 1, 1, 0, 1, 0, 0]
noncomputable def s0 (x3 : List (List Cl)) (x4 x5 : Int) (x6 : Bool) (x7 : Int) : St := ⟨mkT 53 [(0, one (.tr 0 1 [.int .i64, .int .i64, .int .i64, .int .i64, .int .i64, .ints .i64] (.cells x3))), (5, one (.int .i64 x4)), (6, one (.int .i64 x5)), (7, one (.bool x6)), (8, one (.int .i64 x7))], [], []⟩
noncomputable def l0s (x3 : List (List Cl)) (rec : Int → Int → Bool → Int → Option Res) (k : Int → Option Res) (R : Int → Option Res) (x4 x5 : Int) (x6 : Bool) (x7 : Int) : Option Res :=
 bif decide (x7 < (x3.length : Int)) then (bif decide (0 ≤ x7) && decide (x7 < (x3.length : Int)) then (spec_l15Plain.g (((x3.getD x7.toNat []).getD 0 (.i 0)).toI) (((x3.getD x7.toNat []).getD 1 (.i 0)).toI) (((x3.getD x7.toNat []).getD 2 (.i 0)).toI) (((x3.getD x7.toNat []).getD 3 (.i 0)).toI) (((x3.getD x7.toNat []).getD 4 (.i 0)).toI) (((x3.getD x7.toNat []).getD 5 (.i 0)).toL) fun r8 =>
  bif r8 then (bif decide (0 ≤ x7) && decide (x7 < (x3.length : Int)) then (spec_l11Takes.g (((x3.getD x7.toNat []).getD 0 (.i 0)).toI) (((x3.getD x7.toNat []).getD 1 (.i 0)).toI) (((x3.getD x7.toNat []).getD 2 (.i 0)).toI) (((x3.getD x7.toNat []).getD 3 (.i 0)).toI) (((x3.getD x7.toNat []).getD 4 (.i 0)).toI) (((x3.getD x7.toNat []).getD 5 (.i 0)).toL) fun r9 r10 =>
   bif decide (x5 < r9) then R x4
   else bif x6 then (bif (IntKind.i64.wrap (x5 + r10) == 1) then rec (IntKind.i64.wrap (x7 + 1)) (IntKind.i64.wrap (x5 + r10)) true (IntKind.i64.wrap (x7 + 1))
    else rec x4 (IntKind.i64.wrap (x5 + r10)) true (IntKind.i64.wrap (x7 + 1)))
   else bif (IntKind.i64.wrap (x5 + r10) == 1) then (bif decide (0 < r9) then rec (IntKind.i64.wrap (x7 + 1)) (IntKind.i64.wrap (x5 + r10)) (decide (0 < r9)) (IntKind.i64.wrap (x7 + 1))
    else rec x4 (IntKind.i64.wrap (x5 + r10)) (decide (0 < r9)) (IntKind.i64.wrap (x7 + 1)))
   else rec x4 (IntKind.i64.wrap (x5 + r10)) (decide (0 < r9)) (IntKind.i64.wrap (x7 + 1)))
   else none)
  else k x4)
  else none)
 else k x4
noncomputable def l0 (x3 : List (List Cl)) (k : Int → Option Res) (R : Int → Option Res) : Nat → Int → Int → Bool → Int → Option Res
 | 0, _, _, _, _ => none
 | n + 1, x4, x5, x6, x7 => l0s x3 (fun x4 x5 x6 x7 => l0 x3 k R n x4 x5 x6 x7) k R x4 x5 x6 x7
noncomputable def o0 (x3 : List (List Cl)) (y1 : Int) : St := ⟨mkT 53 [(5, one (.int .i64 y1))], [], []⟩
noncomputable def p0 (K : Res → Option Res) : List Lf → (St → Option Res) → Option Res
 | [.q (.cells x3), .i x4, .i x5, .b x6, .i x7], k => l0 x3 (fun y1 => k (o0 x3 y1)) (fun r1 => K (m r1)) fuel x4 x5 x6 x7
 | _, _ => none
noncomputable def os : List (FuncId × St × (List Lf → (Res → Option Res) → Option Res)) := [spec_l15Plain.con, spec_l11Takes.con]
noncomputable def X (K : Res → Option Res) : Ctx := { Γ := Γ0, orc := orcOf os, io := [], share := [], opn := [], shr := [], bun := [], cut := [], own := [], cin := [(0, ⟨[0, 5, 6, 7, 8], [], [], [], [], []⟩)], cout := [(0, ⟨[5], [], [], [], [], []⟩)], lp := lpOf [(0, s0 [] 0 0 false 0, p0 K)], kl := Env.kl, nk := true, eqs := eqs0, byt := byt0, fin := finK fi K }
noncomputable def b (a1 : List (List Cl)) (a2 : Int) (R : Int → Option Res) : Option Res :=
 l0 a1 (fun y11 =>
 R y11) R fuel 0 0 false a2
theorem gx : ∃ x : List (List Cl) → Int → (Int → Option Res) → Option Res, x = b := ⟨_, rfl⟩
noncomputable def g : List (List Cl) → Int → (Int → Option Res) → Option Res := Classical.choose gx
theorem e : g = b := Classical.choose_spec gx
noncomputable def run : List Lf → (Res → Option Res) → Option Res
 | [.q (.cells a1), .i a2], K => g a1 a2 (fun r1 => K (m r1))
 | _, _ => none
noncomputable def a (a1 : List (List Cl)) (a2 : Int) : St := argSt [one (.tr 0 1 [.int .i64, .int .i64, .int .i64, .int .i64, .int .i64, .ints .i64] (.cells a1)), one (.int .i64 a2)] [] []
noncomputable def con : FuncId × St × (List Lf → (Res → Option Res) → Option Res) := (29, a [] 0, run)
theorem cx (K : Res → Option Res) : CtxOk Go.Proofs.Try.prog Γ0 byt0 eqs0 (X K) os := ⟨rfl, rfl, rfl, (fun p hp => by
 rcases List.mem_cons.1 hp with rfl | hp
 ·exact spec_l15Plain.ok
 rcases List.mem_cons.1 hp with rfl | hp
 ·exact spec_l11Takes.ok
 cases hp), rfl, rfl, rfl⟩
theorem t0 (K : Res → Option Res) (k : St → Option Res) (it : St → (St → Option Res) → Option Res) (x3 : List (List Cl)) (x4 x5 : Int) (x6 : Bool) (x7 : Int) : iterS (X K) 0 b0 it (s0 x3 x4 x5 x6 x7) k = l0s x3 (fun x4 x5 x6 x7 => it (s0 x3 x4 x5 x6 x7) k) (fun y1 => k (o0 x3 y1)) (fun r1 => K (m r1)) x4 x5 x6 x7 := by kernel_rfl
theorem i0 (K : Res → Option Res) (k : St → Option Res) (x3 : List (List Cl)) : ∀ (n : Nat) (x4 x5 : Int) (x6 : Bool) (x7 : Int), iter (X K) 0 b0 n (s0 x3 x4 x5 x6 x7) k = l0 x3 (fun y1 => k (o0 x3 y1)) (fun r1 => K (m r1)) n x4 x5 x6 x7
 | 0, _, _, _, _ => rfl
 | n + 1, x4, x5, x6, x7 => by
  rw [iter_succ, t0, show (fun x4 x5 x6 x7 => iter (X K) 0 b0 n (s0 x3 x4 x5 x6 x7) k) = (fun x4 x5 x6 x7 => l0 x3 (fun y1 => k (o0 x3 y1)) (fun r1 => K (m r1)) n x4 x5 x6 x7) from funext fun x4 => funext fun x5 => funext fun x6 => funext fun x7 => i0 K k x3 n x4 x5 x6 x7]; rfl
theorem v0 {K : Res → Option Res} {l : List Lf} {k : St → Option Res} {r : Res} (h : p0 K l k = some r) : ∃ x3 x4 x5 x6 x7, l = [.q (.cells x3), .i x4, .i x5, .b x6, .i x7] ∧ l0 x3 (fun y1 => k (o0 x3 y1)) (fun r1 => K (m r1)) fuel x4 x5 x6 x7 = some r := by
 unfold p0 at h; split at h
 ·exact ⟨_, _, _, _, _, rfl, h⟩
 ·cases h
theorem w0 (K : Res → Option Res) : LpSound Go.Proofs.Try.prog (X K) 0 b0 := lp_ok ((cx K).ok laid) (by rw [show loopsOf b0 = [] from by kernel_rfl]; intro p hp; cases hp) rfl fun p hp hid => by
 rcases List.mem_cons.1 hp with rfl | hp
 ·intro st k r h1 h2; obtain ⟨x3, x4, x5, x6, x7, e, h⟩ := v0 (K := K) h2; have := St.like_eq (y := s0 x3 x4 x5 x6 x7) h1 (by kernel_rfl) e; subst this; exact ⟨fuel, (i0 K k x3 fuel x4 x5 x6 x7).trans h⟩
 cases hp
theorem tie (K : Res → Option Res) (a1 : List (List Cl)) (a2 : Int) : exec (X K) c (entry 53 [one (.tr 0 1 [.int .i64, .int .i64, .int .i64, .int .i64, .int .i64, .ints .i64] (.cells a1)), one (.int .i64 a2)] [] []) (endK (X K)) = g a1 a2 (fun r1 => K (m r1)) := Eq.trans (b := b a1 a2 (fun r1 => K (m r1))) (by kernel_rfl) (by rw [e])
theorem runv {l : List Lf} {K : Res → Option Res} {r : Res} (h : run l K = some r) : ∃ a1 a2, l = [.q (.cells a1), .i a2] ∧ g a1 a2 (fun r1 => K (m r1)) = some r := by
 unfold run at h; split at h
 ·exact ⟨_, _, rfl, h⟩
 ·cases h
theorem ok : Con Go.Proofs.Try.prog con := con_of (fn := Go.Proofs.Try.f29) (c := c) (Fi := fi) (X := X) (fun_of laid (by kernel_rfl) (by kernel_rfl) (by kernel_rfl) rfl (by kernel_rfl) (by kernel_rfl) cx (fun _ => rfl) (fun _ => rfl) (fun K => by
 rw [show loopsOf c = [(0, b0)] from by kernel_rfl]; intro p hp
 rcases List.mem_cons.1 hp with rfl | hp
 ·exact w0 K
 cases hp)) fun xs rows boxes K r hl hr => by
 obtain ⟨a1, a2, e, h⟩ := runv hr
 have := St.like_eq (y := a a1 a2) hl (by kernel_rfl) e
 obtain ⟨rfl, rfl, rfl⟩ := argSt_inj this
 exact (tie K a1 a2).trans h
end spec_l15End
namespace spec_Spans
noncomputable def c : Code := bodyOf Go.Proofs.Try.f8
noncomputable def fi : Fin := ⟨Γ0, [(.tmp 2, 24)], [[1]], [], [], []⟩
noncomputable def m (r1 : List (List Cl)) : Res := ⟨[⟨false, [.ow 1000]⟩], [], [⟨[.int .i64, .int .i64], .cells r1, true, 0, none⟩], [], []⟩
noncomputable def b0 : Code := codeAt c [1, 1, 1, 1, 0, 0, 0]
noncomputable def s0 (x3 : List (List Cl)) (x4 : Int) (x5 : List (List Cl)) : St := ⟨mkT 30 [(0, one (.tr 0 1 [.int .i64, .int .i64, .int .i64, .int .i64, .int .i64, .ints .i64] (.cells x3))), (3, one (.ow 3048)), (4, one (.int .i64 x4))], [(3048, ⟨[.int .i64, .int .i64], .cells x5, true, 0, none⟩)], []⟩
noncomputable def l0s (x3 : List (List Cl)) (rec : Int → List (List Cl) → Option Res) (k : List (List Cl) → Option Res) (x4 : Int) (x5 : List (List Cl)) : Option Res :=
 bif decide (x4 < (x3.length : Int)) then (spec_l15End.g x3 x4 fun r6 =>
  bif (r6 == 0) then rec (IntKind.i64.wrap (x4 + 1)) x5
  else bif decide ((x5.length + 1) * 16 ≤ 140737488355328) then rec r6 (x5 ++ ([[.i x4, .i r6]] : List (List Cl)))
  else none)
 else k x5
noncomputable def l0 (x3 : List (List Cl)) (k : List (List Cl) → Option Res) : Nat → Int → List (List Cl) → Option Res
 | 0, _, _ => none
 | n + 1, x4, x5 => l0s x3 (fun x4 x5 => l0 x3 k n x4 x5) k x4 x5
noncomputable def o0 (x3 y1 : List (List Cl)) : St := ⟨mkT 30 [(3, one (.ow 3048))], [(3048, ⟨[.int .i64, .int .i64], .cells y1, true, 0, none⟩)], []⟩
noncomputable def p0 (K : Res → Option Res) : List Lf → (St → Option Res) → Option Res
 | [.q (.cells x3), .i x4, .q (.cells x5)], k => l0 x3 (fun y1 => k (o0 x3 y1)) fuel x4 x5
 | _, _ => none
noncomputable def os : List (FuncId × St × (List Lf → (Res → Option Res) → Option Res)) := [spec_CodeOk.con, spec_l15End.con]
noncomputable def X (K : Res → Option Res) : Ctx := { Γ := Γ0, orc := orcOf os, io := [], share := [], opn := [], shr := [], bun := [], cut := [], own := [], cin := [(0, ⟨[0, 3, 4], [(3048, 3048), (19512, 3048)], [], [], [], []⟩)], cout := [(0, ⟨[3], [(3048, 3048)], [], [], [], []⟩)], lp := lpOf [(0, s0 [] 0 [], p0 K)], kl := Env.kl, nk := true, eqs := eqs0, byt := byt0, fin := finK fi K }
noncomputable def b (a1 : List (List Cl)) (R : List (List Cl) → Option Res) : Option Res :=
 spec_CodeOk.g a1 fun r2 =>
 bif !r2 then R ([] : List (List Cl))
 else (l0 a1 (fun y7 =>
 R y7) fuel 0 ([] : List (List Cl)))
theorem gx : ∃ x : List (List Cl) → (List (List Cl) → Option Res) → Option Res, x = b := ⟨_, rfl⟩
noncomputable def g : List (List Cl) → (List (List Cl) → Option Res) → Option Res := Classical.choose gx
theorem e : g = b := Classical.choose_spec gx
noncomputable def run : List Lf → (Res → Option Res) → Option Res
 | [.q (.cells a1)], K => g a1 (fun r1 => K (m r1))
 | _, _ => none
noncomputable def a (a1 : List (List Cl)) : St := argSt [one (.tr 0 1 [.int .i64, .int .i64, .int .i64, .int .i64, .int .i64, .ints .i64] (.cells a1))] [] []
noncomputable def con : FuncId × St × (List Lf → (Res → Option Res) → Option Res) := (8, a [], run)
theorem cx (K : Res → Option Res) : CtxOk Go.Proofs.Try.prog Γ0 byt0 eqs0 (X K) os := ⟨rfl, rfl, rfl, (fun p hp => by
 rcases List.mem_cons.1 hp with rfl | hp
 ·exact spec_CodeOk.ok
 rcases List.mem_cons.1 hp with rfl | hp
 ·exact spec_l15End.ok
 cases hp), rfl, rfl, rfl⟩
theorem t0 (K : Res → Option Res) (k : St → Option Res) (it : St → (St → Option Res) → Option Res) (x3 : List (List Cl)) (x4 : Int) (x5 : List (List Cl)) : iterS (X K) 0 b0 it (s0 x3 x4 x5) k = l0s x3 (fun x4 x5 => it (s0 x3 x4 x5) k) (fun y1 => k (o0 x3 y1)) x4 x5 := by kernel_rfl
theorem i0 (K : Res → Option Res) (k : St → Option Res) (x3 : List (List Cl)) : ∀ (n : Nat) (x4 : Int) (x5 : List (List Cl)), iter (X K) 0 b0 n (s0 x3 x4 x5) k = l0 x3 (fun y1 => k (o0 x3 y1)) n x4 x5
 | 0, _, _ => rfl
 | n + 1, x4, x5 => by
  rw [iter_succ, t0, show (fun x4 x5 => iter (X K) 0 b0 n (s0 x3 x4 x5) k) = (fun x4 x5 => l0 x3 (fun y1 => k (o0 x3 y1)) n x4 x5) from funext fun x4 => funext fun x5 => i0 K k x3 n x4 x5]; rfl
theorem v0 {K : Res → Option Res} {l : List Lf} {k : St → Option Res} {r : Res} (h : p0 K l k = some r) : ∃ x3 x4 x5, l = [.q (.cells x3), .i x4, .q (.cells x5)] ∧ l0 x3 (fun y1 => k (o0 x3 y1)) fuel x4 x5 = some r := by
 unfold p0 at h; split at h
 ·exact ⟨_, _, _, rfl, h⟩
 ·cases h
theorem w0 (K : Res → Option Res) : LpSound Go.Proofs.Try.prog (X K) 0 b0 := lp_ok ((cx K).ok laid) (by rw [show loopsOf b0 = [] from by kernel_rfl]; intro p hp; cases hp) rfl fun p hp hid => by
 rcases List.mem_cons.1 hp with rfl | hp
 ·intro st k r h1 h2; obtain ⟨x3, x4, x5, e, h⟩ := v0 (K := K) h2; have := St.like_eq (y := s0 x3 x4 x5) h1 (by kernel_rfl) e; subst this; exact ⟨fuel, (i0 K k x3 fuel x4 x5).trans h⟩
 cases hp
theorem tie (K : Res → Option Res) (a1 : List (List Cl)) : exec (X K) c (entry 30 [one (.tr 0 1 [.int .i64, .int .i64, .int .i64, .int .i64, .int .i64, .ints .i64] (.cells a1))] [] []) (endK (X K)) = g a1 (fun r1 => K (m r1)) := Eq.trans (b := b a1 (fun r1 => K (m r1))) (by kernel_rfl) (by rw [e])
theorem runv {l : List Lf} {K : Res → Option Res} {r : Res} (h : run l K = some r) : ∃ a1, l = [.q (.cells a1)] ∧ g a1 (fun r1 => K (m r1)) = some r := by
 unfold run at h; split at h
 ·exact ⟨_, rfl, h⟩
 ·cases h
theorem ok : Con Go.Proofs.Try.prog con := con_of (fn := Go.Proofs.Try.f8) (c := c) (Fi := fi) (X := X) (fun_of laid (by kernel_rfl) (by kernel_rfl) (by kernel_rfl) rfl (by kernel_rfl) (by kernel_rfl) cx (fun _ => rfl) (fun _ => rfl) (fun K => by
 rw [show loopsOf c = [(0, b0)] from by kernel_rfl]; intro p hp
 rcases List.mem_cons.1 hp with rfl | hp
 ·exact w0 K
 cases hp)) fun xs rows boxes K r hl hr => by
 obtain ⟨a1, e, h⟩ := runv hr
 have := St.like_eq (y := a a1) hl (by kernel_rfl) e
 obtain ⟨rfl, rfl, rfl⟩ := argSt_inj this
 exact (tie K a1).trans h
end spec_Spans
namespace impl_plainStep
noncomputable def c : Code := bodyOf Go.Proofs.Try.f60
noncomputable def fi : Fin := ⟨Γ0, [(.tmp 2, 4)], [[1]], [], [], []⟩
noncomputable def m (r1 : Bool) : Res := ⟨[⟨false, [.bool r1]⟩], [], [], [], []⟩
noncomputable def os : List (FuncId × St × (List Lf → (Res → Option Res) → Option Res)) := [impl_oneSign.con, impl_twoSign.con]
noncomputable def X (K : Res → Option Res) : Ctx := { Γ := Γ0, orc := orcOf os, io := [], share := [], opn := [], shr := [], bun := [], cut := [], own := [], cin := [], cout := [], lp := lpOf [], kl := Env.kl, nk := true, eqs := eqs0, byt := byt0, fin := finK fi K }
noncomputable def b (a1 a2 a3 a4 a5 : Int) (a6 : List Int) (R : Bool → Option Res) : Option Res :=
 bif (a1 == 1) then R true
 else bif (a1 == 2) then R true
 else bif (a1 == 4) then (bif (a4 == 0) then (impl_oneSign.g a3 fun r7 =>
  R r7)
  else R false)
 else bif (a1 == 5) then (bif (a4 == 0) then (impl_twoSign.g a3 fun r8 =>
  R r8)
  else R false)
 else R false
theorem gx : ∃ x : Int → Int → Int → Int → Int → List Int → (Bool → Option Res) → Option Res, x = b := ⟨_, rfl⟩
noncomputable def g : Int → Int → Int → Int → Int → List Int → (Bool → Option Res) → Option Res := Classical.choose gx
theorem e : g = b := Classical.choose_spec gx
noncomputable def run : List Lf → (Res → Option Res) → Option Res
 | [.i a1, .i a2, .i a3, .i a4, .i a5, .q (.ints a6)], K => g a1 a2 a3 a4 a5 a6 (fun r1 => K (m r1))
 | _, _ => none
noncomputable def a (a1 a2 a3 a4 a5 : Int) (a6 : List Int) : St := argSt [.v ⟨true, [.int .i64 a1, .int .i64 a2, .int .i64 a3, .int .i64 a4, .int .i64 a5, .tr 0 1 [.int .i64] (.ints a6)]⟩] [] []
noncomputable def con : FuncId × St × (List Lf → (Res → Option Res) → Option Res) := (60, a 0 0 0 0 0 [], run)
theorem cx (K : Res → Option Res) : CtxOk Go.Proofs.Try.prog Γ0 byt0 eqs0 (X K) os := ⟨rfl, rfl, rfl, (fun p hp => by
 rcases List.mem_cons.1 hp with rfl | hp
 ·exact impl_oneSign.ok
 rcases List.mem_cons.1 hp with rfl | hp
 ·exact impl_twoSign.ok
 cases hp), rfl, rfl, rfl⟩
theorem tie (K : Res → Option Res) (a1 a2 a3 a4 a5 : Int) (a6 : List Int) : exec (X K) c (entry 32 [.v ⟨true, [.int .i64 a1, .int .i64 a2, .int .i64 a3, .int .i64 a4, .int .i64 a5, .tr 0 1 [.int .i64] (.ints a6)]⟩] [] []) (endK (X K)) = g a1 a2 a3 a4 a5 a6 (fun r1 => K (m r1)) := Eq.trans (b := b a1 a2 a3 a4 a5 a6 (fun r1 => K (m r1))) (by kernel_rfl) (by rw [e])
theorem runv {l : List Lf} {K : Res → Option Res} {r : Res} (h : run l K = some r) : ∃ a1 a2 a3 a4 a5 a6, l = [.i a1, .i a2, .i a3, .i a4, .i a5, .q (.ints a6)] ∧ g a1 a2 a3 a4 a5 a6 (fun r1 => K (m r1)) = some r := by
 unfold run at h; split at h
 ·exact ⟨_, _, _, _, _, _, rfl, h⟩
 ·cases h
theorem ok : Con Go.Proofs.Try.prog con := con_of (fn := Go.Proofs.Try.f60) (c := c) (Fi := fi) (X := X) (fun_of laid (by kernel_rfl) (by kernel_rfl) (by kernel_rfl) rfl (by kernel_rfl) (by kernel_rfl) cx (fun _ => rfl) (fun _ => rfl) (fun K => by
 rw [show loopsOf c = [] from by kernel_rfl]; intro p hp
 cases hp)) fun xs rows boxes K r hl hr => by
 obtain ⟨a1, a2, a3, a4, a5, a6, e, h⟩ := runv hr
 have := St.like_eq (y := a a1 a2 a3 a4 a5 a6) hl (by kernel_rfl) e
 obtain ⟨rfl, rfl, rfl⟩ := argSt_inj this
 exact (tie K a1 a2 a3 a4 a5 a6).trans h
end impl_plainStep
namespace impl_spanAt
noncomputable def c : Code := bodyOf Go.Proofs.Try.f31
noncomputable def fi : Fin := ⟨Γ0, [(.tmp 4, 3)], [[1]], [], [], []⟩
noncomputable def m (r1 : Int) : Res := ⟨[⟨false, [.int .i64 r1]⟩], [], [], [], []⟩
noncomputable def b0 : Code := codeAt c [1, 1, 0, 1, 0, 0]
noncomputable def s0 (x3 : List (List Cl)) (x4 x5 : Int) (x6 : Bool) (x7 : Int) : St := ⟨mkT 58 [(0, one (.tr 0 1 [.int .i64, .int .i64, .int .i64, .int .i64, .int .i64, .ints .i64] (.cells x3))), (5, one (.int .i64 x4)), (6, one (.int .i64 x5)), (7, one (.bool x6)), (8, one (.int .i64 x7))], [], []⟩
noncomputable def l0s (x3 : List (List Cl)) (rec : Int → Int → Bool → Int → Option Res) (k : Int → Option Res) (x4 x5 : Int) (x6 : Bool) (x7 : Int) : Option Res :=
 bif decide (x7 < (x3.length : Int)) then (bif decide (0 ≤ x7) && decide (x7 < (x3.length : Int)) then (impl_plainStep.g (((x3.getD x7.toNat []).getD 0 (.i 0)).toI) (((x3.getD x7.toNat []).getD 1 (.i 0)).toI) (((x3.getD x7.toNat []).getD 2 (.i 0)).toI) (((x3.getD x7.toNat []).getD 3 (.i 0)).toI) (((x3.getD x7.toNat []).getD 4 (.i 0)).toI) (((x3.getD x7.toNat []).getD 5 (.i 0)).toL) fun r8 =>
  bif r8 then (bif decide (0 ≤ x7) && decide (x7 < (x3.length : Int)) then (impl_takes.g (((x3.getD x7.toNat []).getD 0 (.i 0)).toI) (((x3.getD x7.toNat []).getD 1 (.i 0)).toI) (((x3.getD x7.toNat []).getD 2 (.i 0)).toI) (((x3.getD x7.toNat []).getD 3 (.i 0)).toI) (((x3.getD x7.toNat []).getD 4 (.i 0)).toI) (((x3.getD x7.toNat []).getD 5 (.i 0)).toL) fun r9 =>
   bif decide (r9 ≤ x5) then (bif decide (0 ≤ x7) && decide (x7 < (x3.length : Int)) then (impl_takes.g (((x3.getD x7.toNat []).getD 0 (.i 0)).toI) (((x3.getD x7.toNat []).getD 1 (.i 0)).toI) (((x3.getD x7.toNat []).getD 2 (.i 0)).toI) (((x3.getD x7.toNat []).getD 3 (.i 0)).toI) (((x3.getD x7.toNat []).getD 4 (.i 0)).toI) (((x3.getD x7.toNat []).getD 5 (.i 0)).toL) fun r10 =>
    bif x6 then (bif (IntKind.i64.wrap (x5 + (IntKind.i64.wrap (1 - r10))) == 1) then rec (IntKind.i64.wrap (x7 + 1)) (IntKind.i64.wrap (x5 + (IntKind.i64.wrap (1 - r10)))) true (IntKind.i64.wrap (x7 + 1))
     else rec x4 (IntKind.i64.wrap (x5 + (IntKind.i64.wrap (1 - r10)))) true (IntKind.i64.wrap (x7 + 1)))
    else bif decide (0 ≤ x7) && decide (x7 < (x3.length : Int)) then (impl_takes.g (((x3.getD x7.toNat []).getD 0 (.i 0)).toI) (((x3.getD x7.toNat []).getD 1 (.i 0)).toI) (((x3.getD x7.toNat []).getD 2 (.i 0)).toI) (((x3.getD x7.toNat []).getD 3 (.i 0)).toI) (((x3.getD x7.toNat []).getD 4 (.i 0)).toI) (((x3.getD x7.toNat []).getD 5 (.i 0)).toL) fun r11 =>
     bif (IntKind.i64.wrap (x5 + (IntKind.i64.wrap (1 - r10))) == 1) then (bif decide (0 < r11) then rec (IntKind.i64.wrap (x7 + 1)) (IntKind.i64.wrap (x5 + (IntKind.i64.wrap (1 - r10)))) (decide (0 < r11)) (IntKind.i64.wrap (x7 + 1))
      else rec x4 (IntKind.i64.wrap (x5 + (IntKind.i64.wrap (1 - r10)))) (decide (0 < r11)) (IntKind.i64.wrap (x7 + 1)))
     else rec x4 (IntKind.i64.wrap (x5 + (IntKind.i64.wrap (1 - r10)))) (decide (0 < r11)) (IntKind.i64.wrap (x7 + 1)))
    else none)
    else none)
   else k x4)
   else none)
  else k x4)
  else none)
 else k x4
noncomputable def l0 (x3 : List (List Cl)) (k : Int → Option Res) : Nat → Int → Int → Bool → Int → Option Res
 | 0, _, _, _, _ => none
 | n + 1, x4, x5, x6, x7 => l0s x3 (fun x4 x5 x6 x7 => l0 x3 k n x4 x5 x6 x7) k x4 x5 x6 x7
noncomputable def o0 (x3 : List (List Cl)) (y1 : Int) : St := ⟨mkT 58 [(5, one (.int .i64 y1))], [], []⟩
noncomputable def p0 (K : Res → Option Res) : List Lf → (St → Option Res) → Option Res
 | [.q (.cells x3), .i x4, .i x5, .b x6, .i x7], k => l0 x3 (fun y1 => k (o0 x3 y1)) fuel x4 x5 x6 x7
 | _, _ => none
noncomputable def os : List (FuncId × St × (List Lf → (Res → Option Res) → Option Res)) := [impl_plainStep.con, impl_takes.con]
noncomputable def X (K : Res → Option Res) : Ctx := { Γ := Γ0, orc := orcOf os, io := [], share := [], opn := [], shr := [], bun := [], cut := [], own := [], cin := [(0, ⟨[0, 5, 6, 7, 8], [], [], [], [], []⟩)], cout := [(0, ⟨[5], [], [], [], [], []⟩)], lp := lpOf [(0, s0 [] 0 0 false 0, p0 K)], kl := Env.kl, nk := true, eqs := eqs0, byt := byt0, fin := finK fi K }
noncomputable def b (a1 : List (List Cl)) (a2 : Int) (R : Int → Option Res) : Option Res :=
 l0 a1 (fun y12 =>
 R y12) fuel a2 0 false a2
theorem gx : ∃ x : List (List Cl) → Int → (Int → Option Res) → Option Res, x = b := ⟨_, rfl⟩
noncomputable def g : List (List Cl) → Int → (Int → Option Res) → Option Res := Classical.choose gx
theorem e : g = b := Classical.choose_spec gx
noncomputable def run : List Lf → (Res → Option Res) → Option Res
 | [.q (.cells a1), .i a2], K => g a1 a2 (fun r1 => K (m r1))
 | _, _ => none
noncomputable def a (a1 : List (List Cl)) (a2 : Int) : St := argSt [one (.tr 0 1 [.int .i64, .int .i64, .int .i64, .int .i64, .int .i64, .ints .i64] (.cells a1)), one (.int .i64 a2)] [] []
noncomputable def con : FuncId × St × (List Lf → (Res → Option Res) → Option Res) := (31, a [] 0, run)
theorem cx (K : Res → Option Res) : CtxOk Go.Proofs.Try.prog Γ0 byt0 eqs0 (X K) os := ⟨rfl, rfl, rfl, (fun p hp => by
 rcases List.mem_cons.1 hp with rfl | hp
 ·exact impl_plainStep.ok
 rcases List.mem_cons.1 hp with rfl | hp
 ·exact impl_takes.ok
 cases hp), rfl, rfl, rfl⟩
theorem t0 (K : Res → Option Res) (k : St → Option Res) (it : St → (St → Option Res) → Option Res) (x3 : List (List Cl)) (x4 x5 : Int) (x6 : Bool) (x7 : Int) : iterS (X K) 0 b0 it (s0 x3 x4 x5 x6 x7) k = l0s x3 (fun x4 x5 x6 x7 => it (s0 x3 x4 x5 x6 x7) k) (fun y1 => k (o0 x3 y1)) x4 x5 x6 x7 := by kernel_rfl
theorem i0 (K : Res → Option Res) (k : St → Option Res) (x3 : List (List Cl)) : ∀ (n : Nat) (x4 x5 : Int) (x6 : Bool) (x7 : Int), iter (X K) 0 b0 n (s0 x3 x4 x5 x6 x7) k = l0 x3 (fun y1 => k (o0 x3 y1)) n x4 x5 x6 x7
 | 0, _, _, _, _ => rfl
 | n + 1, x4, x5, x6, x7 => by
  rw [iter_succ, t0, show (fun x4 x5 x6 x7 => iter (X K) 0 b0 n (s0 x3 x4 x5 x6 x7) k) = (fun x4 x5 x6 x7 => l0 x3 (fun y1 => k (o0 x3 y1)) n x4 x5 x6 x7) from funext fun x4 => funext fun x5 => funext fun x6 => funext fun x7 => i0 K k x3 n x4 x5 x6 x7]; rfl
theorem v0 {K : Res → Option Res} {l : List Lf} {k : St → Option Res} {r : Res} (h : p0 K l k = some r) : ∃ x3 x4 x5 x6 x7, l = [.q (.cells x3), .i x4, .i x5, .b x6, .i x7] ∧ l0 x3 (fun y1 => k (o0 x3 y1)) fuel x4 x5 x6 x7 = some r := by
 unfold p0 at h; split at h
 ·exact ⟨_, _, _, _, _, rfl, h⟩
 ·cases h
theorem w0 (K : Res → Option Res) : LpSound Go.Proofs.Try.prog (X K) 0 b0 := lp_ok ((cx K).ok laid) (by rw [show loopsOf b0 = [] from by kernel_rfl]; intro p hp; cases hp) rfl fun p hp hid => by
 rcases List.mem_cons.1 hp with rfl | hp
 ·intro st k r h1 h2; obtain ⟨x3, x4, x5, x6, x7, e, h⟩ := v0 (K := K) h2; have := St.like_eq (y := s0 x3 x4 x5 x6 x7) h1 (by kernel_rfl) e; subst this; exact ⟨fuel, (i0 K k x3 fuel x4 x5 x6 x7).trans h⟩
 cases hp
theorem tie (K : Res → Option Res) (a1 : List (List Cl)) (a2 : Int) : exec (X K) c (entry 58 [one (.tr 0 1 [.int .i64, .int .i64, .int .i64, .int .i64, .int .i64, .ints .i64] (.cells a1)), one (.int .i64 a2)] [] []) (endK (X K)) = g a1 a2 (fun r1 => K (m r1)) := Eq.trans (b := b a1 a2 (fun r1 => K (m r1))) (by kernel_rfl) (by rw [e])
theorem runv {l : List Lf} {K : Res → Option Res} {r : Res} (h : run l K = some r) : ∃ a1 a2, l = [.q (.cells a1), .i a2] ∧ g a1 a2 (fun r1 => K (m r1)) = some r := by
 unfold run at h; split at h
 ·exact ⟨_, _, rfl, h⟩
 ·cases h
theorem ok : Con Go.Proofs.Try.prog con := con_of (fn := Go.Proofs.Try.f31) (c := c) (Fi := fi) (X := X) (fun_of laid (by kernel_rfl) (by kernel_rfl) (by kernel_rfl) rfl (by kernel_rfl) (by kernel_rfl) cx (fun _ => rfl) (fun _ => rfl) (fun K => by
 rw [show loopsOf c = [(0, b0)] from by kernel_rfl]; intro p hp
 rcases List.mem_cons.1 hp with rfl | hp
 ·exact w0 K
 cases hp)) fun xs rows boxes K r hl hr => by
 obtain ⟨a1, a2, e, h⟩ := runv hr
 have := St.like_eq (y := a a1 a2) hl (by kernel_rfl) e
 obtain ⟨rfl, rfl, rfl⟩ := argSt_inj this
 exact (tie K a1 a2).trans h
end impl_spanAt
namespace impl_Spans
noncomputable def c : Code := bodyOf Go.Proofs.Try.f10
noncomputable def fi : Fin := ⟨Γ0, [(.tmp 2, 24)], [[1]], [], [], []⟩
noncomputable def m (r1 : List (List Cl)) : Res := ⟨[⟨false, [.ow 1000]⟩], [], [⟨[.int .i64, .int .i64], .cells r1, true, 0, none⟩], [], []⟩
noncomputable def b0 : Code := codeAt c [1, 1, 1, 0, 1, 0, 0]
noncomputable def s0 (x3 : List (List Cl)) (x4 : Int) (x5 : List (List Cl)) : St := ⟨mkT 29 [(0, one (.tr 0 1 [.int .i64, .int .i64, .int .i64, .int .i64, .int .i64, .ints .i64] (.cells x3))), (3, one (.ow 7152)), (4, one (.int .i64 x4))], [(7152, ⟨[.int .i64, .int .i64], .cells x5, true, 0, none⟩)], []⟩
noncomputable def l0s (x3 : List (List Cl)) (rec : Int → List (List Cl) → Option Res) (k : List (List Cl) → Option Res) (x4 : Int) (x5 : List (List Cl)) : Option Res :=
 bif decide (x4 < (x3.length : Int)) then (impl_spanAt.g x3 x4 fun r6 =>
  bif (r6 == x4) then rec (IntKind.i64.wrap (x4 + 1)) x5
  else bif decide ((x5.length + 1) * 16 ≤ 140737488355328) then rec r6 (x5 ++ ([[.i x4, .i r6]] : List (List Cl)))
  else none)
 else k x5
noncomputable def l0 (x3 : List (List Cl)) (k : List (List Cl) → Option Res) : Nat → Int → List (List Cl) → Option Res
 | 0, _, _ => none
 | n + 1, x4, x5 => l0s x3 (fun x4 x5 => l0 x3 k n x4 x5) k x4 x5
noncomputable def o0 (x3 y1 : List (List Cl)) : St := ⟨mkT 29 [(3, one (.ow 7152))], [(7152, ⟨[.int .i64, .int .i64], .cells y1, true, 0, none⟩)], []⟩
noncomputable def p0 (K : Res → Option Res) : List Lf → (St → Option Res) → Option Res
 | [.q (.cells x3), .i x4, .q (.cells x5)], k => l0 x3 (fun y1 => k (o0 x3 y1)) fuel x4 x5
 | _, _ => none
noncomputable def os : List (FuncId × St × (List Lf → (Res → Option Res) → Option Res)) := [impl_CodeOk.con, impl_spanAt.con]
noncomputable def X (K : Res → Option Res) : Ctx := { Γ := Γ0, orc := orcOf os, io := [], share := [], opn := [], shr := [], bun := [], cut := [], own := [(3, 0, 0, [.int .i64, .int .i64])], cin := [(0, ⟨[0, 3, 4], [(7152, 7152), (19512, 7152)], [], [], [], []⟩)], cout := [(0, ⟨[3], [(7152, 7152)], [], [], [], []⟩)], lp := lpOf [(0, s0 [] 0 [], p0 K)], kl := Env.kl, nk := true, eqs := eqs0, byt := byt0, fin := finK fi K }
noncomputable def b (a1 : List (List Cl)) (R : List (List Cl) → Option Res) : Option Res :=
 impl_CodeOk.g a1 fun r2 =>
 bif !r2 then R ([] : List (List Cl))
 else (l0 a1 (fun y7 =>
 R y7) fuel 0 ([] : List (List Cl)))
theorem gx : ∃ x : List (List Cl) → (List (List Cl) → Option Res) → Option Res, x = b := ⟨_, rfl⟩
noncomputable def g : List (List Cl) → (List (List Cl) → Option Res) → Option Res := Classical.choose gx
theorem e : g = b := Classical.choose_spec gx
noncomputable def run : List Lf → (Res → Option Res) → Option Res
 | [.q (.cells a1)], K => g a1 (fun r1 => K (m r1))
 | _, _ => none
noncomputable def a (a1 : List (List Cl)) : St := argSt [one (.tr 0 1 [.int .i64, .int .i64, .int .i64, .int .i64, .int .i64, .ints .i64] (.cells a1))] [] []
noncomputable def con : FuncId × St × (List Lf → (Res → Option Res) → Option Res) := (10, a [], run)
theorem cx (K : Res → Option Res) : CtxOk Go.Proofs.Try.prog Γ0 byt0 eqs0 (X K) os := ⟨rfl, rfl, rfl, (fun p hp => by
 rcases List.mem_cons.1 hp with rfl | hp
 ·exact impl_CodeOk.ok
 rcases List.mem_cons.1 hp with rfl | hp
 ·exact impl_spanAt.ok
 cases hp), rfl, rfl, rfl⟩
theorem t0 (K : Res → Option Res) (k : St → Option Res) (it : St → (St → Option Res) → Option Res) (x3 : List (List Cl)) (x4 : Int) (x5 : List (List Cl)) : iterS (X K) 0 b0 it (s0 x3 x4 x5) k = l0s x3 (fun x4 x5 => it (s0 x3 x4 x5) k) (fun y1 => k (o0 x3 y1)) x4 x5 := by kernel_rfl
theorem i0 (K : Res → Option Res) (k : St → Option Res) (x3 : List (List Cl)) : ∀ (n : Nat) (x4 : Int) (x5 : List (List Cl)), iter (X K) 0 b0 n (s0 x3 x4 x5) k = l0 x3 (fun y1 => k (o0 x3 y1)) n x4 x5
 | 0, _, _ => rfl
 | n + 1, x4, x5 => by
  rw [iter_succ, t0, show (fun x4 x5 => iter (X K) 0 b0 n (s0 x3 x4 x5) k) = (fun x4 x5 => l0 x3 (fun y1 => k (o0 x3 y1)) n x4 x5) from funext fun x4 => funext fun x5 => i0 K k x3 n x4 x5]; rfl
theorem v0 {K : Res → Option Res} {l : List Lf} {k : St → Option Res} {r : Res} (h : p0 K l k = some r) : ∃ x3 x4 x5, l = [.q (.cells x3), .i x4, .q (.cells x5)] ∧ l0 x3 (fun y1 => k (o0 x3 y1)) fuel x4 x5 = some r := by
 unfold p0 at h; split at h
 ·exact ⟨_, _, _, rfl, h⟩
 ·cases h
theorem w0 (K : Res → Option Res) : LpSound Go.Proofs.Try.prog (X K) 0 b0 := lp_ok ((cx K).ok laid) (by rw [show loopsOf b0 = [] from by kernel_rfl]; intro p hp; cases hp) rfl fun p hp hid => by
 rcases List.mem_cons.1 hp with rfl | hp
 ·intro st k r h1 h2; obtain ⟨x3, x4, x5, e, h⟩ := v0 (K := K) h2; have := St.like_eq (y := s0 x3 x4 x5) h1 (by kernel_rfl) e; subst this; exact ⟨fuel, (i0 K k x3 fuel x4 x5).trans h⟩
 cases hp
theorem tie (K : Res → Option Res) (a1 : List (List Cl)) : exec (X K) c (entry 29 [one (.tr 0 1 [.int .i64, .int .i64, .int .i64, .int .i64, .int .i64, .ints .i64] (.cells a1))] [] []) (endK (X K)) = g a1 (fun r1 => K (m r1)) := Eq.trans (b := b a1 (fun r1 => K (m r1))) (by kernel_rfl) (by rw [e])
theorem runv {l : List Lf} {K : Res → Option Res} {r : Res} (h : run l K = some r) : ∃ a1, l = [.q (.cells a1)] ∧ g a1 (fun r1 => K (m r1)) = some r := by
 unfold run at h; split at h
 ·exact ⟨_, rfl, h⟩
 ·cases h
theorem ok : Con Go.Proofs.Try.prog con := con_of (fn := Go.Proofs.Try.f10) (c := c) (Fi := fi) (X := X) (fun_of laid (by kernel_rfl) (by kernel_rfl) (by kernel_rfl) rfl (by kernel_rfl) (by kernel_rfl) cx (fun _ => rfl) (fun _ => rfl) (fun K => by
 rw [show loopsOf c = [(0, b0)] from by kernel_rfl]; intro p hp
 rcases List.mem_cons.1 hp with rfl | hp
 ·exact w0 K
 cases hp)) fun xs rows boxes K r hl hr => by
 obtain ⟨a1, e, h⟩ := runv hr
 have := St.like_eq (y := a a1) hl (by kernel_rfl) e
 obtain ⟨rfl, rfl, rfl⟩ := argSt_inj this
 exact (tie K a1).trans h
end impl_Spans
namespace laws_eqSpan
noncomputable def c : Code := bodyOf Go.Proofs.Try.f32
noncomputable def fi : Fin := ⟨Γ0, [(.tmp 4, 4)], [[1]], [], [], []⟩
noncomputable def m (r1 : Bool) : Res := ⟨[⟨false, [.bool r1]⟩], [], [], [], []⟩
noncomputable def os : List (FuncId × St × (List Lf → (Res → Option Res) → Option Res)) := []
noncomputable def X (K : Res → Option Res) : Ctx := { Γ := Γ0, orc := orcOf os, io := [], share := [], opn := [], shr := [], bun := [], cut := [], own := [], cin := [], cout := [], lp := lpOf [], kl := Env.kl, nk := true, eqs := eqs0, byt := byt0, fin := finK fi K }
noncomputable def b (a1 a2 a3 a4 : Int) (R : Bool → Option Res) : Option Res :=
 bif (a1 != a3) then R false
 else bif (a2 != a4) then R false
 else R true
theorem gx : ∃ x : Int → Int → Int → Int → (Bool → Option Res) → Option Res, x = b := ⟨_, rfl⟩
noncomputable def g : Int → Int → Int → Int → (Bool → Option Res) → Option Res := Classical.choose gx
theorem e : g = b := Classical.choose_spec gx
noncomputable def run : List Lf → (Res → Option Res) → Option Res
 | [.i a1, .i a2, .i a3, .i a4], K => g a1 a2 a3 a4 (fun r1 => K (m r1))
 | _, _ => none
noncomputable def a (a1 a2 a3 a4 : Int) : St := argSt [.v ⟨true, [.int .i64 a1, .int .i64 a2]⟩, .v ⟨true, [.int .i64 a3, .int .i64 a4]⟩] [] []
noncomputable def con : FuncId × St × (List Lf → (Res → Option Res) → Option Res) := (32, a 0 0 0 0, run)
theorem cx (K : Res → Option Res) : CtxOk Go.Proofs.Try.prog Γ0 byt0 eqs0 (X K) os := ⟨rfl, rfl, rfl, (fun p hp => by
 cases hp), rfl, rfl, rfl⟩
theorem tie (K : Res → Option Res) (a1 a2 a3 a4 : Int) : exec (X K) c (entry 15 [.v ⟨true, [.int .i64 a1, .int .i64 a2]⟩, .v ⟨true, [.int .i64 a3, .int .i64 a4]⟩] [] []) (endK (X K)) = g a1 a2 a3 a4 (fun r1 => K (m r1)) := Eq.trans (b := b a1 a2 a3 a4 (fun r1 => K (m r1))) (by kernel_rfl) (by rw [e])
theorem runv {l : List Lf} {K : Res → Option Res} {r : Res} (h : run l K = some r) : ∃ a1 a2 a3 a4, l = [.i a1, .i a2, .i a3, .i a4] ∧ g a1 a2 a3 a4 (fun r1 => K (m r1)) = some r := by
 unfold run at h; split at h
 ·exact ⟨_, _, _, _, rfl, h⟩
 ·cases h
theorem ok : Con Go.Proofs.Try.prog con := con_of (fn := Go.Proofs.Try.f32) (c := c) (Fi := fi) (X := X) (fun_of laid (by kernel_rfl) (by kernel_rfl) (by kernel_rfl) rfl (by kernel_rfl) (by kernel_rfl) cx (fun _ => rfl) (fun _ => rfl) (fun K => by
 rw [show loopsOf c = [] from by kernel_rfl]; intro p hp
 cases hp)) fun xs rows boxes K r hl hr => by
 obtain ⟨a1, a2, a3, a4, e, h⟩ := runv hr
 have := St.like_eq (y := a a1 a2 a3 a4) hl (by kernel_rfl) e
 obtain ⟨rfl, rfl, rfl⟩ := argSt_inj this
 exact (tie K a1 a2 a3 a4).trans h
end laws_eqSpan
namespace laws_eqSpanS
noncomputable def c : Code := bodyOf Go.Proofs.Try.f11
noncomputable def fi : Fin := ⟨Γ0, [(.tmp 4, 4)], [[1]], [], [], []⟩
noncomputable def m (r1 : Bool) : Res := ⟨[⟨false, [.bool r1]⟩], [], [], [], []⟩
noncomputable def b0 : Code := codeAt c [1, 1, 0, 1, 0, 0]
noncomputable def s0 (x3 x4 : List (List Cl)) (x5 : Int) : St := ⟨mkT 27 [(0, one (.tr 0 1 [.int .i64, .int .i64] (.cells x3))), (1, one (.tr 0 1 [.int .i64, .int .i64] (.cells x4))), (5, one (.int .i64 x5))], [], []⟩
noncomputable def l0s (x3 x4 : List (List Cl)) (rec : Int → Option Res) (k : Option Res) (R : Bool → Option Res) (x5 : Int) : Option Res :=
 bif decide (x5 < (x3.length : Int)) then (bif decide (0 ≤ x5) && decide (x5 < (x3.length : Int)) then (bif decide (0 ≤ x5) && decide (x5 < (x4.length : Int)) then (laws_eqSpan.g (((x3.getD x5.toNat []).getD 0 (.i 0)).toI) (((x3.getD x5.toNat []).getD 1 (.i 0)).toI) (((x4.getD x5.toNat []).getD 0 (.i 0)).toI) (((x4.getD x5.toNat []).getD 1 (.i 0)).toI) fun r6 =>
  bif !r6 then R false
  else rec (IntKind.i64.wrap (x5 + 1)))
  else none)
  else none)
 else k
noncomputable def l0 (x3 x4 : List (List Cl)) (k : Option Res) (R : Bool → Option Res) : Nat → Int → Option Res
 | 0, _ => none
 | n + 1, x5 => l0s x3 x4 (fun x5 => l0 x3 x4 k R n x5) k R x5
noncomputable def o0 (x3 x4 : List (List Cl)) : St := ⟨mkT 27 [], [], []⟩
noncomputable def p0 (K : Res → Option Res) : List Lf → (St → Option Res) → Option Res
 | [.q (.cells x3), .q (.cells x4), .i x5], k => l0 x3 x4 (k (o0 x3 x4)) (fun r1 => K (m r1)) fuel x5
 | _, _ => none
noncomputable def os : List (FuncId × St × (List Lf → (Res → Option Res) → Option Res)) := [laws_eqSpan.con]
noncomputable def X (K : Res → Option Res) : Ctx := { Γ := Γ0, orc := orcOf os, io := [], share := [], opn := [], shr := [], bun := [], cut := [], own := [], cin := [(0, ⟨[0, 1, 5], [], [], [], [], []⟩)], cout := [(0, ⟨[], [], [], [], [], []⟩)], lp := lpOf [(0, s0 [] [] 0, p0 K)], kl := Env.kl, nk := true, eqs := eqs0, byt := byt0, fin := finK fi K }
noncomputable def b (a1 a2 : List (List Cl)) (R : Bool → Option Res) : Option Res :=
 bif ((a1.length : Int) != (a2.length : Int)) then R false
 else (l0 a1 a2 (
 R true) R fuel 0)
theorem gx : ∃ x : List (List Cl) → List (List Cl) → (Bool → Option Res) → Option Res, x = b := ⟨_, rfl⟩
noncomputable def g : List (List Cl) → List (List Cl) → (Bool → Option Res) → Option Res := Classical.choose gx
theorem e : g = b := Classical.choose_spec gx
noncomputable def run : List Lf → (Res → Option Res) → Option Res
 | [.q (.cells a1), .q (.cells a2)], K => g a1 a2 (fun r1 => K (m r1))
 | _, _ => none
noncomputable def a (a1 a2 : List (List Cl)) : St := argSt [one (.tr 0 1 [.int .i64, .int .i64] (.cells a1)), one (.tr 0 1 [.int .i64, .int .i64] (.cells a2))] [] []
noncomputable def con : FuncId × St × (List Lf → (Res → Option Res) → Option Res) := (11, a [] [], run)
theorem cx (K : Res → Option Res) : CtxOk Go.Proofs.Try.prog Γ0 byt0 eqs0 (X K) os := ⟨rfl, rfl, rfl, (fun p hp => by
 rcases List.mem_cons.1 hp with rfl | hp
 ·exact laws_eqSpan.ok
 cases hp), rfl, rfl, rfl⟩
theorem t0 (K : Res → Option Res) (k : St → Option Res) (it : St → (St → Option Res) → Option Res) (x3 x4 : List (List Cl)) (x5 : Int) : iterS (X K) 0 b0 it (s0 x3 x4 x5) k = l0s x3 x4 (fun x5 => it (s0 x3 x4 x5) k) (k (o0 x3 x4)) (fun r1 => K (m r1)) x5 := by kernel_rfl
theorem i0 (K : Res → Option Res) (k : St → Option Res) (x3 x4 : List (List Cl)) : ∀ (n : Nat) (x5 : Int), iter (X K) 0 b0 n (s0 x3 x4 x5) k = l0 x3 x4 (k (o0 x3 x4)) (fun r1 => K (m r1)) n x5
 | 0, _ => rfl
 | n + 1, x5 => by
  rw [iter_succ, t0, show (fun x5 => iter (X K) 0 b0 n (s0 x3 x4 x5) k) = (fun x5 => l0 x3 x4 (k (o0 x3 x4)) (fun r1 => K (m r1)) n x5) from funext fun x5 => i0 K k x3 x4 n x5]; rfl
theorem v0 {K : Res → Option Res} {l : List Lf} {k : St → Option Res} {r : Res} (h : p0 K l k = some r) : ∃ x3 x4 x5, l = [.q (.cells x3), .q (.cells x4), .i x5] ∧ l0 x3 x4 (k (o0 x3 x4)) (fun r1 => K (m r1)) fuel x5 = some r := by
 unfold p0 at h; split at h
 ·exact ⟨_, _, _, rfl, h⟩
 ·cases h
theorem w0 (K : Res → Option Res) : LpSound Go.Proofs.Try.prog (X K) 0 b0 := lp_ok ((cx K).ok laid) (by rw [show loopsOf b0 = [] from by kernel_rfl]; intro p hp; cases hp) rfl fun p hp hid => by
 rcases List.mem_cons.1 hp with rfl | hp
 ·intro st k r h1 h2; obtain ⟨x3, x4, x5, e, h⟩ := v0 (K := K) h2; have := St.like_eq (y := s0 x3 x4 x5) h1 (by kernel_rfl) e; subst this; exact ⟨fuel, (i0 K k x3 x4 fuel x5).trans h⟩
 cases hp
theorem tie (K : Res → Option Res) (a1 a2 : List (List Cl)) : exec (X K) c (entry 27 [one (.tr 0 1 [.int .i64, .int .i64] (.cells a1)), one (.tr 0 1 [.int .i64, .int .i64] (.cells a2))] [] []) (endK (X K)) = g a1 a2 (fun r1 => K (m r1)) := Eq.trans (b := b a1 a2 (fun r1 => K (m r1))) (by kernel_rfl) (by rw [e])
theorem runv {l : List Lf} {K : Res → Option Res} {r : Res} (h : run l K = some r) : ∃ a1 a2, l = [.q (.cells a1), .q (.cells a2)] ∧ g a1 a2 (fun r1 => K (m r1)) = some r := by
 unfold run at h; split at h
 ·exact ⟨_, _, rfl, h⟩
 ·cases h
theorem ok : Con Go.Proofs.Try.prog con := con_of (fn := Go.Proofs.Try.f11) (c := c) (Fi := fi) (X := X) (fun_of laid (by kernel_rfl) (by kernel_rfl) (by kernel_rfl) rfl (by kernel_rfl) (by kernel_rfl) cx (fun _ => rfl) (fun _ => rfl) (fun K => by
 rw [show loopsOf c = [(0, b0)] from by kernel_rfl]; intro p hp
 rcases List.mem_cons.1 hp with rfl | hp
 ·exact w0 K
 cases hp)) fun xs rows boxes K r hl hr => by
 obtain ⟨a1, a2, e, h⟩ := runv hr
 have := St.like_eq (y := a a1 a2) hl (by kernel_rfl) e
 obtain ⟨rfl, rfl, rfl⟩ := argSt_inj this
 exact (tie K a1 a2).trans h
end laws_eqSpanS
namespace laws_eqFun
noncomputable def c : Code := bodyOf Go.Proofs.Try.f62
noncomputable def fi : Fin := ⟨Γ0, [(.tmp 4, 4)], [[1]], [], [], []⟩
noncomputable def m (r1 : Bool) : Res := ⟨[⟨false, [.bool r1]⟩], [], [], [], []⟩
noncomputable def os : List (FuncId × St × (List Lf → (Res → Option Res) → Option Res)) := []
noncomputable def X (K : Res → Option Res) : Ctx := { Γ := Γ0, orc := orcOf os, io := [], share := [], opn := [], shr := [], bun := [], cut := [], own := [], cin := [], cout := [], lp := lpOf [], kl := Env.kl, nk := true, eqs := eqs0, byt := byt0, fin := finK fi K }
noncomputable def b (a1 a2 a3 a4 a5 a6 : Int) (R : Bool → Option Res) : Option Res :=
 bif (a1 != a4) then R false
 else bif (a2 != a5) then R false
 else bif (a3 != a6) then R false
 else R true
theorem gx : ∃ x : Int → Int → Int → Int → Int → Int → (Bool → Option Res) → Option Res, x = b := ⟨_, rfl⟩
noncomputable def g : Int → Int → Int → Int → Int → Int → (Bool → Option Res) → Option Res := Classical.choose gx
theorem e : g = b := Classical.choose_spec gx
noncomputable def run : List Lf → (Res → Option Res) → Option Res
 | [.i a1, .i a2, .i a3, .i a4, .i a5, .i a6], K => g a1 a2 a3 a4 a5 a6 (fun r1 => K (m r1))
 | _, _ => none
noncomputable def a (a1 a2 a3 a4 a5 a6 : Int) : St := argSt [.v ⟨true, [.int .i64 a1, .int .i64 a2, .int .i64 a3]⟩, .v ⟨true, [.int .i64 a4, .int .i64 a5, .int .i64 a6]⟩] [] []
noncomputable def con : FuncId × St × (List Lf → (Res → Option Res) → Option Res) := (62, a 0 0 0 0 0 0, run)
theorem cx (K : Res → Option Res) : CtxOk Go.Proofs.Try.prog Γ0 byt0 eqs0 (X K) os := ⟨rfl, rfl, rfl, (fun p hp => by
 cases hp), rfl, rfl, rfl⟩
theorem tie (K : Res → Option Res) (a1 a2 a3 a4 a5 a6 : Int) : exec (X K) c (entry 20 [.v ⟨true, [.int .i64 a1, .int .i64 a2, .int .i64 a3]⟩, .v ⟨true, [.int .i64 a4, .int .i64 a5, .int .i64 a6]⟩] [] []) (endK (X K)) = g a1 a2 a3 a4 a5 a6 (fun r1 => K (m r1)) := Eq.trans (b := b a1 a2 a3 a4 a5 a6 (fun r1 => K (m r1))) (by kernel_rfl) (by rw [e])
theorem runv {l : List Lf} {K : Res → Option Res} {r : Res} (h : run l K = some r) : ∃ a1 a2 a3 a4 a5 a6, l = [.i a1, .i a2, .i a3, .i a4, .i a5, .i a6] ∧ g a1 a2 a3 a4 a5 a6 (fun r1 => K (m r1)) = some r := by
 unfold run at h; split at h
 ·exact ⟨_, _, _, _, _, _, rfl, h⟩
 ·cases h
theorem ok : Con Go.Proofs.Try.prog con := con_of (fn := Go.Proofs.Try.f62) (c := c) (Fi := fi) (X := X) (fun_of laid (by kernel_rfl) (by kernel_rfl) (by kernel_rfl) rfl (by kernel_rfl) (by kernel_rfl) cx (fun _ => rfl) (fun _ => rfl) (fun K => by
 rw [show loopsOf c = [] from by kernel_rfl]; intro p hp
 cases hp)) fun xs rows boxes K r hl hr => by
 obtain ⟨a1, a2, a3, a4, a5, a6, e, h⟩ := runv hr
 have := St.like_eq (y := a a1 a2 a3 a4 a5 a6) hl (by kernel_rfl) e
 obtain ⟨rfl, rfl, rfl⟩ := argSt_inj this
 exact (tie K a1 a2 a3 a4 a5 a6).trans h
end laws_eqFun
namespace laws_eqIntS
noncomputable def c : Code := bodyOf Go.Proofs.Try.f63
noncomputable def fi : Fin := ⟨Γ0, [(.tmp 4, 4)], [[1]], [], [], []⟩
noncomputable def m (r1 : Bool) : Res := ⟨[⟨false, [.bool r1]⟩], [], [], [], []⟩
noncomputable def b0 : Code := codeAt c [1, 1, 0, 1, 0, 0]
noncomputable def s0 (x3 x4 : List Int) (x5 : Int) : St := ⟨mkT 26 [(0, one (.tr 0 1 [.int .i64] (.ints x3))), (1, one (.tr 0 1 [.int .i64] (.ints x4))), (5, one (.int .i64 x5))], [], []⟩
noncomputable def l0s (x3 x4 : List Int) (rec : Int → Option Res) (k : Option Res) (R : Bool → Option Res) (x5 : Int) : Option Res :=
 bif decide (x5 < (x3.length : Int)) then (bif decide (0 ≤ x5) && decide (x5 < (x3.length : Int)) then (bif decide (0 ≤ x5) && decide (x5 < (x4.length : Int)) then (bif (x3.getD x5.toNat 0 != x4.getD x5.toNat 0) then R false
  else rec (IntKind.i64.wrap (x5 + 1)))
  else none)
  else none)
 else k
noncomputable def l0 (x3 x4 : List Int) (k : Option Res) (R : Bool → Option Res) : Nat → Int → Option Res
 | 0, _ => none
 | n + 1, x5 => l0s x3 x4 (fun x5 => l0 x3 x4 k R n x5) k R x5
noncomputable def o0 (x3 x4 : List Int) : St := ⟨mkT 26 [], [], []⟩
noncomputable def p0 (K : Res → Option Res) : List Lf → (St → Option Res) → Option Res
 | [.q (.ints x3), .q (.ints x4), .i x5], k => l0 x3 x4 (k (o0 x3 x4)) (fun r1 => K (m r1)) fuel x5
 | _, _ => none
noncomputable def os : List (FuncId × St × (List Lf → (Res → Option Res) → Option Res)) := []
noncomputable def X (K : Res → Option Res) : Ctx := { Γ := Γ0, orc := orcOf os, io := [], share := [], opn := [], shr := [], bun := [], cut := [], own := [], cin := [(0, ⟨[0, 1, 5], [], [], [], [], []⟩)], cout := [(0, ⟨[], [], [], [], [], []⟩)], lp := lpOf [(0, s0 [] [] 0, p0 K)], kl := Env.kl, nk := true, eqs := eqs0, byt := byt0, fin := finK fi K }
noncomputable def b (a1 a2 : List Int) (R : Bool → Option Res) : Option Res :=
 bif ((a1.length : Int) != (a2.length : Int)) then R false
 else (l0 a1 a2 (
 R true) R fuel 0)
theorem gx : ∃ x : List Int → List Int → (Bool → Option Res) → Option Res, x = b := ⟨_, rfl⟩
noncomputable def g : List Int → List Int → (Bool → Option Res) → Option Res := Classical.choose gx
theorem e : g = b := Classical.choose_spec gx
noncomputable def run : List Lf → (Res → Option Res) → Option Res
 | [.q (.ints a1), .q (.ints a2)], K => g a1 a2 (fun r1 => K (m r1))
 | _, _ => none
noncomputable def a (a1 a2 : List Int) : St := argSt [one (.tr 0 1 [.int .i64] (.ints a1)), one (.tr 0 1 [.int .i64] (.ints a2))] [] []
noncomputable def con : FuncId × St × (List Lf → (Res → Option Res) → Option Res) := (63, a [] [], run)
theorem cx (K : Res → Option Res) : CtxOk Go.Proofs.Try.prog Γ0 byt0 eqs0 (X K) os := ⟨rfl, rfl, rfl, (fun p hp => by
 cases hp), rfl, rfl, rfl⟩
theorem t0 (K : Res → Option Res) (k : St → Option Res) (it : St → (St → Option Res) → Option Res) (x3 x4 : List Int) (x5 : Int) : iterS (X K) 0 b0 it (s0 x3 x4 x5) k = l0s x3 x4 (fun x5 => it (s0 x3 x4 x5) k) (k (o0 x3 x4)) (fun r1 => K (m r1)) x5 := by kernel_rfl
theorem i0 (K : Res → Option Res) (k : St → Option Res) (x3 x4 : List Int) : ∀ (n : Nat) (x5 : Int), iter (X K) 0 b0 n (s0 x3 x4 x5) k = l0 x3 x4 (k (o0 x3 x4)) (fun r1 => K (m r1)) n x5
 | 0, _ => rfl
 | n + 1, x5 => by
  rw [iter_succ, t0, show (fun x5 => iter (X K) 0 b0 n (s0 x3 x4 x5) k) = (fun x5 => l0 x3 x4 (k (o0 x3 x4)) (fun r1 => K (m r1)) n x5) from funext fun x5 => i0 K k x3 x4 n x5]; rfl
theorem v0 {K : Res → Option Res} {l : List Lf} {k : St → Option Res} {r : Res} (h : p0 K l k = some r) : ∃ x3 x4 x5, l = [.q (.ints x3), .q (.ints x4), .i x5] ∧ l0 x3 x4 (k (o0 x3 x4)) (fun r1 => K (m r1)) fuel x5 = some r := by
 unfold p0 at h; split at h
 ·exact ⟨_, _, _, rfl, h⟩
 ·cases h
theorem w0 (K : Res → Option Res) : LpSound Go.Proofs.Try.prog (X K) 0 b0 := lp_ok ((cx K).ok laid) (by rw [show loopsOf b0 = [] from by kernel_rfl]; intro p hp; cases hp) rfl fun p hp hid => by
 rcases List.mem_cons.1 hp with rfl | hp
 ·intro st k r h1 h2; obtain ⟨x3, x4, x5, e, h⟩ := v0 (K := K) h2; have := St.like_eq (y := s0 x3 x4 x5) h1 (by kernel_rfl) e; subst this; exact ⟨fuel, (i0 K k x3 x4 fuel x5).trans h⟩
 cases hp
theorem tie (K : Res → Option Res) (a1 a2 : List Int) : exec (X K) c (entry 26 [one (.tr 0 1 [.int .i64] (.ints a1)), one (.tr 0 1 [.int .i64] (.ints a2))] [] []) (endK (X K)) = g a1 a2 (fun r1 => K (m r1)) := Eq.trans (b := b a1 a2 (fun r1 => K (m r1))) (by kernel_rfl) (by rw [e])
theorem runv {l : List Lf} {K : Res → Option Res} {r : Res} (h : run l K = some r) : ∃ a1 a2, l = [.q (.ints a1), .q (.ints a2)] ∧ g a1 a2 (fun r1 => K (m r1)) = some r := by
 unfold run at h; split at h
 ·exact ⟨_, _, rfl, h⟩
 ·cases h
theorem ok : Con Go.Proofs.Try.prog con := con_of (fn := Go.Proofs.Try.f63) (c := c) (Fi := fi) (X := X) (fun_of laid (by kernel_rfl) (by kernel_rfl) (by kernel_rfl) rfl (by kernel_rfl) (by kernel_rfl) cx (fun _ => rfl) (fun _ => rfl) (fun K => by
 rw [show loopsOf c = [(0, b0)] from by kernel_rfl]; intro p hp
 rcases List.mem_cons.1 hp with rfl | hp
 ·exact w0 K
 cases hp)) fun xs rows boxes K r hl hr => by
 obtain ⟨a1, a2, e, h⟩ := runv hr
 have := St.like_eq (y := a a1 a2) hl (by kernel_rfl) e
 obtain ⟨rfl, rfl, rfl⟩ := argSt_inj this
 exact (tie K a1 a2).trans h
end laws_eqIntS
namespace laws_eqInstr
noncomputable def c : Code := bodyOf Go.Proofs.Try.f33
noncomputable def fi : Fin := ⟨Γ0, [(.tmp 4, 4)], [[1]], [], [], []⟩
noncomputable def m (r1 : Bool) : Res := ⟨[⟨false, [.bool r1]⟩], [], [], [], []⟩
noncomputable def os : List (FuncId × St × (List Lf → (Res → Option Res) → Option Res)) := [laws_eqFun.con, laws_eqIntS.con]
noncomputable def X (K : Res → Option Res) : Ctx := { Γ := Γ0, orc := orcOf os, io := [], share := [], opn := [], shr := [], bun := [], cut := [], own := [], cin := [], cout := [], lp := lpOf [], kl := Env.kl, nk := true, eqs := eqs0, byt := byt0, fin := finK fi K }
noncomputable def b (a1 a2 a3 a4 a5 : Int) (a6 : List Int) (a7 a8 a9 a10 a11 : Int) (a12 : List Int) (R : Bool → Option Res) : Option Res :=
 bif (a1 != a7) then R false
 else bif (a2 != a8) then R false
 else (laws_eqFun.g a3 a4 a5 a9 a10 a11 fun r13 =>
 bif !r13 then R false
 else (laws_eqIntS.g a6 a12 fun r14 =>
 bif !r14 then R false
 else R true))
theorem gx : ∃ x : Int → Int → Int → Int → Int → List Int → Int → Int → Int → Int → Int → List Int → (Bool → Option Res) → Option Res, x = b := ⟨_, rfl⟩
noncomputable def g : Int → Int → Int → Int → Int → List Int → Int → Int → Int → Int → Int → List Int → (Bool → Option Res) → Option Res := Classical.choose gx
theorem e : g = b := Classical.choose_spec gx
noncomputable def run : List Lf → (Res → Option Res) → Option Res
 | [.i a1, .i a2, .i a3, .i a4, .i a5, .q (.ints a6), .i a7, .i a8, .i a9, .i a10, .i a11, .q (.ints a12)], K => g a1 a2 a3 a4 a5 a6 a7 a8 a9 a10 a11 a12 (fun r1 => K (m r1))
 | _, _ => none
noncomputable def a (a1 a2 a3 a4 a5 : Int) (a6 : List Int) (a7 a8 a9 a10 a11 : Int) (a12 : List Int) : St := argSt [.v ⟨true, [.int .i64 a1, .int .i64 a2, .int .i64 a3, .int .i64 a4, .int .i64 a5, .tr 0 1 [.int .i64] (.ints a6)]⟩, .v ⟨true, [.int .i64 a7, .int .i64 a8, .int .i64 a9, .int .i64 a10, .int .i64 a11, .tr 0 1 [.int .i64] (.ints a12)]⟩] [] []
noncomputable def con : FuncId × St × (List Lf → (Res → Option Res) → Option Res) := (33, a 0 0 0 0 0 [] 0 0 0 0 0 [], run)
theorem cx (K : Res → Option Res) : CtxOk Go.Proofs.Try.prog Γ0 byt0 eqs0 (X K) os := ⟨rfl, rfl, rfl, (fun p hp => by
 rcases List.mem_cons.1 hp with rfl | hp
 ·exact laws_eqFun.ok
 rcases List.mem_cons.1 hp with rfl | hp
 ·exact laws_eqIntS.ok
 cases hp), rfl, rfl, rfl⟩
theorem tie (K : Res → Option Res) (a1 a2 a3 a4 a5 : Int) (a6 : List Int) (a7 a8 a9 a10 a11 : Int) (a12 : List Int) : exec (X K) c (entry 27 [.v ⟨true, [.int .i64 a1, .int .i64 a2, .int .i64 a3, .int .i64 a4, .int .i64 a5, .tr 0 1 [.int .i64] (.ints a6)]⟩, .v ⟨true, [.int .i64 a7, .int .i64 a8, .int .i64 a9, .int .i64 a10, .int .i64 a11, .tr 0 1 [.int .i64] (.ints a12)]⟩] [] []) (endK (X K)) = g a1 a2 a3 a4 a5 a6 a7 a8 a9 a10 a11 a12 (fun r1 => K (m r1)) := Eq.trans (b := b a1 a2 a3 a4 a5 a6 a7 a8 a9 a10 a11 a12 (fun r1 => K (m r1))) (by kernel_rfl) (by rw [e])
theorem runv {l : List Lf} {K : Res → Option Res} {r : Res} (h : run l K = some r) : ∃ a1 a2 a3 a4 a5 a6 a7 a8 a9 a10 a11 a12, l = [.i a1, .i a2, .i a3, .i a4, .i a5, .q (.ints a6), .i a7, .i a8, .i a9, .i a10, .i a11, .q (.ints a12)] ∧ g a1 a2 a3 a4 a5 a6 a7 a8 a9 a10 a11 a12 (fun r1 => K (m r1)) = some r := by
 unfold run at h; split at h
 ·exact ⟨_, _, _, _, _, _, _, _, _, _, _, _, rfl, h⟩
 ·cases h
theorem ok : Con Go.Proofs.Try.prog con := con_of (fn := Go.Proofs.Try.f33) (c := c) (Fi := fi) (X := X) (fun_of laid (by kernel_rfl) (by kernel_rfl) (by kernel_rfl) rfl (by kernel_rfl) (by kernel_rfl) cx (fun _ => rfl) (fun _ => rfl) (fun K => by
 rw [show loopsOf c = [] from by kernel_rfl]; intro p hp
 cases hp)) fun xs rows boxes K r hl hr => by
 obtain ⟨a1, a2, a3, a4, a5, a6, a7, a8, a9, a10, a11, a12, e, h⟩ := runv hr
 have := St.like_eq (y := a a1 a2 a3 a4 a5 a6 a7 a8 a9 a10 a11 a12) hl (by kernel_rfl) e
 obtain ⟨rfl, rfl, rfl⟩ := argSt_inj this
 exact (tie K a1 a2 a3 a4 a5 a6 a7 a8 a9 a10 a11 a12).trans h
end laws_eqInstr
namespace laws_eqInstrS
noncomputable def c : Code := bodyOf Go.Proofs.Try.f12
noncomputable def fi : Fin := ⟨Γ0, [(.tmp 4, 4)], [[1]], [], [], []⟩
noncomputable def m (r1 : Bool) : Res := ⟨[⟨false, [.bool r1]⟩], [], [], [], []⟩
noncomputable def b0 : Code := codeAt c [1, 1, 0, 1, 0, 0]
noncomputable def s0 (x3 x4 : List (List Cl)) (x5 : Int) : St := ⟨mkT 27 [(0, one (.tr 0 1 [.int .i64, .int .i64, .int .i64, .int .i64, .int .i64, .ints .i64] (.cells x3))), (1, one (.tr 0 1 [.int .i64, .int .i64, .int .i64, .int .i64, .int .i64, .ints .i64] (.cells x4))), (5, one (.int .i64 x5))], [], []⟩
noncomputable def l0s (x3 x4 : List (List Cl)) (rec : Int → Option Res) (k : Option Res) (R : Bool → Option Res) (x5 : Int) : Option Res :=
 bif decide (x5 < (x3.length : Int)) then (bif decide (0 ≤ x5) && decide (x5 < (x3.length : Int)) then (bif decide (0 ≤ x5) && decide (x5 < (x4.length : Int)) then (laws_eqInstr.g (((x3.getD x5.toNat []).getD 0 (.i 0)).toI) (((x3.getD x5.toNat []).getD 1 (.i 0)).toI) (((x3.getD x5.toNat []).getD 2 (.i 0)).toI) (((x3.getD x5.toNat []).getD 3 (.i 0)).toI) (((x3.getD x5.toNat []).getD 4 (.i 0)).toI) (((x3.getD x5.toNat []).getD 5 (.i 0)).toL) (((x4.getD x5.toNat []).getD 0 (.i 0)).toI) (((x4.getD x5.toNat []).getD 1 (.i 0)).toI) (((x4.getD x5.toNat []).getD 2 (.i 0)).toI) (((x4.getD x5.toNat []).getD 3 (.i 0)).toI) (((x4.getD x5.toNat []).getD 4 (.i 0)).toI) (((x4.getD x5.toNat []).getD 5 (.i 0)).toL) fun r6 =>
  bif !r6 then R false
  else rec (IntKind.i64.wrap (x5 + 1)))
  else none)
  else none)
 else k
noncomputable def l0 (x3 x4 : List (List Cl)) (k : Option Res) (R : Bool → Option Res) : Nat → Int → Option Res
 | 0, _ => none
 | n + 1, x5 => l0s x3 x4 (fun x5 => l0 x3 x4 k R n x5) k R x5
noncomputable def o0 (x3 x4 : List (List Cl)) : St := ⟨mkT 27 [], [], []⟩
noncomputable def p0 (K : Res → Option Res) : List Lf → (St → Option Res) → Option Res
 | [.q (.cells x3), .q (.cells x4), .i x5], k => l0 x3 x4 (k (o0 x3 x4)) (fun r1 => K (m r1)) fuel x5
 | _, _ => none
noncomputable def os : List (FuncId × St × (List Lf → (Res → Option Res) → Option Res)) := [laws_eqInstr.con]
noncomputable def X (K : Res → Option Res) : Ctx := { Γ := Γ0, orc := orcOf os, io := [], share := [], opn := [], shr := [], bun := [], cut := [], own := [], cin := [(0, ⟨[0, 1, 5], [], [], [], [], []⟩)], cout := [(0, ⟨[], [], [], [], [], []⟩)], lp := lpOf [(0, s0 [] [] 0, p0 K)], kl := Env.kl, nk := true, eqs := eqs0, byt := byt0, fin := finK fi K }
noncomputable def b (a1 a2 : List (List Cl)) (R : Bool → Option Res) : Option Res :=
 bif ((a1.length : Int) != (a2.length : Int)) then R false
 else (l0 a1 a2 (
 R true) R fuel 0)
theorem gx : ∃ x : List (List Cl) → List (List Cl) → (Bool → Option Res) → Option Res, x = b := ⟨_, rfl⟩
noncomputable def g : List (List Cl) → List (List Cl) → (Bool → Option Res) → Option Res := Classical.choose gx
theorem e : g = b := Classical.choose_spec gx
noncomputable def run : List Lf → (Res → Option Res) → Option Res
 | [.q (.cells a1), .q (.cells a2)], K => g a1 a2 (fun r1 => K (m r1))
 | _, _ => none
noncomputable def a (a1 a2 : List (List Cl)) : St := argSt [one (.tr 0 1 [.int .i64, .int .i64, .int .i64, .int .i64, .int .i64, .ints .i64] (.cells a1)), one (.tr 0 1 [.int .i64, .int .i64, .int .i64, .int .i64, .int .i64, .ints .i64] (.cells a2))] [] []
noncomputable def con : FuncId × St × (List Lf → (Res → Option Res) → Option Res) := (12, a [] [], run)
theorem cx (K : Res → Option Res) : CtxOk Go.Proofs.Try.prog Γ0 byt0 eqs0 (X K) os := ⟨rfl, rfl, rfl, (fun p hp => by
 rcases List.mem_cons.1 hp with rfl | hp
 ·exact laws_eqInstr.ok
 cases hp), rfl, rfl, rfl⟩
theorem t0 (K : Res → Option Res) (k : St → Option Res) (it : St → (St → Option Res) → Option Res) (x3 x4 : List (List Cl)) (x5 : Int) : iterS (X K) 0 b0 it (s0 x3 x4 x5) k = l0s x3 x4 (fun x5 => it (s0 x3 x4 x5) k) (k (o0 x3 x4)) (fun r1 => K (m r1)) x5 := by kernel_rfl
theorem i0 (K : Res → Option Res) (k : St → Option Res) (x3 x4 : List (List Cl)) : ∀ (n : Nat) (x5 : Int), iter (X K) 0 b0 n (s0 x3 x4 x5) k = l0 x3 x4 (k (o0 x3 x4)) (fun r1 => K (m r1)) n x5
 | 0, _ => rfl
 | n + 1, x5 => by
  rw [iter_succ, t0, show (fun x5 => iter (X K) 0 b0 n (s0 x3 x4 x5) k) = (fun x5 => l0 x3 x4 (k (o0 x3 x4)) (fun r1 => K (m r1)) n x5) from funext fun x5 => i0 K k x3 x4 n x5]; rfl
theorem v0 {K : Res → Option Res} {l : List Lf} {k : St → Option Res} {r : Res} (h : p0 K l k = some r) : ∃ x3 x4 x5, l = [.q (.cells x3), .q (.cells x4), .i x5] ∧ l0 x3 x4 (k (o0 x3 x4)) (fun r1 => K (m r1)) fuel x5 = some r := by
 unfold p0 at h; split at h
 ·exact ⟨_, _, _, rfl, h⟩
 ·cases h
theorem w0 (K : Res → Option Res) : LpSound Go.Proofs.Try.prog (X K) 0 b0 := lp_ok ((cx K).ok laid) (by rw [show loopsOf b0 = [] from by kernel_rfl]; intro p hp; cases hp) rfl fun p hp hid => by
 rcases List.mem_cons.1 hp with rfl | hp
 ·intro st k r h1 h2; obtain ⟨x3, x4, x5, e, h⟩ := v0 (K := K) h2; have := St.like_eq (y := s0 x3 x4 x5) h1 (by kernel_rfl) e; subst this; exact ⟨fuel, (i0 K k x3 x4 fuel x5).trans h⟩
 cases hp
theorem tie (K : Res → Option Res) (a1 a2 : List (List Cl)) : exec (X K) c (entry 27 [one (.tr 0 1 [.int .i64, .int .i64, .int .i64, .int .i64, .int .i64, .ints .i64] (.cells a1)), one (.tr 0 1 [.int .i64, .int .i64, .int .i64, .int .i64, .int .i64, .ints .i64] (.cells a2))] [] []) (endK (X K)) = g a1 a2 (fun r1 => K (m r1)) := Eq.trans (b := b a1 a2 (fun r1 => K (m r1))) (by kernel_rfl) (by rw [e])
theorem runv {l : List Lf} {K : Res → Option Res} {r : Res} (h : run l K = some r) : ∃ a1 a2, l = [.q (.cells a1), .q (.cells a2)] ∧ g a1 a2 (fun r1 => K (m r1)) = some r := by
 unfold run at h; split at h
 ·exact ⟨_, _, rfl, h⟩
 ·cases h
theorem ok : Con Go.Proofs.Try.prog con := con_of (fn := Go.Proofs.Try.f12) (c := c) (Fi := fi) (X := X) (fun_of laid (by kernel_rfl) (by kernel_rfl) (by kernel_rfl) rfl (by kernel_rfl) (by kernel_rfl) cx (fun _ => rfl) (fun _ => rfl) (fun K => by
 rw [show loopsOf c = [(0, b0)] from by kernel_rfl]; intro p hp
 rcases List.mem_cons.1 hp with rfl | hp
 ·exact w0 K
 cases hp)) fun xs rows boxes K r hl hr => by
 obtain ⟨a1, a2, e, h⟩ := runv hr
 have := St.like_eq (y := a a1 a2) hl (by kernel_rfl) e
 obtain ⟨rfl, rfl, rfl⟩ := argSt_inj this
 exact (tie K a1 a2).trans h
end laws_eqInstrS
namespace laws_markIntS
noncomputable def c : Code := bodyOf Go.Proofs.Try.f34
noncomputable def fi : Fin := ⟨Γ0, [(.tmp 4, 3)], [[1]], [true], [], []⟩
noncomputable def m (r1 : Int) (r2 : List Int) : Res := ⟨[⟨false, [.int .i64 r1]⟩], [some ⟨[.int .i64], .ints r2, true, 0, none⟩], [], [], []⟩
noncomputable def b0 : Code := codeAt c [1, 0, 1, 0, 0]
noncomputable def s0 (x3 x4 : Int) (x5 : List Int) : St := ⟨mkT 19 [(0, one (.ow 0)), (1, one (.int .i64 x3)), (5, one (.int .i64 x4))], [(0, ⟨[.int .i64], .ints x5, true, 0, none⟩)], []⟩
noncomputable def l0s  (rec : Int → Int → List Int → Option Res) (k : Int → List Int → Option Res) (x3 x4 : Int) (x5 : List Int) : Option Res :=
 bif decide (x4 < (x5.length : Int)) then (bif decide (0 ≤ x4) && decide (x4 < (x5.length : Int)) then rec (IntKind.i64.wrap (x3 + 1)) (IntKind.i64.wrap (x4 + 1)) (x5.set x4.toNat x3)
  else none)
 else k x3 x5
noncomputable def l0  (k : Int → List Int → Option Res) : Nat → Int → Int → List Int → Option Res
 | 0, _, _, _ => none
 | n + 1, x3, x4, x5 => l0s (fun x3 x4 x5 => l0 k n x3 x4 x5) k x3 x4 x5
noncomputable def o0 (y1 : Int) (y2 : List Int) : St := ⟨mkT 19 [(1, one (.int .i64 y1))], [(0, ⟨[.int .i64], .ints y2, true, 0, none⟩)], []⟩
noncomputable def p0 (K : Res → Option Res) : List Lf → (St → Option Res) → Option Res
 | [.i x3, .i x4, .q (.ints x5)], k => l0 (fun y1 y2 => k (o0 y1 y2)) fuel x3 x4 x5
 | _, _ => none
noncomputable def os : List (FuncId × St × (List Lf → (Res → Option Res) → Option Res)) := []
noncomputable def X (K : Res → Option Res) : Ctx := { Γ := Γ0, orc := orcOf os, io := [], share := [], opn := [], shr := [], bun := [], cut := [], own := [], cin := [(0, ⟨[0, 1, 5], [(0, 0)], [], [], [], []⟩)], cout := [(0, ⟨[1], [(0, 0)], [], [], [], []⟩)], lp := lpOf [(0, s0 0 0 [], p0 K)], kl := Env.kl, nk := true, eqs := eqs0, byt := byt0, fin := finK fi K }
noncomputable def b (a1 : Int) (a2 : List Int) (R : Int → List Int → Option Res) : Option Res :=
 l0 (fun y6 y7 =>
 R y6 y7) fuel a1 0 a2
theorem gx : ∃ x : Int → List Int → (Int → List Int → Option Res) → Option Res, x = b := ⟨_, rfl⟩
noncomputable def g : Int → List Int → (Int → List Int → Option Res) → Option Res := Classical.choose gx
theorem e : g = b := Classical.choose_spec gx
noncomputable def run : List Lf → (Res → Option Res) → Option Res
 | [.i a1, .q (.ints a2)], K => g a1 a2 (fun r1 r2 => K (m r1 r2))
 | _, _ => none
noncomputable def a (a1 : Int) (a2 : List Int) : St := argSt [one (.ow 0), one (.int .i64 a1)] [⟨[.int .i64], .ints a2, true, 0, none⟩] []
noncomputable def con : FuncId × St × (List Lf → (Res → Option Res) → Option Res) := (34, a 0 [], run)
theorem cx (K : Res → Option Res) : CtxOk Go.Proofs.Try.prog Γ0 byt0 eqs0 (X K) os := ⟨rfl, rfl, rfl, (fun p hp => by
 cases hp), rfl, rfl, rfl⟩
theorem t0 (K : Res → Option Res) (k : St → Option Res) (it : St → (St → Option Res) → Option Res) (x3 x4 : Int) (x5 : List Int) : iterS (X K) 0 b0 it (s0 x3 x4 x5) k = l0s (fun x3 x4 x5 => it (s0 x3 x4 x5) k) (fun y1 y2 => k (o0 y1 y2)) x3 x4 x5 := by kernel_rfl
theorem i0 (K : Res → Option Res) (k : St → Option Res)  : ∀ (n : Nat) (x3 x4 : Int) (x5 : List Int), iter (X K) 0 b0 n (s0 x3 x4 x5) k = l0 (fun y1 y2 => k (o0 y1 y2)) n x3 x4 x5
 | 0, _, _, _ => rfl
 | n + 1, x3, x4, x5 => by
  rw [iter_succ, t0, show (fun x3 x4 x5 => iter (X K) 0 b0 n (s0 x3 x4 x5) k) = (fun x3 x4 x5 => l0 (fun y1 y2 => k (o0 y1 y2)) n x3 x4 x5) from funext fun x3 => funext fun x4 => funext fun x5 => i0 K k n x3 x4 x5]; rfl
theorem v0 {K : Res → Option Res} {l : List Lf} {k : St → Option Res} {r : Res} (h : p0 K l k = some r) : ∃ x3 x4 x5, l = [.i x3, .i x4, .q (.ints x5)] ∧ l0 (fun y1 y2 => k (o0 y1 y2)) fuel x3 x4 x5 = some r := by
 unfold p0 at h; split at h
 ·exact ⟨_, _, _, rfl, h⟩
 ·cases h
theorem w0 (K : Res → Option Res) : LpSound Go.Proofs.Try.prog (X K) 0 b0 := lp_ok ((cx K).ok laid) (by rw [show loopsOf b0 = [] from by kernel_rfl]; intro p hp; cases hp) rfl fun p hp hid => by
 rcases List.mem_cons.1 hp with rfl | hp
 ·intro st k r h1 h2; obtain ⟨x3, x4, x5, e, h⟩ := v0 (K := K) h2; have := St.like_eq (y := s0 x3 x4 x5) h1 (by kernel_rfl) e; subst this; exact ⟨fuel, (i0 K k fuel x3 x4 x5).trans h⟩
 cases hp
theorem tie (K : Res → Option Res) (a1 : Int) (a2 : List Int) : exec (X K) c (entry 19 [one (.ow 0), one (.int .i64 a1)] [⟨[.int .i64], .ints a2, true, 0, none⟩] []) (endK (X K)) = g a1 a2 (fun r1 r2 => K (m r1 r2)) := Eq.trans (b := b a1 a2 (fun r1 r2 => K (m r1 r2))) (by kernel_rfl) (by rw [e])
theorem runv {l : List Lf} {K : Res → Option Res} {r : Res} (h : run l K = some r) : ∃ a1 a2, l = [.i a1, .q (.ints a2)] ∧ g a1 a2 (fun r1 r2 => K (m r1 r2)) = some r := by
 unfold run at h; split at h
 ·exact ⟨_, _, rfl, h⟩
 ·cases h
theorem ok : Con Go.Proofs.Try.prog con := con_of (fn := Go.Proofs.Try.f34) (c := c) (Fi := fi) (X := X) (fun_of laid (by kernel_rfl) (by kernel_rfl) (by kernel_rfl) rfl (by kernel_rfl) (by kernel_rfl) cx (fun _ => rfl) (fun _ => rfl) (fun K => by
 rw [show loopsOf c = [(0, b0)] from by kernel_rfl]; intro p hp
 rcases List.mem_cons.1 hp with rfl | hp
 ·exact w0 K
 cases hp)) fun xs rows boxes K r hl hr => by
 obtain ⟨a1, a2, e, h⟩ := runv hr
 have := St.like_eq (y := a a1 a2) hl (by kernel_rfl) e
 obtain ⟨rfl, rfl, rfl⟩ := argSt_inj this
 exact (tie K a1 a2).trans h
end laws_markIntS
namespace laws_markInstrS
noncomputable def c : Code := bodyOf Go.Proofs.Try.f13
noncomputable def fi : Fin := ⟨Γ0, [(.tmp 4, 3)], [[1]], [true], [], []⟩
noncomputable def m (r1 : Int) (r2 : List (List Cl)) : Res := ⟨[⟨false, [.int .i64 r1]⟩], [some ⟨[.int .i64, .int .i64, .int .i64, .int .i64, .int .i64, .ints .i64], .cells r2, true, 0, none⟩], [], [], []⟩
noncomputable def b0 : Code := codeAt c [1, 0, 1, 0, 0]
noncomputable def s0 (x3 x4 : Int) (x5 : List (List Cl)) : St := ⟨mkT 58 [(0, one (.ow 0)), (1, one (.int .i64 x3)), (5, one (.int .i64 x4))], [(0, ⟨[.int .i64, .int .i64, .int .i64, .int .i64, .int .i64, .ints .i64], .cells x5, true, 0, none⟩)], []⟩
noncomputable def l0s  (rec : Int → Int → List (List Cl) → Option Res) (k : Int → List (List Cl) → Option Res) (x3 x4 : Int) (x5 : List (List Cl)) : Option Res :=
 bif decide (x4 < (x5.length : Int)) then (bif decide (0 ≤ x4) && decide (x4 < (x5.length : Int)) then (bif decide (0 ≤ x4) && decide (x4 < ((x5.set x4.toNat (splice (x5.getD x4.toNat []) 0 [.i x3])).length : Int)) then (bif decide (0 ≤ x4) && decide (x4 < (((x5.set x4.toNat (splice (x5.getD x4.toNat []) 0 [.i x3])).set x4.toNat (splice ((x5.set x4.toNat (splice (x5.getD x4.toNat []) 0 [.i x3])).getD x4.toNat []) 1 [.i (IntKind.i64.wrap (x3 + 1))])).length : Int)) then (bif decide (0 ≤ x4) && decide (x4 < ((((x5.set x4.toNat (splice (x5.getD x4.toNat []) 0 [.i x3])).set x4.toNat (splice ((x5.set x4.toNat (splice (x5.getD x4.toNat []) 0 [.i x3])).getD x4.toNat []) 1 [.i (IntKind.i64.wrap (x3 + 1))])).set x4.toNat (splice (((x5.set x4.toNat (splice (x5.getD x4.toNat []) 0 [.i x3])).set x4.toNat (splice ((x5.set x4.toNat (splice (x5.getD x4.toNat []) 0 [.i x3])).getD x4.toNat []) 1 [.i (IntKind.i64.wrap (x3 + 1))])).getD x4.toNat []) 2 [.i (IntKind.i64.wrap ((IntKind.i64.wrap (x3 + 1)) + 1))])).length : Int)) then (bif decide (0 ≤ x4) && decide (x4 < (((((x5.set x4.toNat (splice (x5.getD x4.toNat []) 0 [.i x3])).set x4.toNat (splice ((x5.set x4.toNat (splice (x5.getD x4.toNat []) 0 [.i x3])).getD x4.toNat []) 1 [.i (IntKind.i64.wrap (x3 + 1))])).set x4.toNat (splice (((x5.set x4.toNat (splice (x5.getD x4.toNat []) 0 [.i x3])).set x4.toNat (splice ((x5.set x4.toNat (splice (x5.getD x4.toNat []) 0 [.i x3])).getD x4.toNat []) 1 [.i (IntKind.i64.wrap (x3 + 1))])).getD x4.toNat []) 2 [.i (IntKind.i64.wrap ((IntKind.i64.wrap (x3 + 1)) + 1))])).set x4.toNat (splice ((((x5.set x4.toNat (splice (x5.getD x4.toNat []) 0 [.i x3])).set x4.toNat (splice ((x5.set x4.toNat (splice (x5.getD x4.toNat []) 0 [.i x3])).getD x4.toNat []) 1 [.i (IntKind.i64.wrap (x3 + 1))])).set x4.toNat (splice (((x5.set x4.toNat (splice (x5.getD x4.toNat []) 0 [.i x3])).set x4.toNat (splice ((x5.set x4.toNat (splice (x5.getD x4.toNat []) 0 [.i x3])).getD x4.toNat []) 1 [.i (IntKind.i64.wrap (x3 + 1))])).getD x4.toNat []) 2 [.i (IntKind.i64.wrap ((IntKind.i64.wrap (x3 + 1)) + 1))])).getD x4.toNat []) 3 [.i (IntKind.i64.wrap ((IntKind.i64.wrap ((IntKind.i64.wrap (x3 + 1)) + 1)) + 1))])).length : Int)) then (bif decide (0 ≤ x4) && decide (x4 < ((((((x5.set x4.toNat (splice (x5.getD x4.toNat []) 0 [.i x3])).set x4.toNat (splice ((x5.set x4.toNat (splice (x5.getD x4.toNat []) 0 [.i x3])).getD x4.toNat []) 1 [.i (IntKind.i64.wrap (x3 + 1))])).set x4.toNat (splice (((x5.set x4.toNat (splice (x5.getD x4.toNat []) 0 [.i x3])).set x4.toNat (splice ((x5.set x4.toNat (splice (x5.getD x4.toNat []) 0 [.i x3])).getD x4.toNat []) 1 [.i (IntKind.i64.wrap (x3 + 1))])).getD x4.toNat []) 2 [.i (IntKind.i64.wrap ((IntKind.i64.wrap (x3 + 1)) + 1))])).set x4.toNat (splice ((((x5.set x4.toNat (splice (x5.getD x4.toNat []) 0 [.i x3])).set x4.toNat (splice ((x5.set x4.toNat (splice (x5.getD x4.toNat []) 0 [.i x3])).getD x4.toNat []) 1 [.i (IntKind.i64.wrap (x3 + 1))])).set x4.toNat (splice (((x5.set x4.toNat (splice (x5.getD x4.toNat []) 0 [.i x3])).set x4.toNat (splice ((x5.set x4.toNat (splice (x5.getD x4.toNat []) 0 [.i x3])).getD x4.toNat []) 1 [.i (IntKind.i64.wrap (x3 + 1))])).getD x4.toNat []) 2 [.i (IntKind.i64.wrap ((IntKind.i64.wrap (x3 + 1)) + 1))])).getD x4.toNat []) 3 [.i (IntKind.i64.wrap ((IntKind.i64.wrap ((IntKind.i64.wrap (x3 + 1)) + 1)) + 1))])).set x4.toNat (splice (((((x5.set x4.toNat (splice (x5.getD x4.toNat []) 0 [.i x3])).set x4.toNat (splice ((x5.set x4.toNat (splice (x5.getD x4.toNat []) 0 [.i x3])).getD x4.toNat []) 1 [.i (IntKind.i64.wrap (x3 + 1))])).set x4.toNat (splice (((x5.set x4.toNat (splice (x5.getD x4.toNat []) 0 [.i x3])).set x4.toNat (splice ((x5.set x4.toNat (splice (x5.getD x4.toNat []) 0 [.i x3])).getD x4.toNat []) 1 [.i (IntKind.i64.wrap (x3 + 1))])).getD x4.toNat []) 2 [.i (IntKind.i64.wrap ((IntKind.i64.wrap (x3 + 1)) + 1))])).set x4.toNat (splice ((((x5.set x4.toNat (splice (x5.getD x4.toNat []) 0 [.i x3])).set x4.toNat (splice ((x5.set x4.toNat (splice (x5.getD x4.toNat []) 0 [.i x3])).getD x4.toNat []) 1 [.i (IntKind.i64.wrap (x3 + 1))])).set x4.toNat (splice (((x5.set x4.toNat (splice (x5.getD x4.toNat []) 0 [.i x3])).set x4.toNat (splice ((x5.set x4.toNat (splice (x5.getD x4.toNat []) 0 [.i x3])).getD x4.toNat []) 1 [.i (IntKind.i64.wrap (x3 + 1))])).getD x4.toNat []) 2 [.i (IntKind.i64.wrap ((IntKind.i64.wrap (x3 + 1)) + 1))])).getD x4.toNat []) 3 [.i (IntKind.i64.wrap ((IntKind.i64.wrap ((IntKind.i64.wrap (x3 + 1)) + 1)) + 1))])).getD x4.toNat []) 4 [.i (IntKind.i64.wrap ((IntKind.i64.wrap ((IntKind.i64.wrap ((IntKind.i64.wrap (x3 + 1)) + 1)) + 1)) + 1))])).length : Int)) then (bif decide (0 ≤ x4) && decide (x4 < ((((((x5.set x4.toNat (splice (x5.getD x4.toNat []) 0 [.i x3])).set x4.toNat (splice ((x5.set x4.toNat (splice (x5.getD x4.toNat []) 0 [.i x3])).getD x4.toNat []) 1 [.i (IntKind.i64.wrap (x3 + 1))])).set x4.toNat (splice (((x5.set x4.toNat (splice (x5.getD x4.toNat []) 0 [.i x3])).set x4.toNat (splice ((x5.set x4.toNat (splice (x5.getD x4.toNat []) 0 [.i x3])).getD x4.toNat []) 1 [.i (IntKind.i64.wrap (x3 + 1))])).getD x4.toNat []) 2 [.i (IntKind.i64.wrap ((IntKind.i64.wrap (x3 + 1)) + 1))])).set x4.toNat (splice ((((x5.set x4.toNat (splice (x5.getD x4.toNat []) 0 [.i x3])).set x4.toNat (splice ((x5.set x4.toNat (splice (x5.getD x4.toNat []) 0 [.i x3])).getD x4.toNat []) 1 [.i (IntKind.i64.wrap (x3 + 1))])).set x4.toNat (splice (((x5.set x4.toNat (splice (x5.getD x4.toNat []) 0 [.i x3])).set x4.toNat (splice ((x5.set x4.toNat (splice (x5.getD x4.toNat []) 0 [.i x3])).getD x4.toNat []) 1 [.i (IntKind.i64.wrap (x3 + 1))])).getD x4.toNat []) 2 [.i (IntKind.i64.wrap ((IntKind.i64.wrap (x3 + 1)) + 1))])).getD x4.toNat []) 3 [.i (IntKind.i64.wrap ((IntKind.i64.wrap ((IntKind.i64.wrap (x3 + 1)) + 1)) + 1))])).set x4.toNat (splice (((((x5.set x4.toNat (splice (x5.getD x4.toNat []) 0 [.i x3])).set x4.toNat (splice ((x5.set x4.toNat (splice (x5.getD x4.toNat []) 0 [.i x3])).getD x4.toNat []) 1 [.i (IntKind.i64.wrap (x3 + 1))])).set x4.toNat (splice (((x5.set x4.toNat (splice (x5.getD x4.toNat []) 0 [.i x3])).set x4.toNat (splice ((x5.set x4.toNat (splice (x5.getD x4.toNat []) 0 [.i x3])).getD x4.toNat []) 1 [.i (IntKind.i64.wrap (x3 + 1))])).getD x4.toNat []) 2 [.i (IntKind.i64.wrap ((IntKind.i64.wrap (x3 + 1)) + 1))])).set x4.toNat (splice ((((x5.set x4.toNat (splice (x5.getD x4.toNat []) 0 [.i x3])).set x4.toNat (splice ((x5.set x4.toNat (splice (x5.getD x4.toNat []) 0 [.i x3])).getD x4.toNat []) 1 [.i (IntKind.i64.wrap (x3 + 1))])).set x4.toNat (splice (((x5.set x4.toNat (splice (x5.getD x4.toNat []) 0 [.i x3])).set x4.toNat (splice ((x5.set x4.toNat (splice (x5.getD x4.toNat []) 0 [.i x3])).getD x4.toNat []) 1 [.i (IntKind.i64.wrap (x3 + 1))])).getD x4.toNat []) 2 [.i (IntKind.i64.wrap ((IntKind.i64.wrap (x3 + 1)) + 1))])).getD x4.toNat []) 3 [.i (IntKind.i64.wrap ((IntKind.i64.wrap ((IntKind.i64.wrap (x3 + 1)) + 1)) + 1))])).getD x4.toNat []) 4 [.i (IntKind.i64.wrap ((IntKind.i64.wrap ((IntKind.i64.wrap ((IntKind.i64.wrap (x3 + 1)) + 1)) + 1)) + 1))])).length : Int)) then (bif decide (x4.toNat = x4.toNat) then (laws_markIntS.g (IntKind.i64.wrap ((IntKind.i64.wrap ((IntKind.i64.wrap ((IntKind.i64.wrap ((IntKind.i64.wrap (x3 + 1)) + 1)) + 1)) + 1)) + 1)) ((((((((x5.set x4.toNat (splice (x5.getD x4.toNat []) 0 [.i x3])).set x4.toNat (splice ((x5.set x4.toNat (splice (x5.getD x4.toNat []) 0 [.i x3])).getD x4.toNat []) 1 [.i (IntKind.i64.wrap (x3 + 1))])).set x4.toNat (splice (((x5.set x4.toNat (splice (x5.getD x4.toNat []) 0 [.i x3])).set x4.toNat (splice ((x5.set x4.toNat (splice (x5.getD x4.toNat []) 0 [.i x3])).getD x4.toNat []) 1 [.i (IntKind.i64.wrap (x3 + 1))])).getD x4.toNat []) 2 [.i (IntKind.i64.wrap ((IntKind.i64.wrap (x3 + 1)) + 1))])).set x4.toNat (splice ((((x5.set x4.toNat (splice (x5.getD x4.toNat []) 0 [.i x3])).set x4.toNat (splice ((x5.set x4.toNat (splice (x5.getD x4.toNat []) 0 [.i x3])).getD x4.toNat []) 1 [.i (IntKind.i64.wrap (x3 + 1))])).set x4.toNat (splice (((x5.set x4.toNat (splice (x5.getD x4.toNat []) 0 [.i x3])).set x4.toNat (splice ((x5.set x4.toNat (splice (x5.getD x4.toNat []) 0 [.i x3])).getD x4.toNat []) 1 [.i (IntKind.i64.wrap (x3 + 1))])).getD x4.toNat []) 2 [.i (IntKind.i64.wrap ((IntKind.i64.wrap (x3 + 1)) + 1))])).getD x4.toNat []) 3 [.i (IntKind.i64.wrap ((IntKind.i64.wrap ((IntKind.i64.wrap (x3 + 1)) + 1)) + 1))])).set x4.toNat (splice (((((x5.set x4.toNat (splice (x5.getD x4.toNat []) 0 [.i x3])).set x4.toNat (splice ((x5.set x4.toNat (splice (x5.getD x4.toNat []) 0 [.i x3])).getD x4.toNat []) 1 [.i (IntKind.i64.wrap (x3 + 1))])).set x4.toNat (splice (((x5.set x4.toNat (splice (x5.getD x4.toNat []) 0 [.i x3])).set x4.toNat (splice ((x5.set x4.toNat (splice (x5.getD x4.toNat []) 0 [.i x3])).getD x4.toNat []) 1 [.i (IntKind.i64.wrap (x3 + 1))])).getD x4.toNat []) 2 [.i (IntKind.i64.wrap ((IntKind.i64.wrap (x3 + 1)) + 1))])).set x4.toNat (splice ((((x5.set x4.toNat (splice (x5.getD x4.toNat []) 0 [.i x3])).set x4.toNat (splice ((x5.set x4.toNat (splice (x5.getD x4.toNat []) 0 [.i x3])).getD x4.toNat []) 1 [.i (IntKind.i64.wrap (x3 + 1))])).set x4.toNat (splice (((x5.set x4.toNat (splice (x5.getD x4.toNat []) 0 [.i x3])).set x4.toNat (splice ((x5.set x4.toNat (splice (x5.getD x4.toNat []) 0 [.i x3])).getD x4.toNat []) 1 [.i (IntKind.i64.wrap (x3 + 1))])).getD x4.toNat []) 2 [.i (IntKind.i64.wrap ((IntKind.i64.wrap (x3 + 1)) + 1))])).getD x4.toNat []) 3 [.i (IntKind.i64.wrap ((IntKind.i64.wrap ((IntKind.i64.wrap (x3 + 1)) + 1)) + 1))])).getD x4.toNat []) 4 [.i (IntKind.i64.wrap ((IntKind.i64.wrap ((IntKind.i64.wrap ((IntKind.i64.wrap (x3 + 1)) + 1)) + 1)) + 1))])).getD x4.toNat []).getD 5 (.i 0)).toL) fun r6 r7 =>
  rec r6 (IntKind.i64.wrap (x4 + 1)) ((((((x5.set x4.toNat (splice (x5.getD x4.toNat []) 0 [.i x3])).set x4.toNat (splice ((x5.set x4.toNat (splice (x5.getD x4.toNat []) 0 [.i x3])).getD x4.toNat []) 1 [.i (IntKind.i64.wrap (x3 + 1))])).set x4.toNat (splice (((x5.set x4.toNat (splice (x5.getD x4.toNat []) 0 [.i x3])).set x4.toNat (splice ((x5.set x4.toNat (splice (x5.getD x4.toNat []) 0 [.i x3])).getD x4.toNat []) 1 [.i (IntKind.i64.wrap (x3 + 1))])).getD x4.toNat []) 2 [.i (IntKind.i64.wrap ((IntKind.i64.wrap (x3 + 1)) + 1))])).set x4.toNat (splice ((((x5.set x4.toNat (splice (x5.getD x4.toNat []) 0 [.i x3])).set x4.toNat (splice ((x5.set x4.toNat (splice (x5.getD x4.toNat []) 0 [.i x3])).getD x4.toNat []) 1 [.i (IntKind.i64.wrap (x3 + 1))])).set x4.toNat (splice (((x5.set x4.toNat (splice (x5.getD x4.toNat []) 0 [.i x3])).set x4.toNat (splice ((x5.set x4.toNat (splice (x5.getD x4.toNat []) 0 [.i x3])).getD x4.toNat []) 1 [.i (IntKind.i64.wrap (x3 + 1))])).getD x4.toNat []) 2 [.i (IntKind.i64.wrap ((IntKind.i64.wrap (x3 + 1)) + 1))])).getD x4.toNat []) 3 [.i (IntKind.i64.wrap ((IntKind.i64.wrap ((IntKind.i64.wrap (x3 + 1)) + 1)) + 1))])).set x4.toNat (splice (((((x5.set x4.toNat (splice (x5.getD x4.toNat []) 0 [.i x3])).set x4.toNat (splice ((x5.set x4.toNat (splice (x5.getD x4.toNat []) 0 [.i x3])).getD x4.toNat []) 1 [.i (IntKind.i64.wrap (x3 + 1))])).set x4.toNat (splice (((x5.set x4.toNat (splice (x5.getD x4.toNat []) 0 [.i x3])).set x4.toNat (splice ((x5.set x4.toNat (splice (x5.getD x4.toNat []) 0 [.i x3])).getD x4.toNat []) 1 [.i (IntKind.i64.wrap (x3 + 1))])).getD x4.toNat []) 2 [.i (IntKind.i64.wrap ((IntKind.i64.wrap (x3 + 1)) + 1))])).set x4.toNat (splice ((((x5.set x4.toNat (splice (x5.getD x4.toNat []) 0 [.i x3])).set x4.toNat (splice ((x5.set x4.toNat (splice (x5.getD x4.toNat []) 0 [.i x3])).getD x4.toNat []) 1 [.i (IntKind.i64.wrap (x3 + 1))])).set x4.toNat (splice (((x5.set x4.toNat (splice (x5.getD x4.toNat []) 0 [.i x3])).set x4.toNat (splice ((x5.set x4.toNat (splice (x5.getD x4.toNat []) 0 [.i x3])).getD x4.toNat []) 1 [.i (IntKind.i64.wrap (x3 + 1))])).getD x4.toNat []) 2 [.i (IntKind.i64.wrap ((IntKind.i64.wrap (x3 + 1)) + 1))])).getD x4.toNat []) 3 [.i (IntKind.i64.wrap ((IntKind.i64.wrap ((IntKind.i64.wrap (x3 + 1)) + 1)) + 1))])).getD x4.toNat []) 4 [.i (IntKind.i64.wrap ((IntKind.i64.wrap ((IntKind.i64.wrap ((IntKind.i64.wrap (x3 + 1)) + 1)) + 1)) + 1))])).set x4.toNat (splice ((((((x5.set x4.toNat (splice (x5.getD x4.toNat []) 0 [.i x3])).set x4.toNat (splice ((x5.set x4.toNat (splice (x5.getD x4.toNat []) 0 [.i x3])).getD x4.toNat []) 1 [.i (IntKind.i64.wrap (x3 + 1))])).set x4.toNat (splice (((x5.set x4.toNat (splice (x5.getD x4.toNat []) 0 [.i x3])).set x4.toNat (splice ((x5.set x4.toNat (splice (x5.getD x4.toNat []) 0 [.i x3])).getD x4.toNat []) 1 [.i (IntKind.i64.wrap (x3 + 1))])).getD x4.toNat []) 2 [.i (IntKind.i64.wrap ((IntKind.i64.wrap (x3 + 1)) + 1))])).set x4.toNat (splice ((((x5.set x4.toNat (splice (x5.getD x4.toNat []) 0 [.i x3])).set x4.toNat (splice ((x5.set x4.toNat (splice (x5.getD x4.toNat []) 0 [.i x3])).getD x4.toNat []) 1 [.i (IntKind.i64.wrap (x3 + 1))])).set x4.toNat (splice (((x5.set x4.toNat (splice (x5.getD x4.toNat []) 0 [.i x3])).set x4.toNat (splice ((x5.set x4.toNat (splice (x5.getD x4.toNat []) 0 [.i x3])).getD x4.toNat []) 1 [.i (IntKind.i64.wrap (x3 + 1))])).getD x4.toNat []) 2 [.i (IntKind.i64.wrap ((IntKind.i64.wrap (x3 + 1)) + 1))])).getD x4.toNat []) 3 [.i (IntKind.i64.wrap ((IntKind.i64.wrap ((IntKind.i64.wrap (x3 + 1)) + 1)) + 1))])).set x4.toNat (splice (((((x5.set x4.toNat (splice (x5.getD x4.toNat []) 0 [.i x3])).set x4.toNat (splice ((x5.set x4.toNat (splice (x5.getD x4.toNat []) 0 [.i x3])).getD x4.toNat []) 1 [.i (IntKind.i64.wrap (x3 + 1))])).set x4.toNat (splice (((x5.set x4.toNat (splice (x5.getD x4.toNat []) 0 [.i x3])).set x4.toNat (splice ((x5.set x4.toNat (splice (x5.getD x4.toNat []) 0 [.i x3])).getD x4.toNat []) 1 [.i (IntKind.i64.wrap (x3 + 1))])).getD x4.toNat []) 2 [.i (IntKind.i64.wrap ((IntKind.i64.wrap (x3 + 1)) + 1))])).set x4.toNat (splice ((((x5.set x4.toNat (splice (x5.getD x4.toNat []) 0 [.i x3])).set x4.toNat (splice ((x5.set x4.toNat (splice (x5.getD x4.toNat []) 0 [.i x3])).getD x4.toNat []) 1 [.i (IntKind.i64.wrap (x3 + 1))])).set x4.toNat (splice (((x5.set x4.toNat (splice (x5.getD x4.toNat []) 0 [.i x3])).set x4.toNat (splice ((x5.set x4.toNat (splice (x5.getD x4.toNat []) 0 [.i x3])).getD x4.toNat []) 1 [.i (IntKind.i64.wrap (x3 + 1))])).getD x4.toNat []) 2 [.i (IntKind.i64.wrap ((IntKind.i64.wrap (x3 + 1)) + 1))])).getD x4.toNat []) 3 [.i (IntKind.i64.wrap ((IntKind.i64.wrap ((IntKind.i64.wrap (x3 + 1)) + 1)) + 1))])).getD x4.toNat []) 4 [.i (IntKind.i64.wrap ((IntKind.i64.wrap ((IntKind.i64.wrap ((IntKind.i64.wrap (x3 + 1)) + 1)) + 1)) + 1))])).getD x4.toNat []) 5 [.l r7])))
  else none)
  else none)
  else none)
  else none)
  else none)
  else none)
  else none)
  else none)
 else k x3 x5
noncomputable def l0  (k : Int → List (List Cl) → Option Res) : Nat → Int → Int → List (List Cl) → Option Res
 | 0, _, _, _ => none
 | n + 1, x3, x4, x5 => l0s (fun x3 x4 x5 => l0 k n x3 x4 x5) k x3 x4 x5
noncomputable def o0 (y1 : Int) (y2 : List (List Cl)) : St := ⟨mkT 58 [(1, one (.int .i64 y1))], [(0, ⟨[.int .i64, .int .i64, .int .i64, .int .i64, .int .i64, .ints .i64], .cells y2, true, 0, none⟩)], []⟩
noncomputable def p0 (K : Res → Option Res) : List Lf → (St → Option Res) → Option Res
 | [.i x3, .i x4, .q (.cells x5)], k => l0 (fun y1 y2 => k (o0 y1 y2)) fuel x3 x4 x5
 | _, _ => none
noncomputable def os : List (FuncId × St × (List Lf → (Res → Option Res) → Option Res)) := [laws_markIntS.con]
noncomputable def X (K : Res → Option Res) : Ctx := { Γ := Γ0, orc := orcOf os, io := [(34, [⟨true, 0, 1⟩, ⟨false, 0, 1⟩])], share := [], opn := [(14, 0, 5, 5)], shr := [], bun := [], cut := [], own := [], cin := [(0, ⟨[0, 1, 5], [(0, 0)], [], [], [], []⟩)], cout := [(0, ⟨[1], [(0, 0)], [], [], [], []⟩)], lp := lpOf [(0, s0 0 0 [], p0 K)], kl := Env.kl, nk := false, eqs := eqs0, byt := byt0, fin := finK fi K }
noncomputable def b (a1 : Int) (a2 : List (List Cl)) (R : Int → List (List Cl) → Option Res) : Option Res :=
 l0 (fun y8 y9 =>
 R y8 y9) fuel a1 0 a2
theorem gx : ∃ x : Int → List (List Cl) → (Int → List (List Cl) → Option Res) → Option Res, x = b := ⟨_, rfl⟩
noncomputable def g : Int → List (List Cl) → (Int → List (List Cl) → Option Res) → Option Res := Classical.choose gx
theorem e : g = b := Classical.choose_spec gx
noncomputable def run : List Lf → (Res → Option Res) → Option Res
 | [.i a1, .q (.cells a2)], K => g a1 a2 (fun r1 r2 => K (m r1 r2))
 | _, _ => none
noncomputable def a (a1 : Int) (a2 : List (List Cl)) : St := argSt [one (.ow 0), one (.int .i64 a1)] [⟨[.int .i64, .int .i64, .int .i64, .int .i64, .int .i64, .ints .i64], .cells a2, true, 0, none⟩] []
noncomputable def con : FuncId × St × (List Lf → (Res → Option Res) → Option Res) := (13, a 0 [], run)
theorem cx (K : Res → Option Res) : CtxOk Go.Proofs.Try.prog Γ0 byt0 eqs0 (X K) os := ⟨rfl, rfl, rfl, (fun p hp => by
 rcases List.mem_cons.1 hp with rfl | hp
 ·exact laws_markIntS.ok
 cases hp), rfl, rfl, rfl⟩
theorem t0 (K : Res → Option Res) (k : St → Option Res) (it : St → (St → Option Res) → Option Res) (x3 x4 : Int) (x5 : List (List Cl)) : iterS (X K) 0 b0 it (s0 x3 x4 x5) k = l0s (fun x3 x4 x5 => it (s0 x3 x4 x5) k) (fun y1 y2 => k (o0 y1 y2)) x3 x4 x5 := by kernel_rfl
theorem i0 (K : Res → Option Res) (k : St → Option Res)  : ∀ (n : Nat) (x3 x4 : Int) (x5 : List (List Cl)), iter (X K) 0 b0 n (s0 x3 x4 x5) k = l0 (fun y1 y2 => k (o0 y1 y2)) n x3 x4 x5
 | 0, _, _, _ => rfl
 | n + 1, x3, x4, x5 => by
  rw [iter_succ, t0, show (fun x3 x4 x5 => iter (X K) 0 b0 n (s0 x3 x4 x5) k) = (fun x3 x4 x5 => l0 (fun y1 y2 => k (o0 y1 y2)) n x3 x4 x5) from funext fun x3 => funext fun x4 => funext fun x5 => i0 K k n x3 x4 x5]; rfl
theorem v0 {K : Res → Option Res} {l : List Lf} {k : St → Option Res} {r : Res} (h : p0 K l k = some r) : ∃ x3 x4 x5, l = [.i x3, .i x4, .q (.cells x5)] ∧ l0 (fun y1 y2 => k (o0 y1 y2)) fuel x3 x4 x5 = some r := by
 unfold p0 at h; split at h
 ·exact ⟨_, _, _, rfl, h⟩
 ·cases h
theorem w0 (K : Res → Option Res) : LpSound Go.Proofs.Try.prog (X K) 0 b0 := lp_ok ((cx K).ok laid) (by rw [show loopsOf b0 = [] from by kernel_rfl]; intro p hp; cases hp) rfl fun p hp hid => by
 rcases List.mem_cons.1 hp with rfl | hp
 ·intro st k r h1 h2; obtain ⟨x3, x4, x5, e, h⟩ := v0 (K := K) h2; have := St.like_eq (y := s0 x3 x4 x5) h1 (by kernel_rfl) e; subst this; exact ⟨fuel, (i0 K k fuel x3 x4 x5).trans h⟩
 cases hp
theorem tie (K : Res → Option Res) (a1 : Int) (a2 : List (List Cl)) : exec (X K) c (entry 58 [one (.ow 0), one (.int .i64 a1)] [⟨[.int .i64, .int .i64, .int .i64, .int .i64, .int .i64, .ints .i64], .cells a2, true, 0, none⟩] []) (endK (X K)) = g a1 a2 (fun r1 r2 => K (m r1 r2)) := Eq.trans (b := b a1 a2 (fun r1 r2 => K (m r1 r2))) (by kernel_rfl) (by rw [e])
theorem runv {l : List Lf} {K : Res → Option Res} {r : Res} (h : run l K = some r) : ∃ a1 a2, l = [.i a1, .q (.cells a2)] ∧ g a1 a2 (fun r1 r2 => K (m r1 r2)) = some r := by
 unfold run at h; split at h
 ·exact ⟨_, _, rfl, h⟩
 ·cases h
theorem ok : Con Go.Proofs.Try.prog con := con_of (fn := Go.Proofs.Try.f13) (c := c) (Fi := fi) (X := X) (fun_of laid (by kernel_rfl) (by kernel_rfl) (by kernel_rfl) rfl (by kernel_rfl) (by kernel_rfl) cx (fun _ => rfl) (fun _ => rfl) (fun K => by
 rw [show loopsOf c = [(0, b0)] from by kernel_rfl]; intro p hp
 rcases List.mem_cons.1 hp with rfl | hp
 ·exact w0 K
 cases hp)) fun xs rows boxes K r hl hr => by
 obtain ⟨a1, a2, e, h⟩ := runv hr
 have := St.like_eq (y := a a1 a2) hl (by kernel_rfl) e
 obtain ⟨rfl, rfl, rfl⟩ := argSt_inj this
 exact (tie K a1 a2).trans h
end laws_markInstrS
namespace laws_markSpanS
noncomputable def c : Code := bodyOf Go.Proofs.Try.f14
noncomputable def fi : Fin := ⟨Γ0, [(.tmp 4, 3)], [[1]], [true], [], []⟩
noncomputable def m (r1 : Int) (r2 : List (List Cl)) : Res := ⟨[⟨false, [.int .i64 r1]⟩], [some ⟨[.int .i64, .int .i64], .cells r2, true, 0, none⟩], [], [], []⟩
noncomputable def b0 : Code := codeAt c [1, 0, 1, 0, 0]
noncomputable def s0 (x3 x4 : Int) (x5 : List (List Cl)) : St := ⟨mkT 27 [(0, one (.ow 0)), (1, one (.int .i64 x3)), (5, one (.int .i64 x4))], [(0, ⟨[.int .i64, .int .i64], .cells x5, true, 0, none⟩)], []⟩
noncomputable def l0s  (rec : Int → Int → List (List Cl) → Option Res) (k : Int → List (List Cl) → Option Res) (x3 x4 : Int) (x5 : List (List Cl)) : Option Res :=
 bif decide (x4 < (x5.length : Int)) then (bif decide (0 ≤ x4) && decide (x4 < (x5.length : Int)) then (bif decide (0 ≤ x4) && decide (x4 < ((x5.set x4.toNat (splice (x5.getD x4.toNat []) 0 [.i x3])).length : Int)) then rec (IntKind.i64.wrap ((IntKind.i64.wrap (x3 + 1)) + 1)) (IntKind.i64.wrap (x4 + 1)) ((x5.set x4.toNat (splice (x5.getD x4.toNat []) 0 [.i x3])).set x4.toNat (splice ((x5.set x4.toNat (splice (x5.getD x4.toNat []) 0 [.i x3])).getD x4.toNat []) 1 [.i (IntKind.i64.wrap (x3 + 1))]))
  else none)
  else none)
 else k x3 x5
noncomputable def l0  (k : Int → List (List Cl) → Option Res) : Nat → Int → Int → List (List Cl) → Option Res
 | 0, _, _, _ => none
 | n + 1, x3, x4, x5 => l0s (fun x3 x4 x5 => l0 k n x3 x4 x5) k x3 x4 x5
noncomputable def o0 (y1 : Int) (y2 : List (List Cl)) : St := ⟨mkT 27 [(1, one (.int .i64 y1))], [(0, ⟨[.int .i64, .int .i64], .cells y2, true, 0, none⟩)], []⟩
noncomputable def p0 (K : Res → Option Res) : List Lf → (St → Option Res) → Option Res
 | [.i x3, .i x4, .q (.cells x5)], k => l0 (fun y1 y2 => k (o0 y1 y2)) fuel x3 x4 x5
 | _, _ => none
noncomputable def os : List (FuncId × St × (List Lf → (Res → Option Res) → Option Res)) := []
noncomputable def X (K : Res → Option Res) : Ctx := { Γ := Γ0, orc := orcOf os, io := [], share := [], opn := [], shr := [], bun := [], cut := [], own := [], cin := [(0, ⟨[0, 1, 5], [(0, 0)], [], [], [], []⟩)], cout := [(0, ⟨[1], [(0, 0)], [], [], [], []⟩)], lp := lpOf [(0, s0 0 0 [], p0 K)], kl := Env.kl, nk := true, eqs := eqs0, byt := byt0, fin := finK fi K }
noncomputable def b (a1 : Int) (a2 : List (List Cl)) (R : Int → List (List Cl) → Option Res) : Option Res :=
 l0 (fun y6 y7 =>
 R y6 y7) fuel a1 0 a2
theorem gx : ∃ x : Int → List (List Cl) → (Int → List (List Cl) → Option Res) → Option Res, x = b := ⟨_, rfl⟩
noncomputable def g : Int → List (List Cl) → (Int → List (List Cl) → Option Res) → Option Res := Classical.choose gx
theorem e : g = b := Classical.choose_spec gx
noncomputable def run : List Lf → (Res → Option Res) → Option Res
 | [.i a1, .q (.cells a2)], K => g a1 a2 (fun r1 r2 => K (m r1 r2))
 | _, _ => none
noncomputable def a (a1 : Int) (a2 : List (List Cl)) : St := argSt [one (.ow 0), one (.int .i64 a1)] [⟨[.int .i64, .int .i64], .cells a2, true, 0, none⟩] []
noncomputable def con : FuncId × St × (List Lf → (Res → Option Res) → Option Res) := (14, a 0 [], run)
theorem cx (K : Res → Option Res) : CtxOk Go.Proofs.Try.prog Γ0 byt0 eqs0 (X K) os := ⟨rfl, rfl, rfl, (fun p hp => by
 cases hp), rfl, rfl, rfl⟩
theorem t0 (K : Res → Option Res) (k : St → Option Res) (it : St → (St → Option Res) → Option Res) (x3 x4 : Int) (x5 : List (List Cl)) : iterS (X K) 0 b0 it (s0 x3 x4 x5) k = l0s (fun x3 x4 x5 => it (s0 x3 x4 x5) k) (fun y1 y2 => k (o0 y1 y2)) x3 x4 x5 := by kernel_rfl
theorem i0 (K : Res → Option Res) (k : St → Option Res)  : ∀ (n : Nat) (x3 x4 : Int) (x5 : List (List Cl)), iter (X K) 0 b0 n (s0 x3 x4 x5) k = l0 (fun y1 y2 => k (o0 y1 y2)) n x3 x4 x5
 | 0, _, _, _ => rfl
 | n + 1, x3, x4, x5 => by
  rw [iter_succ, t0, show (fun x3 x4 x5 => iter (X K) 0 b0 n (s0 x3 x4 x5) k) = (fun x3 x4 x5 => l0 (fun y1 y2 => k (o0 y1 y2)) n x3 x4 x5) from funext fun x3 => funext fun x4 => funext fun x5 => i0 K k n x3 x4 x5]; rfl
theorem v0 {K : Res → Option Res} {l : List Lf} {k : St → Option Res} {r : Res} (h : p0 K l k = some r) : ∃ x3 x4 x5, l = [.i x3, .i x4, .q (.cells x5)] ∧ l0 (fun y1 y2 => k (o0 y1 y2)) fuel x3 x4 x5 = some r := by
 unfold p0 at h; split at h
 ·exact ⟨_, _, _, rfl, h⟩
 ·cases h
theorem w0 (K : Res → Option Res) : LpSound Go.Proofs.Try.prog (X K) 0 b0 := lp_ok ((cx K).ok laid) (by rw [show loopsOf b0 = [] from by kernel_rfl]; intro p hp; cases hp) rfl fun p hp hid => by
 rcases List.mem_cons.1 hp with rfl | hp
 ·intro st k r h1 h2; obtain ⟨x3, x4, x5, e, h⟩ := v0 (K := K) h2; have := St.like_eq (y := s0 x3 x4 x5) h1 (by kernel_rfl) e; subst this; exact ⟨fuel, (i0 K k fuel x3 x4 x5).trans h⟩
 cases hp
theorem tie (K : Res → Option Res) (a1 : Int) (a2 : List (List Cl)) : exec (X K) c (entry 27 [one (.ow 0), one (.int .i64 a1)] [⟨[.int .i64, .int .i64], .cells a2, true, 0, none⟩] []) (endK (X K)) = g a1 a2 (fun r1 r2 => K (m r1 r2)) := Eq.trans (b := b a1 a2 (fun r1 r2 => K (m r1 r2))) (by kernel_rfl) (by rw [e])
theorem runv {l : List Lf} {K : Res → Option Res} {r : Res} (h : run l K = some r) : ∃ a1 a2, l = [.i a1, .q (.cells a2)] ∧ g a1 a2 (fun r1 r2 => K (m r1 r2)) = some r := by
 unfold run at h; split at h
 ·exact ⟨_, _, rfl, h⟩
 ·cases h
theorem ok : Con Go.Proofs.Try.prog con := con_of (fn := Go.Proofs.Try.f14) (c := c) (Fi := fi) (X := X) (fun_of laid (by kernel_rfl) (by kernel_rfl) (by kernel_rfl) rfl (by kernel_rfl) (by kernel_rfl) cx (fun _ => rfl) (fun _ => rfl) (fun K => by
 rw [show loopsOf c = [(0, b0)] from by kernel_rfl]; intro p hp
 rcases List.mem_cons.1 hp with rfl | hp
 ·exact w0 K
 cases hp)) fun xs rows boxes K r hl hr => by
 obtain ⟨a1, a2, e, h⟩ := runv hr
 have := St.like_eq (y := a a1 a2) hl (by kernel_rfl) e
 obtain ⟨rfl, rfl, rfl⟩ := argSt_inj this
 exact (tie K a1 a2).trans h
end laws_markSpanS
namespace laws_heldSpanS
noncomputable def c : Code := bodyOf Go.Proofs.Try.f15
noncomputable def fi : Fin := ⟨Γ0, [(.tmp 4, 3)], [[1]], [], [], []⟩
noncomputable def m (r1 : Int) : Res := ⟨[⟨false, [.int .i64 r1]⟩], [], [], [], []⟩
noncomputable def b0 : Code := codeAt c [1, 0, 1, 0, 0]
noncomputable def s0 (x3 : List (List Cl)) (x4 x5 : Int) : St := ⟨mkT 31 [(0, one (.tr 0 1 [.int .i64, .int .i64] (.cells x3))), (1, one (.int .i64 x4)), (5, one (.int .i64 x5))], [], []⟩
noncomputable def l0s (x3 : List (List Cl)) (rec : Int → Int → Option Res) (k : Int → Option Res) (R : Int → Option Res) (x4 x5 : Int) : Option Res :=
 bif decide (x5 < (x3.length : Int)) then (bif decide (0 ≤ x5) && decide (x5 < (x3.length : Int)) then (bif (((x3.getD x5.toNat []).getD 0 (.i 0)).toI != x4) then R (-1)
  else bif decide (0 ≤ x5) && decide (x5 < (x3.length : Int)) then (bif (((x3.getD x5.toNat []).getD 1 (.i 0)).toI != IntKind.i64.wrap (x4 + 1)) then R (-1)
   else rec (IntKind.i64.wrap ((IntKind.i64.wrap (x4 + 1)) + 1)) (IntKind.i64.wrap (x5 + 1)))
  else none)
  else none)
 else k x4
noncomputable def l0 (x3 : List (List Cl)) (k : Int → Option Res) (R : Int → Option Res) : Nat → Int → Int → Option Res
 | 0, _, _ => none
 | n + 1, x4, x5 => l0s x3 (fun x4 x5 => l0 x3 k R n x4 x5) k R x4 x5
noncomputable def o0 (x3 : List (List Cl)) (y1 : Int) : St := ⟨mkT 31 [(1, one (.int .i64 y1))], [], []⟩
noncomputable def p0 (K : Res → Option Res) : List Lf → (St → Option Res) → Option Res
 | [.q (.cells x3), .i x4, .i x5], k => l0 x3 (fun y1 => k (o0 x3 y1)) (fun r1 => K (m r1)) fuel x4 x5
 | _, _ => none
noncomputable def os : List (FuncId × St × (List Lf → (Res → Option Res) → Option Res)) := []
noncomputable def X (K : Res → Option Res) : Ctx := { Γ := Γ0, orc := orcOf os, io := [], share := [], opn := [], shr := [], bun := [], cut := [], own := [], cin := [(0, ⟨[0, 1, 5], [], [], [], [], []⟩)], cout := [(0, ⟨[1], [], [], [], [], []⟩)], lp := lpOf [(0, s0 [] 0 0, p0 K)], kl := Env.kl, nk := true, eqs := eqs0, byt := byt0, fin := finK fi K }
noncomputable def b (a1 : List (List Cl)) (a2 : Int) (R : Int → Option Res) : Option Res :=
 l0 a1 (fun y6 =>
 R y6) R fuel a2 0
theorem gx : ∃ x : List (List Cl) → Int → (Int → Option Res) → Option Res, x = b := ⟨_, rfl⟩
noncomputable def g : List (List Cl) → Int → (Int → Option Res) → Option Res := Classical.choose gx
theorem e : g = b := Classical.choose_spec gx
noncomputable def run : List Lf → (Res → Option Res) → Option Res
 | [.q (.cells a1), .i a2], K => g a1 a2 (fun r1 => K (m r1))
 | _, _ => none
noncomputable def a (a1 : List (List Cl)) (a2 : Int) : St := argSt [one (.tr 0 1 [.int .i64, .int .i64] (.cells a1)), one (.int .i64 a2)] [] []
noncomputable def con : FuncId × St × (List Lf → (Res → Option Res) → Option Res) := (15, a [] 0, run)
theorem cx (K : Res → Option Res) : CtxOk Go.Proofs.Try.prog Γ0 byt0 eqs0 (X K) os := ⟨rfl, rfl, rfl, (fun p hp => by
 cases hp), rfl, rfl, rfl⟩
theorem t0 (K : Res → Option Res) (k : St → Option Res) (it : St → (St → Option Res) → Option Res) (x3 : List (List Cl)) (x4 x5 : Int) : iterS (X K) 0 b0 it (s0 x3 x4 x5) k = l0s x3 (fun x4 x5 => it (s0 x3 x4 x5) k) (fun y1 => k (o0 x3 y1)) (fun r1 => K (m r1)) x4 x5 := by kernel_rfl
theorem i0 (K : Res → Option Res) (k : St → Option Res) (x3 : List (List Cl)) : ∀ (n : Nat) (x4 x5 : Int), iter (X K) 0 b0 n (s0 x3 x4 x5) k = l0 x3 (fun y1 => k (o0 x3 y1)) (fun r1 => K (m r1)) n x4 x5
 | 0, _, _ => rfl
 | n + 1, x4, x5 => by
  rw [iter_succ, t0, show (fun x4 x5 => iter (X K) 0 b0 n (s0 x3 x4 x5) k) = (fun x4 x5 => l0 x3 (fun y1 => k (o0 x3 y1)) (fun r1 => K (m r1)) n x4 x5) from funext fun x4 => funext fun x5 => i0 K k x3 n x4 x5]; rfl
theorem v0 {K : Res → Option Res} {l : List Lf} {k : St → Option Res} {r : Res} (h : p0 K l k = some r) : ∃ x3 x4 x5, l = [.q (.cells x3), .i x4, .i x5] ∧ l0 x3 (fun y1 => k (o0 x3 y1)) (fun r1 => K (m r1)) fuel x4 x5 = some r := by
 unfold p0 at h; split at h
 ·exact ⟨_, _, _, rfl, h⟩
 ·cases h
theorem w0 (K : Res → Option Res) : LpSound Go.Proofs.Try.prog (X K) 0 b0 := lp_ok ((cx K).ok laid) (by rw [show loopsOf b0 = [] from by kernel_rfl]; intro p hp; cases hp) rfl fun p hp hid => by
 rcases List.mem_cons.1 hp with rfl | hp
 ·intro st k r h1 h2; obtain ⟨x3, x4, x5, e, h⟩ := v0 (K := K) h2; have := St.like_eq (y := s0 x3 x4 x5) h1 (by kernel_rfl) e; subst this; exact ⟨fuel, (i0 K k x3 fuel x4 x5).trans h⟩
 cases hp
theorem tie (K : Res → Option Res) (a1 : List (List Cl)) (a2 : Int) : exec (X K) c (entry 31 [one (.tr 0 1 [.int .i64, .int .i64] (.cells a1)), one (.int .i64 a2)] [] []) (endK (X K)) = g a1 a2 (fun r1 => K (m r1)) := Eq.trans (b := b a1 a2 (fun r1 => K (m r1))) (by kernel_rfl) (by rw [e])
theorem runv {l : List Lf} {K : Res → Option Res} {r : Res} (h : run l K = some r) : ∃ a1 a2, l = [.q (.cells a1), .i a2] ∧ g a1 a2 (fun r1 => K (m r1)) = some r := by
 unfold run at h; split at h
 ·exact ⟨_, _, rfl, h⟩
 ·cases h
theorem ok : Con Go.Proofs.Try.prog con := con_of (fn := Go.Proofs.Try.f15) (c := c) (Fi := fi) (X := X) (fun_of laid (by kernel_rfl) (by kernel_rfl) (by kernel_rfl) rfl (by kernel_rfl) (by kernel_rfl) cx (fun _ => rfl) (fun _ => rfl) (fun K => by
 rw [show loopsOf c = [(0, b0)] from by kernel_rfl]; intro p hp
 rcases List.mem_cons.1 hp with rfl | hp
 ·exact w0 K
 cases hp)) fun xs rows boxes K r hl hr => by
 obtain ⟨a1, a2, e, h⟩ := runv hr
 have := St.like_eq (y := a a1 a2) hl (by kernel_rfl) e
 obtain ⟨rfl, rfl, rfl⟩ := argSt_inj this
 exact (tie K a1 a2).trans h
end laws_heldSpanS
namespace laws_FnExactSpans
noncomputable def c : Code := bodyOf Go.Proofs.Try.f3
noncomputable def fi : Fin := ⟨Γ0, [(.tmp 2, 4)], [[1]], [], [], []⟩
noncomputable def m (r1 : Bool) : Res := ⟨[⟨false, [.bool r1]⟩], [], [], [], []⟩
noncomputable def os : List (FuncId × St × (List Lf → (Res → Option Res) → Option Res)) := [laws_szInstrS.con, laws_toInstrS.con, spec_Spans.con, impl_Spans.con, laws_eqSpanS.con, laws_eqInstrS.con, laws_markInstrS.con, laws_markSpanS.con, laws_heldSpanS.con]
noncomputable def X (K : Res → Option Res) : Ctx := { Γ := Γ0, orc := orcOf os, io := [(13, [⟨true, 0, 1⟩, ⟨false, 0, 1⟩]), (14, [⟨true, 0, 1⟩, ⟨false, 0, 1⟩])], share := [], opn := [], shr := [], bun := [], cut := [], own := [], cin := [], cout := [], lp := lpOf [], kl := Env.kl, nk := false, eqs := eqs0, byt := byt0, fin := finK fi K }
noncomputable def b (a1 : List (List Cl)) (R : Bool → Option Res) : Option Res :=
 laws_szInstrS.g a1 1048576 fun r2 =>
 bif decide (r2 < 0) then R true
 else (laws_toInstrS.g a1 fun r3 =>
 spec_Spans.g r3 fun r4 =>
 laws_toInstrS.g a1 fun r5 =>
 impl_Spans.g r5 fun r6 =>
 laws_eqSpanS.g r6 r4 fun r7 =>
 bif !r7 then R false
 else (laws_toInstrS.g a1 fun r8 =>
 laws_eqInstrS.g r5 r8 fun r9 =>
 bif !r9 then R false
 else (laws_markInstrS.g 1 r5 fun r10 r11 =>
 bif decide (r10 < 0) then R false
 else (laws_eqSpanS.g r6 r4 fun r12 =>
 bif !r12 then R false
 else (laws_markSpanS.g 1 r6 fun r13 r14 =>
 laws_heldSpanS.g r14 1 fun r15 =>
 bif decide (r15 < 0) then R false
 else bif (r15 != r13) then R false
 else (laws_toInstrS.g a1 fun r16 =>
 impl_Spans.g r16 fun r17 =>
 laws_eqSpanS.g r17 r4 fun r18 =>
 bif !r18 then R false
 else (laws_heldSpanS.g r14 1 fun r19 =>
 bif decide (r19 < 0) then R false
 else bif (r19 != r13) then R false
 else R true)))))))
theorem gx : ∃ x : List (List Cl) → (Bool → Option Res) → Option Res, x = b := ⟨_, rfl⟩
noncomputable def g : List (List Cl) → (Bool → Option Res) → Option Res := Classical.choose gx
theorem e : g = b := Classical.choose_spec gx
noncomputable def run : List Lf → (Res → Option Res) → Option Res
 | [.q (.cells a1)], K => g a1 (fun r1 => K (m r1))
 | _, _ => none
noncomputable def a (a1 : List (List Cl)) : St := argSt [one (.tr 2 2 [.int .i64, .int .i64, .int .i64, .int .i64, .int .i64, .ints .i64] (.cells a1))] [] []
noncomputable def con : FuncId × St × (List Lf → (Res → Option Res) → Option Res) := (3, a [], run)
theorem cx (K : Res → Option Res) : CtxOk Go.Proofs.Try.prog Γ0 byt0 eqs0 (X K) os := ⟨rfl, rfl, rfl, (fun p hp => by
 rcases List.mem_cons.1 hp with rfl | hp
 ·exact laws_szInstrS.ok
 rcases List.mem_cons.1 hp with rfl | hp
 ·exact laws_toInstrS.ok
 rcases List.mem_cons.1 hp with rfl | hp
 ·exact spec_Spans.ok
 rcases List.mem_cons.1 hp with rfl | hp
 ·exact impl_Spans.ok
 rcases List.mem_cons.1 hp with rfl | hp
 ·exact laws_eqSpanS.ok
 rcases List.mem_cons.1 hp with rfl | hp
 ·exact laws_eqInstrS.ok
 rcases List.mem_cons.1 hp with rfl | hp
 ·exact laws_markInstrS.ok
 rcases List.mem_cons.1 hp with rfl | hp
 ·exact laws_markSpanS.ok
 rcases List.mem_cons.1 hp with rfl | hp
 ·exact laws_heldSpanS.ok
 cases hp), rfl, rfl, rfl⟩
theorem tie (K : Res → Option Res) (a1 : List (List Cl)) : exec (X K) c (entry 69 [one (.tr 2 2 [.int .i64, .int .i64, .int .i64, .int .i64, .int .i64, .ints .i64] (.cells a1))] [] []) (endK (X K)) = g a1 (fun r1 => K (m r1)) := Eq.trans (b := b a1 (fun r1 => K (m r1))) (by kernel_rfl) (by rw [e])
theorem runv {l : List Lf} {K : Res → Option Res} {r : Res} (h : run l K = some r) : ∃ a1, l = [.q (.cells a1)] ∧ g a1 (fun r1 => K (m r1)) = some r := by
 unfold run at h; split at h
 ·exact ⟨_, rfl, h⟩
 ·cases h
theorem ok : Con Go.Proofs.Try.prog con := con_of (fn := Go.Proofs.Try.f3) (c := c) (Fi := fi) (X := X) (fun_of laid (by kernel_rfl) (by kernel_rfl) (by kernel_rfl) rfl (by kernel_rfl) (by kernel_rfl) cx (fun _ => rfl) (fun _ => rfl) (fun K => by
 rw [show loopsOf c = [] from by kernel_rfl]; intro p hp
 cases hp)) fun xs rows boxes K r hl hr => by
 obtain ⟨a1, e, h⟩ := runv hr
 have := St.like_eq (y := a a1) hl (by kernel_rfl) e
 obtain ⟨rfl, rfl, rfl⟩ := argSt_inj this
 exact (tie K a1).trans h
end laws_FnExactSpans
end Go.Tv.F
