/- The law's functions, printed by a program of ours, each with its contract. They hold without condition. -/
import Derived.Test.YtpinlhfddhlcpaaDoorProg
import Derived.Test.YtpinlhfddhlcpaaDoorShowShelf
import Derived.Test.YtpinlhfddhlcpaaDoorTvC
set_option linter.unusedVariables false
set_option linter.unusedSectionVars false
set_option linter.unusedSimpArgs false
set_option linter.unnecessarySimpa false
set_option maxRecDepth 100000
set_option autoImplicit false
namespace Go.Tv.F
open Go Go.Tv
instance envI : Env := envTab Go.Proofs.Tryd.prog
noncomputable def Γ0 : List (Nat × TI) := [(3, ⟨false, [.int .i64], []⟩),
 (4, ⟨false, [.bool], []⟩),
 (5, ⟨false, [.int .u8], []⟩),
 (9, ⟨false, [.str], []⟩),
 (23, ⟨false, [.fn], []⟩),
 (24, ⟨false, [.sl [.int .i64] 8], []⟩),
 (30, ⟨false, [.sl [.int .u8] 1], []⟩),
 (33, ⟨false, [.sl [.int .i64, .int .i64] 16], []⟩),
 (36, ⟨false, [.sl [.int .i64, .int .i64] 16], []⟩),
 (41, ⟨true, [.sl [.int .i64] 8, .sl [.int .i64] 8], [(0, 1, false), (1, 1, false)]⟩),
 (44, ⟨true, [.sl [.int .i64] 8, .sl [.int .i64] 8], [(0, 1, false), (1, 1, false)]⟩),
 (51, ⟨false, [.sl [.str] 16], []⟩),
 (56, ⟨true, [.int .i64, .int .i64], [(0, 1, false), (1, 1, false)]⟩),
 (58, ⟨true, [.int .i64, .int .i64], [(0, 1, false), (1, 1, false)]⟩),
 (62, ⟨false, [.sl [.ints .i64, .ints .i64] 48], []⟩),
 (65, ⟨false, [.ptr], []⟩),
 (81, ⟨false, [.fn], []⟩),
 (88, ⟨true, [.sl [.int .u8] 1, .int .i64, .int .i64], [(0, 1, false), (1, 1, false), (2, 1, false)]⟩)]
noncomputable def byt0 : List TypeId := [30]
noncomputable def eqs0 : List TypeId := [56, 58]
theorem laid : Laid Go.Proofs.Tryd.prog Γ0 byt0 eqs0 := ⟨by kernel_rfl, by kernel_rfl, by kernel_rfl, by kernel_rfl⟩
namespace spec_l1In
noncomputable def c : Code := bodyOf Go.Proofs.Tryd.f55
noncomputable def fi : Fin := ⟨Γ0, [(.tmp 6, 4)], [[1]], [], [], []⟩
noncomputable def m (r1 : Bool) : Res := ⟨[⟨false, [.bool r1]⟩], [], [], [], []⟩
noncomputable def os : List (FuncId × St × (List Lf → (Res → Option Res) → Option Res)) := []
noncomputable def X (K : Res → Option Res) : Ctx := { Γ := Γ0, orc := orcOf os, io := [], share := [], mvl := [], bun := [], cut := [], own := [], cin := [], cout := [], lp := lpOf [], kl := [], nk := true, eqs := eqs0, byt := byt0, fin := finK fi K }
noncomputable def b (a1 a2 a3 : Int) (R : Bool → Option Res) : Option Res :=
 bif decide (a2 ≤ a1) then R (decide (a1 ≤ a3))
 else R false
theorem gx : ∃ x : Int → Int → Int → (Bool → Option Res) → Option Res, x = b := ⟨_, rfl⟩
noncomputable def g : Int → Int → Int → (Bool → Option Res) → Option Res := Classical.choose gx
theorem e : g = b := Classical.choose_spec gx
noncomputable def run : List Lf → (Res → Option Res) → Option Res
 | [.i a1, .i a2, .i a3], K => g a1 a2 a3 (fun r1 => K (m r1))
 | _, _ => none
noncomputable def a (a1 a2 a3 : Int) : St := argSt [one (.int .i64 a1), one (.int .i64 a2), one (.int .i64 a3)] [] []
noncomputable def con : FuncId × St × (List Lf → (Res → Option Res) → Option Res) := (55, a 0 0 0, run)
theorem cx (K : Res → Option Res) : CtxOk Go.Proofs.Tryd.prog Γ0 byt0 eqs0 (X K) os := ⟨rfl, rfl, rfl, (fun p hp => by
 cases hp), rfl, rfl, rfl, rfl⟩
theorem tie (K : Res → Option Res) (a1 a2 a3 : Int) : exec (X K) c (entry 15 [one (.int .i64 a1), one (.int .i64 a2), one (.int .i64 a3)] [] []) (endK (X K)) = g a1 a2 a3 (fun r1 => K (m r1)) := Eq.trans (b := b a1 a2 a3 (fun r1 => K (m r1))) (by kernel_rfl) (by rw [e])
theorem runv {l : List Lf} {K : Res → Option Res} {r : Res} (h : run l K = some r) : ∃ a1 a2 a3, l = [.i a1, .i a2, .i a3] ∧ g a1 a2 a3 (fun r1 => K (m r1)) = some r := by
 unfold run at h; split at h
 ·exact ⟨_, _, _, rfl, h⟩
 ·cases h
theorem ok : Con Go.Proofs.Tryd.prog con := con_of (fn := Go.Proofs.Tryd.f55) (c := c) (Fi := fi) (X := X) (fun_of laid (by kernel_rfl) (by kernel_rfl) (by kernel_rfl) rfl (by kernel_rfl) (by kernel_rfl) cx (fun _ => rfl) (fun _ => rfl) (fun K => by
 rw [show loopsOf c = [] from by kernel_rfl]; intro p hp
 cases hp)) fun xs rows boxes K r hl hr => by
 obtain ⟨a1, a2, a3, e, h⟩ := runv hr
 have := St.like_eq (y := a a1 a2 a3) hl (by kernel_rfl) e
 obtain ⟨rfl, rfl, rfl⟩ := argSt_inj this
 exact (tie K a1 a2 a3).trans h
end spec_l1In
namespace spec_NumOk
noncomputable def c : Code := bodyOf Go.Proofs.Tryd.f32
noncomputable def fi : Fin := ⟨Γ0, [(.tmp 2, 4)], [[1]], [], [], []⟩
noncomputable def m (r1 : Bool) : Res := ⟨[⟨false, [.bool r1]⟩], [], [], [], []⟩
noncomputable def os : List (FuncId × St × (List Lf → (Res → Option Res) → Option Res)) := [spec_l1In.con]
noncomputable def X (K : Res → Option Res) : Ctx := { Γ := Γ0, orc := orcOf os, io := [], share := [], mvl := [], bun := [], cut := [], own := [], cin := [], cout := [], lp := lpOf [], kl := [], nk := true, eqs := eqs0, byt := byt0, fin := finK fi K }
noncomputable def b (a1 : Int) (R : Bool → Option Res) : Option Res :=
 spec_l1In.g a1 (-1000000000000) 1000000000000 fun r2 =>
 R r2
theorem gx : ∃ x : Int → (Bool → Option Res) → Option Res, x = b := ⟨_, rfl⟩
noncomputable def g : Int → (Bool → Option Res) → Option Res := Classical.choose gx
theorem e : g = b := Classical.choose_spec gx
noncomputable def run : List Lf → (Res → Option Res) → Option Res
 | [.i a1], K => g a1 (fun r1 => K (m r1))
 | _, _ => none
noncomputable def a (a1 : Int) : St := argSt [one (.int .i64 a1)] [] []
noncomputable def con : FuncId × St × (List Lf → (Res → Option Res) → Option Res) := (32, a 0, run)
theorem cx (K : Res → Option Res) : CtxOk Go.Proofs.Tryd.prog Γ0 byt0 eqs0 (X K) os := ⟨rfl, rfl, rfl, (fun p hp => by
 rcases List.mem_cons.1 hp with rfl | hp
 ·exact spec_l1In.ok
 cases hp), rfl, rfl, rfl, rfl⟩
theorem tie (K : Res → Option Res) (a1 : Int) : exec (X K) c (entry 5 [one (.int .i64 a1)] [] []) (endK (X K)) = g a1 (fun r1 => K (m r1)) := Eq.trans (b := b a1 (fun r1 => K (m r1))) (by kernel_rfl) (by rw [e])
theorem runv {l : List Lf} {K : Res → Option Res} {r : Res} (h : run l K = some r) : ∃ a1, l = [.i a1] ∧ g a1 (fun r1 => K (m r1)) = some r := by
 unfold run at h; split at h
 ·exact ⟨_, rfl, h⟩
 ·cases h
theorem ok : Con Go.Proofs.Tryd.prog con := con_of (fn := Go.Proofs.Tryd.f32) (c := c) (Fi := fi) (X := X) (fun_of laid (by kernel_rfl) (by kernel_rfl) (by kernel_rfl) rfl (by kernel_rfl) (by kernel_rfl) cx (fun _ => rfl) (fun _ => rfl) (fun K => by
 rw [show loopsOf c = [] from by kernel_rfl]; intro p hp
 cases hp)) fun xs rows boxes K r hl hr => by
 obtain ⟨a1, e, h⟩ := runv hr
 have := St.like_eq (y := a a1) hl (by kernel_rfl) e
 obtain ⟨rfl, rfl, rfl⟩ := argSt_inj this
 exact (tie K a1).trans h
end spec_NumOk
-- GROUP spec_l8Digits
namespace spec_l8Digits
noncomputable def c : Code := bodyOf Go.Proofs.Tryd.f33
noncomputable def fi : Fin := ⟨Γ0, [(.tmp 2, 9)], [[1]], [], [], []⟩
noncomputable def m (r1 : ByteArray) : Res := ⟨[⟨false, [.str r1]⟩], [], [], [], []⟩
abbrev T : Type := Int → (ByteArray → Option Res) → Option Res
noncomputable def runz (h : T) : List Lf → (Res → Option Res) → Option Res
 | [.i a1], K => h a1 (fun r1 => K (m r1))
 | _, _ => none
noncomputable def a (a1 : Int) : St := argSt [one (.int .i64 a1)] [] []
noncomputable def conz (h : T) : FuncId × St × (List Lf → (Res → Option Res) → Option Res) := (33, a 0, runz h)
end spec_l8Digits
abbrev Z_spec_l8Digits : Type := spec_l8Digits.T
def Gd_spec_l8Digits (z : Z_spec_l8Digits) : Prop := Con Go.Proofs.Tryd.prog (spec_l8Digits.conz z)
namespace spec_l8Digits
noncomputable def b0 : Code := codeAt c [1, 1, 1, 1, 0, 0, 0]
noncomputable def s0 (x3 : Int) (x4 : ByteArray) : St := ⟨mkT 25 [(0, one (.int .i64 x3)), (3, one (.str x4))], [], []⟩
noncomputable def l0s  (rec : Int → ByteArray → Option Res) (k : ByteArray → Option Res) (x3 : Int) (x4 : ByteArray) : Option Res :=
 bif decide (0 < x3) then (bif decide ((strOf ([IntKind.u8.wrap (IntKind.i64.wrap (48 + (x3.tmod 10)))] : List Int)).size + x4.size ≤ 9223372036854775807) then rec (IntKind.i64.wrap (x3.tdiv 10)) ((strOf ([IntKind.u8.wrap (IntKind.i64.wrap (48 + (x3.tmod 10)))] : List Int)) ++ x4)
  else none)
 else k x4
noncomputable def l0  (k : ByteArray → Option Res) : Nat → Int → ByteArray → Option Res
 | 0, _, _ => none
 | n + 1, x3, x4 => l0s (fun x3 x4 => l0 k n x3 x4) k x3 x4
noncomputable def o0 (y1 : ByteArray) : St := ⟨mkT 25 [(3, one (.str y1))], [], []⟩
noncomputable def p0 (K : Res → Option Res) : List Lf → (St → Option Res) → Option Res
 | [.i x3, .s x4], k => l0 (fun y1 => k (o0 y1)) fuel x3 x4
 | _, _ => none
noncomputable def os (z : Z_spec_l8Digits) : List (FuncId × St × (List Lf → (Res → Option Res) → Option Res)) := [spec_l8Digits.conz z]
noncomputable def X (z : Z_spec_l8Digits) (K : Res → Option Res) : Ctx := { Γ := Γ0, orc := orcOf (os z), io := [], share := [], mvl := [], bun := [], cut := [], own := [], cin := [(0, ⟨[0, 3], [], [], [], [], []⟩)], cout := [(0, ⟨[3], [], [], [], [], []⟩)], lp := lpOf [(0, s0 0 ByteArray.empty, p0 K)], kl := [], nk := true, eqs := eqs0, byt := byt0, fin := finK fi K }
noncomputable def g (z : Z_spec_l8Digits) (a1 : Int) (R : ByteArray → Option Res) : Option Res :=
 bif decide (a1 < 0) then (z (IntKind.i64.wrap (0 - a1)) fun r2 =>
  bif decide (1 + r2.size ≤ 9223372036854775807) then R ((⟨#[95]⟩ : ByteArray) ++ r2)
  else none)
 else bif (a1 == 0) then R (⟨#[48]⟩ : ByteArray)
 else (l0 (fun y5 =>
 R y5) fuel a1 (⟨#[]⟩ : ByteArray))
theorem cx (z : Z_spec_l8Digits) (hz : Gd_spec_l8Digits z) (K : Res → Option Res) : CtxOk Go.Proofs.Tryd.prog Γ0 byt0 eqs0 (X z K) (os z) := ⟨rfl, rfl, rfl, (fun p hp => by
 rcases List.mem_cons.1 hp with rfl | hp
 ·exact hz
 cases hp), rfl, rfl, rfl, rfl⟩
theorem t0 (z : Z_spec_l8Digits) (K : Res → Option Res) (k : St → Option Res) (it : St → (St → Option Res) → Option Res) (x3 : Int) (x4 : ByteArray) : iterS (X z K) 0 b0 it (s0 x3 x4) k = l0s (fun x3 x4 => it (s0 x3 x4) k) (fun y1 => k (o0 y1)) x3 x4 := by kernel_rfl
theorem i0 (z : Z_spec_l8Digits) (K : Res → Option Res) (k : St → Option Res)  : ∀ (n : Nat) (x3 : Int) (x4 : ByteArray), iter (X z K) 0 b0 n (s0 x3 x4) k = l0 (fun y1 => k (o0 y1)) n x3 x4
 | 0, _, _ => rfl
 | n + 1, x3, x4 => by
  rw [iter_succ, t0 z, show (fun x3 x4 => iter (X z K) 0 b0 n (s0 x3 x4) k) = (fun x3 x4 => l0 (fun y1 => k (o0 y1)) n x3 x4) from funext fun x3 => funext fun x4 => i0 z K k n x3 x4]; rfl
theorem v0 {K : Res → Option Res} {l : List Lf} {k : St → Option Res} {r : Res} (h : p0 K l k = some r) : ∃ x3 x4, l = [.i x3, .s x4] ∧ l0 (fun y1 => k (o0 y1)) fuel x3 x4 = some r := by
 unfold p0 at h; split at h
 ·exact ⟨_, _, rfl, h⟩
 ·cases h
theorem w0 (z : Z_spec_l8Digits) (hz : Gd_spec_l8Digits z) (K : Res → Option Res) : LpSound Go.Proofs.Tryd.prog (X z K) 0 b0 := lp_ok (((cx z hz) K).ok laid) (by rw [show loopsOf b0 = [] from by kernel_rfl]; intro p hp; cases hp) rfl fun p hp hid => by
 rcases List.mem_cons.1 hp with rfl | hp
 ·intro st k r h1 h2; obtain ⟨x3, x4, e, h⟩ := v0 (K := K) h2; have := St.like_eq (y := s0 x3 x4) h1 (by kernel_rfl) e; subst this; exact ⟨fuel, (i0 z K k fuel x3 x4).trans h⟩
 cases hp
theorem tie (z : Z_spec_l8Digits) (K : Res → Option Res) (a1 : Int) : exec (X z K) c (entry 25 [one (.int .i64 a1)] [] []) (endK (X z K)) = (g z) a1 (fun r1 => K (m r1)) := by kernel_rfl
theorem runv (z : Z_spec_l8Digits) {l : List Lf} {K : Res → Option Res} {r : Res} (h : runz (g z) l K = some r) : ∃ a1, l = [.i a1] ∧ (g z) a1 (fun r1 => K (m r1)) = some r := by
 unfold runz at h; split at h
 ·exact ⟨_, rfl, h⟩
 ·cases h
theorem ok (z : Z_spec_l8Digits) (hz : Gd_spec_l8Digits z) : Con Go.Proofs.Tryd.prog (conz (g z)) := con_of (fn := Go.Proofs.Tryd.f33) (c := c) (Fi := fi) (X := X z) (fun_of laid (by kernel_rfl) (by kernel_rfl) (by kernel_rfl) rfl (by kernel_rfl) (by kernel_rfl) (cx z hz) (fun _ => rfl) (fun _ => rfl) (fun K => by
 rw [show loopsOf c = [(0, b0)] from by kernel_rfl]; intro p hp
 rcases List.mem_cons.1 hp with rfl | hp
 ·exact w0 z hz K
 cases hp)) fun xs rows boxes K r hl hr => by
 obtain ⟨a1, e, h⟩ := runv z hr
 have := St.like_eq (y := a a1) hl (by kernel_rfl) e
 obtain ⟨rfl, rfl, rfl⟩ := argSt_inj this
 exact (tie z K a1).trans h
end spec_l8Digits
noncomputable def rec_spec_l8Digits : Nat → Z_spec_l8Digits
 | 0 => (fun _ _ => none)
 | n + 1 => spec_l8Digits.g (rec_spec_l8Digits n)
theorem good_spec_l8Digits : ∀ n, Gd_spec_l8Digits (rec_spec_l8Digits n)
 | 0 => con_none (fun l K => by show spec_l8Digits.runz (fun _ _ => none) l K = none; unfold spec_l8Digits.runz; split <;> rfl)
 | n + 1 => spec_l8Digits.ok _ (good_spec_l8Digits n)
namespace spec_l8Digits
noncomputable def gn (n : Nat) (a1 : Int) (R : ByteArray → Option Res) : Option Res := (rec_spec_l8Digits n) a1 R
theorem Gx : ∃ x : T, x = gn fuel := ⟨_, rfl⟩
noncomputable def G : T := Classical.choose Gx
theorem Ge : G = gn fuel := Classical.choose_spec Gx
theorem gn_succ (n : Nat) (a1 : Int) (R : ByteArray → Option Res) : gn (n + 1) a1 R = g (rec_spec_l8Digits n) a1 R := rfl
noncomputable def con : FuncId × St × (List Lf → (Res → Option Res) → Option Res) := conz G
theorem okG : Con Go.Proofs.Tryd.prog con := by
 unfold con; rw [Ge]; exact (good_spec_l8Digits fuel)
end spec_l8Digits
-- END GROUP
namespace impl_within
noncomputable def c : Code := bodyOf Go.Proofs.Tryd.f56
noncomputable def fi : Fin := ⟨Γ0, [(.tmp 6, 4)], [[1]], [], [], []⟩
noncomputable def m (r1 : Bool) : Res := ⟨[⟨false, [.bool r1]⟩], [], [], [], []⟩
noncomputable def os : List (FuncId × St × (List Lf → (Res → Option Res) → Option Res)) := []
noncomputable def X (K : Res → Option Res) : Ctx := { Γ := Γ0, orc := orcOf os, io := [], share := [], mvl := [], bun := [], cut := [], own := [], cin := [], cout := [], lp := lpOf [], kl := [], nk := true, eqs := eqs0, byt := byt0, fin := finK fi K }
noncomputable def b (a1 a2 a3 : Int) (R : Bool → Option Res) : Option Res :=
 bif decide (a2 ≤ a1) then R (decide (a1 ≤ a3))
 else R false
theorem gx : ∃ x : Int → Int → Int → (Bool → Option Res) → Option Res, x = b := ⟨_, rfl⟩
noncomputable def g : Int → Int → Int → (Bool → Option Res) → Option Res := Classical.choose gx
theorem e : g = b := Classical.choose_spec gx
noncomputable def run : List Lf → (Res → Option Res) → Option Res
 | [.i a1, .i a2, .i a3], K => g a1 a2 a3 (fun r1 => K (m r1))
 | _, _ => none
noncomputable def a (a1 a2 a3 : Int) : St := argSt [one (.int .i64 a1), one (.int .i64 a2), one (.int .i64 a3)] [] []
noncomputable def con : FuncId × St × (List Lf → (Res → Option Res) → Option Res) := (56, a 0 0 0, run)
theorem cx (K : Res → Option Res) : CtxOk Go.Proofs.Tryd.prog Γ0 byt0 eqs0 (X K) os := ⟨rfl, rfl, rfl, (fun p hp => by
 cases hp), rfl, rfl, rfl, rfl⟩
theorem tie (K : Res → Option Res) (a1 a2 a3 : Int) : exec (X K) c (entry 15 [one (.int .i64 a1), one (.int .i64 a2), one (.int .i64 a3)] [] []) (endK (X K)) = g a1 a2 a3 (fun r1 => K (m r1)) := Eq.trans (b := b a1 a2 a3 (fun r1 => K (m r1))) (by kernel_rfl) (by rw [e])
theorem runv {l : List Lf} {K : Res → Option Res} {r : Res} (h : run l K = some r) : ∃ a1 a2 a3, l = [.i a1, .i a2, .i a3] ∧ g a1 a2 a3 (fun r1 => K (m r1)) = some r := by
 unfold run at h; split at h
 ·exact ⟨_, _, _, rfl, h⟩
 ·cases h
theorem ok : Con Go.Proofs.Tryd.prog con := con_of (fn := Go.Proofs.Tryd.f56) (c := c) (Fi := fi) (X := X) (fun_of laid (by kernel_rfl) (by kernel_rfl) (by kernel_rfl) rfl (by kernel_rfl) (by kernel_rfl) cx (fun _ => rfl) (fun _ => rfl) (fun K => by
 rw [show loopsOf c = [] from by kernel_rfl]; intro p hp
 cases hp)) fun xs rows boxes K r hl hr => by
 obtain ⟨a1, a2, a3, e, h⟩ := runv hr
 have := St.like_eq (y := a a1 a2 a3) hl (by kernel_rfl) e
 obtain ⟨rfl, rfl, rfl⟩ := argSt_inj this
 exact (tie K a1 a2 a3).trans h
end impl_within
namespace impl_NumOk
noncomputable def c : Code := bodyOf Go.Proofs.Tryd.f34
noncomputable def fi : Fin := ⟨Γ0, [(.tmp 2, 4)], [[1]], [], [], []⟩
noncomputable def m (r1 : Bool) : Res := ⟨[⟨false, [.bool r1]⟩], [], [], [], []⟩
noncomputable def os : List (FuncId × St × (List Lf → (Res → Option Res) → Option Res)) := [impl_within.con]
noncomputable def X (K : Res → Option Res) : Ctx := { Γ := Γ0, orc := orcOf os, io := [], share := [], mvl := [], bun := [], cut := [], own := [], cin := [], cout := [], lp := lpOf [], kl := [], nk := true, eqs := eqs0, byt := byt0, fin := finK fi K }
noncomputable def b (a1 : Int) (R : Bool → Option Res) : Option Res :=
 impl_within.g a1 (-1000000000000) 1000000000000 fun r2 =>
 R r2
theorem gx : ∃ x : Int → (Bool → Option Res) → Option Res, x = b := ⟨_, rfl⟩
noncomputable def g : Int → (Bool → Option Res) → Option Res := Classical.choose gx
theorem e : g = b := Classical.choose_spec gx
noncomputable def run : List Lf → (Res → Option Res) → Option Res
 | [.i a1], K => g a1 (fun r1 => K (m r1))
 | _, _ => none
noncomputable def a (a1 : Int) : St := argSt [one (.int .i64 a1)] [] []
noncomputable def con : FuncId × St × (List Lf → (Res → Option Res) → Option Res) := (34, a 0, run)
theorem cx (K : Res → Option Res) : CtxOk Go.Proofs.Tryd.prog Γ0 byt0 eqs0 (X K) os := ⟨rfl, rfl, rfl, (fun p hp => by
 rcases List.mem_cons.1 hp with rfl | hp
 ·exact impl_within.ok
 cases hp), rfl, rfl, rfl, rfl⟩
theorem tie (K : Res → Option Res) (a1 : Int) : exec (X K) c (entry 5 [one (.int .i64 a1)] [] []) (endK (X K)) = g a1 (fun r1 => K (m r1)) := Eq.trans (b := b a1 (fun r1 => K (m r1))) (by kernel_rfl) (by rw [e])
theorem runv {l : List Lf} {K : Res → Option Res} {r : Res} (h : run l K = some r) : ∃ a1, l = [.i a1] ∧ g a1 (fun r1 => K (m r1)) = some r := by
 unfold run at h; split at h
 ·exact ⟨_, rfl, h⟩
 ·cases h
theorem ok : Con Go.Proofs.Tryd.prog con := con_of (fn := Go.Proofs.Tryd.f34) (c := c) (Fi := fi) (X := X) (fun_of laid (by kernel_rfl) (by kernel_rfl) (by kernel_rfl) rfl (by kernel_rfl) (by kernel_rfl) cx (fun _ => rfl) (fun _ => rfl) (fun K => by
 rw [show loopsOf c = [] from by kernel_rfl]; intro p hp
 cases hp)) fun xs rows boxes K r hl hr => by
 obtain ⟨a1, e, h⟩ := runv hr
 have := St.like_eq (y := a a1) hl (by kernel_rfl) e
 obtain ⟨rfl, rfl, rfl⟩ := argSt_inj this
 exact (tie K a1).trans h
end impl_NumOk
namespace strconv_Itoa
theorem is : ItoaIs Go.Proofs.Tryd.prog 35 := fun n h0 h1 w ht => Go.Proofs.Tryd.strconv_Itoa n h0 h1 w ht
noncomputable def g (a1 : Int) (R : ByteArray → Option Res) : Option Res := itoaG a1 R
noncomputable def con : FuncId × St × (List Lf → (Res → Option Res) → Option Res) := itoaC 35
theorem ok : Con Go.Proofs.Tryd.prog con := con_itoa (fn := Go.Proofs.Tryd.f35) (by kernel_rfl) (by kernel_rfl) (by kernel_rfl) is
end strconv_Itoa
namespace impl_ShowNum
noncomputable def c : Code := bodyOf Go.Proofs.Tryd.f11
noncomputable def fi : Fin := ⟨Γ0, [(.tmp 2, 9)], [[1]], [], [], []⟩
noncomputable def m (r1 : ByteArray) : Res := ⟨[⟨false, [.str r1]⟩], [], [], [], []⟩
noncomputable def os : List (FuncId × St × (List Lf → (Res → Option Res) → Option Res)) := [impl_NumOk.con, strconv_Itoa.con]
noncomputable def X (K : Res → Option Res) : Ctx := { Γ := Γ0, orc := orcOf os, io := [], share := [], mvl := [], bun := [], cut := [], own := [], cin := [], cout := [], lp := lpOf [], kl := [], nk := true, eqs := eqs0, byt := byt0, fin := finK fi K }
noncomputable def b (a1 : Int) (R : ByteArray → Option Res) : Option Res :=
 impl_NumOk.g a1 fun r2 =>
 bif !r2 then R (⟨#[]⟩ : ByteArray)
 else bif decide (a1 < 0) then (strconv_Itoa.g (IntKind.i64.wrap (0 - a1)) fun r3 =>
  bif decide (1 + r3.size ≤ 9223372036854775807) then R ((⟨#[95]⟩ : ByteArray) ++ r3)
  else none)
 else (strconv_Itoa.g a1 fun r4 =>
 R r4)
theorem gx : ∃ x : Int → (ByteArray → Option Res) → Option Res, x = b := ⟨_, rfl⟩
noncomputable def g : Int → (ByteArray → Option Res) → Option Res := Classical.choose gx
theorem e : g = b := Classical.choose_spec gx
noncomputable def run : List Lf → (Res → Option Res) → Option Res
 | [.i a1], K => g a1 (fun r1 => K (m r1))
 | _, _ => none
noncomputable def a (a1 : Int) : St := argSt [one (.int .i64 a1)] [] []
noncomputable def con : FuncId × St × (List Lf → (Res → Option Res) → Option Res) := (11, a 0, run)
theorem cx (K : Res → Option Res) : CtxOk Go.Proofs.Tryd.prog Γ0 byt0 eqs0 (X K) os := ⟨rfl, rfl, rfl, (fun p hp => by
 rcases List.mem_cons.1 hp with rfl | hp
 ·exact impl_NumOk.ok
 rcases List.mem_cons.1 hp with rfl | hp
 ·exact strconv_Itoa.ok
 cases hp), rfl, rfl, rfl, rfl⟩
theorem tie (K : Res → Option Res) (a1 : Int) : exec (X K) c (entry 14 [one (.int .i64 a1)] [] []) (endK (X K)) = g a1 (fun r1 => K (m r1)) := Eq.trans (b := b a1 (fun r1 => K (m r1))) (by kernel_rfl) (by rw [e])
theorem runv {l : List Lf} {K : Res → Option Res} {r : Res} (h : run l K = some r) : ∃ a1, l = [.i a1] ∧ g a1 (fun r1 => K (m r1)) = some r := by
 unfold run at h; split at h
 ·exact ⟨_, rfl, h⟩
 ·cases h
theorem ok : Con Go.Proofs.Tryd.prog con := con_of (fn := Go.Proofs.Tryd.f11) (c := c) (Fi := fi) (X := X) (fun_of laid (by kernel_rfl) (by kernel_rfl) (by kernel_rfl) rfl (by kernel_rfl) (by kernel_rfl) cx (fun _ => rfl) (fun _ => rfl) (fun K => by
 rw [show loopsOf c = [] from by kernel_rfl]; intro p hp
 cases hp)) fun xs rows boxes K r hl hr => by
 obtain ⟨a1, e, h⟩ := runv hr
 have := St.like_eq (y := a a1) hl (by kernel_rfl) e
 obtain ⟨rfl, rfl, rfl⟩ := argSt_inj this
 exact (tie K a1).trans h
end impl_ShowNum
namespace laws_toIntS
noncomputable def c : Code := bodyOf Go.Proofs.Tryd.f13
noncomputable def fi : Fin := ⟨Γ0, [(.tmp 2, 24)], [[1]], [], [], []⟩
noncomputable def m (r1 : List Int) : Res := ⟨[⟨false, [.ow 1000]⟩], [], [⟨[.int .i64], .ints r1, true, 0⟩], [], []⟩
noncomputable def b0 : Code := codeAt c [1, 1, 0, 1, 0, 0]
noncomputable def s0 (x2 : List Int) (x3 : Int) (x4 : List Int) : St := ⟨mkT 22 [(0, one (.tr 0 1 [.int .i64] (.ints x2))), (3, one (.ow 3080)), (4, one (.int .i64 x3))], [(3080, ⟨[.int .i64], .ints x4, true, 0⟩)], []⟩
noncomputable def l0s (x2 : List Int) (rec : Int → List Int → Option Res) (k : List Int → Option Res) (x3 : Int) (x4 : List Int) : Option Res :=
 bif decide (x3 < (x2.length : Int)) then (bif decide (0 ≤ x3) && decide (x3 < (x2.length : Int)) then (bif decide (0 ≤ x3) && decide (x3 < (x4.length : Int)) then rec (IntKind.i64.wrap (x3 + 1)) (x4.set x3.toNat (x2.getD x3.toNat 0))
  else none)
  else none)
 else k x4
noncomputable def l0 (x2 : List Int) (k : List Int → Option Res) : Nat → Int → List Int → Option Res
 | 0, _, _ => none
 | n + 1, x3, x4 => l0s x2 (fun x3 x4 => l0 x2 k n x3 x4) k x3 x4
noncomputable def o0 (x2 y1 : List Int) : St := ⟨mkT 22 [(3, one (.ow 3080))], [(3080, ⟨[.int .i64], .ints y1, true, 0⟩)], []⟩
noncomputable def p0 (K : Res → Option Res) : List Lf → (St → Option Res) → Option Res
 | [.q (.ints x2), .i x3, .q (.ints x4)], k => l0 x2 (fun y1 => k (o0 x2 y1)) fuel x3 x4
 | _, _ => none
noncomputable def os : List (FuncId × St × (List Lf → (Res → Option Res) → Option Res)) := []
noncomputable def X (K : Res → Option Res) : Ctx := { Γ := Γ0, orc := orcOf os, io := [], share := [], mvl := [], bun := [], cut := [], own := [], cin := [(0, ⟨[0, 3, 4], [(3080, 3080)], [], [], [], []⟩)], cout := [(0, ⟨[3], [(3080, 3080)], [], [], [], []⟩)], lp := lpOf [(0, s0 [] 0 [], p0 K)], kl := [], nk := true, eqs := eqs0, byt := byt0, fin := finK fi K }
noncomputable def b (a1 : List Int) (R : List Int → Option Res) : Option Res :=
 bif decide ((a1.length : Int) = (a1.length : Int)) && decide (0 ≤ (a1.length : Int)) && decide ((a1.length : Int) * 8 ≤ 140737488355328) then (l0 a1 (fun y5 =>
  R y5) fuel 0 (List.replicate ((a1.length : Int).toNat) 0))
 else none
theorem gx : ∃ x : List Int → (List Int → Option Res) → Option Res, x = b := ⟨_, rfl⟩
noncomputable def g : List Int → (List Int → Option Res) → Option Res := Classical.choose gx
theorem e : g = b := Classical.choose_spec gx
noncomputable def run : List Lf → (Res → Option Res) → Option Res
 | [.q (.ints a1)], K => g a1 (fun r1 => K (m r1))
 | _, _ => none
noncomputable def a (a1 : List Int) : St := argSt [one (.tr 0 1 [.int .i64] (.ints a1))] [] []
noncomputable def con : FuncId × St × (List Lf → (Res → Option Res) → Option Res) := (13, a [], run)
theorem cx (K : Res → Option Res) : CtxOk Go.Proofs.Tryd.prog Γ0 byt0 eqs0 (X K) os := ⟨rfl, rfl, rfl, (fun p hp => by
 cases hp), rfl, rfl, rfl, rfl⟩
theorem t0 (K : Res → Option Res) (k : St → Option Res) (it : St → (St → Option Res) → Option Res) (x2 : List Int) (x3 : Int) (x4 : List Int) : iterS (X K) 0 b0 it (s0 x2 x3 x4) k = l0s x2 (fun x3 x4 => it (s0 x2 x3 x4) k) (fun y1 => k (o0 x2 y1)) x3 x4 := by kernel_rfl
theorem i0 (K : Res → Option Res) (k : St → Option Res) (x2 : List Int) : ∀ (n : Nat) (x3 : Int) (x4 : List Int), iter (X K) 0 b0 n (s0 x2 x3 x4) k = l0 x2 (fun y1 => k (o0 x2 y1)) n x3 x4
 | 0, _, _ => rfl
 | n + 1, x3, x4 => by
  rw [iter_succ, t0, show (fun x3 x4 => iter (X K) 0 b0 n (s0 x2 x3 x4) k) = (fun x3 x4 => l0 x2 (fun y1 => k (o0 x2 y1)) n x3 x4) from funext fun x3 => funext fun x4 => i0 K k x2 n x3 x4]; rfl
theorem v0 {K : Res → Option Res} {l : List Lf} {k : St → Option Res} {r : Res} (h : p0 K l k = some r) : ∃ x2 x3 x4, l = [.q (.ints x2), .i x3, .q (.ints x4)] ∧ l0 x2 (fun y1 => k (o0 x2 y1)) fuel x3 x4 = some r := by
 unfold p0 at h; split at h
 ·exact ⟨_, _, _, rfl, h⟩
 ·cases h
theorem w0 (K : Res → Option Res) : LpSound Go.Proofs.Tryd.prog (X K) 0 b0 := lp_ok ((cx K).ok laid) (by rw [show loopsOf b0 = [] from by kernel_rfl]; intro p hp; cases hp) rfl fun p hp hid => by
 rcases List.mem_cons.1 hp with rfl | hp
 ·intro st k r h1 h2; obtain ⟨x2, x3, x4, e, h⟩ := v0 (K := K) h2; have := St.like_eq (y := s0 x2 x3 x4) h1 (by kernel_rfl) e; subst this; exact ⟨fuel, (i0 K k x2 fuel x3 x4).trans h⟩
 cases hp
theorem tie (K : Res → Option Res) (a1 : List Int) : exec (X K) c (entry 22 [one (.tr 0 1 [.int .i64] (.ints a1))] [] []) (endK (X K)) = g a1 (fun r1 => K (m r1)) := Eq.trans (b := b a1 (fun r1 => K (m r1))) (by kernel_rfl) (by rw [e])
theorem runv {l : List Lf} {K : Res → Option Res} {r : Res} (h : run l K = some r) : ∃ a1, l = [.q (.ints a1)] ∧ g a1 (fun r1 => K (m r1)) = some r := by
 unfold run at h; split at h
 ·exact ⟨_, rfl, h⟩
 ·cases h
theorem ok : Con Go.Proofs.Tryd.prog con := con_of (fn := Go.Proofs.Tryd.f13) (c := c) (Fi := fi) (X := X) (fun_of laid (by kernel_rfl) (by kernel_rfl) (by kernel_rfl) rfl (by kernel_rfl) (by kernel_rfl) cx (fun _ => rfl) (fun _ => rfl) (fun K => by
 rw [show loopsOf c = [(0, b0)] from by kernel_rfl]; intro p hp
 rcases List.mem_cons.1 hp with rfl | hp
 ·exact w0 K
 cases hp)) fun xs rows boxes K r hl hr => by
 obtain ⟨a1, e, h⟩ := runv hr
 have := St.like_eq (y := a a1) hl (by kernel_rfl) e
 obtain ⟨rfl, rfl, rfl⟩ := argSt_inj this
 exact (tie K a1).trans h
end laws_toIntS
namespace spec_l16Nums
noncomputable def c : Code := bodyOf Go.Proofs.Tryd.f36
noncomputable def fi : Fin := ⟨Γ0, [(.tmp 2, 4)], [[1]], [], [], []⟩
noncomputable def m (r1 : Bool) : Res := ⟨[⟨false, [.bool r1]⟩], [], [], [], []⟩
noncomputable def b0 : Code := codeAt c [1, 0, 1, 0, 0]
noncomputable def s0 (x2 : List Int) (x3 : Int) : St := ⟨mkT 16 [(0, one (.tr 0 1 [.int .i64] (.ints x2))), (3, one (.int .i64 x3))], [], []⟩
noncomputable def l0s (x2 : List Int) (rec : Int → Option Res) (k : Option Res) (R : Bool → Option Res) (x3 : Int) : Option Res :=
 bif decide (x3 < (x2.length : Int)) then (bif decide (0 ≤ x3) && decide (x3 < (x2.length : Int)) then (spec_NumOk.g (x2.getD x3.toNat 0) fun r4 =>
  bif !r4 then R false
  else rec (IntKind.i64.wrap (x3 + 1)))
  else none)
 else k
noncomputable def l0 (x2 : List Int) (k : Option Res) (R : Bool → Option Res) : Nat → Int → Option Res
 | 0, _ => none
 | n + 1, x3 => l0s x2 (fun x3 => l0 x2 k R n x3) k R x3
noncomputable def o0 (x2 : List Int) : St := ⟨mkT 16 [], [], []⟩
noncomputable def p0 (K : Res → Option Res) : List Lf → (St → Option Res) → Option Res
 | [.q (.ints x2), .i x3], k => l0 x2 (k (o0 x2)) (fun r1 => K (m r1)) fuel x3
 | _, _ => none
noncomputable def os : List (FuncId × St × (List Lf → (Res → Option Res) → Option Res)) := [spec_NumOk.con]
noncomputable def X (K : Res → Option Res) : Ctx := { Γ := Γ0, orc := orcOf os, io := [], share := [], mvl := [], bun := [], cut := [], own := [], cin := [(0, ⟨[0, 3], [], [], [], [], []⟩)], cout := [(0, ⟨[], [], [], [], [], []⟩)], lp := lpOf [(0, s0 [] 0, p0 K)], kl := [], nk := true, eqs := eqs0, byt := byt0, fin := finK fi K }
noncomputable def b (a1 : List Int) (R : Bool → Option Res) : Option Res :=
 l0 a1 (
 R true) R fuel 0
theorem gx : ∃ x : List Int → (Bool → Option Res) → Option Res, x = b := ⟨_, rfl⟩
noncomputable def g : List Int → (Bool → Option Res) → Option Res := Classical.choose gx
theorem e : g = b := Classical.choose_spec gx
noncomputable def run : List Lf → (Res → Option Res) → Option Res
 | [.q (.ints a1)], K => g a1 (fun r1 => K (m r1))
 | _, _ => none
noncomputable def a (a1 : List Int) : St := argSt [one (.tr 0 1 [.int .i64] (.ints a1))] [] []
noncomputable def con : FuncId × St × (List Lf → (Res → Option Res) → Option Res) := (36, a [], run)
theorem cx (K : Res → Option Res) : CtxOk Go.Proofs.Tryd.prog Γ0 byt0 eqs0 (X K) os := ⟨rfl, rfl, rfl, (fun p hp => by
 rcases List.mem_cons.1 hp with rfl | hp
 ·exact spec_NumOk.ok
 cases hp), rfl, rfl, rfl, rfl⟩
theorem t0 (K : Res → Option Res) (k : St → Option Res) (it : St → (St → Option Res) → Option Res) (x2 : List Int) (x3 : Int) : iterS (X K) 0 b0 it (s0 x2 x3) k = l0s x2 (fun x3 => it (s0 x2 x3) k) (k (o0 x2)) (fun r1 => K (m r1)) x3 := by kernel_rfl
theorem i0 (K : Res → Option Res) (k : St → Option Res) (x2 : List Int) : ∀ (n : Nat) (x3 : Int), iter (X K) 0 b0 n (s0 x2 x3) k = l0 x2 (k (o0 x2)) (fun r1 => K (m r1)) n x3
 | 0, _ => rfl
 | n + 1, x3 => by
  rw [iter_succ, t0, show (fun x3 => iter (X K) 0 b0 n (s0 x2 x3) k) = (fun x3 => l0 x2 (k (o0 x2)) (fun r1 => K (m r1)) n x3) from funext fun x3 => i0 K k x2 n x3]; rfl
theorem v0 {K : Res → Option Res} {l : List Lf} {k : St → Option Res} {r : Res} (h : p0 K l k = some r) : ∃ x2 x3, l = [.q (.ints x2), .i x3] ∧ l0 x2 (k (o0 x2)) (fun r1 => K (m r1)) fuel x3 = some r := by
 unfold p0 at h; split at h
 ·exact ⟨_, _, rfl, h⟩
 ·cases h
theorem w0 (K : Res → Option Res) : LpSound Go.Proofs.Tryd.prog (X K) 0 b0 := lp_ok ((cx K).ok laid) (by rw [show loopsOf b0 = [] from by kernel_rfl]; intro p hp; cases hp) rfl fun p hp hid => by
 rcases List.mem_cons.1 hp with rfl | hp
 ·intro st k r h1 h2; obtain ⟨x2, x3, e, h⟩ := v0 (K := K) h2; have := St.like_eq (y := s0 x2 x3) h1 (by kernel_rfl) e; subst this; exact ⟨fuel, (i0 K k x2 fuel x3).trans h⟩
 cases hp
theorem tie (K : Res → Option Res) (a1 : List Int) : exec (X K) c (entry 16 [one (.tr 0 1 [.int .i64] (.ints a1))] [] []) (endK (X K)) = g a1 (fun r1 => K (m r1)) := Eq.trans (b := b a1 (fun r1 => K (m r1))) (by kernel_rfl) (by rw [e])
theorem runv {l : List Lf} {K : Res → Option Res} {r : Res} (h : run l K = some r) : ∃ a1, l = [.q (.ints a1)] ∧ g a1 (fun r1 => K (m r1)) = some r := by
 unfold run at h; split at h
 ·exact ⟨_, rfl, h⟩
 ·cases h
theorem ok : Con Go.Proofs.Tryd.prog con := con_of (fn := Go.Proofs.Tryd.f36) (c := c) (Fi := fi) (X := X) (fun_of laid (by kernel_rfl) (by kernel_rfl) (by kernel_rfl) rfl (by kernel_rfl) (by kernel_rfl) cx (fun _ => rfl) (fun _ => rfl) (fun K => by
 rw [show loopsOf c = [(0, b0)] from by kernel_rfl]; intro p hp
 rcases List.mem_cons.1 hp with rfl | hp
 ·exact w0 K
 cases hp)) fun xs rows boxes K r hl hr => by
 obtain ⟨a1, e, h⟩ := runv hr
 have := St.like_eq (y := a a1) hl (by kernel_rfl) e
 obtain ⟨rfl, rfl, rfl⟩ := argSt_inj this
 exact (tie K a1).trans h
end spec_l16Nums
namespace spec_l1Max
noncomputable def c : Code := bodyOf Go.Proofs.Tryd.f37
noncomputable def fi : Fin := ⟨Γ0, [(.tmp 4, 3)], [[1]], [], [], []⟩
noncomputable def m (r1 : Int) : Res := ⟨[⟨false, [.int .i64 r1]⟩], [], [], [], []⟩
noncomputable def os : List (FuncId × St × (List Lf → (Res → Option Res) → Option Res)) := []
noncomputable def X (K : Res → Option Res) : Ctx := { Γ := Γ0, orc := orcOf os, io := [], share := [], mvl := [], bun := [], cut := [], own := [], cin := [], cout := [], lp := lpOf [], kl := [], nk := true, eqs := eqs0, byt := byt0, fin := finK fi K }
noncomputable def b (a1 a2 : Int) (R : Int → Option Res) : Option Res :=
 bif decide (a2 < a1) then R a1
 else R a2
theorem gx : ∃ x : Int → Int → (Int → Option Res) → Option Res, x = b := ⟨_, rfl⟩
noncomputable def g : Int → Int → (Int → Option Res) → Option Res := Classical.choose gx
theorem e : g = b := Classical.choose_spec gx
noncomputable def run : List Lf → (Res → Option Res) → Option Res
 | [.i a1, .i a2], K => g a1 a2 (fun r1 => K (m r1))
 | _, _ => none
noncomputable def a (a1 a2 : Int) : St := argSt [one (.int .i64 a1), one (.int .i64 a2)] [] []
noncomputable def con : FuncId × St × (List Lf → (Res → Option Res) → Option Res) := (37, a 0 0, run)
theorem cx (K : Res → Option Res) : CtxOk Go.Proofs.Tryd.prog Γ0 byt0 eqs0 (X K) os := ⟨rfl, rfl, rfl, (fun p hp => by
 cases hp), rfl, rfl, rfl, rfl⟩
theorem tie (K : Res → Option Res) (a1 a2 : Int) : exec (X K) c (entry 10 [one (.int .i64 a1), one (.int .i64 a2)] [] []) (endK (X K)) = g a1 a2 (fun r1 => K (m r1)) := Eq.trans (b := b a1 a2 (fun r1 => K (m r1))) (by kernel_rfl) (by rw [e])
theorem runv {l : List Lf} {K : Res → Option Res} {r : Res} (h : run l K = some r) : ∃ a1 a2, l = [.i a1, .i a2] ∧ g a1 a2 (fun r1 => K (m r1)) = some r := by
 unfold run at h; split at h
 ·exact ⟨_, _, rfl, h⟩
 ·cases h
theorem ok : Con Go.Proofs.Tryd.prog con := con_of (fn := Go.Proofs.Tryd.f37) (c := c) (Fi := fi) (X := X) (fun_of laid (by kernel_rfl) (by kernel_rfl) (by kernel_rfl) rfl (by kernel_rfl) (by kernel_rfl) cx (fun _ => rfl) (fun _ => rfl) (fun K => by
 rw [show loopsOf c = [] from by kernel_rfl]; intro p hp
 cases hp)) fun xs rows boxes K r hl hr => by
 obtain ⟨a1, a2, e, h⟩ := runv hr
 have := St.like_eq (y := a a1 a2) hl (by kernel_rfl) e
 obtain ⟨rfl, rfl, rfl⟩ := argSt_inj this
 exact (tie K a1 a2).trans h
end spec_l1Max
namespace spec_ShowWide
noncomputable def c : Code := bodyOf Go.Proofs.Tryd.f12
noncomputable def fi : Fin := ⟨Γ0, [(.tmp 2, 3)], [[1]], [], [], []⟩
noncomputable def m (r1 : Int) : Res := ⟨[⟨false, [.int .i64 r1]⟩], [], [], [], []⟩
noncomputable def b0 : Code := codeAt c [1, 1, 1, 0, 1, 0, 0]
noncomputable def s0 (x3 : List Int) (x4 x5 : Int) : St := ⟨mkT 23 [(0, one (.tr 0 1 [.int .i64] (.ints x3))), (3, one (.int .i64 x4)), (4, one (.int .i64 x5))], [], []⟩
noncomputable def l0s (x3 : List Int) (rec : Int → Int → Option Res) (k : Int → Option Res) (x4 x5 : Int) : Option Res :=
 bif decide (x5 < (x3.length : Int)) then (bif decide (0 ≤ x5) && decide (x5 < (x3.length : Int)) then (spec_l8Digits.G (x3.getD x5.toNat 0) fun r6 =>
  spec_l1Max.g x4 (r6.size : Int) fun r7 =>
  rec r7 (IntKind.i64.wrap (x5 + 1)))
  else none)
 else k x4
noncomputable def l0 (x3 : List Int) (k : Int → Option Res) : Nat → Int → Int → Option Res
 | 0, _, _ => none
 | n + 1, x4, x5 => l0s x3 (fun x4 x5 => l0 x3 k n x4 x5) k x4 x5
noncomputable def o0 (x3 : List Int) (y1 : Int) : St := ⟨mkT 23 [(3, one (.int .i64 y1))], [], []⟩
noncomputable def p0 (K : Res → Option Res) : List Lf → (St → Option Res) → Option Res
 | [.q (.ints x3), .i x4, .i x5], k => l0 x3 (fun y1 => k (o0 x3 y1)) fuel x4 x5
 | _, _ => none
noncomputable def os : List (FuncId × St × (List Lf → (Res → Option Res) → Option Res)) := [spec_l16Nums.con, spec_l8Digits.con, spec_l1Max.con]
noncomputable def X (K : Res → Option Res) : Ctx := { Γ := Γ0, orc := orcOf os, io := [], share := [], mvl := [], bun := [], cut := [], own := [], cin := [(0, ⟨[0, 3, 4], [], [], [], [], []⟩)], cout := [(0, ⟨[3], [], [], [], [], []⟩)], lp := lpOf [(0, s0 [] 0 0, p0 K)], kl := [], nk := true, eqs := eqs0, byt := byt0, fin := finK fi K }
noncomputable def b (a1 : List Int) (R : Int → Option Res) : Option Res :=
 spec_l16Nums.g a1 fun r2 =>
 bif !r2 then R (-1)
 else (l0 a1 (fun y8 =>
 R y8) fuel 0 0)
theorem gx : ∃ x : List Int → (Int → Option Res) → Option Res, x = b := ⟨_, rfl⟩
noncomputable def g : List Int → (Int → Option Res) → Option Res := Classical.choose gx
theorem e : g = b := Classical.choose_spec gx
noncomputable def run : List Lf → (Res → Option Res) → Option Res
 | [.q (.ints a1)], K => g a1 (fun r1 => K (m r1))
 | _, _ => none
noncomputable def a (a1 : List Int) : St := argSt [one (.tr 0 1 [.int .i64] (.ints a1))] [] []
noncomputable def con : FuncId × St × (List Lf → (Res → Option Res) → Option Res) := (12, a [], run)
theorem cx (K : Res → Option Res) : CtxOk Go.Proofs.Tryd.prog Γ0 byt0 eqs0 (X K) os := ⟨rfl, rfl, rfl, (fun p hp => by
 rcases List.mem_cons.1 hp with rfl | hp
 ·exact spec_l16Nums.ok
 rcases List.mem_cons.1 hp with rfl | hp
 ·exact spec_l8Digits.okG
 rcases List.mem_cons.1 hp with rfl | hp
 ·exact spec_l1Max.ok
 cases hp), rfl, rfl, rfl, rfl⟩
theorem t0 (K : Res → Option Res) (k : St → Option Res) (it : St → (St → Option Res) → Option Res) (x3 : List Int) (x4 x5 : Int) : iterS (X K) 0 b0 it (s0 x3 x4 x5) k = l0s x3 (fun x4 x5 => it (s0 x3 x4 x5) k) (fun y1 => k (o0 x3 y1)) x4 x5 := by kernel_rfl
theorem i0 (K : Res → Option Res) (k : St → Option Res) (x3 : List Int) : ∀ (n : Nat) (x4 x5 : Int), iter (X K) 0 b0 n (s0 x3 x4 x5) k = l0 x3 (fun y1 => k (o0 x3 y1)) n x4 x5
 | 0, _, _ => rfl
 | n + 1, x4, x5 => by
  rw [iter_succ, t0, show (fun x4 x5 => iter (X K) 0 b0 n (s0 x3 x4 x5) k) = (fun x4 x5 => l0 x3 (fun y1 => k (o0 x3 y1)) n x4 x5) from funext fun x4 => funext fun x5 => i0 K k x3 n x4 x5]; rfl
theorem v0 {K : Res → Option Res} {l : List Lf} {k : St → Option Res} {r : Res} (h : p0 K l k = some r) : ∃ x3 x4 x5, l = [.q (.ints x3), .i x4, .i x5] ∧ l0 x3 (fun y1 => k (o0 x3 y1)) fuel x4 x5 = some r := by
 unfold p0 at h; split at h
 ·exact ⟨_, _, _, rfl, h⟩
 ·cases h
theorem w0 (K : Res → Option Res) : LpSound Go.Proofs.Tryd.prog (X K) 0 b0 := lp_ok ((cx K).ok laid) (by rw [show loopsOf b0 = [] from by kernel_rfl]; intro p hp; cases hp) rfl fun p hp hid => by
 rcases List.mem_cons.1 hp with rfl | hp
 ·intro st k r h1 h2; obtain ⟨x3, x4, x5, e, h⟩ := v0 (K := K) h2; have := St.like_eq (y := s0 x3 x4 x5) h1 (by kernel_rfl) e; subst this; exact ⟨fuel, (i0 K k x3 fuel x4 x5).trans h⟩
 cases hp
theorem tie (K : Res → Option Res) (a1 : List Int) : exec (X K) c (entry 23 [one (.tr 0 1 [.int .i64] (.ints a1))] [] []) (endK (X K)) = g a1 (fun r1 => K (m r1)) := Eq.trans (b := b a1 (fun r1 => K (m r1))) (by kernel_rfl) (by rw [e])
theorem runv {l : List Lf} {K : Res → Option Res} {r : Res} (h : run l K = some r) : ∃ a1, l = [.q (.ints a1)] ∧ g a1 (fun r1 => K (m r1)) = some r := by
 unfold run at h; split at h
 ·exact ⟨_, rfl, h⟩
 ·cases h
theorem ok : Con Go.Proofs.Tryd.prog con := con_of (fn := Go.Proofs.Tryd.f12) (c := c) (Fi := fi) (X := X) (fun_of laid (by kernel_rfl) (by kernel_rfl) (by kernel_rfl) rfl (by kernel_rfl) (by kernel_rfl) cx (fun _ => rfl) (fun _ => rfl) (fun K => by
 rw [show loopsOf c = [(0, b0)] from by kernel_rfl]; intro p hp
 rcases List.mem_cons.1 hp with rfl | hp
 ·exact w0 K
 cases hp)) fun xs rows boxes K r hl hr => by
 obtain ⟨a1, e, h⟩ := runv hr
 have := St.like_eq (y := a a1) hl (by kernel_rfl) e
 obtain ⟨rfl, rfl, rfl⟩ := argSt_inj this
 exact (tie K a1).trans h
end spec_ShowWide
namespace impl_allRight_1
noncomputable def c : Code := bodyOf Go.Proofs.Tryd.f59
noncomputable def fi : Fin := ⟨Γ0, [(.tmp 2, 4)], [[1]], [], [], []⟩
noncomputable def m (r1 : Bool) : Res := ⟨[⟨false, [.bool r1]⟩], [], [], [], []⟩
noncomputable def os : List (FuncId × St × (List Lf → (Res → Option Res) → Option Res)) := [impl_NumOk.con]
noncomputable def X (K : Res → Option Res) : Ctx := { Γ := Γ0, orc := orcOf os, io := [], share := [], mvl := [], bun := [], cut := [], own := [], cin := [], cout := [], lp := lpOf [], kl := [], nk := true, eqs := eqs0, byt := byt0, fin := finK fi K }
noncomputable def b (a1 : Int) (R : Bool → Option Res) : Option Res :=
 impl_NumOk.g a1 fun r2 =>
 R (!r2)
theorem gx : ∃ x : Int → (Bool → Option Res) → Option Res, x = b := ⟨_, rfl⟩
noncomputable def g : Int → (Bool → Option Res) → Option Res := Classical.choose gx
theorem e : g = b := Classical.choose_spec gx
noncomputable def run : List Lf → (Res → Option Res) → Option Res
 | [.i a1], K => g a1 (fun r1 => K (m r1))
 | _, _ => none
noncomputable def a (a1 : Int) : St := argSt [one (.int .i64 a1)] [] []
noncomputable def con : FuncId × St × (List Lf → (Res → Option Res) → Option Res) := (59, a 0, run)
theorem cx (K : Res → Option Res) : CtxOk Go.Proofs.Tryd.prog Γ0 byt0 eqs0 (X K) os := ⟨rfl, rfl, rfl, (fun p hp => by
 rcases List.mem_cons.1 hp with rfl | hp
 ·exact impl_NumOk.ok
 cases hp), rfl, rfl, rfl, rfl⟩
theorem tie (K : Res → Option Res) (a1 : Int) : exec (X K) c (entry 6 [one (.int .i64 a1)] [] []) (endK (X K)) = g a1 (fun r1 => K (m r1)) := Eq.trans (b := b a1 (fun r1 => K (m r1))) (by kernel_rfl) (by rw [e])
theorem runv {l : List Lf} {K : Res → Option Res} {r : Res} (h : run l K = some r) : ∃ a1, l = [.i a1] ∧ g a1 (fun r1 => K (m r1)) = some r := by
 unfold run at h; split at h
 ·exact ⟨_, rfl, h⟩
 ·cases h
theorem ok : Con Go.Proofs.Tryd.prog con := con_of (fn := Go.Proofs.Tryd.f59) (c := c) (Fi := fi) (X := X) (fun_of laid (by kernel_rfl) (by kernel_rfl) (by kernel_rfl) rfl (by kernel_rfl) (by kernel_rfl) cx (fun _ => rfl) (fun _ => rfl) (fun K => by
 rw [show loopsOf c = [] from by kernel_rfl]; intro p hp
 cases hp)) fun xs rows boxes K r hl hr => by
 obtain ⟨a1, e, h⟩ := runv hr
 have := St.like_eq (y := a a1) hl (by kernel_rfl) e
 obtain ⟨rfl, rfl, rfl⟩ := argSt_inj this
 exact (tie K a1).trans h
end impl_allRight_1
namespace slices_IndexFunc_int_int_i2
noncomputable def c : Code := bodyOf Go.Proofs.Tryd.f80
noncomputable def fi : Fin := ⟨Γ0, [(.tmp 4, 3)], [[1]], [], [], []⟩
noncomputable def m (r1 : Int) : Res := ⟨[⟨false, [.int .i64 r1]⟩], [], [], [], []⟩
noncomputable def b0 : Code := codeAt c [1, 0, 1, 0, 0]
noncomputable def s0 (x2 : List Int) (x3 x4 : Int) : St := ⟨mkT 19 [(0, one (.tr 0 1 [.int .i64] (.ints x2))), (1, one (.fn 59 [])), (7, one (.int .i64 x3)), (8, one (.int .i64 x4))], [], []⟩
noncomputable def l0s (x2 : List Int) (x3 : Int) (rec : Int → Option Res) (k : Option Res) (R : Int → Option Res) (x4 : Int) : Option Res :=
 bif decide (x4 < x3) then (bif decide (0 ≤ x4) && decide (x4 < (x2.length : Int)) then (impl_allRight_1.g (x2.getD x4.toNat 0) fun r5 =>
  bif r5 then R x4
  else rec (IntKind.i64.wrap (x4 + 1)))
  else none)
 else k
noncomputable def l0 (x2 : List Int) (x3 : Int) (k : Option Res) (R : Int → Option Res) : Nat → Int → Option Res
 | 0, _ => none
 | n + 1, x4 => l0s x2 x3 (fun x4 => l0 x2 x3 k R n x4) k R x4
noncomputable def o0 (x2 : List Int) (x3 : Int) : St := ⟨mkT 19 [], [], []⟩
noncomputable def p0 (K : Res → Option Res) : List Lf → (St → Option Res) → Option Res
 | [.q (.ints x2), .i x3, .i x4], k => l0 x2 x3 (k (o0 x2 x3)) (fun r1 => K (m r1)) fuel x4
 | _, _ => none
noncomputable def os : List (FuncId × St × (List Lf → (Res → Option Res) → Option Res)) := [impl_allRight_1.con]
noncomputable def X (K : Res → Option Res) : Ctx := { Γ := Γ0, orc := orcOf os, io := [], share := [], mvl := [], bun := [], cut := [], own := [], cin := [(0, ⟨[0, 1, 7, 8], [], [], [], [], []⟩)], cout := [(0, ⟨[], [], [], [], [], []⟩)], lp := lpOf [(0, s0 [] 0 0, p0 K)], kl := [], nk := true, eqs := eqs0, byt := byt0, fin := finK fi K }
noncomputable def b (a1 : List Int) (R : Int → Option Res) : Option Res :=
 l0 a1 (a1.length : Int) (
 R (-1)) R fuel 0
theorem gx : ∃ x : List Int → (Int → Option Res) → Option Res, x = b := ⟨_, rfl⟩
noncomputable def g : List Int → (Int → Option Res) → Option Res := Classical.choose gx
theorem e : g = b := Classical.choose_spec gx
noncomputable def run : List Lf → (Res → Option Res) → Option Res
 | [.q (.ints a1)], K => g a1 (fun r1 => K (m r1))
 | _, _ => none
noncomputable def a (a1 : List Int) : St := argSt [one (.tr 0 1 [.int .i64] (.ints a1)), one (.fn 59 [])] [] []
noncomputable def con : FuncId × St × (List Lf → (Res → Option Res) → Option Res) := (80, a [], run)
theorem cx (K : Res → Option Res) : CtxOk Go.Proofs.Tryd.prog Γ0 byt0 eqs0 (X K) os := ⟨rfl, rfl, rfl, (fun p hp => by
 rcases List.mem_cons.1 hp with rfl | hp
 ·exact impl_allRight_1.ok
 cases hp), rfl, rfl, rfl, rfl⟩
theorem t0 (K : Res → Option Res) (k : St → Option Res) (it : St → (St → Option Res) → Option Res) (x2 : List Int) (x3 x4 : Int) : iterS (X K) 0 b0 it (s0 x2 x3 x4) k = l0s x2 x3 (fun x4 => it (s0 x2 x3 x4) k) (k (o0 x2 x3)) (fun r1 => K (m r1)) x4 := by kernel_rfl
theorem i0 (K : Res → Option Res) (k : St → Option Res) (x2 : List Int) (x3 : Int) : ∀ (n : Nat) (x4 : Int), iter (X K) 0 b0 n (s0 x2 x3 x4) k = l0 x2 x3 (k (o0 x2 x3)) (fun r1 => K (m r1)) n x4
 | 0, _ => rfl
 | n + 1, x4 => by
  rw [iter_succ, t0, show (fun x4 => iter (X K) 0 b0 n (s0 x2 x3 x4) k) = (fun x4 => l0 x2 x3 (k (o0 x2 x3)) (fun r1 => K (m r1)) n x4) from funext fun x4 => i0 K k x2 x3 n x4]; rfl
theorem v0 {K : Res → Option Res} {l : List Lf} {k : St → Option Res} {r : Res} (h : p0 K l k = some r) : ∃ x2 x3 x4, l = [.q (.ints x2), .i x3, .i x4] ∧ l0 x2 x3 (k (o0 x2 x3)) (fun r1 => K (m r1)) fuel x4 = some r := by
 unfold p0 at h; split at h
 ·exact ⟨_, _, _, rfl, h⟩
 ·cases h
theorem w0 (K : Res → Option Res) : LpSound Go.Proofs.Tryd.prog (X K) 0 b0 := lp_ok ((cx K).ok laid) (by rw [show loopsOf b0 = [] from by kernel_rfl]; intro p hp; cases hp) rfl fun p hp hid => by
 rcases List.mem_cons.1 hp with rfl | hp
 ·intro st k r h1 h2; obtain ⟨x2, x3, x4, e, h⟩ := v0 (K := K) h2; have := St.like_eq (y := s0 x2 x3 x4) h1 (by kernel_rfl) e; subst this; exact ⟨fuel, (i0 K k x2 x3 fuel x4).trans h⟩
 cases hp
theorem tie (K : Res → Option Res) (a1 : List Int) : exec (X K) c (entry 19 [one (.tr 0 1 [.int .i64] (.ints a1)), one (.fn 59 [])] [] []) (endK (X K)) = g a1 (fun r1 => K (m r1)) := Eq.trans (b := b a1 (fun r1 => K (m r1))) (by kernel_rfl) (by rw [e])
theorem runv {l : List Lf} {K : Res → Option Res} {r : Res} (h : run l K = some r) : ∃ a1, l = [.q (.ints a1)] ∧ g a1 (fun r1 => K (m r1)) = some r := by
 unfold run at h; split at h
 ·exact ⟨_, rfl, h⟩
 ·cases h
theorem ok : Con Go.Proofs.Tryd.prog con := con_of (fn := Go.Proofs.Tryd.f80) (c := c) (Fi := fi) (X := X) (fun_of laid (by kernel_rfl) (by kernel_rfl) (by kernel_rfl) rfl (by kernel_rfl) (by kernel_rfl) cx (fun _ => rfl) (fun _ => rfl) (fun K => by
 rw [show loopsOf c = [(0, b0)] from by kernel_rfl]; intro p hp
 rcases List.mem_cons.1 hp with rfl | hp
 ·exact w0 K
 cases hp)) fun xs rows boxes K r hl hr => by
 obtain ⟨a1, e, h⟩ := runv hr
 have := St.like_eq (y := a a1) hl (by kernel_rfl) e
 obtain ⟨rfl, rfl, rfl⟩ := argSt_inj this
 exact (tie K a1).trans h
end slices_IndexFunc_int_int_i2
namespace slices_ContainsFunc_int_int_i2
noncomputable def c : Code := bodyOf Go.Proofs.Tryd.f58
noncomputable def fi : Fin := ⟨Γ0, [(.tmp 4, 4)], [[1]], [], [], []⟩
noncomputable def m (r1 : Bool) : Res := ⟨[⟨false, [.bool r1]⟩], [], [], [], []⟩
noncomputable def os : List (FuncId × St × (List Lf → (Res → Option Res) → Option Res)) := [slices_IndexFunc_int_int_i2.con]
noncomputable def X (K : Res → Option Res) : Ctx := { Γ := Γ0, orc := orcOf os, io := [], share := [], mvl := [], bun := [], cut := [], own := [], cin := [], cout := [], lp := lpOf [], kl := [], nk := true, eqs := eqs0, byt := byt0, fin := finK fi K }
noncomputable def b (a1 : List Int) (R : Bool → Option Res) : Option Res :=
 slices_IndexFunc_int_int_i2.g a1 fun r2 =>
 R (decide (0 ≤ r2))
theorem gx : ∃ x : List Int → (Bool → Option Res) → Option Res, x = b := ⟨_, rfl⟩
noncomputable def g : List Int → (Bool → Option Res) → Option Res := Classical.choose gx
theorem e : g = b := Classical.choose_spec gx
noncomputable def run : List Lf → (Res → Option Res) → Option Res
 | [.q (.ints a1)], K => g a1 (fun r1 => K (m r1))
 | _, _ => none
noncomputable def a (a1 : List Int) : St := argSt [one (.tr 0 1 [.int .i64] (.ints a1)), one (.fn 59 [])] [] []
noncomputable def con : FuncId × St × (List Lf → (Res → Option Res) → Option Res) := (58, a [], run)
theorem cx (K : Res → Option Res) : CtxOk Go.Proofs.Tryd.prog Γ0 byt0 eqs0 (X K) os := ⟨rfl, rfl, rfl, (fun p hp => by
 rcases List.mem_cons.1 hp with rfl | hp
 ·exact slices_IndexFunc_int_int_i2.ok
 cases hp), rfl, rfl, rfl, rfl⟩
theorem tie (K : Res → Option Res) (a1 : List Int) : exec (X K) c (entry 9 [one (.tr 0 1 [.int .i64] (.ints a1)), one (.fn 59 [])] [] []) (endK (X K)) = g a1 (fun r1 => K (m r1)) := Eq.trans (b := b a1 (fun r1 => K (m r1))) (by kernel_rfl) (by rw [e])
theorem runv {l : List Lf} {K : Res → Option Res} {r : Res} (h : run l K = some r) : ∃ a1, l = [.q (.ints a1)] ∧ g a1 (fun r1 => K (m r1)) = some r := by
 unfold run at h; split at h
 ·exact ⟨_, rfl, h⟩
 ·cases h
theorem ok : Con Go.Proofs.Tryd.prog con := con_of (fn := Go.Proofs.Tryd.f58) (c := c) (Fi := fi) (X := X) (fun_of laid (by kernel_rfl) (by kernel_rfl) (by kernel_rfl) rfl (by kernel_rfl) (by kernel_rfl) cx (fun _ => rfl) (fun _ => rfl) (fun K => by
 rw [show loopsOf c = [] from by kernel_rfl]; intro p hp
 cases hp)) fun xs rows boxes K r hl hr => by
 obtain ⟨a1, e, h⟩ := runv hr
 have := St.like_eq (y := a a1) hl (by kernel_rfl) e
 obtain ⟨rfl, rfl, rfl⟩ := argSt_inj this
 exact (tie K a1).trans h
end slices_ContainsFunc_int_int_i2
namespace impl_allRight
noncomputable def c : Code := bodyOf Go.Proofs.Tryd.f38
noncomputable def fi : Fin := ⟨Γ0, [(.tmp 2, 4)], [[1]], [], [], []⟩
noncomputable def m (r1 : Bool) : Res := ⟨[⟨false, [.bool r1]⟩], [], [], [], []⟩
noncomputable def os : List (FuncId × St × (List Lf → (Res → Option Res) → Option Res)) := [slices_ContainsFunc_int_int_i2.con]
noncomputable def X (K : Res → Option Res) : Ctx := { Γ := Γ0, orc := orcOf os, io := [], share := [], mvl := [], bun := [], cut := [], own := [], cin := [], cout := [], lp := lpOf [], kl := [], nk := true, eqs := eqs0, byt := byt0, fin := finK fi K }
noncomputable def b (a1 : List Int) (R : Bool → Option Res) : Option Res :=
 slices_ContainsFunc_int_int_i2.g a1 fun r2 =>
 R (!r2)
theorem gx : ∃ x : List Int → (Bool → Option Res) → Option Res, x = b := ⟨_, rfl⟩
noncomputable def g : List Int → (Bool → Option Res) → Option Res := Classical.choose gx
theorem e : g = b := Classical.choose_spec gx
noncomputable def run : List Lf → (Res → Option Res) → Option Res
 | [.q (.ints a1)], K => g a1 (fun r1 => K (m r1))
 | _, _ => none
noncomputable def a (a1 : List Int) : St := argSt [one (.tr 0 1 [.int .i64] (.ints a1))] [] []
noncomputable def con : FuncId × St × (List Lf → (Res → Option Res) → Option Res) := (38, a [], run)
theorem cx (K : Res → Option Res) : CtxOk Go.Proofs.Tryd.prog Γ0 byt0 eqs0 (X K) os := ⟨rfl, rfl, rfl, (fun p hp => by
 rcases List.mem_cons.1 hp with rfl | hp
 ·exact slices_ContainsFunc_int_int_i2.ok
 cases hp), rfl, rfl, rfl, rfl⟩
theorem tie (K : Res → Option Res) (a1 : List Int) : exec (X K) c (entry 6 [one (.tr 0 1 [.int .i64] (.ints a1))] [] []) (endK (X K)) = g a1 (fun r1 => K (m r1)) := Eq.trans (b := b a1 (fun r1 => K (m r1))) (by kernel_rfl) (by rw [e])
theorem runv {l : List Lf} {K : Res → Option Res} {r : Res} (h : run l K = some r) : ∃ a1, l = [.q (.ints a1)] ∧ g a1 (fun r1 => K (m r1)) = some r := by
 unfold run at h; split at h
 ·exact ⟨_, rfl, h⟩
 ·cases h
theorem ok : Con Go.Proofs.Tryd.prog con := con_of (fn := Go.Proofs.Tryd.f38) (c := c) (Fi := fi) (X := X) (fun_of laid (by kernel_rfl) (by kernel_rfl) (by kernel_rfl) rfl (by kernel_rfl) (by kernel_rfl) cx (fun _ => rfl) (fun _ => rfl) (fun K => by
 rw [show loopsOf c = [] from by kernel_rfl]; intro p hp
 cases hp)) fun xs rows boxes K r hl hr => by
 obtain ⟨a1, e, h⟩ := runv hr
 have := St.like_eq (y := a a1) hl (by kernel_rfl) e
 obtain ⟨rfl, rfl, rfl⟩ := argSt_inj this
 exact (tie K a1).trans h
end impl_allRight
namespace impl_ShowWide
noncomputable def c : Code := bodyOf Go.Proofs.Tryd.f14
noncomputable def fi : Fin := ⟨Γ0, [(.tmp 2, 3)], [[1]], [], [], []⟩
noncomputable def m (r1 : Int) : Res := ⟨[⟨false, [.int .i64 r1]⟩], [], [], [], []⟩
noncomputable def b0 : Code := codeAt c [1, 1, 1, 0, 1, 0, 0]
noncomputable def s0 (x3 : Int) (x4 : List Int) (x5 x6 : Int) : St := ⟨mkT 22 [(3, one (.int .i64 x3)), (9, one (.tr 0 1 [.int .i64] (.ints x4))), (10, one (.int .i64 x5)), (11, one (.int .i64 x6))], [], []⟩
noncomputable def l0s (x4 : List Int) (x5 : Int) (rec : Int → Int → Option Res) (k : Int → Option Res) (x3 x6 : Int) : Option Res :=
 bif decide (x6 < x5) then (bif decide (0 ≤ x6) && decide (x6 < (x4.length : Int)) then (impl_ShowNum.g (x4.getD x6.toNat 0) fun r7 =>
  rec (minmax true x3 (r7.size : Int)) (IntKind.i64.wrap (x6 + 1)))
  else none)
 else k x3
noncomputable def l0 (x4 : List Int) (x5 : Int) (k : Int → Option Res) : Nat → Int → Int → Option Res
 | 0, _, _ => none
 | n + 1, x3, x6 => l0s x4 x5 (fun x3 x6 => l0 x4 x5 k n x3 x6) k x3 x6
noncomputable def o0 (x4 : List Int) (x5 y1 : Int) : St := ⟨mkT 22 [(3, one (.int .i64 y1))], [], []⟩
noncomputable def p0 (K : Res → Option Res) : List Lf → (St → Option Res) → Option Res
 | [.i x3, .q (.ints x4), .i x5, .i x6], k => l0 x4 x5 (fun y1 => k (o0 x4 x5 y1)) fuel x3 x6
 | _, _ => none
noncomputable def os : List (FuncId × St × (List Lf → (Res → Option Res) → Option Res)) := [impl_allRight.con, impl_ShowNum.con]
noncomputable def X (K : Res → Option Res) : Ctx := { Γ := Γ0, orc := orcOf os, io := [], share := [], mvl := [], bun := [], cut := [], own := [], cin := [(0, ⟨[3, 9, 10, 11], [], [], [], [], []⟩)], cout := [(0, ⟨[3], [], [], [], [], []⟩)], lp := lpOf [(0, s0 0 [] 0 0, p0 K)], kl := [], nk := true, eqs := eqs0, byt := byt0, fin := finK fi K }
noncomputable def b (a1 : List Int) (R : Int → Option Res) : Option Res :=
 impl_allRight.g a1 fun r2 =>
 bif !r2 then R (-1)
 else (l0 a1 (a1.length : Int) (fun y8 =>
 R y8) fuel 0 0)
theorem gx : ∃ x : List Int → (Int → Option Res) → Option Res, x = b := ⟨_, rfl⟩
noncomputable def g : List Int → (Int → Option Res) → Option Res := Classical.choose gx
theorem e : g = b := Classical.choose_spec gx
noncomputable def run : List Lf → (Res → Option Res) → Option Res
 | [.q (.ints a1)], K => g a1 (fun r1 => K (m r1))
 | _, _ => none
noncomputable def a (a1 : List Int) : St := argSt [one (.tr 0 1 [.int .i64] (.ints a1))] [] []
noncomputable def con : FuncId × St × (List Lf → (Res → Option Res) → Option Res) := (14, a [], run)
theorem cx (K : Res → Option Res) : CtxOk Go.Proofs.Tryd.prog Γ0 byt0 eqs0 (X K) os := ⟨rfl, rfl, rfl, (fun p hp => by
 rcases List.mem_cons.1 hp with rfl | hp
 ·exact impl_allRight.ok
 rcases List.mem_cons.1 hp with rfl | hp
 ·exact impl_ShowNum.ok
 cases hp), rfl, rfl, rfl, rfl⟩
theorem t0 (K : Res → Option Res) (k : St → Option Res) (it : St → (St → Option Res) → Option Res) (x3 : Int) (x4 : List Int) (x5 x6 : Int) : iterS (X K) 0 b0 it (s0 x3 x4 x5 x6) k = l0s x4 x5 (fun x3 x6 => it (s0 x3 x4 x5 x6) k) (fun y1 => k (o0 x4 x5 y1)) x3 x6 := by kernel_rfl
theorem i0 (K : Res → Option Res) (k : St → Option Res) (x4 : List Int) (x5 : Int) : ∀ (n : Nat) (x3 x6 : Int), iter (X K) 0 b0 n (s0 x3 x4 x5 x6) k = l0 x4 x5 (fun y1 => k (o0 x4 x5 y1)) n x3 x6
 | 0, _, _ => rfl
 | n + 1, x3, x6 => by
  rw [iter_succ, t0, show (fun x3 x6 => iter (X K) 0 b0 n (s0 x3 x4 x5 x6) k) = (fun x3 x6 => l0 x4 x5 (fun y1 => k (o0 x4 x5 y1)) n x3 x6) from funext fun x3 => funext fun x6 => i0 K k x4 x5 n x3 x6]; rfl
theorem v0 {K : Res → Option Res} {l : List Lf} {k : St → Option Res} {r : Res} (h : p0 K l k = some r) : ∃ x3 x4 x5 x6, l = [.i x3, .q (.ints x4), .i x5, .i x6] ∧ l0 x4 x5 (fun y1 => k (o0 x4 x5 y1)) fuel x3 x6 = some r := by
 unfold p0 at h; split at h
 ·exact ⟨_, _, _, _, rfl, h⟩
 ·cases h
theorem w0 (K : Res → Option Res) : LpSound Go.Proofs.Tryd.prog (X K) 0 b0 := lp_ok ((cx K).ok laid) (by rw [show loopsOf b0 = [] from by kernel_rfl]; intro p hp; cases hp) rfl fun p hp hid => by
 rcases List.mem_cons.1 hp with rfl | hp
 ·intro st k r h1 h2; obtain ⟨x3, x4, x5, x6, e, h⟩ := v0 (K := K) h2; have := St.like_eq (y := s0 x3 x4 x5 x6) h1 (by kernel_rfl) e; subst this; exact ⟨fuel, (i0 K k x4 x5 fuel x3 x6).trans h⟩
 cases hp
theorem tie (K : Res → Option Res) (a1 : List Int) : exec (X K) c (entry 22 [one (.tr 0 1 [.int .i64] (.ints a1))] [] []) (endK (X K)) = g a1 (fun r1 => K (m r1)) := Eq.trans (b := b a1 (fun r1 => K (m r1))) (by kernel_rfl) (by rw [e])
theorem runv {l : List Lf} {K : Res → Option Res} {r : Res} (h : run l K = some r) : ∃ a1, l = [.q (.ints a1)] ∧ g a1 (fun r1 => K (m r1)) = some r := by
 unfold run at h; split at h
 ·exact ⟨_, rfl, h⟩
 ·cases h
theorem ok : Con Go.Proofs.Tryd.prog con := con_of (fn := Go.Proofs.Tryd.f14) (c := c) (Fi := fi) (X := X) (fun_of laid (by kernel_rfl) (by kernel_rfl) (by kernel_rfl) rfl (by kernel_rfl) (by kernel_rfl) cx (fun _ => rfl) (fun _ => rfl) (fun K => by
 rw [show loopsOf c = [(0, b0)] from by kernel_rfl]; intro p hp
 rcases List.mem_cons.1 hp with rfl | hp
 ·exact w0 K
 cases hp)) fun xs rows boxes K r hl hr => by
 obtain ⟨a1, e, h⟩ := runv hr
 have := St.like_eq (y := a a1) hl (by kernel_rfl) e
 obtain ⟨rfl, rfl, rfl⟩ := argSt_inj this
 exact (tie K a1).trans h
end impl_ShowWide
namespace spec_ShowRow
noncomputable def c : Code := bodyOf Go.Proofs.Tryd.f16
noncomputable def fi : Fin := ⟨Γ0, [(.tmp 2, 9)], [[1]], [], [], []⟩
noncomputable def m (r1 : ByteArray) : Res := ⟨[⟨false, [.str r1]⟩], [], [], [], []⟩
noncomputable def b0 : Code := codeAt c [1, 1, 0, 1, 0, 0]
noncomputable def s0 (x2 : List Int) (x3 : ByteArray) (x4 : Int) : St := ⟨mkT 27 [(0, one (.tr 0 1 [.int .i64] (.ints x2))), (3, one (.str x3)), (4, one (.int .i64 x4))], [], []⟩
noncomputable def l0s (x2 : List Int) (rec : ByteArray → Int → Option Res) (k : ByteArray → Option Res) (x3 : ByteArray) (x4 : Int) : Option Res :=
 bif decide (x4 < (x2.length : Int)) then (spec_l16Nums.g x2 fun r5 =>
  bif r5 then (bif decide (0 < x4) then (bif decide (x3.size + 1 ≤ 9223372036854775807) then (bif decide (0 ≤ x4) && decide (x4 < (x2.length : Int)) then (spec_l8Digits.G (x2.getD x4.toNat 0) fun r6 =>
   bif decide ((x3 ++ (⟨#[32]⟩ : ByteArray)).size + r6.size ≤ 9223372036854775807) then rec ((x3 ++ (⟨#[32]⟩ : ByteArray)) ++ r6) (IntKind.i64.wrap (x4 + 1))
   else none)
   else none)
   else none)
   else bif decide (0 ≤ x4) && decide (x4 < (x2.length : Int)) then (spec_l8Digits.G (x2.getD x4.toNat 0) fun r7 =>
    bif decide (x3.size + r7.size ≤ 9223372036854775807) then rec (x3 ++ r7) (IntKind.i64.wrap (x4 + 1))
    else none)
   else none)
  else k x3)
 else k x3
noncomputable def l0 (x2 : List Int) (k : ByteArray → Option Res) : Nat → ByteArray → Int → Option Res
 | 0, _, _ => none
 | n + 1, x3, x4 => l0s x2 (fun x3 x4 => l0 x2 k n x3 x4) k x3 x4
noncomputable def o0 (x2 : List Int) (y1 : ByteArray) : St := ⟨mkT 27 [(3, one (.str y1))], [], []⟩
noncomputable def p0 (K : Res → Option Res) : List Lf → (St → Option Res) → Option Res
 | [.q (.ints x2), .s x3, .i x4], k => l0 x2 (fun y1 => k (o0 x2 y1)) fuel x3 x4
 | _, _ => none
noncomputable def os : List (FuncId × St × (List Lf → (Res → Option Res) → Option Res)) := [spec_l16Nums.con, spec_l8Digits.con]
noncomputable def X (K : Res → Option Res) : Ctx := { Γ := Γ0, orc := orcOf os, io := [], share := [], mvl := [], bun := [], cut := [], own := [], cin := [(0, ⟨[0, 3, 4], [], [], [], [], []⟩)], cout := [(0, ⟨[3], [], [], [], [], []⟩)], lp := lpOf [(0, s0 [] ByteArray.empty 0, p0 K)], kl := [], nk := true, eqs := eqs0, byt := byt0, fin := finK fi K }
noncomputable def b (a1 : List Int) (R : ByteArray → Option Res) : Option Res :=
 l0 a1 (fun y8 =>
 R y8) fuel (⟨#[]⟩ : ByteArray) 0
theorem gx : ∃ x : List Int → (ByteArray → Option Res) → Option Res, x = b := ⟨_, rfl⟩
noncomputable def g : List Int → (ByteArray → Option Res) → Option Res := Classical.choose gx
theorem e : g = b := Classical.choose_spec gx
noncomputable def run : List Lf → (Res → Option Res) → Option Res
 | [.q (.ints a1)], K => g a1 (fun r1 => K (m r1))
 | _, _ => none
noncomputable def a (a1 : List Int) : St := argSt [one (.tr 0 1 [.int .i64] (.ints a1))] [] []
noncomputable def con : FuncId × St × (List Lf → (Res → Option Res) → Option Res) := (16, a [], run)
theorem cx (K : Res → Option Res) : CtxOk Go.Proofs.Tryd.prog Γ0 byt0 eqs0 (X K) os := ⟨rfl, rfl, rfl, (fun p hp => by
 rcases List.mem_cons.1 hp with rfl | hp
 ·exact spec_l16Nums.ok
 rcases List.mem_cons.1 hp with rfl | hp
 ·exact spec_l8Digits.okG
 cases hp), rfl, rfl, rfl, rfl⟩
theorem t0 (K : Res → Option Res) (k : St → Option Res) (it : St → (St → Option Res) → Option Res) (x2 : List Int) (x3 : ByteArray) (x4 : Int) : iterS (X K) 0 b0 it (s0 x2 x3 x4) k = l0s x2 (fun x3 x4 => it (s0 x2 x3 x4) k) (fun y1 => k (o0 x2 y1)) x3 x4 := by kernel_rfl
theorem i0 (K : Res → Option Res) (k : St → Option Res) (x2 : List Int) : ∀ (n : Nat) (x3 : ByteArray) (x4 : Int), iter (X K) 0 b0 n (s0 x2 x3 x4) k = l0 x2 (fun y1 => k (o0 x2 y1)) n x3 x4
 | 0, _, _ => rfl
 | n + 1, x3, x4 => by
  rw [iter_succ, t0, show (fun x3 x4 => iter (X K) 0 b0 n (s0 x2 x3 x4) k) = (fun x3 x4 => l0 x2 (fun y1 => k (o0 x2 y1)) n x3 x4) from funext fun x3 => funext fun x4 => i0 K k x2 n x3 x4]; rfl
theorem v0 {K : Res → Option Res} {l : List Lf} {k : St → Option Res} {r : Res} (h : p0 K l k = some r) : ∃ x2 x3 x4, l = [.q (.ints x2), .s x3, .i x4] ∧ l0 x2 (fun y1 => k (o0 x2 y1)) fuel x3 x4 = some r := by
 unfold p0 at h; split at h
 ·exact ⟨_, _, _, rfl, h⟩
 ·cases h
theorem w0 (K : Res → Option Res) : LpSound Go.Proofs.Tryd.prog (X K) 0 b0 := lp_ok ((cx K).ok laid) (by rw [show loopsOf b0 = [] from by kernel_rfl]; intro p hp; cases hp) rfl fun p hp hid => by
 rcases List.mem_cons.1 hp with rfl | hp
 ·intro st k r h1 h2; obtain ⟨x2, x3, x4, e, h⟩ := v0 (K := K) h2; have := St.like_eq (y := s0 x2 x3 x4) h1 (by kernel_rfl) e; subst this; exact ⟨fuel, (i0 K k x2 fuel x3 x4).trans h⟩
 cases hp
theorem tie (K : Res → Option Res) (a1 : List Int) : exec (X K) c (entry 27 [one (.tr 0 1 [.int .i64] (.ints a1))] [] []) (endK (X K)) = g a1 (fun r1 => K (m r1)) := Eq.trans (b := b a1 (fun r1 => K (m r1))) (by kernel_rfl) (by rw [e])
theorem runv {l : List Lf} {K : Res → Option Res} {r : Res} (h : run l K = some r) : ∃ a1, l = [.q (.ints a1)] ∧ g a1 (fun r1 => K (m r1)) = some r := by
 unfold run at h; split at h
 ·exact ⟨_, rfl, h⟩
 ·cases h
theorem ok : Con Go.Proofs.Tryd.prog con := con_of (fn := Go.Proofs.Tryd.f16) (c := c) (Fi := fi) (X := X) (fun_of laid (by kernel_rfl) (by kernel_rfl) (by kernel_rfl) rfl (by kernel_rfl) (by kernel_rfl) cx (fun _ => rfl) (fun _ => rfl) (fun K => by
 rw [show loopsOf c = [(0, b0)] from by kernel_rfl]; intro p hp
 rcases List.mem_cons.1 hp with rfl | hp
 ·exact w0 K
 cases hp)) fun xs rows boxes K r hl hr => by
 obtain ⟨a1, e, h⟩ := runv hr
 have := St.like_eq (y := a a1) hl (by kernel_rfl) e
 obtain ⟨rfl, rfl, rfl⟩ := argSt_inj this
 exact (tie K a1).trans h
end spec_ShowRow
namespace strings_Join
theorem is : JoinIs Go.Proofs.Tryd.prog 39 := ⟨fun a c sep w => Go.Proofs.Tryd.strings_Join_none a c sep w, fun bk o c xs sep w h1 h2 h3 h4 h5 => Go.Proofs.Tryd.strings_Join bk o c xs sep w h1 h2 h3 h4 h5⟩
noncomputable def g (a1 : List ByteArray) (a2 : ByteArray) (R : ByteArray → Option Res) : Option Res := joinG a1 a2 R
noncomputable def con : FuncId × St × (List Lf → (Res → Option Res) → Option Res) := joinC 39 0 1
theorem ok : Con Go.Proofs.Tryd.prog con := con_join 0 1 (fn := Go.Proofs.Tryd.f39) (by kernel_rfl) (by kernel_rfl) (by kernel_rfl) is
end strings_Join
namespace impl_ShowRow
noncomputable def c : Code := bodyOf Go.Proofs.Tryd.f17
noncomputable def fi : Fin := ⟨Γ0, [(.tmp 2, 9)], [[1]], [], [], []⟩
noncomputable def m (r1 : ByteArray) : Res := ⟨[⟨false, [.str r1]⟩], [], [], [], []⟩
noncomputable def b0 : Code := codeAt c [1, 1, 1, 0, 1, 0, 0]
noncomputable def s0 (x3 : List Int) (x4 x5 : Int) (x6 : List ByteArray) : St := ⟨mkT 23 [(3, one (.ow 7152)), (9, one (.tr 0 1 [.int .i64] (.ints x3))), (10, one (.int .i64 x4)), (11, one (.int .i64 x5))], [(7152, ⟨[.str], .strs x6, true, 0⟩)], []⟩
noncomputable def l0s (x3 : List Int) (x4 : Int) (rec : Int → List ByteArray → Option Res) (k : List ByteArray → Option Res) (x5 : Int) (x6 : List ByteArray) : Option Res :=
 bif decide (x5 < x4) then (bif decide (0 ≤ x5) && decide (x5 < (x3.length : Int)) then (impl_ShowNum.g (x3.getD x5.toNat 0) fun r7 =>
  bif decide ((x6.length + 1) * 16 ≤ 140737488355328) then rec (IntKind.i64.wrap (x5 + 1)) (x6 ++ ([r7] : List ByteArray))
  else none)
  else none)
 else k x6
noncomputable def l0 (x3 : List Int) (x4 : Int) (k : List ByteArray → Option Res) : Nat → Int → List ByteArray → Option Res
 | 0, _, _ => none
 | n + 1, x5, x6 => l0s x3 x4 (fun x5 x6 => l0 x3 x4 k n x5 x6) k x5 x6
noncomputable def o0 (x3 : List Int) (x4 : Int) (y1 : List ByteArray) : St := ⟨mkT 23 [(3, one (.ow 7152))], [(7152, ⟨[.str], .strs y1, true, 0⟩)], []⟩
noncomputable def p0 (K : Res → Option Res) : List Lf → (St → Option Res) → Option Res
 | [.q (.ints x3), .i x4, .i x5, .q (.strs x6)], k => l0 x3 x4 (fun y1 => k (o0 x3 x4 y1)) fuel x5 x6
 | _, _ => none
noncomputable def os : List (FuncId × St × (List Lf → (Res → Option Res) → Option Res)) := [impl_allRight.con, impl_ShowNum.con, strings_Join.con]
noncomputable def X (K : Res → Option Res) : Ctx := { Γ := Γ0, orc := orcOf os, io := [], share := [], mvl := [], bun := [], cut := [], own := [(3, 0, 0, [.str])], cin := [(0, ⟨[3, 9, 10, 11], [(7152, 7152), (15400, 7152)], [], [], [], []⟩)], cout := [(0, ⟨[3], [(7152, 7152)], [], [], [], []⟩)], lp := lpOf [(0, s0 [] 0 0 [], p0 K)], kl := [], nk := true, eqs := eqs0, byt := byt0, fin := finK fi K }
noncomputable def b (a1 : List Int) (R : ByteArray → Option Res) : Option Res :=
 impl_allRight.g a1 fun r2 =>
 bif !r2 then R (⟨#[]⟩ : ByteArray)
 else (l0 a1 (a1.length : Int) (fun y8 =>
 strings_Join.g y8 (⟨#[32]⟩ : ByteArray) fun r9 =>
 R r9) fuel 0 ([] : List ByteArray))
theorem gx : ∃ x : List Int → (ByteArray → Option Res) → Option Res, x = b := ⟨_, rfl⟩
noncomputable def g : List Int → (ByteArray → Option Res) → Option Res := Classical.choose gx
theorem e : g = b := Classical.choose_spec gx
noncomputable def run : List Lf → (Res → Option Res) → Option Res
 | [.q (.ints a1)], K => g a1 (fun r1 => K (m r1))
 | _, _ => none
noncomputable def a (a1 : List Int) : St := argSt [one (.tr 0 1 [.int .i64] (.ints a1))] [] []
noncomputable def con : FuncId × St × (List Lf → (Res → Option Res) → Option Res) := (17, a [], run)
theorem cx (K : Res → Option Res) : CtxOk Go.Proofs.Tryd.prog Γ0 byt0 eqs0 (X K) os := ⟨rfl, rfl, rfl, (fun p hp => by
 rcases List.mem_cons.1 hp with rfl | hp
 ·exact impl_allRight.ok
 rcases List.mem_cons.1 hp with rfl | hp
 ·exact impl_ShowNum.ok
 rcases List.mem_cons.1 hp with rfl | hp
 ·exact strings_Join.ok
 cases hp), rfl, rfl, rfl, rfl⟩
theorem t0 (K : Res → Option Res) (k : St → Option Res) (it : St → (St → Option Res) → Option Res) (x3 : List Int) (x4 x5 : Int) (x6 : List ByteArray) : iterS (X K) 0 b0 it (s0 x3 x4 x5 x6) k = l0s x3 x4 (fun x5 x6 => it (s0 x3 x4 x5 x6) k) (fun y1 => k (o0 x3 x4 y1)) x5 x6 := by kernel_rfl
theorem i0 (K : Res → Option Res) (k : St → Option Res) (x3 : List Int) (x4 : Int) : ∀ (n : Nat) (x5 : Int) (x6 : List ByteArray), iter (X K) 0 b0 n (s0 x3 x4 x5 x6) k = l0 x3 x4 (fun y1 => k (o0 x3 x4 y1)) n x5 x6
 | 0, _, _ => rfl
 | n + 1, x5, x6 => by
  rw [iter_succ, t0, show (fun x5 x6 => iter (X K) 0 b0 n (s0 x3 x4 x5 x6) k) = (fun x5 x6 => l0 x3 x4 (fun y1 => k (o0 x3 x4 y1)) n x5 x6) from funext fun x5 => funext fun x6 => i0 K k x3 x4 n x5 x6]; rfl
theorem v0 {K : Res → Option Res} {l : List Lf} {k : St → Option Res} {r : Res} (h : p0 K l k = some r) : ∃ x3 x4 x5 x6, l = [.q (.ints x3), .i x4, .i x5, .q (.strs x6)] ∧ l0 x3 x4 (fun y1 => k (o0 x3 x4 y1)) fuel x5 x6 = some r := by
 unfold p0 at h; split at h
 ·exact ⟨_, _, _, _, rfl, h⟩
 ·cases h
theorem w0 (K : Res → Option Res) : LpSound Go.Proofs.Tryd.prog (X K) 0 b0 := lp_ok ((cx K).ok laid) (by rw [show loopsOf b0 = [] from by kernel_rfl]; intro p hp; cases hp) rfl fun p hp hid => by
 rcases List.mem_cons.1 hp with rfl | hp
 ·intro st k r h1 h2; obtain ⟨x3, x4, x5, x6, e, h⟩ := v0 (K := K) h2; have := St.like_eq (y := s0 x3 x4 x5 x6) h1 (by kernel_rfl) e; subst this; exact ⟨fuel, (i0 K k x3 x4 fuel x5 x6).trans h⟩
 cases hp
theorem tie (K : Res → Option Res) (a1 : List Int) : exec (X K) c (entry 23 [one (.tr 0 1 [.int .i64] (.ints a1))] [] []) (endK (X K)) = g a1 (fun r1 => K (m r1)) := Eq.trans (b := b a1 (fun r1 => K (m r1))) (by kernel_rfl) (by rw [e])
theorem runv {l : List Lf} {K : Res → Option Res} {r : Res} (h : run l K = some r) : ∃ a1, l = [.q (.ints a1)] ∧ g a1 (fun r1 => K (m r1)) = some r := by
 unfold run at h; split at h
 ·exact ⟨_, rfl, h⟩
 ·cases h
theorem ok : Con Go.Proofs.Tryd.prog con := con_of (fn := Go.Proofs.Tryd.f17) (c := c) (Fi := fi) (X := X) (fun_of laid (by kernel_rfl) (by kernel_rfl) (by kernel_rfl) rfl (by kernel_rfl) (by kernel_rfl) cx (fun _ => rfl) (fun _ => rfl) (fun K => by
 rw [show loopsOf c = [(0, b0)] from by kernel_rfl]; intro p hp
 rcases List.mem_cons.1 hp with rfl | hp
 ·exact w0 K
 cases hp)) fun xs rows boxes K r hl hr => by
 obtain ⟨a1, e, h⟩ := runv hr
 have := St.like_eq (y := a a1) hl (by kernel_rfl) e
 obtain ⟨rfl, rfl, rfl⟩ := argSt_inj this
 exact (tie K a1).trans h
end impl_ShowRow
namespace laws_big
noncomputable def c : Code := bodyOf Go.Proofs.Tryd.f18
noncomputable def fi : Fin := ⟨Γ0, [(.tmp 2, 4)], [[1]], [], [], []⟩
noncomputable def m (r1 : Bool) : Res := ⟨[⟨false, [.bool r1]⟩], [], [], [], []⟩
noncomputable def os : List (FuncId × St × (List Lf → (Res → Option Res) → Option Res)) := []
noncomputable def X (K : Res → Option Res) : Ctx := { Γ := Γ0, orc := orcOf os, io := [], share := [], mvl := [], bun := [], cut := [], own := [], cin := [], cout := [], lp := lpOf [], kl := [], nk := true, eqs := eqs0, byt := byt0, fin := finK fi K }
noncomputable def b (a1 : List Int) (R : Bool → Option Res) : Option Res :=
 R (decide (1048576 < (a1.length : Int)))
theorem gx : ∃ x : List Int → (Bool → Option Res) → Option Res, x = b := ⟨_, rfl⟩
noncomputable def g : List Int → (Bool → Option Res) → Option Res := Classical.choose gx
theorem e : g = b := Classical.choose_spec gx
noncomputable def run : List Lf → (Res → Option Res) → Option Res
 | [.q (.ints a1)], K => g a1 (fun r1 => K (m r1))
 | _, _ => none
noncomputable def a (a1 : List Int) : St := argSt [one (.tr 0 1 [.int .u8] (.ints a1))] [] []
noncomputable def con : FuncId × St × (List Lf → (Res → Option Res) → Option Res) := (18, a [], run)
theorem cx (K : Res → Option Res) : CtxOk Go.Proofs.Tryd.prog Γ0 byt0 eqs0 (X K) os := ⟨rfl, rfl, rfl, (fun p hp => by
 cases hp), rfl, rfl, rfl, rfl⟩
theorem tie (K : Res → Option Res) (a1 : List Int) : exec (X K) c (entry 6 [one (.tr 0 1 [.int .u8] (.ints a1))] [] []) (endK (X K)) = g a1 (fun r1 => K (m r1)) := Eq.trans (b := b a1 (fun r1 => K (m r1))) (by kernel_rfl) (by rw [e])
theorem runv {l : List Lf} {K : Res → Option Res} {r : Res} (h : run l K = some r) : ∃ a1, l = [.q (.ints a1)] ∧ g a1 (fun r1 => K (m r1)) = some r := by
 unfold run at h; split at h
 ·exact ⟨_, rfl, h⟩
 ·cases h
theorem ok : Con Go.Proofs.Tryd.prog con := con_of (fn := Go.Proofs.Tryd.f18) (c := c) (Fi := fi) (X := X) (fun_of laid (by kernel_rfl) (by kernel_rfl) (by kernel_rfl) rfl (by kernel_rfl) (by kernel_rfl) cx (fun _ => rfl) (fun _ => rfl) (fun K => by
 rw [show loopsOf c = [] from by kernel_rfl]; intro p hp
 cases hp)) fun xs rows boxes K r hl hr => by
 obtain ⟨a1, e, h⟩ := runv hr
 have := St.like_eq (y := a a1) hl (by kernel_rfl) e
 obtain ⟨rfl, rfl, rfl⟩ := argSt_inj this
 exact (tie K a1).trans h
end laws_big
namespace spec_l1New
noncomputable def c : Code := bodyOf Go.Proofs.Tryd.f53
noncomputable def fi : Fin := ⟨Γ0, [(.tmp 2, 65)], [[1]], [], [], [(2, [.sl [.int .u8] 1, .int .i64, .int .i64], [0, 1, 1])]⟩
noncomputable def m (r1 : List Int) (r2 r3 : Int) : Res := ⟨[⟨false, [.bp 1000 0]⟩], [], [], [], [[.tr 2 2 [.int .u8] (.ints r1), .int .i64 r2, .int .i64 r3]]⟩
noncomputable def b0 : Code := codeAt c [1, 1, 0, 1, 0, 0]
noncomputable def s0 (x2 : List Int) (x3 x4 : Int) : St := ⟨mkT 32 [(0, one (.tr 2 1 [.int .u8] (.ints x2))), (3, one (.int .i64 x3)), (4, one (.int .i64 x4))], [], []⟩
noncomputable def l0s (x2 : List Int) (rec : Int → Int → Option Res) (k : Int → Option Res) (x3 x4 : Int) : Option Res :=
 bif decide (x4 < (x2.length : Int)) then (bif decide (x4 < 4000) then (bif decide (0 ≤ x4) && decide (x4 < (x2.length : Int)) then rec (arith.bits .and .i64 (IntKind.i64.wrap ((IntKind.i64.wrap ((IntKind.i64.wrap (x3 * 131)) + (IntKind.i64.wrap (x2.getD x4.toNat 0)))) + 7)) 1073741823) (IntKind.i64.wrap (x4 + 1))
  else none)
  else k x3)
 else k x3
noncomputable def l0 (x2 : List Int) (k : Int → Option Res) : Nat → Int → Int → Option Res
 | 0, _, _ => none
 | n + 1, x3, x4 => l0s x2 (fun x3 x4 => l0 x2 k n x3 x4) k x3 x4
noncomputable def o0 (x2 : List Int) (y2 : Int) : St := ⟨mkT 32 [(0, one (.tr 2 1 [.int .u8] (.ints x2))), (3, one (.int .i64 y2))], [], []⟩
noncomputable def p0 (K : Res → Option Res) : List Lf → (St → Option Res) → Option Res
 | [.q (.ints x2), .i x3, .i x4], k => l0 x2 (fun y2 => k (o0 x2 y2)) fuel x3 x4
 | _, _ => none
noncomputable def os : List (FuncId × St × (List Lf → (Res → Option Res) → Option Res)) := []
noncomputable def X (K : Res → Option Res) : Ctx := { Γ := Γ0, orc := orcOf os, io := [], share := [], mvl := [], bun := [], cut := [], own := [], cin := [(0, ⟨[0, 3, 4], [], [], [], [], []⟩)], cout := [(0, ⟨[0, 3], [], [], [], [], []⟩)], lp := lpOf [(0, s0 [] 0 0, p0 K)], kl := [], nk := true, eqs := eqs0, byt := byt0, fin := finK fi K }
noncomputable def b (a1 : List Int) (R : List Int → Int → Int → Option Res) : Option Res :=
 l0 a1 (fun y5 =>
 R a1 0 y5) fuel (IntKind.i64.wrap (18218 + (a1.length : Int))) 0
theorem gx : ∃ x : List Int → (List Int → Int → Int → Option Res) → Option Res, x = b := ⟨_, rfl⟩
noncomputable def g : List Int → (List Int → Int → Int → Option Res) → Option Res := Classical.choose gx
theorem e : g = b := Classical.choose_spec gx
noncomputable def run : List Lf → (Res → Option Res) → Option Res
 | [.q (.ints a1)], K => g a1 (fun r1 r2 r3 => K (m r1 r2 r3))
 | _, _ => none
noncomputable def a (a1 : List Int) : St := argSt [one (.tr 2 1 [.int .u8] (.ints a1))] [] []
noncomputable def con : FuncId × St × (List Lf → (Res → Option Res) → Option Res) := (53, a [], run)
theorem cx (K : Res → Option Res) : CtxOk Go.Proofs.Tryd.prog Γ0 byt0 eqs0 (X K) os := ⟨rfl, rfl, rfl, (fun p hp => by
 cases hp), rfl, rfl, rfl, rfl⟩
theorem t0 (K : Res → Option Res) (k : St → Option Res) (it : St → (St → Option Res) → Option Res) (x2 : List Int) (x3 x4 : Int) : iterS (X K) 0 b0 it (s0 x2 x3 x4) k = l0s x2 (fun x3 x4 => it (s0 x2 x3 x4) k) (fun y2 => k (o0 x2 y2)) x3 x4 := by kernel_rfl
theorem i0 (K : Res → Option Res) (k : St → Option Res) (x2 : List Int) : ∀ (n : Nat) (x3 x4 : Int), iter (X K) 0 b0 n (s0 x2 x3 x4) k = l0 x2 (fun y2 => k (o0 x2 y2)) n x3 x4
 | 0, _, _ => rfl
 | n + 1, x3, x4 => by
  rw [iter_succ, t0, show (fun x3 x4 => iter (X K) 0 b0 n (s0 x2 x3 x4) k) = (fun x3 x4 => l0 x2 (fun y2 => k (o0 x2 y2)) n x3 x4) from funext fun x3 => funext fun x4 => i0 K k x2 n x3 x4]; rfl
theorem v0 {K : Res → Option Res} {l : List Lf} {k : St → Option Res} {r : Res} (h : p0 K l k = some r) : ∃ x2 x3 x4, l = [.q (.ints x2), .i x3, .i x4] ∧ l0 x2 (fun y2 => k (o0 x2 y2)) fuel x3 x4 = some r := by
 unfold p0 at h; split at h
 ·exact ⟨_, _, _, rfl, h⟩
 ·cases h
theorem w0 (K : Res → Option Res) : LpSound Go.Proofs.Tryd.prog (X K) 0 b0 := lp_ok ((cx K).ok laid) (by rw [show loopsOf b0 = [] from by kernel_rfl]; intro p hp; cases hp) rfl fun p hp hid => by
 rcases List.mem_cons.1 hp with rfl | hp
 ·intro st k r h1 h2; obtain ⟨x2, x3, x4, e, h⟩ := v0 (K := K) h2; have := St.like_eq (y := s0 x2 x3 x4) h1 (by kernel_rfl) e; subst this; exact ⟨fuel, (i0 K k x2 fuel x3 x4).trans h⟩
 cases hp
theorem tie (K : Res → Option Res) (a1 : List Int) : exec (X K) c (entry 32 [one (.tr 2 1 [.int .u8] (.ints a1))] [] []) (endK (X K)) = g a1 (fun r1 r2 r3 => K (m r1 r2 r3)) := Eq.trans (b := b a1 (fun r1 r2 r3 => K (m r1 r2 r3))) (by kernel_rfl) (by rw [e])
theorem runv {l : List Lf} {K : Res → Option Res} {r : Res} (h : run l K = some r) : ∃ a1, l = [.q (.ints a1)] ∧ g a1 (fun r1 r2 r3 => K (m r1 r2 r3)) = some r := by
 unfold run at h; split at h
 ·exact ⟨_, rfl, h⟩
 ·cases h
theorem ok : Con Go.Proofs.Tryd.prog con := con_of (fn := Go.Proofs.Tryd.f53) (c := c) (Fi := fi) (X := X) (fun_of laid (by kernel_rfl) (by kernel_rfl) (by kernel_rfl) rfl (by kernel_rfl) (by kernel_rfl) cx (fun _ => rfl) (fun _ => rfl) (fun K => by
 rw [show loopsOf c = [(0, b0)] from by kernel_rfl]; intro p hp
 rcases List.mem_cons.1 hp with rfl | hp
 ·exact w0 K
 cases hp)) fun xs rows boxes K r hl hr => by
 obtain ⟨a1, e, h⟩ := runv hr
 have := St.like_eq (y := a a1) hl (by kernel_rfl) e
 obtain ⟨rfl, rfl, rfl⟩ := argSt_inj this
 exact (tie K a1).trans h
end spec_l1New
namespace spec_l1Byte
noncomputable def c : Code := bodyOf Go.Proofs.Tryd.f83
noncomputable def fi : Fin := ⟨Γ0, [(.tmp 2, 3)], [[1]], [], [([.sl [.int .u8] 1, .int .i64, .int .i64], [0, 1, 1])], []⟩
noncomputable def m (a1 : List Int) (r1 r3 r4 : Int) : Res := ⟨[⟨false, [.int .i64 r1]⟩], [], [], [[.tr 2 2 [.int .u8] (.ints a1), .int .i64 r3, .int .i64 r4]], []⟩
noncomputable def os : List (FuncId × St × (List Lf → (Res → Option Res) → Option Res)) := []
noncomputable def X (K : Res → Option Res) : Ctx := { Γ := Γ0, orc := orcOf os, io := [], share := [], mvl := [], bun := [], cut := [], own := [], cin := [], cout := [], lp := lpOf [], kl := [], nk := true, eqs := eqs0, byt := byt0, fin := finK fi K }
noncomputable def b (a1 : List Int) (a2 a3 : Int) (R : Int → Int → Int → Option Res) : Option Res :=
 bif decide (a2 < (a1.length : Int)) then (bif decide (0 ≤ a2) && decide (a2 < (a1.length : Int)) then R (arith.bits .and .i64 (IntKind.i64.wrap ((arith.bits .and .i64 (arith.bits .xor .i64 ((IntKind.i64.wrap ((IntKind.i64.wrap (a3 * 6364136223846793005)) + 1442695040888963407)).fdiv (2 ^ 33)) ((IntKind.i64.wrap ((IntKind.i64.wrap (a3 * 6364136223846793005)) + 1442695040888963407)).fdiv (2 ^ 45))) 255) + (IntKind.i64.wrap (a1.getD a2.toNat 0)))) 255) (IntKind.i64.wrap (a2 + 1)) (IntKind.i64.wrap ((IntKind.i64.wrap (a3 * 6364136223846793005)) + 1442695040888963407))
  else none)
 else R (arith.bits .and .i64 (arith.bits .xor .i64 ((IntKind.i64.wrap ((IntKind.i64.wrap (a3 * 6364136223846793005)) + 1442695040888963407)).fdiv (2 ^ 33)) ((IntKind.i64.wrap ((IntKind.i64.wrap (a3 * 6364136223846793005)) + 1442695040888963407)).fdiv (2 ^ 45))) 255) a2 (IntKind.i64.wrap ((IntKind.i64.wrap (a3 * 6364136223846793005)) + 1442695040888963407))
theorem gx : ∃ x : List Int → Int → Int → (Int → Int → Int → Option Res) → Option Res, x = b := ⟨_, rfl⟩
noncomputable def g : List Int → Int → Int → (Int → Int → Int → Option Res) → Option Res := Classical.choose gx
theorem e : g = b := Classical.choose_spec gx
noncomputable def run : List Lf → (Res → Option Res) → Option Res
 | [.q (.ints a1), .i a2, .i a3], K => g a1 a2 a3 (fun r1 r3 r4 => K (m a1 r1 r3 r4))
 | _, _ => none
noncomputable def a (a1 : List Int) (a2 a3 : Int) : St := argSt [one (.bp 0 0)] [] [[.tr 2 2 [.int .u8] (.ints a1), .int .i64 a2, .int .i64 a3]]
noncomputable def con : FuncId × St × (List Lf → (Res → Option Res) → Option Res) := (83, a [] 0 0, run)
theorem cx (K : Res → Option Res) : CtxOk Go.Proofs.Tryd.prog Γ0 byt0 eqs0 (X K) os := ⟨rfl, rfl, rfl, (fun p hp => by
 cases hp), rfl, rfl, rfl, rfl⟩
theorem tie (K : Res → Option Res) (a1 : List Int) (a2 a3 : Int) : exec (X K) c (entry 58 [one (.bp 0 0)] [] [[.tr 2 2 [.int .u8] (.ints a1), .int .i64 a2, .int .i64 a3]]) (endK (X K)) = g a1 a2 a3 (fun r1 r3 r4 => K (m a1 r1 r3 r4)) := Eq.trans (b := b a1 a2 a3 (fun r1 r3 r4 => K (m a1 r1 r3 r4))) (by kernel_rfl) (by rw [e])
theorem runv {l : List Lf} {K : Res → Option Res} {r : Res} (h : run l K = some r) : ∃ a1 a2 a3, l = [.q (.ints a1), .i a2, .i a3] ∧ g a1 a2 a3 (fun r1 r3 r4 => K (m a1 r1 r3 r4)) = some r := by
 unfold run at h; split at h
 ·exact ⟨_, _, _, rfl, h⟩
 ·cases h
theorem ok : Con Go.Proofs.Tryd.prog con := con_of (fn := Go.Proofs.Tryd.f83) (c := c) (Fi := fi) (X := X) (fun_of laid (by kernel_rfl) (by kernel_rfl) (by kernel_rfl) rfl (by kernel_rfl) (by kernel_rfl) cx (fun _ => rfl) (fun _ => rfl) (fun K => by
 rw [show loopsOf c = [] from by kernel_rfl]; intro p hp
 cases hp)) fun xs rows boxes K r hl hr => by
 obtain ⟨a1, a2, a3, e, h⟩ := runv hr
 have := St.like_eq (y := a a1 a2 a3) hl (by kernel_rfl) e
 obtain ⟨rfl, rfl, rfl⟩ := argSt_inj this
 exact (tie K a1 a2 a3).trans h
end spec_l1Byte
namespace spec_l1Below
noncomputable def c : Code := bodyOf Go.Proofs.Tryd.f63
noncomputable def fi : Fin := ⟨Γ0, [(.tmp 4, 3)], [[1]], [], [([.sl [.int .u8] 1, .int .i64, .int .i64], [0, 1, 1])], []⟩
noncomputable def m (a2 : List Int) (r1 r3 r4 : Int) : Res := ⟨[⟨false, [.int .i64 r1]⟩], [], [], [[.tr 2 2 [.int .u8] (.ints a2), .int .i64 r3, .int .i64 r4]], []⟩
noncomputable def os : List (FuncId × St × (List Lf → (Res → Option Res) → Option Res)) := [spec_l1Byte.con]
noncomputable def X (K : Res → Option Res) : Ctx := { Γ := Γ0, orc := orcOf os, io := [], share := [], mvl := [], bun := [], cut := [], own := [], cin := [], cout := [], lp := lpOf [], kl := [], nk := true, eqs := eqs0, byt := byt0, fin := finK fi K }
noncomputable def b (a1 : Int) (a2 : List Int) (a3 a4 : Int) (R : Int → Int → Int → Option Res) : Option Res :=
 bif decide (a1 ≤ 0) then R 0 a3 a4
 else bif decide (a1 ≤ 256) then (spec_l1Byte.g a2 a3 a4 fun r5 r6 r7 =>
  bif decide (a1 = 0) then none
  else R (r5.tmod a1) r6 r7)
 else (spec_l1Byte.g a2 a3 a4 fun r8 r9 r10 =>
 spec_l1Byte.g a2 r9 r10 fun r11 r12 r13 =>
 spec_l1Byte.g a2 r12 r13 fun r14 r15 r16 =>
 spec_l1Byte.g a2 r15 r16 fun r17 r18 r19 =>
 bif decide (a1 = 0) then none
 else R ((IntKind.i64.wrap ((IntKind.i64.wrap ((IntKind.i64.wrap ((IntKind.i64.wrap (r8 * 16777216)) + (IntKind.i64.wrap (r11 * 65536)))) + (IntKind.i64.wrap (r14 * 256)))) + r17)).tmod a1) r18 r19)
theorem gx : ∃ x : Int → List Int → Int → Int → (Int → Int → Int → Option Res) → Option Res, x = b := ⟨_, rfl⟩
noncomputable def g : Int → List Int → Int → Int → (Int → Int → Int → Option Res) → Option Res := Classical.choose gx
theorem e : g = b := Classical.choose_spec gx
noncomputable def run : List Lf → (Res → Option Res) → Option Res
 | [.i a1, .q (.ints a2), .i a3, .i a4], K => g a1 a2 a3 a4 (fun r1 r3 r4 => K (m a2 r1 r3 r4))
 | _, _ => none
noncomputable def a (a1 : Int) (a2 : List Int) (a3 a4 : Int) : St := argSt [one (.bp 0 0), one (.int .i64 a1)] [] [[.tr 2 2 [.int .u8] (.ints a2), .int .i64 a3, .int .i64 a4]]
noncomputable def con : FuncId × St × (List Lf → (Res → Option Res) → Option Res) := (63, a 0 [] 0 0, run)
theorem cx (K : Res → Option Res) : CtxOk Go.Proofs.Tryd.prog Γ0 byt0 eqs0 (X K) os := ⟨rfl, rfl, rfl, (fun p hp => by
 rcases List.mem_cons.1 hp with rfl | hp
 ·exact spec_l1Byte.ok
 cases hp), rfl, rfl, rfl, rfl⟩
theorem tie (K : Res → Option Res) (a1 : Int) (a2 : List Int) (a3 a4 : Int) : exec (X K) c (entry 37 [one (.bp 0 0), one (.int .i64 a1)] [] [[.tr 2 2 [.int .u8] (.ints a2), .int .i64 a3, .int .i64 a4]]) (endK (X K)) = g a1 a2 a3 a4 (fun r1 r3 r4 => K (m a2 r1 r3 r4)) := Eq.trans (b := b a1 a2 a3 a4 (fun r1 r3 r4 => K (m a2 r1 r3 r4))) (by kernel_rfl) (by rw [e])
theorem runv {l : List Lf} {K : Res → Option Res} {r : Res} (h : run l K = some r) : ∃ a1 a2 a3 a4, l = [.i a1, .q (.ints a2), .i a3, .i a4] ∧ g a1 a2 a3 a4 (fun r1 r3 r4 => K (m a2 r1 r3 r4)) = some r := by
 unfold run at h; split at h
 ·exact ⟨_, _, _, _, rfl, h⟩
 ·cases h
theorem ok : Con Go.Proofs.Tryd.prog con := con_of (fn := Go.Proofs.Tryd.f63) (c := c) (Fi := fi) (X := X) (fun_of laid (by kernel_rfl) (by kernel_rfl) (by kernel_rfl) rfl (by kernel_rfl) (by kernel_rfl) cx (fun _ => rfl) (fun _ => rfl) (fun K => by
 rw [show loopsOf c = [] from by kernel_rfl]; intro p hp
 cases hp)) fun xs rows boxes K r hl hr => by
 obtain ⟨a1, a2, a3, a4, e, h⟩ := runv hr
 have := St.like_eq (y := a a1 a2 a3 a4) hl (by kernel_rfl) e
 obtain ⟨rfl, rfl, rfl⟩ := argSt_inj this
 exact (tie K a1 a2 a3 a4).trans h
end spec_l1Below
namespace spec_l1Once
noncomputable def c : Code := bodyOf Go.Proofs.Tryd.f65
noncomputable def fi : Fin := ⟨Γ0, [(.tmp 4, 4)], [[1]], [], [([.sl [.int .u8] 1, .int .i64, .int .i64], [0, 1, 1])], []⟩
noncomputable def m (a2 : List Int) (r1 : Bool) (r3 r4 : Int) : Res := ⟨[⟨false, [.bool r1]⟩], [], [], [[.tr 2 2 [.int .u8] (.ints a2), .int .i64 r3, .int .i64 r4]], []⟩
noncomputable def os : List (FuncId × St × (List Lf → (Res → Option Res) → Option Res)) := [spec_l1Below.con]
noncomputable def X (K : Res → Option Res) : Ctx := { Γ := Γ0, orc := orcOf os, io := [], share := [], mvl := [], bun := [], cut := [], own := [], cin := [], cout := [], lp := lpOf [], kl := [], nk := true, eqs := eqs0, byt := byt0, fin := finK fi K }
noncomputable def b (a1 : Int) (a2 : List Int) (a3 a4 : Int) (R : Bool → Int → Int → Option Res) : Option Res :=
 spec_l1Below.g a1 a2 a3 a4 fun r5 r6 r7 =>
 R (r5 == 0) r6 r7
theorem gx : ∃ x : Int → List Int → Int → Int → (Bool → Int → Int → Option Res) → Option Res, x = b := ⟨_, rfl⟩
noncomputable def g : Int → List Int → Int → Int → (Bool → Int → Int → Option Res) → Option Res := Classical.choose gx
theorem e : g = b := Classical.choose_spec gx
noncomputable def run : List Lf → (Res → Option Res) → Option Res
 | [.i a1, .q (.ints a2), .i a3, .i a4], K => g a1 a2 a3 a4 (fun r1 r3 r4 => K (m a2 r1 r3 r4))
 | _, _ => none
noncomputable def a (a1 : Int) (a2 : List Int) (a3 a4 : Int) : St := argSt [one (.bp 0 0), one (.int .i64 a1)] [] [[.tr 2 2 [.int .u8] (.ints a2), .int .i64 a3, .int .i64 a4]]
noncomputable def con : FuncId × St × (List Lf → (Res → Option Res) → Option Res) := (65, a 0 [] 0 0, run)
theorem cx (K : Res → Option Res) : CtxOk Go.Proofs.Tryd.prog Γ0 byt0 eqs0 (X K) os := ⟨rfl, rfl, rfl, (fun p hp => by
 rcases List.mem_cons.1 hp with rfl | hp
 ·exact spec_l1Below.ok
 cases hp), rfl, rfl, rfl, rfl⟩
theorem tie (K : Res → Option Res) (a1 : Int) (a2 : List Int) (a3 a4 : Int) : exec (X K) c (entry 9 [one (.bp 0 0), one (.int .i64 a1)] [] [[.tr 2 2 [.int .u8] (.ints a2), .int .i64 a3, .int .i64 a4]]) (endK (X K)) = g a1 a2 a3 a4 (fun r1 r3 r4 => K (m a2 r1 r3 r4)) := Eq.trans (b := b a1 a2 a3 a4 (fun r1 r3 r4 => K (m a2 r1 r3 r4))) (by kernel_rfl) (by rw [e])
theorem runv {l : List Lf} {K : Res → Option Res} {r : Res} (h : run l K = some r) : ∃ a1 a2 a3 a4, l = [.i a1, .q (.ints a2), .i a3, .i a4] ∧ g a1 a2 a3 a4 (fun r1 r3 r4 => K (m a2 r1 r3 r4)) = some r := by
 unfold run at h; split at h
 ·exact ⟨_, _, _, _, rfl, h⟩
 ·cases h
theorem ok : Con Go.Proofs.Tryd.prog con := con_of (fn := Go.Proofs.Tryd.f65) (c := c) (Fi := fi) (X := X) (fun_of laid (by kernel_rfl) (by kernel_rfl) (by kernel_rfl) rfl (by kernel_rfl) (by kernel_rfl) cx (fun _ => rfl) (fun _ => rfl) (fun K => by
 rw [show loopsOf c = [] from by kernel_rfl]; intro p hp
 cases hp)) fun xs rows boxes K r hl hr => by
 obtain ⟨a1, a2, a3, a4, e, h⟩ := runv hr
 have := St.like_eq (y := a a1 a2 a3 a4) hl (by kernel_rfl) e
 obtain ⟨rfl, rfl, rfl⟩ := argSt_inj this
 exact (tie K a1 a2 a3 a4).trans h
end spec_l1Once
namespace spec_l1PickInt
noncomputable def c : Code := bodyOf Go.Proofs.Tryd.f84
noncomputable def fi : Fin := ⟨Γ0, [(.tmp 4, 3)], [[1]], [], [([.sl [.int .u8] 1, .int .i64, .int .i64], [0, 1, 1])], []⟩
noncomputable def m (a2 : List Int) (r1 r3 r4 : Int) : Res := ⟨[⟨false, [.int .i64 r1]⟩], [], [], [[.tr 2 2 [.int .u8] (.ints a2), .int .i64 r3, .int .i64 r4]], []⟩
noncomputable def os : List (FuncId × St × (List Lf → (Res → Option Res) → Option Res)) := [spec_l1Below.con]
noncomputable def X (K : Res → Option Res) : Ctx := { Γ := Γ0, orc := orcOf os, io := [], share := [], mvl := [], bun := [], cut := [], own := [], cin := [], cout := [], lp := lpOf [], kl := [], nk := true, eqs := eqs0, byt := byt0, fin := finK fi K }
noncomputable def b (a1 a2 : List Int) (a3 a4 : Int) (R : Int → Int → Int → Option Res) : Option Res :=
 spec_l1Below.g (a1.length : Int) a2 a3 a4 fun r5 r6 r7 =>
 bif decide (0 ≤ r5) && decide (r5 < (a1.length : Int)) then R (a1.getD r5.toNat 0) r6 r7
 else none
theorem gx : ∃ x : List Int → List Int → Int → Int → (Int → Int → Int → Option Res) → Option Res, x = b := ⟨_, rfl⟩
noncomputable def g : List Int → List Int → Int → Int → (Int → Int → Int → Option Res) → Option Res := Classical.choose gx
theorem e : g = b := Classical.choose_spec gx
noncomputable def run : List Lf → (Res → Option Res) → Option Res
 | [.q (.ints a1), .q (.ints a2), .i a3, .i a4], K => g a1 a2 a3 a4 (fun r1 r3 r4 => K (m a2 r1 r3 r4))
 | _, _ => none
noncomputable def a (a1 a2 : List Int) (a3 a4 : Int) : St := argSt [one (.bp 0 0), one (.tr 0 1 [.int .i64] (.ints a1))] [] [[.tr 2 2 [.int .u8] (.ints a2), .int .i64 a3, .int .i64 a4]]
noncomputable def con : FuncId × St × (List Lf → (Res → Option Res) → Option Res) := (84, a [] [] 0 0, run)
theorem cx (K : Res → Option Res) : CtxOk Go.Proofs.Tryd.prog Γ0 byt0 eqs0 (X K) os := ⟨rfl, rfl, rfl, (fun p hp => by
 rcases List.mem_cons.1 hp with rfl | hp
 ·exact spec_l1Below.ok
 cases hp), rfl, rfl, rfl, rfl⟩
theorem tie (K : Res → Option Res) (a1 a2 : List Int) (a3 a4 : Int) : exec (X K) c (entry 12 [one (.bp 0 0), one (.tr 0 1 [.int .i64] (.ints a1))] [] [[.tr 2 2 [.int .u8] (.ints a2), .int .i64 a3, .int .i64 a4]]) (endK (X K)) = g a1 a2 a3 a4 (fun r1 r3 r4 => K (m a2 r1 r3 r4)) := Eq.trans (b := b a1 a2 a3 a4 (fun r1 r3 r4 => K (m a2 r1 r3 r4))) (by kernel_rfl) (by rw [e])
theorem runv {l : List Lf} {K : Res → Option Res} {r : Res} (h : run l K = some r) : ∃ a1 a2 a3 a4, l = [.q (.ints a1), .q (.ints a2), .i a3, .i a4] ∧ g a1 a2 a3 a4 (fun r1 r3 r4 => K (m a2 r1 r3 r4)) = some r := by
 unfold run at h; split at h
 ·exact ⟨_, _, _, _, rfl, h⟩
 ·cases h
theorem ok : Con Go.Proofs.Tryd.prog con := con_of (fn := Go.Proofs.Tryd.f84) (c := c) (Fi := fi) (X := X) (fun_of laid (by kernel_rfl) (by kernel_rfl) (by kernel_rfl) rfl (by kernel_rfl) (by kernel_rfl) cx (fun _ => rfl) (fun _ => rfl) (fun K => by
 rw [show loopsOf c = [] from by kernel_rfl]; intro p hp
 cases hp)) fun xs rows boxes K r hl hr => by
 obtain ⟨a1, a2, a3, a4, e, h⟩ := runv hr
 have := St.like_eq (y := a a1 a2 a3 a4) hl (by kernel_rfl) e
 obtain ⟨rfl, rfl, rfl⟩ := argSt_inj this
 exact (tie K a1 a2 a3 a4).trans h
end spec_l1PickInt
namespace spec_l1DrawNum
noncomputable def c : Code := bodyOf Go.Proofs.Tryd.f64
noncomputable def fi : Fin := ⟨Γ0, [(.tmp 2, 3)], [[1]], [], [([.sl [.int .u8] 1, .int .i64, .int .i64], [0, 1, 1])], []⟩
noncomputable def m (a1 : List Int) (r1 r3 r4 : Int) : Res := ⟨[⟨false, [.int .i64 r1]⟩], [], [], [[.tr 2 2 [.int .u8] (.ints a1), .int .i64 r3, .int .i64 r4]], []⟩
noncomputable def os : List (FuncId × St × (List Lf → (Res → Option Res) → Option Res)) := [spec_l1Once.con, spec_l1PickInt.con, spec_l1Below.con]
noncomputable def X (K : Res → Option Res) : Ctx := { Γ := Γ0, orc := orcOf os, io := [], share := [], mvl := [], bun := [], cut := [], own := [], cin := [], cout := [], lp := lpOf [], kl := [], nk := true, eqs := eqs0, byt := byt0, fin := finK fi K }
noncomputable def b (a1 : List Int) (a2 a3 : Int) (R : Int → Int → Int → Option Res) : Option Res :=
 spec_l1Once.g 12 a1 a2 a3 fun r4 r5 r6 =>
 bif r4 then (spec_l1PickInt.g ([1000000000000, (-1000000000000), 999999999999, 1000000, (-1000000), 1000001, 999999999999] : List Int) a1 r5 r6 fun r7 r8 r9 =>
  R r7 r8 r9)
 else (spec_l1Below.g 20 a1 r5 r6 fun r10 r11 r12 =>
 R (IntKind.i64.wrap (r10 - 6)) r11 r12)
theorem gx : ∃ x : List Int → Int → Int → (Int → Int → Int → Option Res) → Option Res, x = b := ⟨_, rfl⟩
noncomputable def g : List Int → Int → Int → (Int → Int → Int → Option Res) → Option Res := Classical.choose gx
theorem e : g = b := Classical.choose_spec gx
noncomputable def run : List Lf → (Res → Option Res) → Option Res
 | [.q (.ints a1), .i a2, .i a3], K => g a1 a2 a3 (fun r1 r3 r4 => K (m a1 r1 r3 r4))
 | _, _ => none
noncomputable def a (a1 : List Int) (a2 a3 : Int) : St := argSt [one (.bp 0 0)] [] [[.tr 2 2 [.int .u8] (.ints a1), .int .i64 a2, .int .i64 a3]]
noncomputable def con : FuncId × St × (List Lf → (Res → Option Res) → Option Res) := (64, a [] 0 0, run)
theorem cx (K : Res → Option Res) : CtxOk Go.Proofs.Tryd.prog Γ0 byt0 eqs0 (X K) os := ⟨rfl, rfl, rfl, (fun p hp => by
 rcases List.mem_cons.1 hp with rfl | hp
 ·exact spec_l1Once.ok
 rcases List.mem_cons.1 hp with rfl | hp
 ·exact spec_l1PickInt.ok
 rcases List.mem_cons.1 hp with rfl | hp
 ·exact spec_l1Below.ok
 cases hp), rfl, rfl, rfl, rfl⟩
theorem tie (K : Res → Option Res) (a1 : List Int) (a2 a3 : Int) : exec (X K) c (entry 11 [one (.bp 0 0)] [] [[.tr 2 2 [.int .u8] (.ints a1), .int .i64 a2, .int .i64 a3]]) (endK (X K)) = g a1 a2 a3 (fun r1 r3 r4 => K (m a1 r1 r3 r4)) := Eq.trans (b := b a1 a2 a3 (fun r1 r3 r4 => K (m a1 r1 r3 r4))) (by kernel_rfl) (by rw [e])
theorem runv {l : List Lf} {K : Res → Option Res} {r : Res} (h : run l K = some r) : ∃ a1 a2 a3, l = [.q (.ints a1), .i a2, .i a3] ∧ g a1 a2 a3 (fun r1 r3 r4 => K (m a1 r1 r3 r4)) = some r := by
 unfold run at h; split at h
 ·exact ⟨_, _, _, rfl, h⟩
 ·cases h
theorem ok : Con Go.Proofs.Tryd.prog con := con_of (fn := Go.Proofs.Tryd.f64) (c := c) (Fi := fi) (X := X) (fun_of laid (by kernel_rfl) (by kernel_rfl) (by kernel_rfl) rfl (by kernel_rfl) (by kernel_rfl) cx (fun _ => rfl) (fun _ => rfl) (fun K => by
 rw [show loopsOf c = [] from by kernel_rfl]; intro p hp
 cases hp)) fun xs rows boxes K r hl hr => by
 obtain ⟨a1, a2, a3, e, h⟩ := runv hr
 have := St.like_eq (y := a a1 a2 a3) hl (by kernel_rfl) e
 obtain ⟨rfl, rfl, rfl⟩ := argSt_inj this
 exact (tie K a1 a2 a3).trans h
end spec_l1DrawNum
namespace spec_l1DrawRaw
noncomputable def c : Code := bodyOf Go.Proofs.Tryd.f66
noncomputable def fi : Fin := ⟨Γ0, [(.tmp 2, 3)], [[1]], [], [([.sl [.int .u8] 1, .int .i64, .int .i64], [0, 1, 1])], []⟩
noncomputable def m (a1 : List Int) (r1 r3 r4 : Int) : Res := ⟨[⟨false, [.int .i64 r1]⟩], [], [], [[.tr 2 2 [.int .u8] (.ints a1), .int .i64 r3, .int .i64 r4]], []⟩
noncomputable def os : List (FuncId × St × (List Lf → (Res → Option Res) → Option Res)) := [spec_l1Once.con, spec_l1PickInt.con, spec_l1DrawNum.con]
noncomputable def X (K : Res → Option Res) : Ctx := { Γ := Γ0, orc := orcOf os, io := [], share := [], mvl := [], bun := [], cut := [], own := [], cin := [], cout := [], lp := lpOf [], kl := [], nk := true, eqs := eqs0, byt := byt0, fin := finK fi K }
noncomputable def b (a1 : List Int) (a2 a3 : Int) (R : Int → Int → Int → Option Res) : Option Res :=
 spec_l1Once.g 15 a1 a2 a3 fun r4 r5 r6 =>
 bif r4 then (spec_l1PickInt.g ([1000000000001, (-1000000000001), 9223372036854775807, (-9223372036854775808)] : List Int) a1 r5 r6 fun r7 r8 r9 =>
  R r7 r8 r9)
 else (spec_l1DrawNum.g a1 r5 r6 fun r10 r11 r12 =>
 R r10 r11 r12)
theorem gx : ∃ x : List Int → Int → Int → (Int → Int → Int → Option Res) → Option Res, x = b := ⟨_, rfl⟩
noncomputable def g : List Int → Int → Int → (Int → Int → Int → Option Res) → Option Res := Classical.choose gx
theorem e : g = b := Classical.choose_spec gx
noncomputable def run : List Lf → (Res → Option Res) → Option Res
 | [.q (.ints a1), .i a2, .i a3], K => g a1 a2 a3 (fun r1 r3 r4 => K (m a1 r1 r3 r4))
 | _, _ => none
noncomputable def a (a1 : List Int) (a2 a3 : Int) : St := argSt [one (.bp 0 0)] [] [[.tr 2 2 [.int .u8] (.ints a1), .int .i64 a2, .int .i64 a3]]
noncomputable def con : FuncId × St × (List Lf → (Res → Option Res) → Option Res) := (66, a [] 0 0, run)
theorem cx (K : Res → Option Res) : CtxOk Go.Proofs.Tryd.prog Γ0 byt0 eqs0 (X K) os := ⟨rfl, rfl, rfl, (fun p hp => by
 rcases List.mem_cons.1 hp with rfl | hp
 ·exact spec_l1Once.ok
 rcases List.mem_cons.1 hp with rfl | hp
 ·exact spec_l1PickInt.ok
 rcases List.mem_cons.1 hp with rfl | hp
 ·exact spec_l1DrawNum.ok
 cases hp), rfl, rfl, rfl, rfl⟩
theorem tie (K : Res → Option Res) (a1 : List Int) (a2 a3 : Int) : exec (X K) c (entry 10 [one (.bp 0 0)] [] [[.tr 2 2 [.int .u8] (.ints a1), .int .i64 a2, .int .i64 a3]]) (endK (X K)) = g a1 a2 a3 (fun r1 r3 r4 => K (m a1 r1 r3 r4)) := Eq.trans (b := b a1 a2 a3 (fun r1 r3 r4 => K (m a1 r1 r3 r4))) (by kernel_rfl) (by rw [e])
theorem runv {l : List Lf} {K : Res → Option Res} {r : Res} (h : run l K = some r) : ∃ a1 a2 a3, l = [.q (.ints a1), .i a2, .i a3] ∧ g a1 a2 a3 (fun r1 r3 r4 => K (m a1 r1 r3 r4)) = some r := by
 unfold run at h; split at h
 ·exact ⟨_, _, _, rfl, h⟩
 ·cases h
theorem ok : Con Go.Proofs.Tryd.prog con := con_of (fn := Go.Proofs.Tryd.f66) (c := c) (Fi := fi) (X := X) (fun_of laid (by kernel_rfl) (by kernel_rfl) (by kernel_rfl) rfl (by kernel_rfl) (by kernel_rfl) cx (fun _ => rfl) (fun _ => rfl) (fun K => by
 rw [show loopsOf c = [] from by kernel_rfl]; intro p hp
 cases hp)) fun xs rows boxes K r hl hr => by
 obtain ⟨a1, a2, a3, e, h⟩ := runv hr
 have := St.like_eq (y := a a1 a2 a3) hl (by kernel_rfl) e
 obtain ⟨rfl, rfl, rfl⟩ := argSt_inj this
 exact (tie K a1 a2 a3).trans h
end spec_l1DrawRaw
namespace laws_toArray
noncomputable def c : Code := bodyOf Go.Proofs.Tryd.f27
noncomputable def fi : Fin := ⟨Γ0, [(.cell 2 44, 44)], [[1, 1]], [], [], []⟩
noncomputable def m (r1 r2 : List Int) : Res := ⟨[⟨true, [.ow 1000, .ow 1001]⟩], [], [⟨[.int .i64], .ints r1, true, 0⟩, ⟨[.int .i64], .ints r2, true, 0⟩], [], []⟩
noncomputable def os : List (FuncId × St × (List Lf → (Res → Option Res) → Option Res)) := [laws_toIntS.con]
noncomputable def X (K : Res → Option Res) : Ctx := { Γ := Γ0, orc := orcOf os, io := [], share := [], mvl := [], bun := [], cut := [], own := [], cin := [], cout := [], lp := lpOf [], kl := [], nk := true, eqs := eqs0, byt := byt0, fin := finK fi K }
noncomputable def b (a1 a2 : List Int) (R : List Int → List Int → Option Res) : Option Res :=
 laws_toIntS.g a1 fun r3 =>
 laws_toIntS.g a2 fun r4 =>
 R r3 r4
theorem gx : ∃ x : List Int → List Int → (List Int → List Int → Option Res) → Option Res, x = b := ⟨_, rfl⟩
noncomputable def g : List Int → List Int → (List Int → List Int → Option Res) → Option Res := Classical.choose gx
theorem e : g = b := Classical.choose_spec gx
noncomputable def run : List Lf → (Res → Option Res) → Option Res
 | [.q (.ints a1), .q (.ints a2)], K => g a1 a2 (fun r1 r2 => K (m r1 r2))
 | _, _ => none
noncomputable def a (a1 a2 : List Int) : St := argSt [.v ⟨true, [.tr 0 1 [.int .i64] (.ints a1), .tr 0 1 [.int .i64] (.ints a2)]⟩] [] []
noncomputable def con : FuncId × St × (List Lf → (Res → Option Res) → Option Res) := (27, a [] [], run)
theorem cx (K : Res → Option Res) : CtxOk Go.Proofs.Tryd.prog Γ0 byt0 eqs0 (X K) os := ⟨rfl, rfl, rfl, (fun p hp => by
 rcases List.mem_cons.1 hp with rfl | hp
 ·exact laws_toIntS.ok
 cases hp), rfl, rfl, rfl, rfl⟩
theorem tie (K : Res → Option Res) (a1 a2 : List Int) : exec (X K) c (entry 13 [.v ⟨true, [.tr 0 1 [.int .i64] (.ints a1), .tr 0 1 [.int .i64] (.ints a2)]⟩] [] []) (endK (X K)) = g a1 a2 (fun r1 r2 => K (m r1 r2)) := Eq.trans (b := b a1 a2 (fun r1 r2 => K (m r1 r2))) (by kernel_rfl) (by rw [e])
theorem runv {l : List Lf} {K : Res → Option Res} {r : Res} (h : run l K = some r) : ∃ a1 a2, l = [.q (.ints a1), .q (.ints a2)] ∧ g a1 a2 (fun r1 r2 => K (m r1 r2)) = some r := by
 unfold run at h; split at h
 ·exact ⟨_, _, rfl, h⟩
 ·cases h
theorem ok : Con Go.Proofs.Tryd.prog con := con_of (fn := Go.Proofs.Tryd.f27) (c := c) (Fi := fi) (X := X) (fun_of laid (by kernel_rfl) (by kernel_rfl) (by kernel_rfl) rfl (by kernel_rfl) (by kernel_rfl) cx (fun _ => rfl) (fun _ => rfl) (fun K => by
 rw [show loopsOf c = [] from by kernel_rfl]; intro p hp
 cases hp)) fun xs rows boxes K r hl hr => by
 obtain ⟨a1, a2, e, h⟩ := runv hr
 have := St.like_eq (y := a a1 a2) hl (by kernel_rfl) e
 obtain ⟨rfl, rfl, rfl⟩ := argSt_inj this
 exact (tie K a1 a2).trans h
end laws_toArray
namespace spec_SizeOf
noncomputable def c : Code := bodyOf Go.Proofs.Tryd.f54
noncomputable def fi : Fin := ⟨Γ0, [(.tmp 2, 3)], [[1]], [], [], []⟩
noncomputable def m (r1 : Int) : Res := ⟨[⟨false, [.int .i64 r1]⟩], [], [], [], []⟩
noncomputable def b0 : Code := codeAt c [1, 1, 1, 0, 1, 0, 0]
noncomputable def b2 : Code := codeAt c [1, 1, 1, 1, 1, 0, 1, 0, 0]
noncomputable def s0 (x2 : List Int) (x3 : Bool) (x4 : Int) : St := ⟨mkT 49 [(0, one (.tr 0 1 [.int .i64] (.ints x2))), (3, one (.bool x3)), (4, one (.int .i64 x4))], [], []⟩
noncomputable def l0s (x2 : List Int) (rec : Bool → Int → Option Res) (k : Bool → Option Res) (R : Int → Option Res) (x3 : Bool) (x4 : Int) : Option Res :=
 bif decide (x4 < (x2.length : Int)) then (bif decide (0 ≤ x4) && decide (x4 < (x2.length : Int)) then (spec_l1In.g (x2.getD x4.toNat 0) 0 300 fun r5 =>
  bif !r5 then R (-1)
  else bif x3 then rec true (IntKind.i64.wrap (x4 + 1))
  else bif decide (0 ≤ x4) && decide (x4 < (x2.length : Int)) then rec (x2.getD x4.toNat 0 == 0) (IntKind.i64.wrap (x4 + 1))
  else none)
  else none)
 else k x3
noncomputable def l0 (x2 : List Int) (k : Bool → Option Res) (R : Int → Option Res) : Nat → Bool → Int → Option Res
 | 0, _, _ => none
 | n + 1, x3, x4 => l0s x2 (fun x3 x4 => l0 x2 k R n x3 x4) k R x3 x4
noncomputable def o0 (x2 : List Int) (y2 : Bool) : St := ⟨mkT 49 [(0, one (.tr 0 1 [.int .i64] (.ints x2))), (3, one (.bool y2))], [], []⟩
noncomputable def p0 (K : Res → Option Res) : List Lf → (St → Option Res) → Option Res
 | [.q (.ints x2), .b x3, .i x4], k => l0 x2 (fun y2 => k (o0 x2 y2)) (fun r1 => K (m r1)) fuel x3 x4
 | _, _ => none
noncomputable def s2 (x7 : List Int) (x8 : Bool) (x9 x10 : Int) : St := ⟨mkT 49 [(0, one (.tr 0 1 [.int .i64] (.ints x7))), (3, one (.bool x8)), (5, one (.int .i64 x9)), (6, one (.int .i64 x10))], [], []⟩
noncomputable def l2s (x7 : List Int) (x8 : Bool) (rec : Int → Int → Option Res) (k : Int → Option Res) (x9 x10 : Int) : Option Res :=
 bif decide (x10 < (x7.length : Int)) then (bif decide (0 ≤ x10) && decide (x10 < (x7.length : Int)) then rec (IntKind.i64.wrap (x9 * (x7.getD x10.toNat 0))) (IntKind.i64.wrap (x10 + 1))
  else none)
 else k x9
noncomputable def l2 (x7 : List Int) (x8 : Bool) (k : Int → Option Res) : Nat → Int → Int → Option Res
 | 0, _, _ => none
 | n + 1, x9, x10 => l2s x7 x8 (fun x9 x10 => l2 x7 x8 k n x9 x10) k x9 x10
noncomputable def o2 (x7 : List Int) (x8 : Bool) (y2 : Int) : St := ⟨mkT 49 [(3, one (.bool x8)), (5, one (.int .i64 y2))], [], []⟩
noncomputable def p2 (K : Res → Option Res) : List Lf → (St → Option Res) → Option Res
 | [.q (.ints x7), .b x8, .i x9, .i x10], k => l2 x7 x8 (fun y2 => k (o2 x7 x8 y2)) fuel x9 x10
 | _, _ => none
noncomputable def os : List (FuncId × St × (List Lf → (Res → Option Res) → Option Res)) := [spec_l1In.con]
noncomputable def X (K : Res → Option Res) : Ctx := { Γ := Γ0, orc := orcOf os, io := [], share := [], mvl := [], bun := [], cut := [], own := [], cin := [(0, ⟨[0, 3, 4], [], [], [], [], []⟩), (2, ⟨[0, 3, 5, 6], [], [], [], [], []⟩)], cout := [(0, ⟨[0, 3], [], [], [], [], []⟩), (2, ⟨[3, 5], [], [], [], [], []⟩)], lp := lpOf [(0, s0 [] false 0, p0 K), (2, s2 [] false 0 0, p2 K)], kl := [], nk := true, eqs := eqs0, byt := byt0, fin := finK fi K }
noncomputable def b (a1 : List Int) (R : Int → Option Res) : Option Res :=
 bif decide (3 < (a1.length : Int)) then R (-1)
 else (l0 a1 (fun y6 =>
 l2 a1 y6 (fun y11 =>
 bif decide (300 < y11) then (bif !y6 then R (-1)
  else R y11)
 else R y11) fuel 1 0) R fuel false 0)
theorem gx : ∃ x : List Int → (Int → Option Res) → Option Res, x = b := ⟨_, rfl⟩
noncomputable def g : List Int → (Int → Option Res) → Option Res := Classical.choose gx
theorem e : g = b := Classical.choose_spec gx
noncomputable def run : List Lf → (Res → Option Res) → Option Res
 | [.q (.ints a1)], K => g a1 (fun r1 => K (m r1))
 | _, _ => none
noncomputable def a (a1 : List Int) : St := argSt [one (.tr 0 1 [.int .i64] (.ints a1))] [] []
noncomputable def con : FuncId × St × (List Lf → (Res → Option Res) → Option Res) := (54, a [], run)
theorem cx (K : Res → Option Res) : CtxOk Go.Proofs.Tryd.prog Γ0 byt0 eqs0 (X K) os := ⟨rfl, rfl, rfl, (fun p hp => by
 rcases List.mem_cons.1 hp with rfl | hp
 ·exact spec_l1In.ok
 cases hp), rfl, rfl, rfl, rfl⟩
theorem t0 (K : Res → Option Res) (k : St → Option Res) (it : St → (St → Option Res) → Option Res) (x2 : List Int) (x3 : Bool) (x4 : Int) : iterS (X K) 0 b0 it (s0 x2 x3 x4) k = l0s x2 (fun x3 x4 => it (s0 x2 x3 x4) k) (fun y2 => k (o0 x2 y2)) (fun r1 => K (m r1)) x3 x4 := by kernel_rfl
theorem i0 (K : Res → Option Res) (k : St → Option Res) (x2 : List Int) : ∀ (n : Nat) (x3 : Bool) (x4 : Int), iter (X K) 0 b0 n (s0 x2 x3 x4) k = l0 x2 (fun y2 => k (o0 x2 y2)) (fun r1 => K (m r1)) n x3 x4
 | 0, _, _ => rfl
 | n + 1, x3, x4 => by
  rw [iter_succ, t0, show (fun x3 x4 => iter (X K) 0 b0 n (s0 x2 x3 x4) k) = (fun x3 x4 => l0 x2 (fun y2 => k (o0 x2 y2)) (fun r1 => K (m r1)) n x3 x4) from funext fun x3 => funext fun x4 => i0 K k x2 n x3 x4]; rfl
theorem v0 {K : Res → Option Res} {l : List Lf} {k : St → Option Res} {r : Res} (h : p0 K l k = some r) : ∃ x2 x3 x4, l = [.q (.ints x2), .b x3, .i x4] ∧ l0 x2 (fun y2 => k (o0 x2 y2)) (fun r1 => K (m r1)) fuel x3 x4 = some r := by
 unfold p0 at h; split at h
 ·exact ⟨_, _, _, rfl, h⟩
 ·cases h
theorem t2 (K : Res → Option Res) (k : St → Option Res) (it : St → (St → Option Res) → Option Res) (x7 : List Int) (x8 : Bool) (x9 x10 : Int) : iterS (X K) 2 b2 it (s2 x7 x8 x9 x10) k = l2s x7 x8 (fun x9 x10 => it (s2 x7 x8 x9 x10) k) (fun y2 => k (o2 x7 x8 y2)) x9 x10 := by kernel_rfl
theorem i2 (K : Res → Option Res) (k : St → Option Res) (x7 : List Int) (x8 : Bool) : ∀ (n : Nat) (x9 x10 : Int), iter (X K) 2 b2 n (s2 x7 x8 x9 x10) k = l2 x7 x8 (fun y2 => k (o2 x7 x8 y2)) n x9 x10
 | 0, _, _ => rfl
 | n + 1, x9, x10 => by
  rw [iter_succ, t2, show (fun x9 x10 => iter (X K) 2 b2 n (s2 x7 x8 x9 x10) k) = (fun x9 x10 => l2 x7 x8 (fun y2 => k (o2 x7 x8 y2)) n x9 x10) from funext fun x9 => funext fun x10 => i2 K k x7 x8 n x9 x10]; rfl
theorem v2 {K : Res → Option Res} {l : List Lf} {k : St → Option Res} {r : Res} (h : p2 K l k = some r) : ∃ x7 x8 x9 x10, l = [.q (.ints x7), .b x8, .i x9, .i x10] ∧ l2 x7 x8 (fun y2 => k (o2 x7 x8 y2)) fuel x9 x10 = some r := by
 unfold p2 at h; split at h
 ·exact ⟨_, _, _, _, rfl, h⟩
 ·cases h
theorem w2 (K : Res → Option Res) : LpSound Go.Proofs.Tryd.prog (X K) 2 b2 := lp_ok ((cx K).ok laid) (by rw [show loopsOf b2 = [] from by kernel_rfl]; intro p hp; cases hp) rfl fun p hp hid => by
 rcases List.mem_cons.1 hp with rfl | hp
 ·exact absurd hid (by simp)
 rcases List.mem_cons.1 hp with rfl | hp
 ·intro st k r h1 h2; obtain ⟨x7, x8, x9, x10, e, h⟩ := v2 (K := K) h2; have := St.like_eq (y := s2 x7 x8 x9 x10) h1 (by kernel_rfl) e; subst this; exact ⟨fuel, (i2 K k x7 x8 fuel x9 x10).trans h⟩
 cases hp
theorem w0 (K : Res → Option Res) : LpSound Go.Proofs.Tryd.prog (X K) 0 b0 := lp_ok ((cx K).ok laid) (by rw [show loopsOf b0 = [] from by kernel_rfl]; intro p hp; cases hp) rfl fun p hp hid => by
 rcases List.mem_cons.1 hp with rfl | hp
 ·intro st k r h1 h2; obtain ⟨x2, x3, x4, e, h⟩ := v0 (K := K) h2; have := St.like_eq (y := s0 x2 x3 x4) h1 (by kernel_rfl) e; subst this; exact ⟨fuel, (i0 K k x2 fuel x3 x4).trans h⟩
 rcases List.mem_cons.1 hp with rfl | hp
 ·exact absurd hid (by simp)
 cases hp
theorem tie (K : Res → Option Res) (a1 : List Int) : exec (X K) c (entry 49 [one (.tr 0 1 [.int .i64] (.ints a1))] [] []) (endK (X K)) = g a1 (fun r1 => K (m r1)) := Eq.trans (b := b a1 (fun r1 => K (m r1))) (by kernel_rfl) (by rw [e])
theorem runv {l : List Lf} {K : Res → Option Res} {r : Res} (h : run l K = some r) : ∃ a1, l = [.q (.ints a1)] ∧ g a1 (fun r1 => K (m r1)) = some r := by
 unfold run at h; split at h
 ·exact ⟨_, rfl, h⟩
 ·cases h
theorem ok : Con Go.Proofs.Tryd.prog con := con_of (fn := Go.Proofs.Tryd.f54) (c := c) (Fi := fi) (X := X) (fun_of laid (by kernel_rfl) (by kernel_rfl) (by kernel_rfl) rfl (by kernel_rfl) (by kernel_rfl) cx (fun _ => rfl) (fun _ => rfl) (fun K => by
 rw [show loopsOf c = [(0, b0), (2, b2)] from by kernel_rfl]; intro p hp
 rcases List.mem_cons.1 hp with rfl | hp
 ·exact w0 K
 rcases List.mem_cons.1 hp with rfl | hp
 ·exact w2 K
 cases hp)) fun xs rows boxes K r hl hr => by
 obtain ⟨a1, e, h⟩ := runv hr
 have := St.like_eq (y := a a1) hl (by kernel_rfl) e
 obtain ⟨rfl, rfl, rfl⟩ := argSt_inj this
 exact (tie K a1).trans h
end spec_SizeOf
namespace spec_ArrayOk
noncomputable def c : Code := bodyOf Go.Proofs.Tryd.f31
noncomputable def fi : Fin := ⟨Γ0, [(.tmp 2, 4)], [[1]], [], [], []⟩
noncomputable def m (r1 : Bool) : Res := ⟨[⟨false, [.bool r1]⟩], [], [], [], []⟩
noncomputable def b0 : Code := codeAt c [1, 1, 0, 1, 0, 0]
noncomputable def s0 (x4 : Int) (x5 x6 : List Int) : St := ⟨mkT 25 [(1, one (.bp 1000 0)), (3, one (.int .i64 x4))], [], [(1000, [.tr 0 1 [.int .i64] (.ints x5), .tr 0 1 [.int .i64] (.ints x6)])]⟩
noncomputable def l0s (x5 x6 : List Int) (rec : Int → Option Res) (k : Option Res) (R : Bool → Option Res) (x4 : Int) : Option Res :=
 bif decide (x4 < (x6.length : Int)) then (bif decide (0 ≤ x4) && decide (x4 < (x6.length : Int)) then (spec_NumOk.g (x6.getD x4.toNat 0) fun r7 =>
  bif !r7 then R false
  else rec (IntKind.i64.wrap (x4 + 1)))
  else none)
 else k
noncomputable def l0 (x5 x6 : List Int) (k : Option Res) (R : Bool → Option Res) : Nat → Int → Option Res
 | 0, _ => none
 | n + 1, x4 => l0s x5 x6 (fun x4 => l0 x5 x6 k R n x4) k R x4
noncomputable def o0 (x5 x6 : List Int) : St := ⟨mkT 25 [], [], []⟩
noncomputable def p0 (K : Res → Option Res) : List Lf → (St → Option Res) → Option Res
 | [.i x4, .q (.ints x5), .q (.ints x6)], k => l0 x5 x6 (k (o0 x5 x6)) (fun r1 => K (m r1)) fuel x4
 | _, _ => none
noncomputable def os : List (FuncId × St × (List Lf → (Res → Option Res) → Option Res)) := [spec_SizeOf.con, spec_NumOk.con]
noncomputable def X (K : Res → Option Res) : Ctx := { Γ := Γ0, orc := orcOf os, io := [], share := [], mvl := [], bun := [], cut := [], own := [], cin := [(0, ⟨[1, 3], [], [1000], [], [], []⟩)], cout := [(0, ⟨[], [], [], [], [], []⟩)], lp := lpOf [(0, s0 0 [] [], p0 K)], kl := [], nk := true, eqs := eqs0, byt := byt0, fin := finK fi K }
noncomputable def b (a1 a2 : List Int) (R : Bool → Option Res) : Option Res :=
 spec_SizeOf.g a1 fun r3 =>
 bif (r3 != (a2.length : Int)) then R false
 else (l0 a1 a2 (
 R true) R fuel 0)
theorem gx : ∃ x : List Int → List Int → (Bool → Option Res) → Option Res, x = b := ⟨_, rfl⟩
noncomputable def g : List Int → List Int → (Bool → Option Res) → Option Res := Classical.choose gx
theorem e : g = b := Classical.choose_spec gx
noncomputable def run : List Lf → (Res → Option Res) → Option Res
 | [.q (.ints a1), .q (.ints a2)], K => g a1 a2 (fun r1 => K (m r1))
 | _, _ => none
noncomputable def a (a1 a2 : List Int) : St := argSt [.v ⟨true, [.tr 0 1 [.int .i64] (.ints a1), .tr 0 1 [.int .i64] (.ints a2)]⟩] [] []
noncomputable def con : FuncId × St × (List Lf → (Res → Option Res) → Option Res) := (31, a [] [], run)
theorem cx (K : Res → Option Res) : CtxOk Go.Proofs.Tryd.prog Γ0 byt0 eqs0 (X K) os := ⟨rfl, rfl, rfl, (fun p hp => by
 rcases List.mem_cons.1 hp with rfl | hp
 ·exact spec_SizeOf.ok
 rcases List.mem_cons.1 hp with rfl | hp
 ·exact spec_NumOk.ok
 cases hp), rfl, rfl, rfl, rfl⟩
theorem t0 (K : Res → Option Res) (k : St → Option Res) (it : St → (St → Option Res) → Option Res) (x4 : Int) (x5 x6 : List Int) : iterS (X K) 0 b0 it (s0 x4 x5 x6) k = l0s x5 x6 (fun x4 => it (s0 x4 x5 x6) k) (k (o0 x5 x6)) (fun r1 => K (m r1)) x4 := by kernel_rfl
theorem i0 (K : Res → Option Res) (k : St → Option Res) (x5 x6 : List Int) : ∀ (n : Nat) (x4 : Int), iter (X K) 0 b0 n (s0 x4 x5 x6) k = l0 x5 x6 (k (o0 x5 x6)) (fun r1 => K (m r1)) n x4
 | 0, _ => rfl
 | n + 1, x4 => by
  rw [iter_succ, t0, show (fun x4 => iter (X K) 0 b0 n (s0 x4 x5 x6) k) = (fun x4 => l0 x5 x6 (k (o0 x5 x6)) (fun r1 => K (m r1)) n x4) from funext fun x4 => i0 K k x5 x6 n x4]; rfl
theorem v0 {K : Res → Option Res} {l : List Lf} {k : St → Option Res} {r : Res} (h : p0 K l k = some r) : ∃ x4 x5 x6, l = [.i x4, .q (.ints x5), .q (.ints x6)] ∧ l0 x5 x6 (k (o0 x5 x6)) (fun r1 => K (m r1)) fuel x4 = some r := by
 unfold p0 at h; split at h
 ·exact ⟨_, _, _, rfl, h⟩
 ·cases h
theorem w0 (K : Res → Option Res) : LpSound Go.Proofs.Tryd.prog (X K) 0 b0 := lp_ok ((cx K).ok laid) (by rw [show loopsOf b0 = [] from by kernel_rfl]; intro p hp; cases hp) rfl fun p hp hid => by
 rcases List.mem_cons.1 hp with rfl | hp
 ·intro st k r h1 h2; obtain ⟨x4, x5, x6, e, h⟩ := v0 (K := K) h2; have := St.like_eq (y := s0 x4 x5 x6) h1 (by kernel_rfl) e; subst this; exact ⟨fuel, (i0 K k x5 x6 fuel x4).trans h⟩
 cases hp
theorem tie (K : Res → Option Res) (a1 a2 : List Int) : exec (X K) c (entry 25 [.v ⟨true, [.tr 0 1 [.int .i64] (.ints a1), .tr 0 1 [.int .i64] (.ints a2)]⟩] [] []) (endK (X K)) = g a1 a2 (fun r1 => K (m r1)) := Eq.trans (b := b a1 a2 (fun r1 => K (m r1))) (by kernel_rfl) (by rw [e])
theorem runv {l : List Lf} {K : Res → Option Res} {r : Res} (h : run l K = some r) : ∃ a1 a2, l = [.q (.ints a1), .q (.ints a2)] ∧ g a1 a2 (fun r1 => K (m r1)) = some r := by
 unfold run at h; split at h
 ·exact ⟨_, _, rfl, h⟩
 ·cases h
theorem ok : Con Go.Proofs.Tryd.prog con := con_of (fn := Go.Proofs.Tryd.f31) (c := c) (Fi := fi) (X := X) (fun_of laid (by kernel_rfl) (by kernel_rfl) (by kernel_rfl) rfl (by kernel_rfl) (by kernel_rfl) cx (fun _ => rfl) (fun _ => rfl) (fun K => by
 rw [show loopsOf c = [(0, b0)] from by kernel_rfl]; intro p hp
 rcases List.mem_cons.1 hp with rfl | hp
 ·exact w0 K
 cases hp)) fun xs rows boxes K r hl hr => by
 obtain ⟨a1, a2, e, h⟩ := runv hr
 have := St.like_eq (y := a a1 a2) hl (by kernel_rfl) e
 obtain ⟨rfl, rfl, rfl⟩ := argSt_inj this
 exact (tie K a1 a2).trans h
end spec_ArrayOk
namespace spec_l3Rows
noncomputable def c : Code := bodyOf Go.Proofs.Tryd.f71
noncomputable def fi : Fin := ⟨Γ0, [(.tmp 2, 62)], [[1]], [], [], []⟩
noncomputable def m (r1 : List (List Cl)) : Res := ⟨[⟨false, [.ow 1000]⟩], [], [⟨[.ints .i64, .ints .i64], .cells r1, true, 0⟩], [], []⟩
noncomputable def b0 : Code := codeAt c [1, 1, 1, 0, 1, 0, 0]
noncomputable def s0 (x4 x5 : Int) (x6 : List (List Cl)) (x7 x8 : List Int) : St := ⟨mkT 42 [(1, one (.bp 1000 0)), (3, one (.ow 3048)), (4, one (.int .i64 x4)), (5, one (.int .i64 x5))], [(3048, ⟨[.ints .i64, .ints .i64], .cells x6, true, 0⟩)], [(1000, [.tr 0 1 [.int .i64] (.ints x7), .tr 0 1 [.int .i64] (.ints x8)])]⟩
noncomputable def l0s (x4 : Int) (x7 x8 : List Int) (rec : Int → List (List Cl) → Option Res) (k : List (List Cl) → Option Res) (x5 : Int) (x6 : List (List Cl)) : Option Res :=
 bif decide (0 < (x7.length : Int)) then (bif decide (x5 < x7.getD 0 0) then (bif decide (1 ≤ (x7.length : Int)) then (bif decide ((0 + (x7.drop 1).length) * 8 ≤ 140737488355328) then (bif decide (0 ≤ IntKind.i64.wrap (x5 * x4)) && decide (IntKind.i64.wrap (x5 * x4) ≤ IntKind.i64.wrap ((IntKind.i64.wrap (x5 * x4)) + x4)) && decide (IntKind.i64.wrap ((IntKind.i64.wrap (x5 * x4)) + x4) ≤ (x8.length : Int)) then (bif decide ((0 + ((x8.drop ((IntKind.i64.wrap (x5 * x4)).toNat)).take (((IntKind.i64.wrap ((IntKind.i64.wrap (x5 * x4)) + x4)).toNat) - ((IntKind.i64.wrap (x5 * x4)).toNat))).length) * 8 ≤ 140737488355328) then (bif decide ((x6.length + 1) * 48 ≤ 140737488355328) then rec (IntKind.i64.wrap (x5 + 1)) (x6 ++ ([[.l (([] : List Int) ++ (x7.drop 1)), .l (([] : List Int) ++ ((x8.drop ((IntKind.i64.wrap (x5 * x4)).toNat)).take (((IntKind.i64.wrap ((IntKind.i64.wrap (x5 * x4)) + x4)).toNat) - ((IntKind.i64.wrap (x5 * x4)).toNat))))]] : List (List Cl)))
  else none)
  else none)
  else none)
  else none)
  else none)
  else k x6)
 else none
noncomputable def l0 (x4 : Int) (x7 x8 : List Int) (k : List (List Cl) → Option Res) : Nat → Int → List (List Cl) → Option Res
 | 0, _, _ => none
 | n + 1, x5, x6 => l0s x4 x7 x8 (fun x5 x6 => l0 x4 x7 x8 k n x5 x6) k x5 x6
noncomputable def o0 (x4 : Int) (x7 x8 : List Int) (y1 : List (List Cl)) : St := ⟨mkT 42 [(3, one (.ow 3048))], [(3048, ⟨[.ints .i64, .ints .i64], .cells y1, true, 0⟩)], []⟩
noncomputable def p0 (K : Res → Option Res) : List Lf → (St → Option Res) → Option Res
 | [.i x4, .i x5, .q (.cells x6), .q (.ints x7), .q (.ints x8)], k => l0 x4 x7 x8 (fun y1 => k (o0 x4 x7 x8 y1)) fuel x5 x6
 | _, _ => none
noncomputable def os : List (FuncId × St × (List Lf → (Res → Option Res) → Option Res)) := [spec_SizeOf.con]
noncomputable def X (K : Res → Option Res) : Ctx := { Γ := Γ0, orc := orcOf os, io := [], share := [], mvl := [], bun := [], cut := [], own := [], cin := [(0, ⟨[1, 3, 4, 5], [(3048, 3048), (13624, 3048)], [1000], [], [], []⟩)], cout := [(0, ⟨[3], [(3048, 3048)], [], [], [], []⟩)], lp := lpOf [(0, s0 0 0 [] [] [], p0 K)], kl := [], nk := true, eqs := eqs0, byt := byt0, fin := finK fi K }
noncomputable def b (a1 a2 : List Int) (R : List (List Cl) → Option Res) : Option Res :=
 bif decide (1 ≤ (a1.length : Int)) then (spec_SizeOf.g (a1.drop 1) fun r3 =>
  l0 r3 a1 a2 (fun y9 =>
  R y9) fuel 0 ([] : List (List Cl)))
 else none
theorem gx : ∃ x : List Int → List Int → (List (List Cl) → Option Res) → Option Res, x = b := ⟨_, rfl⟩
noncomputable def g : List Int → List Int → (List (List Cl) → Option Res) → Option Res := Classical.choose gx
theorem e : g = b := Classical.choose_spec gx
noncomputable def run : List Lf → (Res → Option Res) → Option Res
 | [.q (.ints a1), .q (.ints a2)], K => g a1 a2 (fun r1 => K (m r1))
 | _, _ => none
noncomputable def a (a1 a2 : List Int) : St := argSt [.v ⟨true, [.tr 0 1 [.int .i64] (.ints a1), .tr 0 1 [.int .i64] (.ints a2)]⟩] [] []
noncomputable def con : FuncId × St × (List Lf → (Res → Option Res) → Option Res) := (71, a [] [], run)
theorem cx (K : Res → Option Res) : CtxOk Go.Proofs.Tryd.prog Γ0 byt0 eqs0 (X K) os := ⟨rfl, rfl, rfl, (fun p hp => by
 rcases List.mem_cons.1 hp with rfl | hp
 ·exact spec_SizeOf.ok
 cases hp), rfl, rfl, rfl, rfl⟩
theorem t0 (K : Res → Option Res) (k : St → Option Res) (it : St → (St → Option Res) → Option Res) (x4 x5 : Int) (x6 : List (List Cl)) (x7 x8 : List Int) : iterS (X K) 0 b0 it (s0 x4 x5 x6 x7 x8) k = l0s x4 x7 x8 (fun x5 x6 => it (s0 x4 x5 x6 x7 x8) k) (fun y1 => k (o0 x4 x7 x8 y1)) x5 x6 := by kernel_rfl
theorem i0 (K : Res → Option Res) (k : St → Option Res) (x4 : Int) (x7 x8 : List Int) : ∀ (n : Nat) (x5 : Int) (x6 : List (List Cl)), iter (X K) 0 b0 n (s0 x4 x5 x6 x7 x8) k = l0 x4 x7 x8 (fun y1 => k (o0 x4 x7 x8 y1)) n x5 x6
 | 0, _, _ => rfl
 | n + 1, x5, x6 => by
  rw [iter_succ, t0, show (fun x5 x6 => iter (X K) 0 b0 n (s0 x4 x5 x6 x7 x8) k) = (fun x5 x6 => l0 x4 x7 x8 (fun y1 => k (o0 x4 x7 x8 y1)) n x5 x6) from funext fun x5 => funext fun x6 => i0 K k x4 x7 x8 n x5 x6]; rfl
theorem v0 {K : Res → Option Res} {l : List Lf} {k : St → Option Res} {r : Res} (h : p0 K l k = some r) : ∃ x4 x5 x6 x7 x8, l = [.i x4, .i x5, .q (.cells x6), .q (.ints x7), .q (.ints x8)] ∧ l0 x4 x7 x8 (fun y1 => k (o0 x4 x7 x8 y1)) fuel x5 x6 = some r := by
 unfold p0 at h; split at h
 ·exact ⟨_, _, _, _, _, rfl, h⟩
 ·cases h
theorem w0 (K : Res → Option Res) : LpSound Go.Proofs.Tryd.prog (X K) 0 b0 := lp_ok ((cx K).ok laid) (by rw [show loopsOf b0 = [] from by kernel_rfl]; intro p hp; cases hp) rfl fun p hp hid => by
 rcases List.mem_cons.1 hp with rfl | hp
 ·intro st k r h1 h2; obtain ⟨x4, x5, x6, x7, x8, e, h⟩ := v0 (K := K) h2; have := St.like_eq (y := s0 x4 x5 x6 x7 x8) h1 (by kernel_rfl) e; subst this; exact ⟨fuel, (i0 K k x4 x7 x8 fuel x5 x6).trans h⟩
 cases hp
theorem tie (K : Res → Option Res) (a1 a2 : List Int) : exec (X K) c (entry 42 [.v ⟨true, [.tr 0 1 [.int .i64] (.ints a1), .tr 0 1 [.int .i64] (.ints a2)]⟩] [] []) (endK (X K)) = g a1 a2 (fun r1 => K (m r1)) := Eq.trans (b := b a1 a2 (fun r1 => K (m r1))) (by kernel_rfl) (by rw [e])
theorem runv {l : List Lf} {K : Res → Option Res} {r : Res} (h : run l K = some r) : ∃ a1 a2, l = [.q (.ints a1), .q (.ints a2)] ∧ g a1 a2 (fun r1 => K (m r1)) = some r := by
 unfold run at h; split at h
 ·exact ⟨_, _, rfl, h⟩
 ·cases h
theorem ok : Con Go.Proofs.Tryd.prog con := con_of (fn := Go.Proofs.Tryd.f71) (c := c) (Fi := fi) (X := X) (fun_of laid (by kernel_rfl) (by kernel_rfl) (by kernel_rfl) rfl (by kernel_rfl) (by kernel_rfl) cx (fun _ => rfl) (fun _ => rfl) (fun K => by
 rw [show loopsOf c = [(0, b0)] from by kernel_rfl]; intro p hp
 rcases List.mem_cons.1 hp with rfl | hp
 ·exact w0 K
 cases hp)) fun xs rows boxes K r hl hr => by
 obtain ⟨a1, a2, e, h⟩ := runv hr
 have := St.like_eq (y := a a1 a2) hl (by kernel_rfl) e
 obtain ⟨rfl, rfl, rfl⟩ := argSt_inj this
 exact (tie K a1 a2).trans h
end spec_l3Rows
namespace spec_l16Line
noncomputable def c : Code := bodyOf Go.Proofs.Tryd.f72
noncomputable def fi : Fin := ⟨Γ0, [(.tmp 4, 9)], [[1]], [], [], []⟩
noncomputable def m (r1 : ByteArray) : Res := ⟨[⟨false, [.str r1]⟩], [], [], [], []⟩
noncomputable def b0 : Code := codeAt c [1, 1, 0, 1, 0, 0]
noncomputable def b2 : Code := codeAt c [1, 1, 0, 1, 0, 0, 1, 0, 0, 1, 0, 0, 0]
noncomputable def s2 (x8 : List Int) (x9 : Int) (x10 : ByteArray) (x11 : Int) (x12 : ByteArray) : St := ⟨mkT 33 [(0, one (.tr 0 1 [.int .i64] (.ints x8))), (1, one (.int .i64 x9)), (5, one (.str x10)), (6, one (.int .i64 x11)), (7, one (.str x12))], [], []⟩
noncomputable def l2s (x8 : List Int) (x9 : Int) (x10 : ByteArray) (x11 : Int) (rec : ByteArray → Option Res) (k : ByteArray → Option Res) (x12 : ByteArray) : Option Res :=
 bif decide ((x12.size : Int) < x9) then (bif decide (1 + x12.size ≤ 9223372036854775807) then rec ((⟨#[32]⟩ : ByteArray) ++ x12)
  else none)
 else k x12
noncomputable def l2 (x8 : List Int) (x9 : Int) (x10 : ByteArray) (x11 : Int) (k : ByteArray → Option Res) : Nat → ByteArray → Option Res
 | 0, _ => none
 | n + 1, x12 => l2s x8 x9 x10 x11 (fun x12 => l2 x8 x9 x10 x11 k n x12) k x12
noncomputable def o2 (x8 : List Int) (x9 : Int) (x10 : ByteArray) (x11 : Int) (y5 : ByteArray) : St := ⟨mkT 33 [(0, one (.tr 0 1 [.int .i64] (.ints x8))), (1, one (.int .i64 x9)), (5, one (.str x10)), (6, one (.int .i64 x11)), (7, one (.str y5))], [], []⟩
noncomputable def p2 (K : Res → Option Res) : List Lf → (St → Option Res) → Option Res
 | [.q (.ints x8), .i x9, .s x10, .i x11, .s x12], k => l2 x8 x9 x10 x11 (fun y5 => k (o2 x8 x9 x10 x11 y5)) fuel x12
 | _, _ => none
noncomputable def s0 (x3 : List Int) (x4 : Int) (x5 : ByteArray) (x6 : Int) : St := ⟨mkT 33 [(0, one (.tr 0 1 [.int .i64] (.ints x3))), (1, one (.int .i64 x4)), (5, one (.str x5)), (6, one (.int .i64 x6))], [], []⟩
noncomputable def l0s (x3 : List Int) (x4 : Int) (rec : ByteArray → Int → Option Res) (k : ByteArray → Option Res) (x5 : ByteArray) (x6 : Int) : Option Res :=
 bif decide (x6 < (x3.length : Int)) then (bif decide (0 ≤ x6) && decide (x6 < (x3.length : Int)) then (spec_l8Digits.G (x3.getD x6.toNat 0) fun r7 =>
  l2 x3 x4 x5 x6 (fun y13 =>
  bif decide (0 < x6) then (bif decide (x5.size + 1 ≤ 9223372036854775807) then (bif decide ((x5 ++ (⟨#[32]⟩ : ByteArray)).size + y13.size ≤ 9223372036854775807) then rec ((x5 ++ (⟨#[32]⟩ : ByteArray)) ++ y13) (IntKind.i64.wrap (x6 + 1))
   else none)
   else none)
  else bif decide (x5.size + y13.size ≤ 9223372036854775807) then rec (x5 ++ y13) (IntKind.i64.wrap (x6 + 1))
  else none) fuel r7)
  else none)
 else k x5
noncomputable def l0 (x3 : List Int) (x4 : Int) (k : ByteArray → Option Res) : Nat → ByteArray → Int → Option Res
 | 0, _, _ => none
 | n + 1, x5, x6 => l0s x3 x4 (fun x5 x6 => l0 x3 x4 k n x5 x6) k x5 x6
noncomputable def o0 (x3 : List Int) (x4 : Int) (y1 : ByteArray) : St := ⟨mkT 33 [(5, one (.str y1))], [], []⟩
noncomputable def p0 (K : Res → Option Res) : List Lf → (St → Option Res) → Option Res
 | [.q (.ints x3), .i x4, .s x5, .i x6], k => l0 x3 x4 (fun y1 => k (o0 x3 x4 y1)) fuel x5 x6
 | _, _ => none
noncomputable def os : List (FuncId × St × (List Lf → (Res → Option Res) → Option Res)) := [spec_l8Digits.con]
noncomputable def X (K : Res → Option Res) : Ctx := { Γ := Γ0, orc := orcOf os, io := [], share := [], mvl := [], bun := [], cut := [], own := [], cin := [(2, ⟨[0, 1, 5, 6, 7], [], [], [], [], []⟩), (0, ⟨[0, 1, 5, 6], [], [], [], [], []⟩)], cout := [(2, ⟨[0, 1, 5, 6, 7], [], [], [], [], []⟩), (0, ⟨[5], [], [], [], [], []⟩)], lp := lpOf [(2, s2 [] 0 ByteArray.empty 0 ByteArray.empty, p2 K), (0, s0 [] 0 ByteArray.empty 0, p0 K)], kl := [], nk := true, eqs := eqs0, byt := byt0, fin := finK fi K }
noncomputable def b (a1 : List Int) (a2 : Int) (R : ByteArray → Option Res) : Option Res :=
 l0 a1 a2 (fun y14 =>
 R y14) fuel (⟨#[]⟩ : ByteArray) 0
theorem gx : ∃ x : List Int → Int → (ByteArray → Option Res) → Option Res, x = b := ⟨_, rfl⟩
noncomputable def g : List Int → Int → (ByteArray → Option Res) → Option Res := Classical.choose gx
theorem e : g = b := Classical.choose_spec gx
noncomputable def run : List Lf → (Res → Option Res) → Option Res
 | [.q (.ints a1), .i a2], K => g a1 a2 (fun r1 => K (m r1))
 | _, _ => none
noncomputable def a (a1 : List Int) (a2 : Int) : St := argSt [one (.tr 0 1 [.int .i64] (.ints a1)), one (.int .i64 a2)] [] []
noncomputable def con : FuncId × St × (List Lf → (Res → Option Res) → Option Res) := (72, a [] 0, run)
theorem cx (K : Res → Option Res) : CtxOk Go.Proofs.Tryd.prog Γ0 byt0 eqs0 (X K) os := ⟨rfl, rfl, rfl, (fun p hp => by
 rcases List.mem_cons.1 hp with rfl | hp
 ·exact spec_l8Digits.okG
 cases hp), rfl, rfl, rfl, rfl⟩
theorem t2 (K : Res → Option Res) (k : St → Option Res) (it : St → (St → Option Res) → Option Res) (x8 : List Int) (x9 : Int) (x10 : ByteArray) (x11 : Int) (x12 : ByteArray) : iterS (X K) 2 b2 it (s2 x8 x9 x10 x11 x12) k = l2s x8 x9 x10 x11 (fun x12 => it (s2 x8 x9 x10 x11 x12) k) (fun y5 => k (o2 x8 x9 x10 x11 y5)) x12 := by kernel_rfl
theorem i2 (K : Res → Option Res) (k : St → Option Res) (x8 : List Int) (x9 : Int) (x10 : ByteArray) (x11 : Int) : ∀ (n : Nat) (x12 : ByteArray), iter (X K) 2 b2 n (s2 x8 x9 x10 x11 x12) k = l2 x8 x9 x10 x11 (fun y5 => k (o2 x8 x9 x10 x11 y5)) n x12
 | 0, _ => rfl
 | n + 1, x12 => by
  rw [iter_succ, t2, show (fun x12 => iter (X K) 2 b2 n (s2 x8 x9 x10 x11 x12) k) = (fun x12 => l2 x8 x9 x10 x11 (fun y5 => k (o2 x8 x9 x10 x11 y5)) n x12) from funext fun x12 => i2 K k x8 x9 x10 x11 n x12]; rfl
theorem v2 {K : Res → Option Res} {l : List Lf} {k : St → Option Res} {r : Res} (h : p2 K l k = some r) : ∃ x8 x9 x10 x11 x12, l = [.q (.ints x8), .i x9, .s x10, .i x11, .s x12] ∧ l2 x8 x9 x10 x11 (fun y5 => k (o2 x8 x9 x10 x11 y5)) fuel x12 = some r := by
 unfold p2 at h; split at h
 ·exact ⟨_, _, _, _, _, rfl, h⟩
 ·cases h
theorem t0 (K : Res → Option Res) (k : St → Option Res) (it : St → (St → Option Res) → Option Res) (x3 : List Int) (x4 : Int) (x5 : ByteArray) (x6 : Int) : iterS (X K) 0 b0 it (s0 x3 x4 x5 x6) k = l0s x3 x4 (fun x5 x6 => it (s0 x3 x4 x5 x6) k) (fun y1 => k (o0 x3 x4 y1)) x5 x6 := by kernel_rfl
theorem i0 (K : Res → Option Res) (k : St → Option Res) (x3 : List Int) (x4 : Int) : ∀ (n : Nat) (x5 : ByteArray) (x6 : Int), iter (X K) 0 b0 n (s0 x3 x4 x5 x6) k = l0 x3 x4 (fun y1 => k (o0 x3 x4 y1)) n x5 x6
 | 0, _, _ => rfl
 | n + 1, x5, x6 => by
  rw [iter_succ, t0, show (fun x5 x6 => iter (X K) 0 b0 n (s0 x3 x4 x5 x6) k) = (fun x5 x6 => l0 x3 x4 (fun y1 => k (o0 x3 x4 y1)) n x5 x6) from funext fun x5 => funext fun x6 => i0 K k x3 x4 n x5 x6]; rfl
theorem v0 {K : Res → Option Res} {l : List Lf} {k : St → Option Res} {r : Res} (h : p0 K l k = some r) : ∃ x3 x4 x5 x6, l = [.q (.ints x3), .i x4, .s x5, .i x6] ∧ l0 x3 x4 (fun y1 => k (o0 x3 x4 y1)) fuel x5 x6 = some r := by
 unfold p0 at h; split at h
 ·exact ⟨_, _, _, _, rfl, h⟩
 ·cases h
theorem w2 (K : Res → Option Res) : LpSound Go.Proofs.Tryd.prog (X K) 2 b2 := lp_ok ((cx K).ok laid) (by rw [show loopsOf b2 = [] from by kernel_rfl]; intro p hp; cases hp) rfl fun p hp hid => by
 rcases List.mem_cons.1 hp with rfl | hp
 ·intro st k r h1 h2; obtain ⟨x8, x9, x10, x11, x12, e, h⟩ := v2 (K := K) h2; have := St.like_eq (y := s2 x8 x9 x10 x11 x12) h1 (by kernel_rfl) e; subst this; exact ⟨fuel, (i2 K k x8 x9 x10 x11 fuel x12).trans h⟩
 rcases List.mem_cons.1 hp with rfl | hp
 ·exact absurd hid (by simp)
 cases hp
theorem w0 (K : Res → Option Res) : LpSound Go.Proofs.Tryd.prog (X K) 0 b0 := lp_ok ((cx K).ok laid) (by
 rw [show loopsOf b0 = [(2, b2)] from by kernel_rfl]; intro p hp
 rcases List.mem_cons.1 hp with rfl | hp
 ·exact w2 K
 cases hp) rfl fun p hp hid => by
 rcases List.mem_cons.1 hp with rfl | hp
 ·exact absurd hid (by simp)
 rcases List.mem_cons.1 hp with rfl | hp
 ·intro st k r h1 h2; obtain ⟨x3, x4, x5, x6, e, h⟩ := v0 (K := K) h2; have := St.like_eq (y := s0 x3 x4 x5 x6) h1 (by kernel_rfl) e; subst this; exact ⟨fuel, (i0 K k x3 x4 fuel x5 x6).trans h⟩
 cases hp
theorem tie (K : Res → Option Res) (a1 : List Int) (a2 : Int) : exec (X K) c (entry 33 [one (.tr 0 1 [.int .i64] (.ints a1)), one (.int .i64 a2)] [] []) (endK (X K)) = g a1 a2 (fun r1 => K (m r1)) := Eq.trans (b := b a1 a2 (fun r1 => K (m r1))) (by kernel_rfl) (by rw [e])
theorem runv {l : List Lf} {K : Res → Option Res} {r : Res} (h : run l K = some r) : ∃ a1 a2, l = [.q (.ints a1), .i a2] ∧ g a1 a2 (fun r1 => K (m r1)) = some r := by
 unfold run at h; split at h
 ·exact ⟨_, _, rfl, h⟩
 ·cases h
theorem ok : Con Go.Proofs.Tryd.prog con := con_of (fn := Go.Proofs.Tryd.f72) (c := c) (Fi := fi) (X := X) (fun_of laid (by kernel_rfl) (by kernel_rfl) (by kernel_rfl) rfl (by kernel_rfl) (by kernel_rfl) cx (fun _ => rfl) (fun _ => rfl) (fun K => by
 rw [show loopsOf c = [(0, b0), (2, b2)] from by kernel_rfl]; intro p hp
 rcases List.mem_cons.1 hp with rfl | hp
 ·exact w0 K
 rcases List.mem_cons.1 hp with rfl | hp
 ·exact w2 K
 cases hp)) fun xs rows boxes K r hl hr => by
 obtain ⟨a1, a2, e, h⟩ := runv hr
 have := St.like_eq (y := a a1 a2) hl (by kernel_rfl) e
 obtain ⟨rfl, rfl, rfl⟩ := argSt_inj this
 exact (tie K a1 a2).trans h
end spec_l16Line
-- GROUP spec_l16Parts
namespace spec_l16Parts
noncomputable def c : Code := bodyOf Go.Proofs.Tryd.f48
noncomputable def fi : Fin := ⟨Γ0, [(.tmp 4, 9)], [[1]], [], [], []⟩
noncomputable def m (r1 : ByteArray) : Res := ⟨[⟨false, [.str r1]⟩], [], [], [], []⟩
abbrev T : Type := List Int → List Int → Int → (ByteArray → Option Res) → Option Res
noncomputable def runz (h : T) : List Lf → (Res → Option Res) → Option Res
 | [.q (.ints a1), .q (.ints a2), .i a3], K => h a1 a2 a3 (fun r1 => K (m r1))
 | _, _ => none
noncomputable def a (a1 a2 : List Int) (a3 : Int) : St := argSt [.v ⟨true, [.tr 0 1 [.int .i64] (.ints a1), .tr 0 1 [.int .i64] (.ints a2)]⟩, one (.int .i64 a3)] [] []
noncomputable def conz (h : T) : FuncId × St × (List Lf → (Res → Option Res) → Option Res) := (48, a [] [] 0, runz h)
end spec_l16Parts
abbrev Z_spec_l16Parts : Type := spec_l16Parts.T
def Gd_spec_l16Parts (z : Z_spec_l16Parts) : Prop := Con Go.Proofs.Tryd.prog (spec_l16Parts.conz z)
namespace spec_l16Parts
noncomputable def b0 : Code := codeAt c [1, 1, 1, 0, 1, 0, 0]
noncomputable def s0 (x5 : Int) (x6 : ByteArray) (x7 : Int) (x8 : List (List Cl)) (x9 x10 : List Int) : St := ⟨mkT 46 [(1, one (.int .i64 x5)), (2, one (.bp 1000 0)), (5, one (.ow 3065)), (6, one (.str x6)), (7, one (.int .i64 x7))], [(3065, ⟨[.ints .i64, .ints .i64], .cells x8, true, 0⟩)], [(1000, [.tr 0 1 [.int .i64] (.ints x9), .tr 0 1 [.int .i64] (.ints x10)])]⟩
noncomputable def l0s (z : Z_spec_l16Parts) (x5 : Int) (x8 : List (List Cl)) (x9 x10 : List Int) (rec : ByteArray → Int → Option Res) (k : ByteArray → Option Res) (x6 : ByteArray) (x7 : Int) : Option Res :=
 bif decide (x7 < (x8.length : Int)) then (bif decide (0 < x7) then (bif decide (x6.size + 1 ≤ 9223372036854775807) then (bif ((x9.length : Int) == 2) then (bif decide (0 ≤ x7) && decide (x7 < (x8.length : Int)) then (spec_l16Line.g (((x8.getD x7.toNat []).getD 1 (.i 0)).toL) x5 fun r11 =>
  bif decide ((x6 ++ (⟨#[10]⟩ : ByteArray)).size + r11.size ≤ 9223372036854775807) then rec ((x6 ++ (⟨#[10]⟩ : ByteArray)) ++ r11) (IntKind.i64.wrap (x7 + 1))
  else none)
  else none)
  else bif decide (0 < x7) then (bif decide ((x6 ++ (⟨#[10]⟩ : ByteArray)).size + 1 ≤ 9223372036854775807) then (bif decide (0 ≤ x7) && decide (x7 < (x8.length : Int)) then (z (((x8.getD x7.toNat []).getD 0 (.i 0)).toL) (((x8.getD x7.toNat []).getD 1 (.i 0)).toL) x5 fun r12 =>
   bif decide (((x6 ++ (⟨#[10]⟩ : ByteArray)) ++ (⟨#[10]⟩ : ByteArray)).size + r12.size ≤ 9223372036854775807) then rec (((x6 ++ (⟨#[10]⟩ : ByteArray)) ++ (⟨#[10]⟩ : ByteArray)) ++ r12) (IntKind.i64.wrap (x7 + 1))
   else none)
   else none)
   else none)
  else bif decide (0 ≤ x7) && decide (x7 < (x8.length : Int)) then (z (((x8.getD x7.toNat []).getD 0 (.i 0)).toL) (((x8.getD x7.toNat []).getD 1 (.i 0)).toL) x5 fun r13 =>
   bif decide ((x6 ++ (⟨#[10]⟩ : ByteArray)).size + r13.size ≤ 9223372036854775807) then rec ((x6 ++ (⟨#[10]⟩ : ByteArray)) ++ r13) (IntKind.i64.wrap (x7 + 1))
   else none)
  else none)
  else none)
  else bif ((x9.length : Int) == 2) then (bif decide (0 ≤ x7) && decide (x7 < (x8.length : Int)) then (spec_l16Line.g (((x8.getD x7.toNat []).getD 1 (.i 0)).toL) x5 fun r14 =>
   bif decide (x6.size + r14.size ≤ 9223372036854775807) then rec (x6 ++ r14) (IntKind.i64.wrap (x7 + 1))
   else none)
   else none)
  else bif decide (0 < x7) then (bif decide (x6.size + 1 ≤ 9223372036854775807) then (bif decide (0 ≤ x7) && decide (x7 < (x8.length : Int)) then (z (((x8.getD x7.toNat []).getD 0 (.i 0)).toL) (((x8.getD x7.toNat []).getD 1 (.i 0)).toL) x5 fun r15 =>
   bif decide ((x6 ++ (⟨#[10]⟩ : ByteArray)).size + r15.size ≤ 9223372036854775807) then rec ((x6 ++ (⟨#[10]⟩ : ByteArray)) ++ r15) (IntKind.i64.wrap (x7 + 1))
   else none)
   else none)
   else none)
  else bif decide (0 ≤ x7) && decide (x7 < (x8.length : Int)) then (z (((x8.getD x7.toNat []).getD 0 (.i 0)).toL) (((x8.getD x7.toNat []).getD 1 (.i 0)).toL) x5 fun r16 =>
   bif decide (x6.size + r16.size ≤ 9223372036854775807) then rec (x6 ++ r16) (IntKind.i64.wrap (x7 + 1))
   else none)
  else none)
 else k x6
noncomputable def l0 (z : Z_spec_l16Parts) (x5 : Int) (x8 : List (List Cl)) (x9 x10 : List Int) (k : ByteArray → Option Res) : Nat → ByteArray → Int → Option Res
 | 0, _, _ => none
 | n + 1, x6, x7 => l0s z x5 x8 x9 x10 (fun x6 x7 => l0 z x5 x8 x9 x10 k n x6 x7) k x6 x7
noncomputable def o0 (x5 : Int) (x8 : List (List Cl)) (x9 x10 : List Int) (y1 : ByteArray) : St := ⟨mkT 46 [(6, one (.str y1))], [], []⟩
noncomputable def p0 (z : Z_spec_l16Parts) (K : Res → Option Res) : List Lf → (St → Option Res) → Option Res
 | [.i x5, .s x6, .i x7, .q (.cells x8), .q (.ints x9), .q (.ints x10)], k => l0 z x5 x8 x9 x10 (fun y1 => k (o0 x5 x8 x9 x10 y1)) fuel x6 x7
 | _, _ => none
noncomputable def os (z : Z_spec_l16Parts) : List (FuncId × St × (List Lf → (Res → Option Res) → Option Res)) := [spec_l3Rows.con, spec_l16Line.con, spec_l16Parts.conz z]
noncomputable def X (z : Z_spec_l16Parts) (K : Res → Option Res) : Ctx := { Γ := Γ0, orc := orcOf (os z), io := [], share := [], mvl := [], bun := [], cut := [], own := [], cin := [(0, ⟨[1, 2, 5, 6, 7], [(3065, 3065)], [1000], [], [], []⟩)], cout := [(0, ⟨[6], [], [], [], [], []⟩)], lp := lpOf [(0, s0 0 ByteArray.empty 0 [] [] [], p0 z K)], kl := [], nk := true, eqs := eqs0, byt := byt0, fin := finK fi K }
noncomputable def g (z : Z_spec_l16Parts) (a1 a2 : List Int) (a3 : Int) (R : ByteArray → Option Res) : Option Res :=
 spec_l3Rows.g a1 a2 fun r4 =>
 l0 z a3 r4 a1 a2 (fun y17 =>
 R y17) fuel (⟨#[]⟩ : ByteArray) 0
theorem cx (z : Z_spec_l16Parts) (hz : Gd_spec_l16Parts z) (K : Res → Option Res) : CtxOk Go.Proofs.Tryd.prog Γ0 byt0 eqs0 (X z K) (os z) := ⟨rfl, rfl, rfl, (fun p hp => by
 rcases List.mem_cons.1 hp with rfl | hp
 ·exact spec_l3Rows.ok
 rcases List.mem_cons.1 hp with rfl | hp
 ·exact spec_l16Line.ok
 rcases List.mem_cons.1 hp with rfl | hp
 ·exact hz
 cases hp), rfl, rfl, rfl, rfl⟩
theorem t0 (z : Z_spec_l16Parts) (K : Res → Option Res) (k : St → Option Res) (it : St → (St → Option Res) → Option Res) (x5 : Int) (x6 : ByteArray) (x7 : Int) (x8 : List (List Cl)) (x9 x10 : List Int) : iterS (X z K) 0 b0 it (s0 x5 x6 x7 x8 x9 x10) k = l0s z x5 x8 x9 x10 (fun x6 x7 => it (s0 x5 x6 x7 x8 x9 x10) k) (fun y1 => k (o0 x5 x8 x9 x10 y1)) x6 x7 := by kernel_rfl
theorem i0 (z : Z_spec_l16Parts) (K : Res → Option Res) (k : St → Option Res) (x5 : Int) (x8 : List (List Cl)) (x9 x10 : List Int) : ∀ (n : Nat) (x6 : ByteArray) (x7 : Int), iter (X z K) 0 b0 n (s0 x5 x6 x7 x8 x9 x10) k = l0 z x5 x8 x9 x10 (fun y1 => k (o0 x5 x8 x9 x10 y1)) n x6 x7
 | 0, _, _ => rfl
 | n + 1, x6, x7 => by
  rw [iter_succ, t0 z, show (fun x6 x7 => iter (X z K) 0 b0 n (s0 x5 x6 x7 x8 x9 x10) k) = (fun x6 x7 => l0 z x5 x8 x9 x10 (fun y1 => k (o0 x5 x8 x9 x10 y1)) n x6 x7) from funext fun x6 => funext fun x7 => i0 z K k x5 x8 x9 x10 n x6 x7]; rfl
theorem v0 (z : Z_spec_l16Parts) {K : Res → Option Res} {l : List Lf} {k : St → Option Res} {r : Res} (h : p0 z K l k = some r) : ∃ x5 x6 x7 x8 x9 x10, l = [.i x5, .s x6, .i x7, .q (.cells x8), .q (.ints x9), .q (.ints x10)] ∧ l0 z x5 x8 x9 x10 (fun y1 => k (o0 x5 x8 x9 x10 y1)) fuel x6 x7 = some r := by
 unfold p0 at h; split at h
 ·exact ⟨_, _, _, _, _, _, rfl, h⟩
 ·cases h
theorem w0 (z : Z_spec_l16Parts) (hz : Gd_spec_l16Parts z) (K : Res → Option Res) : LpSound Go.Proofs.Tryd.prog (X z K) 0 b0 := lp_ok (((cx z hz) K).ok laid) (by rw [show loopsOf b0 = [] from by kernel_rfl]; intro p hp; cases hp) rfl fun p hp hid => by
 rcases List.mem_cons.1 hp with rfl | hp
 ·intro st k r h1 h2; obtain ⟨x5, x6, x7, x8, x9, x10, e, h⟩ := v0 z (K := K) h2; have := St.like_eq (y := s0 x5 x6 x7 x8 x9 x10) h1 (by kernel_rfl) e; subst this; exact ⟨fuel, (i0 z K k x5 x8 x9 x10 fuel x6 x7).trans h⟩
 cases hp
theorem tie (z : Z_spec_l16Parts) (K : Res → Option Res) (a1 a2 : List Int) (a3 : Int) : exec (X z K) c (entry 46 [.v ⟨true, [.tr 0 1 [.int .i64] (.ints a1), .tr 0 1 [.int .i64] (.ints a2)]⟩, one (.int .i64 a3)] [] []) (endK (X z K)) = (g z) a1 a2 a3 (fun r1 => K (m r1)) := by kernel_rfl
theorem runv (z : Z_spec_l16Parts) {l : List Lf} {K : Res → Option Res} {r : Res} (h : runz (g z) l K = some r) : ∃ a1 a2 a3, l = [.q (.ints a1), .q (.ints a2), .i a3] ∧ (g z) a1 a2 a3 (fun r1 => K (m r1)) = some r := by
 unfold runz at h; split at h
 ·exact ⟨_, _, _, rfl, h⟩
 ·cases h
theorem ok (z : Z_spec_l16Parts) (hz : Gd_spec_l16Parts z) : Con Go.Proofs.Tryd.prog (conz (g z)) := con_of (fn := Go.Proofs.Tryd.f48) (c := c) (Fi := fi) (X := X z) (fun_of laid (by kernel_rfl) (by kernel_rfl) (by kernel_rfl) rfl (by kernel_rfl) (by kernel_rfl) (cx z hz) (fun _ => rfl) (fun _ => rfl) (fun K => by
 rw [show loopsOf c = [(0, b0)] from by kernel_rfl]; intro p hp
 rcases List.mem_cons.1 hp with rfl | hp
 ·exact w0 z hz K
 cases hp)) fun xs rows boxes K r hl hr => by
 obtain ⟨a1, a2, a3, e, h⟩ := runv z hr
 have := St.like_eq (y := a a1 a2 a3) hl (by kernel_rfl) e
 obtain ⟨rfl, rfl, rfl⟩ := argSt_inj this
 exact (tie z K a1 a2 a3).trans h
end spec_l16Parts
noncomputable def rec_spec_l16Parts : Nat → Z_spec_l16Parts
 | 0 => (fun _ _ _ _ => none)
 | n + 1 => spec_l16Parts.g (rec_spec_l16Parts n)
theorem good_spec_l16Parts : ∀ n, Gd_spec_l16Parts (rec_spec_l16Parts n)
 | 0 => con_none (fun l K => by show spec_l16Parts.runz (fun _ _ _ _ => none) l K = none; unfold spec_l16Parts.runz; split <;> rfl)
 | n + 1 => spec_l16Parts.ok _ (good_spec_l16Parts n)
namespace spec_l16Parts
noncomputable def gn (n : Nat) (a1 a2 : List Int) (a3 : Int) (R : ByteArray → Option Res) : Option Res := (rec_spec_l16Parts n) a1 a2 a3 R
theorem Gx : ∃ x : T, x = gn fuel := ⟨_, rfl⟩
noncomputable def G : T := Classical.choose Gx
theorem Ge : G = gn fuel := Classical.choose_spec Gx
theorem gn_succ (n : Nat) (a1 a2 : List Int) (a3 : Int) (R : ByteArray → Option Res) : gn (n + 1) a1 a2 a3 R = g (rec_spec_l16Parts n) a1 a2 a3 R := rfl
noncomputable def con : FuncId × St × (List Lf → (Res → Option Res) → Option Res) := conz G
theorem okG : Con Go.Proofs.Tryd.prog con := by
 unfold con; rw [Ge]; exact (good_spec_l16Parts fuel)
end spec_l16Parts
-- END GROUP
namespace spec_Show
noncomputable def c : Code := bodyOf Go.Proofs.Tryd.f26
noncomputable def fi : Fin := ⟨Γ0, [(.tmp 2, 9)], [[1]], [], [], []⟩
noncomputable def m (r1 : ByteArray) : Res := ⟨[⟨false, [.str r1]⟩], [], [], [], []⟩
noncomputable def os : List (FuncId × St × (List Lf → (Res → Option Res) → Option Res)) := [spec_ArrayOk.con, spec_ShowRow.con, spec_ShowWide.con, spec_l16Parts.con]
noncomputable def X (K : Res → Option Res) : Ctx := { Γ := Γ0, orc := orcOf os, io := [], share := [], mvl := [], bun := [], cut := [], own := [], cin := [], cout := [], lp := lpOf [], kl := [], nk := true, eqs := eqs0, byt := byt0, fin := finK fi K }
noncomputable def b (a1 a2 : List Int) (R : ByteArray → Option Res) : Option Res :=
 spec_ArrayOk.g a1 a2 fun r3 =>
 bif !r3 then R (⟨#[]⟩ : ByteArray)
 else bif decide ((a1.length : Int) < 2) then (spec_ShowRow.g a2 fun r4 =>
  R r4)
 else (spec_ShowWide.g a2 fun r5 =>
 spec_l16Parts.G a1 a2 r5 fun r6 =>
 R r6)
theorem gx : ∃ x : List Int → List Int → (ByteArray → Option Res) → Option Res, x = b := ⟨_, rfl⟩
noncomputable def g : List Int → List Int → (ByteArray → Option Res) → Option Res := Classical.choose gx
theorem e : g = b := Classical.choose_spec gx
noncomputable def run : List Lf → (Res → Option Res) → Option Res
 | [.q (.ints a1), .q (.ints a2)], K => g a1 a2 (fun r1 => K (m r1))
 | _, _ => none
noncomputable def a (a1 a2 : List Int) : St := argSt [.v ⟨true, [.tr 0 1 [.int .i64] (.ints a1), .tr 0 1 [.int .i64] (.ints a2)]⟩] [] []
noncomputable def con : FuncId × St × (List Lf → (Res → Option Res) → Option Res) := (26, a [] [], run)
theorem cx (K : Res → Option Res) : CtxOk Go.Proofs.Tryd.prog Γ0 byt0 eqs0 (X K) os := ⟨rfl, rfl, rfl, (fun p hp => by
 rcases List.mem_cons.1 hp with rfl | hp
 ·exact spec_ArrayOk.ok
 rcases List.mem_cons.1 hp with rfl | hp
 ·exact spec_ShowRow.ok
 rcases List.mem_cons.1 hp with rfl | hp
 ·exact spec_ShowWide.ok
 rcases List.mem_cons.1 hp with rfl | hp
 ·exact spec_l16Parts.okG
 cases hp), rfl, rfl, rfl, rfl⟩
theorem tie (K : Res → Option Res) (a1 a2 : List Int) : exec (X K) c (entry 18 [.v ⟨true, [.tr 0 1 [.int .i64] (.ints a1), .tr 0 1 [.int .i64] (.ints a2)]⟩] [] []) (endK (X K)) = g a1 a2 (fun r1 => K (m r1)) := Eq.trans (b := b a1 a2 (fun r1 => K (m r1))) (by kernel_rfl) (by rw [e])
theorem runv {l : List Lf} {K : Res → Option Res} {r : Res} (h : run l K = some r) : ∃ a1 a2, l = [.q (.ints a1), .q (.ints a2)] ∧ g a1 a2 (fun r1 => K (m r1)) = some r := by
 unfold run at h; split at h
 ·exact ⟨_, _, rfl, h⟩
 ·cases h
theorem ok : Con Go.Proofs.Tryd.prog con := con_of (fn := Go.Proofs.Tryd.f26) (c := c) (Fi := fi) (X := X) (fun_of laid (by kernel_rfl) (by kernel_rfl) (by kernel_rfl) rfl (by kernel_rfl) (by kernel_rfl) cx (fun _ => rfl) (fun _ => rfl) (fun K => by
 rw [show loopsOf c = [] from by kernel_rfl]; intro p hp
 cases hp)) fun xs rows boxes K r hl hr => by
 obtain ⟨a1, a2, e, h⟩ := runv hr
 have := St.like_eq (y := a a1 a2) hl (by kernel_rfl) e
 obtain ⟨rfl, rfl, rfl⟩ := argSt_inj this
 exact (tie K a1 a2).trans h
end spec_Show
namespace impl_SizeOf
noncomputable def c : Code := bodyOf Go.Proofs.Tryd.f73
noncomputable def fi : Fin := ⟨Γ0, [(.tmp 2, 3)], [[1]], [], [], []⟩
noncomputable def m (r1 : Int) : Res := ⟨[⟨false, [.int .i64 r1]⟩], [], [], [], []⟩
noncomputable def b0 : Code := codeAt c [1, 1, 1, 0, 1, 0, 0]
noncomputable def s0 (x2 : Int) (x3 : List Int) (x4 x5 : Int) : St := ⟨mkT 25 [(3, one (.int .i64 x2)), (9, one (.tr 0 1 [.int .i64] (.ints x3))), (10, one (.int .i64 x4)), (11, one (.int .i64 x5))], [], []⟩
noncomputable def l0s (x3 : List Int) (x4 : Int) (rec : Int → Int → Option Res) (k : Int → Option Res) (R : Int → Option Res) (x2 x5 : Int) : Option Res :=
 bif decide (x5 < x4) then (bif decide (0 ≤ x5) && decide (x5 < (x3.length : Int)) then (impl_within.g (x3.getD x5.toNat 0) 0 300 fun r6 =>
  bif !r6 then R (-1)
  else rec (IntKind.i64.wrap (x2 * (x3.getD x5.toNat 0))) (IntKind.i64.wrap (x5 + 1)))
  else none)
 else k x2
noncomputable def l0 (x3 : List Int) (x4 : Int) (k : Int → Option Res) (R : Int → Option Res) : Nat → Int → Int → Option Res
 | 0, _, _ => none
 | n + 1, x2, x5 => l0s x3 x4 (fun x2 x5 => l0 x3 x4 k R n x2 x5) k R x2 x5
noncomputable def o0 (x3 : List Int) (x4 y1 : Int) : St := ⟨mkT 25 [(3, one (.int .i64 y1))], [], []⟩
noncomputable def p0 (K : Res → Option Res) : List Lf → (St → Option Res) → Option Res
 | [.i x2, .q (.ints x3), .i x4, .i x5], k => l0 x3 x4 (fun y1 => k (o0 x3 x4 y1)) (fun r1 => K (m r1)) fuel x2 x5
 | _, _ => none
noncomputable def os : List (FuncId × St × (List Lf → (Res → Option Res) → Option Res)) := [impl_within.con]
noncomputable def X (K : Res → Option Res) : Ctx := { Γ := Γ0, orc := orcOf os, io := [], share := [], mvl := [], bun := [], cut := [], own := [], cin := [(0, ⟨[3, 9, 10, 11], [], [], [], [], []⟩)], cout := [(0, ⟨[3], [], [], [], [], []⟩)], lp := lpOf [(0, s0 0 [] 0 0, p0 K)], kl := [], nk := true, eqs := eqs0, byt := byt0, fin := finK fi K }
noncomputable def b (a1 : List Int) (R : Int → Option Res) : Option Res :=
 bif decide (3 < (a1.length : Int)) then R (-1)
 else (l0 a1 (a1.length : Int) (fun y7 =>
 bif decide (300 < y7) then R (-1)
 else R y7) R fuel 1 0)
theorem gx : ∃ x : List Int → (Int → Option Res) → Option Res, x = b := ⟨_, rfl⟩
noncomputable def g : List Int → (Int → Option Res) → Option Res := Classical.choose gx
theorem e : g = b := Classical.choose_spec gx
noncomputable def run : List Lf → (Res → Option Res) → Option Res
 | [.q (.ints a1)], K => g a1 (fun r1 => K (m r1))
 | _, _ => none
noncomputable def a (a1 : List Int) : St := argSt [one (.tr 0 1 [.int .i64] (.ints a1))] [] []
noncomputable def con : FuncId × St × (List Lf → (Res → Option Res) → Option Res) := (73, a [], run)
theorem cx (K : Res → Option Res) : CtxOk Go.Proofs.Tryd.prog Γ0 byt0 eqs0 (X K) os := ⟨rfl, rfl, rfl, (fun p hp => by
 rcases List.mem_cons.1 hp with rfl | hp
 ·exact impl_within.ok
 cases hp), rfl, rfl, rfl, rfl⟩
theorem t0 (K : Res → Option Res) (k : St → Option Res) (it : St → (St → Option Res) → Option Res) (x2 : Int) (x3 : List Int) (x4 x5 : Int) : iterS (X K) 0 b0 it (s0 x2 x3 x4 x5) k = l0s x3 x4 (fun x2 x5 => it (s0 x2 x3 x4 x5) k) (fun y1 => k (o0 x3 x4 y1)) (fun r1 => K (m r1)) x2 x5 := by kernel_rfl
theorem i0 (K : Res → Option Res) (k : St → Option Res) (x3 : List Int) (x4 : Int) : ∀ (n : Nat) (x2 x5 : Int), iter (X K) 0 b0 n (s0 x2 x3 x4 x5) k = l0 x3 x4 (fun y1 => k (o0 x3 x4 y1)) (fun r1 => K (m r1)) n x2 x5
 | 0, _, _ => rfl
 | n + 1, x2, x5 => by
  rw [iter_succ, t0, show (fun x2 x5 => iter (X K) 0 b0 n (s0 x2 x3 x4 x5) k) = (fun x2 x5 => l0 x3 x4 (fun y1 => k (o0 x3 x4 y1)) (fun r1 => K (m r1)) n x2 x5) from funext fun x2 => funext fun x5 => i0 K k x3 x4 n x2 x5]; rfl
theorem v0 {K : Res → Option Res} {l : List Lf} {k : St → Option Res} {r : Res} (h : p0 K l k = some r) : ∃ x2 x3 x4 x5, l = [.i x2, .q (.ints x3), .i x4, .i x5] ∧ l0 x3 x4 (fun y1 => k (o0 x3 x4 y1)) (fun r1 => K (m r1)) fuel x2 x5 = some r := by
 unfold p0 at h; split at h
 ·exact ⟨_, _, _, _, rfl, h⟩
 ·cases h
theorem w0 (K : Res → Option Res) : LpSound Go.Proofs.Tryd.prog (X K) 0 b0 := lp_ok ((cx K).ok laid) (by rw [show loopsOf b0 = [] from by kernel_rfl]; intro p hp; cases hp) rfl fun p hp hid => by
 rcases List.mem_cons.1 hp with rfl | hp
 ·intro st k r h1 h2; obtain ⟨x2, x3, x4, x5, e, h⟩ := v0 (K := K) h2; have := St.like_eq (y := s0 x2 x3 x4 x5) h1 (by kernel_rfl) e; subst this; exact ⟨fuel, (i0 K k x3 x4 fuel x2 x5).trans h⟩
 cases hp
theorem tie (K : Res → Option Res) (a1 : List Int) : exec (X K) c (entry 25 [one (.tr 0 1 [.int .i64] (.ints a1))] [] []) (endK (X K)) = g a1 (fun r1 => K (m r1)) := Eq.trans (b := b a1 (fun r1 => K (m r1))) (by kernel_rfl) (by rw [e])
theorem runv {l : List Lf} {K : Res → Option Res} {r : Res} (h : run l K = some r) : ∃ a1, l = [.q (.ints a1)] ∧ g a1 (fun r1 => K (m r1)) = some r := by
 unfold run at h; split at h
 ·exact ⟨_, rfl, h⟩
 ·cases h
theorem ok : Con Go.Proofs.Tryd.prog con := con_of (fn := Go.Proofs.Tryd.f73) (c := c) (Fi := fi) (X := X) (fun_of laid (by kernel_rfl) (by kernel_rfl) (by kernel_rfl) rfl (by kernel_rfl) (by kernel_rfl) cx (fun _ => rfl) (fun _ => rfl) (fun K => by
 rw [show loopsOf c = [(0, b0)] from by kernel_rfl]; intro p hp
 rcases List.mem_cons.1 hp with rfl | hp
 ·exact w0 K
 cases hp)) fun xs rows boxes K r hl hr => by
 obtain ⟨a1, e, h⟩ := runv hr
 have := St.like_eq (y := a a1) hl (by kernel_rfl) e
 obtain ⟨rfl, rfl, rfl⟩ := argSt_inj this
 exact (tie K a1).trans h
end impl_SizeOf
namespace impl_ArrayOk_1
noncomputable def c : Code := bodyOf Go.Proofs.Tryd.f74
noncomputable def fi : Fin := ⟨Γ0, [(.tmp 2, 4)], [[1]], [], [], []⟩
noncomputable def m (r1 : Bool) : Res := ⟨[⟨false, [.bool r1]⟩], [], [], [], []⟩
noncomputable def os : List (FuncId × St × (List Lf → (Res → Option Res) → Option Res)) := [impl_NumOk.con]
noncomputable def X (K : Res → Option Res) : Ctx := { Γ := Γ0, orc := orcOf os, io := [], share := [], mvl := [], bun := [], cut := [], own := [], cin := [], cout := [], lp := lpOf [], kl := [], nk := true, eqs := eqs0, byt := byt0, fin := finK fi K }
noncomputable def b (a1 : Int) (R : Bool → Option Res) : Option Res :=
 impl_NumOk.g a1 fun r2 =>
 R (!r2)
theorem gx : ∃ x : Int → (Bool → Option Res) → Option Res, x = b := ⟨_, rfl⟩
noncomputable def g : Int → (Bool → Option Res) → Option Res := Classical.choose gx
theorem e : g = b := Classical.choose_spec gx
noncomputable def run : List Lf → (Res → Option Res) → Option Res
 | [.i a1], K => g a1 (fun r1 => K (m r1))
 | _, _ => none
noncomputable def a (a1 : Int) : St := argSt [one (.int .i64 a1)] [] []
noncomputable def con : FuncId × St × (List Lf → (Res → Option Res) → Option Res) := (74, a 0, run)
theorem cx (K : Res → Option Res) : CtxOk Go.Proofs.Tryd.prog Γ0 byt0 eqs0 (X K) os := ⟨rfl, rfl, rfl, (fun p hp => by
 rcases List.mem_cons.1 hp with rfl | hp
 ·exact impl_NumOk.ok
 cases hp), rfl, rfl, rfl, rfl⟩
theorem tie (K : Res → Option Res) (a1 : Int) : exec (X K) c (entry 6 [one (.int .i64 a1)] [] []) (endK (X K)) = g a1 (fun r1 => K (m r1)) := Eq.trans (b := b a1 (fun r1 => K (m r1))) (by kernel_rfl) (by rw [e])
theorem runv {l : List Lf} {K : Res → Option Res} {r : Res} (h : run l K = some r) : ∃ a1, l = [.i a1] ∧ g a1 (fun r1 => K (m r1)) = some r := by
 unfold run at h; split at h
 ·exact ⟨_, rfl, h⟩
 ·cases h
theorem ok : Con Go.Proofs.Tryd.prog con := con_of (fn := Go.Proofs.Tryd.f74) (c := c) (Fi := fi) (X := X) (fun_of laid (by kernel_rfl) (by kernel_rfl) (by kernel_rfl) rfl (by kernel_rfl) (by kernel_rfl) cx (fun _ => rfl) (fun _ => rfl) (fun K => by
 rw [show loopsOf c = [] from by kernel_rfl]; intro p hp
 cases hp)) fun xs rows boxes K r hl hr => by
 obtain ⟨a1, e, h⟩ := runv hr
 have := St.like_eq (y := a a1) hl (by kernel_rfl) e
 obtain ⟨rfl, rfl, rfl⟩ := argSt_inj this
 exact (tie K a1).trans h
end impl_ArrayOk_1
namespace slices_IndexFunc_int_int
noncomputable def c : Code := bodyOf Go.Proofs.Tryd.f80
noncomputable def fi : Fin := ⟨Γ0, [(.tmp 4, 3)], [[1]], [], [], []⟩
noncomputable def m (r1 : Int) : Res := ⟨[⟨false, [.int .i64 r1]⟩], [], [], [], []⟩
noncomputable def b0 : Code := codeAt c [1, 0, 1, 0, 0]
noncomputable def s0 (x2 : List Int) (x3 x4 : Int) : St := ⟨mkT 19 [(0, one (.tr 0 1 [.int .i64] (.ints x2))), (1, one (.fn 74 [])), (7, one (.int .i64 x3)), (8, one (.int .i64 x4))], [], []⟩
noncomputable def l0s (x2 : List Int) (x3 : Int) (rec : Int → Option Res) (k : Option Res) (R : Int → Option Res) (x4 : Int) : Option Res :=
 bif decide (x4 < x3) then (bif decide (0 ≤ x4) && decide (x4 < (x2.length : Int)) then (impl_ArrayOk_1.g (x2.getD x4.toNat 0) fun r5 =>
  bif r5 then R x4
  else rec (IntKind.i64.wrap (x4 + 1)))
  else none)
 else k
noncomputable def l0 (x2 : List Int) (x3 : Int) (k : Option Res) (R : Int → Option Res) : Nat → Int → Option Res
 | 0, _ => none
 | n + 1, x4 => l0s x2 x3 (fun x4 => l0 x2 x3 k R n x4) k R x4
noncomputable def o0 (x2 : List Int) (x3 : Int) : St := ⟨mkT 19 [], [], []⟩
noncomputable def p0 (K : Res → Option Res) : List Lf → (St → Option Res) → Option Res
 | [.q (.ints x2), .i x3, .i x4], k => l0 x2 x3 (k (o0 x2 x3)) (fun r1 => K (m r1)) fuel x4
 | _, _ => none
noncomputable def os : List (FuncId × St × (List Lf → (Res → Option Res) → Option Res)) := [impl_ArrayOk_1.con]
noncomputable def X (K : Res → Option Res) : Ctx := { Γ := Γ0, orc := orcOf os, io := [], share := [], mvl := [], bun := [], cut := [], own := [], cin := [(0, ⟨[0, 1, 7, 8], [], [], [], [], []⟩)], cout := [(0, ⟨[], [], [], [], [], []⟩)], lp := lpOf [(0, s0 [] 0 0, p0 K)], kl := [], nk := true, eqs := eqs0, byt := byt0, fin := finK fi K }
noncomputable def b (a1 : List Int) (R : Int → Option Res) : Option Res :=
 l0 a1 (a1.length : Int) (
 R (-1)) R fuel 0
theorem gx : ∃ x : List Int → (Int → Option Res) → Option Res, x = b := ⟨_, rfl⟩
noncomputable def g : List Int → (Int → Option Res) → Option Res := Classical.choose gx
theorem e : g = b := Classical.choose_spec gx
noncomputable def run : List Lf → (Res → Option Res) → Option Res
 | [.q (.ints a1)], K => g a1 (fun r1 => K (m r1))
 | _, _ => none
noncomputable def a (a1 : List Int) : St := argSt [one (.tr 0 1 [.int .i64] (.ints a1)), one (.fn 74 [])] [] []
noncomputable def con : FuncId × St × (List Lf → (Res → Option Res) → Option Res) := (80, a [], run)
theorem cx (K : Res → Option Res) : CtxOk Go.Proofs.Tryd.prog Γ0 byt0 eqs0 (X K) os := ⟨rfl, rfl, rfl, (fun p hp => by
 rcases List.mem_cons.1 hp with rfl | hp
 ·exact impl_ArrayOk_1.ok
 cases hp), rfl, rfl, rfl, rfl⟩
theorem t0 (K : Res → Option Res) (k : St → Option Res) (it : St → (St → Option Res) → Option Res) (x2 : List Int) (x3 x4 : Int) : iterS (X K) 0 b0 it (s0 x2 x3 x4) k = l0s x2 x3 (fun x4 => it (s0 x2 x3 x4) k) (k (o0 x2 x3)) (fun r1 => K (m r1)) x4 := by kernel_rfl
theorem i0 (K : Res → Option Res) (k : St → Option Res) (x2 : List Int) (x3 : Int) : ∀ (n : Nat) (x4 : Int), iter (X K) 0 b0 n (s0 x2 x3 x4) k = l0 x2 x3 (k (o0 x2 x3)) (fun r1 => K (m r1)) n x4
 | 0, _ => rfl
 | n + 1, x4 => by
  rw [iter_succ, t0, show (fun x4 => iter (X K) 0 b0 n (s0 x2 x3 x4) k) = (fun x4 => l0 x2 x3 (k (o0 x2 x3)) (fun r1 => K (m r1)) n x4) from funext fun x4 => i0 K k x2 x3 n x4]; rfl
theorem v0 {K : Res → Option Res} {l : List Lf} {k : St → Option Res} {r : Res} (h : p0 K l k = some r) : ∃ x2 x3 x4, l = [.q (.ints x2), .i x3, .i x4] ∧ l0 x2 x3 (k (o0 x2 x3)) (fun r1 => K (m r1)) fuel x4 = some r := by
 unfold p0 at h; split at h
 ·exact ⟨_, _, _, rfl, h⟩
 ·cases h
theorem w0 (K : Res → Option Res) : LpSound Go.Proofs.Tryd.prog (X K) 0 b0 := lp_ok ((cx K).ok laid) (by rw [show loopsOf b0 = [] from by kernel_rfl]; intro p hp; cases hp) rfl fun p hp hid => by
 rcases List.mem_cons.1 hp with rfl | hp
 ·intro st k r h1 h2; obtain ⟨x2, x3, x4, e, h⟩ := v0 (K := K) h2; have := St.like_eq (y := s0 x2 x3 x4) h1 (by kernel_rfl) e; subst this; exact ⟨fuel, (i0 K k x2 x3 fuel x4).trans h⟩
 cases hp
theorem tie (K : Res → Option Res) (a1 : List Int) : exec (X K) c (entry 19 [one (.tr 0 1 [.int .i64] (.ints a1)), one (.fn 74 [])] [] []) (endK (X K)) = g a1 (fun r1 => K (m r1)) := Eq.trans (b := b a1 (fun r1 => K (m r1))) (by kernel_rfl) (by rw [e])
theorem runv {l : List Lf} {K : Res → Option Res} {r : Res} (h : run l K = some r) : ∃ a1, l = [.q (.ints a1)] ∧ g a1 (fun r1 => K (m r1)) = some r := by
 unfold run at h; split at h
 ·exact ⟨_, rfl, h⟩
 ·cases h
theorem ok : Con Go.Proofs.Tryd.prog con := con_of (fn := Go.Proofs.Tryd.f80) (c := c) (Fi := fi) (X := X) (fun_of laid (by kernel_rfl) (by kernel_rfl) (by kernel_rfl) rfl (by kernel_rfl) (by kernel_rfl) cx (fun _ => rfl) (fun _ => rfl) (fun K => by
 rw [show loopsOf c = [(0, b0)] from by kernel_rfl]; intro p hp
 rcases List.mem_cons.1 hp with rfl | hp
 ·exact w0 K
 cases hp)) fun xs rows boxes K r hl hr => by
 obtain ⟨a1, e, h⟩ := runv hr
 have := St.like_eq (y := a a1) hl (by kernel_rfl) e
 obtain ⟨rfl, rfl, rfl⟩ := argSt_inj this
 exact (tie K a1).trans h
end slices_IndexFunc_int_int
namespace slices_ContainsFunc_int_int
noncomputable def c : Code := bodyOf Go.Proofs.Tryd.f58
noncomputable def fi : Fin := ⟨Γ0, [(.tmp 4, 4)], [[1]], [], [], []⟩
noncomputable def m (r1 : Bool) : Res := ⟨[⟨false, [.bool r1]⟩], [], [], [], []⟩
noncomputable def os : List (FuncId × St × (List Lf → (Res → Option Res) → Option Res)) := [slices_IndexFunc_int_int.con]
noncomputable def X (K : Res → Option Res) : Ctx := { Γ := Γ0, orc := orcOf os, io := [], share := [], mvl := [], bun := [], cut := [], own := [], cin := [], cout := [], lp := lpOf [], kl := [], nk := true, eqs := eqs0, byt := byt0, fin := finK fi K }
noncomputable def b (a1 : List Int) (R : Bool → Option Res) : Option Res :=
 slices_IndexFunc_int_int.g a1 fun r2 =>
 R (decide (0 ≤ r2))
theorem gx : ∃ x : List Int → (Bool → Option Res) → Option Res, x = b := ⟨_, rfl⟩
noncomputable def g : List Int → (Bool → Option Res) → Option Res := Classical.choose gx
theorem e : g = b := Classical.choose_spec gx
noncomputable def run : List Lf → (Res → Option Res) → Option Res
 | [.q (.ints a1)], K => g a1 (fun r1 => K (m r1))
 | _, _ => none
noncomputable def a (a1 : List Int) : St := argSt [one (.tr 0 1 [.int .i64] (.ints a1)), one (.fn 74 [])] [] []
noncomputable def con : FuncId × St × (List Lf → (Res → Option Res) → Option Res) := (58, a [], run)
theorem cx (K : Res → Option Res) : CtxOk Go.Proofs.Tryd.prog Γ0 byt0 eqs0 (X K) os := ⟨rfl, rfl, rfl, (fun p hp => by
 rcases List.mem_cons.1 hp with rfl | hp
 ·exact slices_IndexFunc_int_int.ok
 cases hp), rfl, rfl, rfl, rfl⟩
theorem tie (K : Res → Option Res) (a1 : List Int) : exec (X K) c (entry 9 [one (.tr 0 1 [.int .i64] (.ints a1)), one (.fn 74 [])] [] []) (endK (X K)) = g a1 (fun r1 => K (m r1)) := Eq.trans (b := b a1 (fun r1 => K (m r1))) (by kernel_rfl) (by rw [e])
theorem runv {l : List Lf} {K : Res → Option Res} {r : Res} (h : run l K = some r) : ∃ a1, l = [.q (.ints a1)] ∧ g a1 (fun r1 => K (m r1)) = some r := by
 unfold run at h; split at h
 ·exact ⟨_, rfl, h⟩
 ·cases h
theorem ok : Con Go.Proofs.Tryd.prog con := con_of (fn := Go.Proofs.Tryd.f58) (c := c) (Fi := fi) (X := X) (fun_of laid (by kernel_rfl) (by kernel_rfl) (by kernel_rfl) rfl (by kernel_rfl) (by kernel_rfl) cx (fun _ => rfl) (fun _ => rfl) (fun K => by
 rw [show loopsOf c = [] from by kernel_rfl]; intro p hp
 cases hp)) fun xs rows boxes K r hl hr => by
 obtain ⟨a1, e, h⟩ := runv hr
 have := St.like_eq (y := a a1) hl (by kernel_rfl) e
 obtain ⟨rfl, rfl, rfl⟩ := argSt_inj this
 exact (tie K a1).trans h
end slices_ContainsFunc_int_int
namespace impl_ArrayOk
noncomputable def c : Code := bodyOf Go.Proofs.Tryd.f49
noncomputable def fi : Fin := ⟨Γ0, [(.tmp 2, 4)], [[1]], [], [], []⟩
noncomputable def m (r1 : Bool) : Res := ⟨[⟨false, [.bool r1]⟩], [], [], [], []⟩
noncomputable def os : List (FuncId × St × (List Lf → (Res → Option Res) → Option Res)) := [impl_SizeOf.con, slices_ContainsFunc_int_int.con]
noncomputable def X (K : Res → Option Res) : Ctx := { Γ := Γ0, orc := orcOf os, io := [], share := [], mvl := [], bun := [], cut := [], own := [], cin := [], cout := [], lp := lpOf [], kl := [], nk := true, eqs := eqs0, byt := byt0, fin := finK fi K }
noncomputable def b (a1 a2 : List Int) (R : Bool → Option Res) : Option Res :=
 impl_SizeOf.g a1 fun r3 =>
 bif ((a2.length : Int) == r3) then (slices_ContainsFunc_int_int.g a2 fun r4 =>
  R (!r4))
 else R false
theorem gx : ∃ x : List Int → List Int → (Bool → Option Res) → Option Res, x = b := ⟨_, rfl⟩
noncomputable def g : List Int → List Int → (Bool → Option Res) → Option Res := Classical.choose gx
theorem e : g = b := Classical.choose_spec gx
noncomputable def run : List Lf → (Res → Option Res) → Option Res
 | [.q (.ints a1), .q (.ints a2)], K => g a1 a2 (fun r1 => K (m r1))
 | _, _ => none
noncomputable def a (a1 a2 : List Int) : St := argSt [.v ⟨true, [.tr 0 1 [.int .i64] (.ints a1), .tr 0 1 [.int .i64] (.ints a2)]⟩] [] []
noncomputable def con : FuncId × St × (List Lf → (Res → Option Res) → Option Res) := (49, a [] [], run)
theorem cx (K : Res → Option Res) : CtxOk Go.Proofs.Tryd.prog Γ0 byt0 eqs0 (X K) os := ⟨rfl, rfl, rfl, (fun p hp => by
 rcases List.mem_cons.1 hp with rfl | hp
 ·exact impl_SizeOf.ok
 rcases List.mem_cons.1 hp with rfl | hp
 ·exact slices_ContainsFunc_int_int.ok
 cases hp), rfl, rfl, rfl, rfl⟩
theorem tie (K : Res → Option Res) (a1 a2 : List Int) : exec (X K) c (entry 16 [.v ⟨true, [.tr 0 1 [.int .i64] (.ints a1), .tr 0 1 [.int .i64] (.ints a2)]⟩] [] []) (endK (X K)) = g a1 a2 (fun r1 => K (m r1)) := Eq.trans (b := b a1 a2 (fun r1 => K (m r1))) (by kernel_rfl) (by rw [e])
theorem runv {l : List Lf} {K : Res → Option Res} {r : Res} (h : run l K = some r) : ∃ a1 a2, l = [.q (.ints a1), .q (.ints a2)] ∧ g a1 a2 (fun r1 => K (m r1)) = some r := by
 unfold run at h; split at h
 ·exact ⟨_, _, rfl, h⟩
 ·cases h
theorem ok : Con Go.Proofs.Tryd.prog con := con_of (fn := Go.Proofs.Tryd.f49) (c := c) (Fi := fi) (X := X) (fun_of laid (by kernel_rfl) (by kernel_rfl) (by kernel_rfl) rfl (by kernel_rfl) (by kernel_rfl) cx (fun _ => rfl) (fun _ => rfl) (fun K => by
 rw [show loopsOf c = [] from by kernel_rfl]; intro p hp
 cases hp)) fun xs rows boxes K r hl hr => by
 obtain ⟨a1, a2, e, h⟩ := runv hr
 have := St.like_eq (y := a a1 a2) hl (by kernel_rfl) e
 obtain ⟨rfl, rfl, rfl⟩ := argSt_inj this
 exact (tie K a1 a2).trans h
end impl_ArrayOk
namespace impl_copyArray
noncomputable def c : Code := bodyOf Go.Proofs.Tryd.f76
noncomputable def fi : Fin := ⟨Γ0, [(.cell 2 44, 44)], [[1, 1]], [], [], []⟩
noncomputable def m (a1 a2 : List Int) : Res := ⟨[⟨true, [.ow 1000, .ow 1001]⟩], [], [⟨[.int .i64], .ints a1, true, 0⟩, ⟨[.int .i64], .ints a2, true, 0⟩], [], []⟩
noncomputable def os : List (FuncId × St × (List Lf → (Res → Option Res) → Option Res)) := []
noncomputable def X (K : Res → Option Res) : Ctx := { Γ := Γ0, orc := orcOf os, io := [], share := [], mvl := [], bun := [], cut := [], own := [], cin := [], cout := [], lp := lpOf [], kl := [], nk := true, eqs := eqs0, byt := byt0, fin := finK fi K }
noncomputable def b (a1 a2 : List Int) (R : Option Res) : Option Res :=
 bif decide (a1.length * 8 ≤ 140737488355328) then (bif decide (a2.length * 8 ≤ 140737488355328) then R
  else none)
 else none
theorem gx : ∃ x : List Int → List Int → (Option Res) → Option Res, x = b := ⟨_, rfl⟩
noncomputable def g : List Int → List Int → (Option Res) → Option Res := Classical.choose gx
theorem e : g = b := Classical.choose_spec gx
noncomputable def run : List Lf → (Res → Option Res) → Option Res
 | [.q (.ints a1), .q (.ints a2)], K => g a1 a2 (K (m a1 a2))
 | _, _ => none
noncomputable def a (a1 a2 : List Int) : St := argSt [.v ⟨true, [.tr 0 1 [.int .i64] (.ints a1), .tr 0 1 [.int .i64] (.ints a2)]⟩] [] []
noncomputable def con : FuncId × St × (List Lf → (Res → Option Res) → Option Res) := (76, a [] [], run)
theorem cx (K : Res → Option Res) : CtxOk Go.Proofs.Tryd.prog Γ0 byt0 eqs0 (X K) os := ⟨rfl, rfl, rfl, (fun p hp => by
 cases hp), rfl, rfl, rfl, rfl⟩
theorem tie (K : Res → Option Res) (a1 a2 : List Int) : exec (X K) c (entry 10 [.v ⟨true, [.tr 0 1 [.int .i64] (.ints a1), .tr 0 1 [.int .i64] (.ints a2)]⟩] [] []) (endK (X K)) = g a1 a2 (K (m a1 a2)) := Eq.trans (b := b a1 a2 (K (m a1 a2))) (by kernel_rfl) (by rw [e])
theorem runv {l : List Lf} {K : Res → Option Res} {r : Res} (h : run l K = some r) : ∃ a1 a2, l = [.q (.ints a1), .q (.ints a2)] ∧ g a1 a2 (K (m a1 a2)) = some r := by
 unfold run at h; split at h
 ·exact ⟨_, _, rfl, h⟩
 ·cases h
theorem ok : Con Go.Proofs.Tryd.prog con := con_of (fn := Go.Proofs.Tryd.f76) (c := c) (Fi := fi) (X := X) (fun_of laid (by kernel_rfl) (by kernel_rfl) (by kernel_rfl) rfl (by kernel_rfl) (by kernel_rfl) cx (fun _ => rfl) (fun _ => rfl) (fun K => by
 rw [show loopsOf c = [] from by kernel_rfl]; intro p hp
 cases hp)) fun xs rows boxes K r hl hr => by
 obtain ⟨a1, a2, e, h⟩ := runv hr
 have := St.like_eq (y := a a1 a2) hl (by kernel_rfl) e
 obtain ⟨rfl, rfl, rfl⟩ := argSt_inj this
 exact (tie K a1 a2).trans h
end impl_copyArray
namespace impl_Rows
noncomputable def c : Code := bodyOf Go.Proofs.Tryd.f51
noncomputable def fi : Fin := ⟨Γ0, [(.tmp 2, 62)], [[1]], [], [], []⟩
noncomputable def m (r1 : List (List Cl)) : Res := ⟨[⟨false, [.ow 1000]⟩], [], [⟨[.ints .i64, .ints .i64], .cells r1, true, 0⟩], [], []⟩
noncomputable def b0 : Code := codeAt c [1, 1, 1, 1, 0, 1, 0, 0]
noncomputable def s0 (x5 x6 : Int) (x7 : List (List Cl)) (x8 x9 : List Int) : St := ⟨mkT 46 [(1, one (.bp 1000 0)), (3, one (.int .i64 x5)), (4, one (.ow 9200)), (5, one (.int .i64 x6))], [(9200, ⟨[.ints .i64, .ints .i64], .cells x7, true, 0⟩)], [(1000, [.tr 0 1 [.int .i64] (.ints x8), .tr 0 1 [.int .i64] (.ints x9)])]⟩
noncomputable def l0s (x5 : Int) (x8 x9 : List Int) (rec : Int → List (List Cl) → Option Res) (k : List (List Cl) → Option Res) (x6 : Int) (x7 : List (List Cl)) : Option Res :=
 bif decide (0 < (x8.length : Int)) then (bif decide (x6 < x8.getD 0 0) then (bif decide (1 ≤ (x8.length : Int)) then (bif decide (0 ≤ IntKind.i64.wrap (x6 * x5)) && decide (IntKind.i64.wrap (x6 * x5) ≤ IntKind.i64.wrap ((IntKind.i64.wrap (x6 + 1)) * x5)) && decide (IntKind.i64.wrap ((IntKind.i64.wrap (x6 + 1)) * x5) ≤ (x9.length : Int)) then (impl_copyArray.g (x8.drop 1) ((x9.drop ((IntKind.i64.wrap (x6 * x5)).toNat)).take (((IntKind.i64.wrap ((IntKind.i64.wrap (x6 + 1)) * x5)).toNat) - ((IntKind.i64.wrap (x6 * x5)).toNat))) (
  bif decide ((x7.length + 1) * 48 ≤ 140737488355328) then rec (IntKind.i64.wrap (x6 + 1)) (x7 ++ ([[.l (x8.drop 1), .l ((x9.drop ((IntKind.i64.wrap (x6 * x5)).toNat)).take (((IntKind.i64.wrap ((IntKind.i64.wrap (x6 + 1)) * x5)).toNat) - ((IntKind.i64.wrap (x6 * x5)).toNat)))]] : List (List Cl)))
  else none))
  else none)
  else none)
  else k x7)
 else none
noncomputable def l0 (x5 : Int) (x8 x9 : List Int) (k : List (List Cl) → Option Res) : Nat → Int → List (List Cl) → Option Res
 | 0, _, _ => none
 | n + 1, x6, x7 => l0s x5 x8 x9 (fun x6 x7 => l0 x5 x8 x9 k n x6 x7) k x6 x7
noncomputable def o0 (x5 : Int) (x8 x9 : List Int) (y1 : List (List Cl)) : St := ⟨mkT 46 [(4, one (.ow 9200))], [(9200, ⟨[.ints .i64, .ints .i64], .cells y1, true, 0⟩)], []⟩
noncomputable def p0 (K : Res → Option Res) : List Lf → (St → Option Res) → Option Res
 | [.i x5, .i x6, .q (.cells x7), .q (.ints x8), .q (.ints x9)], k => l0 x5 x8 x9 (fun y1 => k (o0 x5 x8 x9 y1)) fuel x6 x7
 | _, _ => none
noncomputable def os : List (FuncId × St × (List Lf → (Res → Option Res) → Option Res)) := [impl_ArrayOk.con, impl_SizeOf.con, impl_copyArray.con]
noncomputable def X (K : Res → Option Res) : Ctx := { Γ := Γ0, orc := orcOf os, io := [], share := [], mvl := [], bun := [], cut := [], own := [(4, 0, 0, [.ints .i64, .ints .i64])], cin := [(0, ⟨[1, 3, 4, 5], [(9200, 9200), (17656, 9200)], [1000], [], [], []⟩)], cout := [(0, ⟨[4], [(9200, 9200)], [], [], [], []⟩)], lp := lpOf [(0, s0 0 0 [] [] [], p0 K)], kl := [], nk := true, eqs := eqs0, byt := byt0, fin := finK fi K }
noncomputable def b (a1 a2 : List Int) (R : List (List Cl) → Option Res) : Option Res :=
 impl_ArrayOk.g a1 a2 fun r3 =>
 bif !r3 then R ([] : List (List Cl))
 else bif ((a1.length : Int) == 0) then R ([] : List (List Cl))
 else bif decide (1 ≤ (a1.length : Int)) then (impl_SizeOf.g (a1.drop 1) fun r4 =>
  l0 r4 a1 a2 (fun y10 =>
  R y10) fuel 0 ([] : List (List Cl)))
 else none
theorem gx : ∃ x : List Int → List Int → (List (List Cl) → Option Res) → Option Res, x = b := ⟨_, rfl⟩
noncomputable def g : List Int → List Int → (List (List Cl) → Option Res) → Option Res := Classical.choose gx
theorem e : g = b := Classical.choose_spec gx
noncomputable def run : List Lf → (Res → Option Res) → Option Res
 | [.q (.ints a1), .q (.ints a2)], K => g a1 a2 (fun r1 => K (m r1))
 | _, _ => none
noncomputable def a (a1 a2 : List Int) : St := argSt [.v ⟨true, [.tr 0 1 [.int .i64] (.ints a1), .tr 0 1 [.int .i64] (.ints a2)]⟩] [] []
noncomputable def con : FuncId × St × (List Lf → (Res → Option Res) → Option Res) := (51, a [] [], run)
theorem cx (K : Res → Option Res) : CtxOk Go.Proofs.Tryd.prog Γ0 byt0 eqs0 (X K) os := ⟨rfl, rfl, rfl, (fun p hp => by
 rcases List.mem_cons.1 hp with rfl | hp
 ·exact impl_ArrayOk.ok
 rcases List.mem_cons.1 hp with rfl | hp
 ·exact impl_SizeOf.ok
 rcases List.mem_cons.1 hp with rfl | hp
 ·exact impl_copyArray.ok
 cases hp), rfl, rfl, rfl, rfl⟩
theorem t0 (K : Res → Option Res) (k : St → Option Res) (it : St → (St → Option Res) → Option Res) (x5 x6 : Int) (x7 : List (List Cl)) (x8 x9 : List Int) : iterS (X K) 0 b0 it (s0 x5 x6 x7 x8 x9) k = l0s x5 x8 x9 (fun x6 x7 => it (s0 x5 x6 x7 x8 x9) k) (fun y1 => k (o0 x5 x8 x9 y1)) x6 x7 := by kernel_rfl
theorem i0 (K : Res → Option Res) (k : St → Option Res) (x5 : Int) (x8 x9 : List Int) : ∀ (n : Nat) (x6 : Int) (x7 : List (List Cl)), iter (X K) 0 b0 n (s0 x5 x6 x7 x8 x9) k = l0 x5 x8 x9 (fun y1 => k (o0 x5 x8 x9 y1)) n x6 x7
 | 0, _, _ => rfl
 | n + 1, x6, x7 => by
  rw [iter_succ, t0, show (fun x6 x7 => iter (X K) 0 b0 n (s0 x5 x6 x7 x8 x9) k) = (fun x6 x7 => l0 x5 x8 x9 (fun y1 => k (o0 x5 x8 x9 y1)) n x6 x7) from funext fun x6 => funext fun x7 => i0 K k x5 x8 x9 n x6 x7]; rfl
theorem v0 {K : Res → Option Res} {l : List Lf} {k : St → Option Res} {r : Res} (h : p0 K l k = some r) : ∃ x5 x6 x7 x8 x9, l = [.i x5, .i x6, .q (.cells x7), .q (.ints x8), .q (.ints x9)] ∧ l0 x5 x8 x9 (fun y1 => k (o0 x5 x8 x9 y1)) fuel x6 x7 = some r := by
 unfold p0 at h; split at h
 ·exact ⟨_, _, _, _, _, rfl, h⟩
 ·cases h
theorem w0 (K : Res → Option Res) : LpSound Go.Proofs.Tryd.prog (X K) 0 b0 := lp_ok ((cx K).ok laid) (by rw [show loopsOf b0 = [] from by kernel_rfl]; intro p hp; cases hp) rfl fun p hp hid => by
 rcases List.mem_cons.1 hp with rfl | hp
 ·intro st k r h1 h2; obtain ⟨x5, x6, x7, x8, x9, e, h⟩ := v0 (K := K) h2; have := St.like_eq (y := s0 x5 x6 x7 x8 x9) h1 (by kernel_rfl) e; subst this; exact ⟨fuel, (i0 K k x5 x8 x9 fuel x6 x7).trans h⟩
 cases hp
theorem tie (K : Res → Option Res) (a1 a2 : List Int) : exec (X K) c (entry 46 [.v ⟨true, [.tr 0 1 [.int .i64] (.ints a1), .tr 0 1 [.int .i64] (.ints a2)]⟩] [] []) (endK (X K)) = g a1 a2 (fun r1 => K (m r1)) := Eq.trans (b := b a1 a2 (fun r1 => K (m r1))) (by kernel_rfl) (by rw [e])
theorem runv {l : List Lf} {K : Res → Option Res} {r : Res} (h : run l K = some r) : ∃ a1 a2, l = [.q (.ints a1), .q (.ints a2)] ∧ g a1 a2 (fun r1 => K (m r1)) = some r := by
 unfold run at h; split at h
 ·exact ⟨_, _, rfl, h⟩
 ·cases h
theorem ok : Con Go.Proofs.Tryd.prog con := con_of (fn := Go.Proofs.Tryd.f51) (c := c) (Fi := fi) (X := X) (fun_of laid (by kernel_rfl) (by kernel_rfl) (by kernel_rfl) rfl (by kernel_rfl) (by kernel_rfl) cx (fun _ => rfl) (fun _ => rfl) (fun K => by
 rw [show loopsOf c = [(0, b0)] from by kernel_rfl]; intro p hp
 rcases List.mem_cons.1 hp with rfl | hp
 ·exact w0 K
 cases hp)) fun xs rows boxes K r hl hr => by
 obtain ⟨a1, a2, e, h⟩ := runv hr
 have := St.like_eq (y := a a1 a2) hl (by kernel_rfl) e
 obtain ⟨rfl, rfl, rfl⟩ := argSt_inj this
 exact (tie K a1 a2).trans h
end impl_Rows
namespace strings_Repeat
theorem is : RepIs Go.Proofs.Tryd.prog 75 := ⟨fun s w => Go.Proofs.Tryd.strings_Repeat_zero s w, fun s w => Go.Proofs.Tryd.strings_Repeat_one s w, fun s c w h1 h2 h3 h4 => Go.Proofs.Tryd.strings_Repeat_main s c w h1 h2 h3 h4⟩
noncomputable def g (a1 : ByteArray) (a2 : Int) (R : ByteArray → Option Res) : Option Res := repG a1 a2 R
noncomputable def con : FuncId × St × (List Lf → (Res → Option Res) → Option Res) := repC 75
theorem ok : Con Go.Proofs.Tryd.prog con := con_rep (fn := Go.Proofs.Tryd.f75) (by kernel_rfl) (by kernel_rfl) (by kernel_rfl) is
end strings_Repeat
namespace impl_lines
noncomputable def c : Code := bodyOf Go.Proofs.Tryd.f50
noncomputable def fi : Fin := ⟨Γ0, [(.tmp 4, 9)], [[1]], [], [], []⟩
noncomputable def m (r1 : ByteArray) : Res := ⟨[⟨false, [.str r1]⟩], [], [], [], []⟩
noncomputable def b0 : Code := codeAt c [1, 1, 0, 1, 0, 0]
noncomputable def b2 : Code := codeAt c [1, 1, 0, 1, 0, 0, 1, 1, 0, 0, 1, 1, 0, 1, 0, 0]
noncomputable def s2 (x10 x11 x12 : Int) (x13 : List Int) (x14 x15 : Int) (x16 : List (List Cl)) (x17 x18 : List ByteArray) : St := ⟨mkT 47 [(1, one (.int .i64 x10)), (5, one (.ow 3056)), (8, one (.ow 11248)), (13, one (.ow 5113)), (14, one (.int .i64 x11)), (15, one (.int .i64 x12)), (20, one (.tr 1 2 [.int .i64] (.ints x13))), (21, one (.int .i64 x14)), (22, one (.int .i64 x15))], [(5113, ⟨[.ints .i64, .ints .i64], .cells x16, true, 0⟩), (11248, ⟨[.str], .strs x17, true, 0⟩), (3056, ⟨[.str], .strs x18, true, 0⟩)], []⟩
noncomputable def l2s (x10 x11 x12 : Int) (x13 : List Int) (x14 : Int) (x16 : List (List Cl)) (x18 : List ByteArray) (rec : Int → List ByteArray → Option Res) (k : List ByteArray → Option Res) (x15 : Int) (x17 : List ByteArray) : Option Res :=
 bif decide (x15 < x14) then (bif decide (0 ≤ x15) && decide (x15 < (x13.length : Int)) then (impl_ShowNum.g (x13.getD x15.toNat 0) fun r19 =>
  strings_Repeat.g (⟨#[32]⟩ : ByteArray) (IntKind.i64.wrap (x10 - (r19.size : Int))) fun r20 =>
  bif decide (r20.size + r19.size ≤ 9223372036854775807) then (bif decide ((x17.length + 1) * 16 ≤ 140737488355328) then rec (IntKind.i64.wrap (x15 + 1)) (x17 ++ ([r20 ++ r19] : List ByteArray))
   else none)
  else none)
  else none)
 else k x17
noncomputable def l2 (x10 x11 x12 : Int) (x13 : List Int) (x14 : Int) (x16 : List (List Cl)) (x18 : List ByteArray) (k : List ByteArray → Option Res) : Nat → Int → List ByteArray → Option Res
 | 0, _, _ => none
 | n + 1, x15, x17 => l2s x10 x11 x12 x13 x14 x16 x18 (fun x15 x17 => l2 x10 x11 x12 x13 x14 x16 x18 k n x15 x17) k x15 x17
noncomputable def o2 (x10 x11 x12 : Int) (x13 : List Int) (x14 : Int) (x16 : List (List Cl)) (x18 y4 : List ByteArray) : St := ⟨mkT 47 [(1, one (.int .i64 x10)), (5, one (.ow 3056)), (8, one (.ow 11248)), (13, one (.ow 5113)), (14, one (.int .i64 x11)), (15, one (.int .i64 x12))], [(11248, ⟨[.str], .strs y4, true, 0⟩), (5113, ⟨[.ints .i64, .ints .i64], .cells x16, true, 0⟩), (3056, ⟨[.str], .strs x18, true, 0⟩)], []⟩
noncomputable def p2 (K : Res → Option Res) : List Lf → (St → Option Res) → Option Res
 | [.i x10, .i x11, .i x12, .q (.ints x13), .i x14, .i x15, .q (.cells x16), .q (.strs x17), .q (.strs x18)], k => l2 x10 x11 x12 x13 x14 x16 x18 (fun y4 => k (o2 x10 x11 x12 x13 x14 x16 x18 y4)) fuel x15 x17
 | _, _ => none
noncomputable def s0 (x5 x6 x7 : Int) (x8 : List (List Cl)) (x9 : List ByteArray) : St := ⟨mkT 47 [(1, one (.int .i64 x5)), (5, one (.ow 3056)), (13, one (.ow 5113)), (14, one (.int .i64 x6)), (15, one (.int .i64 x7))], [(5113, ⟨[.ints .i64, .ints .i64], .cells x8, true, 0⟩), (3056, ⟨[.str], .strs x9, true, 0⟩)], []⟩
noncomputable def l0s (x5 x6 : Int) (x8 : List (List Cl)) (rec : Int → List ByteArray → Option Res) (k : List ByteArray → Option Res) (x7 : Int) (x9 : List ByteArray) : Option Res :=
 bif decide (x7 < x6) then (bif decide (0 ≤ x7) && decide (x7 < (x8.length : Int)) then (l2 x5 x6 x7 (((x8.getD x7.toNat []).getD 1 (.i 0)).toL) ((((x8.getD x7.toNat []).getD 1 (.i 0)).toL).length : Int) x8 x9 (fun y21 =>
  strings_Join.g y21 (⟨#[32]⟩ : ByteArray) fun r22 =>
  bif decide ((x9.length + 1) * 16 ≤ 140737488355328) then rec (IntKind.i64.wrap (x7 + 1)) (x9 ++ ([r22] : List ByteArray))
  else none) fuel 0 ([] : List ByteArray))
  else none)
 else k x9
noncomputable def l0 (x5 x6 : Int) (x8 : List (List Cl)) (k : List ByteArray → Option Res) : Nat → Int → List ByteArray → Option Res
 | 0, _, _ => none
 | n + 1, x7, x9 => l0s x5 x6 x8 (fun x7 x9 => l0 x5 x6 x8 k n x7 x9) k x7 x9
noncomputable def o0 (x5 x6 : Int) (x8 : List (List Cl)) (y1 : List ByteArray) : St := ⟨mkT 47 [(5, one (.ow 3056))], [(3056, ⟨[.str], .strs y1, true, 0⟩)], []⟩
noncomputable def p0 (K : Res → Option Res) : List Lf → (St → Option Res) → Option Res
 | [.i x5, .i x6, .i x7, .q (.cells x8), .q (.strs x9)], k => l0 x5 x6 x8 (fun y1 => k (o0 x5 x6 x8 y1)) fuel x7 x9
 | _, _ => none
noncomputable def os : List (FuncId × St × (List Lf → (Res → Option Res) → Option Res)) := [impl_Rows.con, impl_ShowNum.con, strings_Repeat.con, strings_Join.con]
noncomputable def X (K : Res → Option Res) : Ctx := { Γ := Γ0, orc := orcOf os, io := [], share := [], mvl := [], bun := [], cut := [], own := [(5, 0, 0, [.str]), (1, 0, 0, [.str])], cin := [(2, ⟨[1, 5, 8, 13, 14, 15, 20, 21, 22], [(5113, 5113), (11248, 11248), (21624, 11248), (3056, 3056)], [], [], [], []⟩), (0, ⟨[1, 5, 13, 14, 15], [(5113, 5113), (3056, 3056), (25640, 3056)], [], [], [], []⟩)], cout := [(2, ⟨[1, 5, 8, 13, 14, 15], [(11248, 11248), (5113, 5113), (3056, 3056)], [], [], [], []⟩), (0, ⟨[5], [(3056, 3056)], [], [], [], []⟩)], lp := lpOf [(2, s2 0 0 0 [] 0 0 [] [] [], p2 K), (0, s0 0 0 0 [] [], p0 K)], kl := [], nk := true, eqs := eqs0, byt := byt0, fin := finK fi K }
noncomputable def b (a1 a2 : List Int) (a3 : Int) (R : ByteArray → Option Res) : Option Res :=
 impl_Rows.g a1 a2 fun r4 =>
 l0 a3 (r4.length : Int) r4 (fun y23 =>
 strings_Join.g y23 (⟨#[10]⟩ : ByteArray) fun r24 =>
 R r24) fuel 0 ([] : List ByteArray)
theorem gx : ∃ x : List Int → List Int → Int → (ByteArray → Option Res) → Option Res, x = b := ⟨_, rfl⟩
noncomputable def g : List Int → List Int → Int → (ByteArray → Option Res) → Option Res := Classical.choose gx
theorem e : g = b := Classical.choose_spec gx
noncomputable def run : List Lf → (Res → Option Res) → Option Res
 | [.q (.ints a1), .q (.ints a2), .i a3], K => g a1 a2 a3 (fun r1 => K (m r1))
 | _, _ => none
noncomputable def a (a1 a2 : List Int) (a3 : Int) : St := argSt [.v ⟨true, [.tr 0 1 [.int .i64] (.ints a1), .tr 0 1 [.int .i64] (.ints a2)]⟩, one (.int .i64 a3)] [] []
noncomputable def con : FuncId × St × (List Lf → (Res → Option Res) → Option Res) := (50, a [] [] 0, run)
theorem cx (K : Res → Option Res) : CtxOk Go.Proofs.Tryd.prog Γ0 byt0 eqs0 (X K) os := ⟨rfl, rfl, rfl, (fun p hp => by
 rcases List.mem_cons.1 hp with rfl | hp
 ·exact impl_Rows.ok
 rcases List.mem_cons.1 hp with rfl | hp
 ·exact impl_ShowNum.ok
 rcases List.mem_cons.1 hp with rfl | hp
 ·exact strings_Repeat.ok
 rcases List.mem_cons.1 hp with rfl | hp
 ·exact strings_Join.ok
 cases hp), rfl, rfl, rfl, rfl⟩
theorem t2 (K : Res → Option Res) (k : St → Option Res) (it : St → (St → Option Res) → Option Res) (x10 x11 x12 : Int) (x13 : List Int) (x14 x15 : Int) (x16 : List (List Cl)) (x17 x18 : List ByteArray) : iterS (X K) 2 b2 it (s2 x10 x11 x12 x13 x14 x15 x16 x17 x18) k = l2s x10 x11 x12 x13 x14 x16 x18 (fun x15 x17 => it (s2 x10 x11 x12 x13 x14 x15 x16 x17 x18) k) (fun y4 => k (o2 x10 x11 x12 x13 x14 x16 x18 y4)) x15 x17 := by kernel_rfl
theorem i2 (K : Res → Option Res) (k : St → Option Res) (x10 x11 x12 : Int) (x13 : List Int) (x14 : Int) (x16 : List (List Cl)) (x18 : List ByteArray) : ∀ (n : Nat) (x15 : Int) (x17 : List ByteArray), iter (X K) 2 b2 n (s2 x10 x11 x12 x13 x14 x15 x16 x17 x18) k = l2 x10 x11 x12 x13 x14 x16 x18 (fun y4 => k (o2 x10 x11 x12 x13 x14 x16 x18 y4)) n x15 x17
 | 0, _, _ => rfl
 | n + 1, x15, x17 => by
  rw [iter_succ, t2, show (fun x15 x17 => iter (X K) 2 b2 n (s2 x10 x11 x12 x13 x14 x15 x16 x17 x18) k) = (fun x15 x17 => l2 x10 x11 x12 x13 x14 x16 x18 (fun y4 => k (o2 x10 x11 x12 x13 x14 x16 x18 y4)) n x15 x17) from funext fun x15 => funext fun x17 => i2 K k x10 x11 x12 x13 x14 x16 x18 n x15 x17]; rfl
theorem v2 {K : Res → Option Res} {l : List Lf} {k : St → Option Res} {r : Res} (h : p2 K l k = some r) : ∃ x10 x11 x12 x13 x14 x15 x16 x17 x18, l = [.i x10, .i x11, .i x12, .q (.ints x13), .i x14, .i x15, .q (.cells x16), .q (.strs x17), .q (.strs x18)] ∧ l2 x10 x11 x12 x13 x14 x16 x18 (fun y4 => k (o2 x10 x11 x12 x13 x14 x16 x18 y4)) fuel x15 x17 = some r := by
 unfold p2 at h; split at h
 ·exact ⟨_, _, _, _, _, _, _, _, _, rfl, h⟩
 ·cases h
theorem t0 (K : Res → Option Res) (k : St → Option Res) (it : St → (St → Option Res) → Option Res) (x5 x6 x7 : Int) (x8 : List (List Cl)) (x9 : List ByteArray) : iterS (X K) 0 b0 it (s0 x5 x6 x7 x8 x9) k = l0s x5 x6 x8 (fun x7 x9 => it (s0 x5 x6 x7 x8 x9) k) (fun y1 => k (o0 x5 x6 x8 y1)) x7 x9 := by kernel_rfl
theorem i0 (K : Res → Option Res) (k : St → Option Res) (x5 x6 : Int) (x8 : List (List Cl)) : ∀ (n : Nat) (x7 : Int) (x9 : List ByteArray), iter (X K) 0 b0 n (s0 x5 x6 x7 x8 x9) k = l0 x5 x6 x8 (fun y1 => k (o0 x5 x6 x8 y1)) n x7 x9
 | 0, _, _ => rfl
 | n + 1, x7, x9 => by
  rw [iter_succ, t0, show (fun x7 x9 => iter (X K) 0 b0 n (s0 x5 x6 x7 x8 x9) k) = (fun x7 x9 => l0 x5 x6 x8 (fun y1 => k (o0 x5 x6 x8 y1)) n x7 x9) from funext fun x7 => funext fun x9 => i0 K k x5 x6 x8 n x7 x9]; rfl
theorem v0 {K : Res → Option Res} {l : List Lf} {k : St → Option Res} {r : Res} (h : p0 K l k = some r) : ∃ x5 x6 x7 x8 x9, l = [.i x5, .i x6, .i x7, .q (.cells x8), .q (.strs x9)] ∧ l0 x5 x6 x8 (fun y1 => k (o0 x5 x6 x8 y1)) fuel x7 x9 = some r := by
 unfold p0 at h; split at h
 ·exact ⟨_, _, _, _, _, rfl, h⟩
 ·cases h
theorem w2 (K : Res → Option Res) : LpSound Go.Proofs.Tryd.prog (X K) 2 b2 := lp_ok ((cx K).ok laid) (by rw [show loopsOf b2 = [] from by kernel_rfl]; intro p hp; cases hp) rfl fun p hp hid => by
 rcases List.mem_cons.1 hp with rfl | hp
 ·intro st k r h1 h2; obtain ⟨x10, x11, x12, x13, x14, x15, x16, x17, x18, e, h⟩ := v2 (K := K) h2; have := St.like_eq (y := s2 x10 x11 x12 x13 x14 x15 x16 x17 x18) h1 (by kernel_rfl) e; subst this; exact ⟨fuel, (i2 K k x10 x11 x12 x13 x14 x16 x18 fuel x15 x17).trans h⟩
 rcases List.mem_cons.1 hp with rfl | hp
 ·exact absurd hid (by simp)
 cases hp
theorem w0 (K : Res → Option Res) : LpSound Go.Proofs.Tryd.prog (X K) 0 b0 := lp_ok ((cx K).ok laid) (by
 rw [show loopsOf b0 = [(2, b2)] from by kernel_rfl]; intro p hp
 rcases List.mem_cons.1 hp with rfl | hp
 ·exact w2 K
 cases hp) rfl fun p hp hid => by
 rcases List.mem_cons.1 hp with rfl | hp
 ·exact absurd hid (by simp)
 rcases List.mem_cons.1 hp with rfl | hp
 ·intro st k r h1 h2; obtain ⟨x5, x6, x7, x8, x9, e, h⟩ := v0 (K := K) h2; have := St.like_eq (y := s0 x5 x6 x7 x8 x9) h1 (by kernel_rfl) e; subst this; exact ⟨fuel, (i0 K k x5 x6 x8 fuel x7 x9).trans h⟩
 cases hp
theorem tie (K : Res → Option Res) (a1 a2 : List Int) (a3 : Int) : exec (X K) c (entry 47 [.v ⟨true, [.tr 0 1 [.int .i64] (.ints a1), .tr 0 1 [.int .i64] (.ints a2)]⟩, one (.int .i64 a3)] [] []) (endK (X K)) = g a1 a2 a3 (fun r1 => K (m r1)) := Eq.trans (b := b a1 a2 a3 (fun r1 => K (m r1))) (by kernel_rfl) (by rw [e])
theorem runv {l : List Lf} {K : Res → Option Res} {r : Res} (h : run l K = some r) : ∃ a1 a2 a3, l = [.q (.ints a1), .q (.ints a2), .i a3] ∧ g a1 a2 a3 (fun r1 => K (m r1)) = some r := by
 unfold run at h; split at h
 ·exact ⟨_, _, _, rfl, h⟩
 ·cases h
theorem ok : Con Go.Proofs.Tryd.prog con := con_of (fn := Go.Proofs.Tryd.f50) (c := c) (Fi := fi) (X := X) (fun_of laid (by kernel_rfl) (by kernel_rfl) (by kernel_rfl) rfl (by kernel_rfl) (by kernel_rfl) cx (fun _ => rfl) (fun _ => rfl) (fun K => by
 rw [show loopsOf c = [(0, b0), (2, b2)] from by kernel_rfl]; intro p hp
 rcases List.mem_cons.1 hp with rfl | hp
 ·exact w0 K
 rcases List.mem_cons.1 hp with rfl | hp
 ·exact w2 K
 cases hp)) fun xs rows boxes K r hl hr => by
 obtain ⟨a1, a2, a3, e, h⟩ := runv hr
 have := St.like_eq (y := a a1 a2 a3) hl (by kernel_rfl) e
 obtain ⟨rfl, rfl, rfl⟩ := argSt_inj this
 exact (tie K a1 a2 a3).trans h
end impl_lines
namespace impl_Show
noncomputable def c : Code := bodyOf Go.Proofs.Tryd.f28
noncomputable def fi : Fin := ⟨Γ0, [(.tmp 2, 9)], [[1]], [], [], []⟩
noncomputable def m (r1 : ByteArray) : Res := ⟨[⟨false, [.str r1]⟩], [], [], [], []⟩
noncomputable def b1 : Code := codeAt c [1, 1, 1, 0, 1, 0, 1, 1, 1, 0, 1, 0, 1, 0, 0]
noncomputable def s1 (x7 x8 x9 : Int) (x10 : List (List Cl)) (x11 : List ByteArray) : St := ⟨mkT 42 [(3, one (.int .i64 x7)), (4, one (.ow 17392)), (24, one (.ow 19449)), (25, one (.int .i64 x8)), (26, one (.int .i64 x9))], [(19449, ⟨[.ints .i64, .ints .i64], .cells x10, true, 0⟩), (17392, ⟨[.str], .strs x11, true, 0⟩)], []⟩
noncomputable def l1s (x7 x8 : Int) (x10 : List (List Cl)) (rec : Int → List ByteArray → Option Res) (k : List ByteArray → Option Res) (x9 : Int) (x11 : List ByteArray) : Option Res :=
 bif decide (x9 < x8) then (bif decide (0 ≤ x9) && decide (x9 < (x10.length : Int)) then (impl_lines.g (((x10.getD x9.toNat []).getD 0 (.i 0)).toL) (((x10.getD x9.toNat []).getD 1 (.i 0)).toL) x7 fun r12 =>
  bif decide ((x11.length + 1) * 16 ≤ 140737488355328) then rec (IntKind.i64.wrap (x9 + 1)) (x11 ++ ([r12] : List ByteArray))
  else none)
  else none)
 else k x11
noncomputable def l1 (x7 x8 : Int) (x10 : List (List Cl)) (k : List ByteArray → Option Res) : Nat → Int → List ByteArray → Option Res
 | 0, _, _ => none
 | n + 1, x9, x11 => l1s x7 x8 x10 (fun x9 x11 => l1 x7 x8 x10 k n x9 x11) k x9 x11
noncomputable def o1 (x7 x8 : Int) (x10 : List (List Cl)) (y1 : List ByteArray) : St := ⟨mkT 42 [(4, one (.ow 17392))], [(17392, ⟨[.str], .strs y1, true, 0⟩)], []⟩
noncomputable def p1 (K : Res → Option Res) : List Lf → (St → Option Res) → Option Res
 | [.i x7, .i x8, .i x9, .q (.cells x10), .q (.strs x11)], k => l1 x7 x8 x10 (fun y1 => k (o1 x7 x8 x10 y1)) fuel x9 x11
 | _, _ => none
noncomputable def os : List (FuncId × St × (List Lf → (Res → Option Res) → Option Res)) := [impl_ArrayOk.con, impl_ShowWide.con, impl_lines.con, impl_Rows.con, strings_Join.con, impl_ShowRow.con]
noncomputable def X (K : Res → Option Res) : Ctx := { Γ := Γ0, orc := orcOf os, io := [], share := [], mvl := [], bun := [], cut := [], own := [(8, 0, 0, [.str])], cin := [(1, ⟨[3, 4, 24, 25, 26], [(19449, 19449), (17392, 17392), (25656, 17392)], [], [], [], []⟩)], cout := [(1, ⟨[4], [(17392, 17392)], [], [], [], []⟩)], lp := lpOf [(1, s1 0 0 0 [] [], p1 K)], kl := [], nk := true, eqs := eqs0, byt := byt0, fin := finK fi K }
noncomputable def b (a1 a2 : List Int) (R : ByteArray → Option Res) : Option Res :=
 impl_ArrayOk.g a1 a2 fun r3 =>
 bif !r3 then R (⟨#[]⟩ : ByteArray)
 else (impl_ShowWide.g a2 fun r4 =>
 bif ((a1.length : Int) == 2) then (impl_lines.g a1 a2 r4 fun r5 =>
  R r5)
 else bif ((a1.length : Int) == 3) then (impl_Rows.g a1 a2 fun r6 =>
  l1 r4 (r6.length : Int) r6 (fun y13 =>
  strings_Join.g y13 (⟨#[10, 10]⟩ : ByteArray) fun r14 =>
  R r14) fuel 0 ([] : List ByteArray))
 else (impl_ShowRow.g a2 fun r15 =>
 R r15))
theorem gx : ∃ x : List Int → List Int → (ByteArray → Option Res) → Option Res, x = b := ⟨_, rfl⟩
noncomputable def g : List Int → List Int → (ByteArray → Option Res) → Option Res := Classical.choose gx
theorem e : g = b := Classical.choose_spec gx
noncomputable def run : List Lf → (Res → Option Res) → Option Res
 | [.q (.ints a1), .q (.ints a2)], K => g a1 a2 (fun r1 => K (m r1))
 | _, _ => none
noncomputable def a (a1 a2 : List Int) : St := argSt [.v ⟨true, [.tr 0 1 [.int .i64] (.ints a1), .tr 0 1 [.int .i64] (.ints a2)]⟩] [] []
noncomputable def con : FuncId × St × (List Lf → (Res → Option Res) → Option Res) := (28, a [] [], run)
theorem cx (K : Res → Option Res) : CtxOk Go.Proofs.Tryd.prog Γ0 byt0 eqs0 (X K) os := ⟨rfl, rfl, rfl, (fun p hp => by
 rcases List.mem_cons.1 hp with rfl | hp
 ·exact impl_ArrayOk.ok
 rcases List.mem_cons.1 hp with rfl | hp
 ·exact impl_ShowWide.ok
 rcases List.mem_cons.1 hp with rfl | hp
 ·exact impl_lines.ok
 rcases List.mem_cons.1 hp with rfl | hp
 ·exact impl_Rows.ok
 rcases List.mem_cons.1 hp with rfl | hp
 ·exact strings_Join.ok
 rcases List.mem_cons.1 hp with rfl | hp
 ·exact impl_ShowRow.ok
 cases hp), rfl, rfl, rfl, rfl⟩
theorem t1 (K : Res → Option Res) (k : St → Option Res) (it : St → (St → Option Res) → Option Res) (x7 x8 x9 : Int) (x10 : List (List Cl)) (x11 : List ByteArray) : iterS (X K) 1 b1 it (s1 x7 x8 x9 x10 x11) k = l1s x7 x8 x10 (fun x9 x11 => it (s1 x7 x8 x9 x10 x11) k) (fun y1 => k (o1 x7 x8 x10 y1)) x9 x11 := by kernel_rfl
theorem i1 (K : Res → Option Res) (k : St → Option Res) (x7 x8 : Int) (x10 : List (List Cl)) : ∀ (n : Nat) (x9 : Int) (x11 : List ByteArray), iter (X K) 1 b1 n (s1 x7 x8 x9 x10 x11) k = l1 x7 x8 x10 (fun y1 => k (o1 x7 x8 x10 y1)) n x9 x11
 | 0, _, _ => rfl
 | n + 1, x9, x11 => by
  rw [iter_succ, t1, show (fun x9 x11 => iter (X K) 1 b1 n (s1 x7 x8 x9 x10 x11) k) = (fun x9 x11 => l1 x7 x8 x10 (fun y1 => k (o1 x7 x8 x10 y1)) n x9 x11) from funext fun x9 => funext fun x11 => i1 K k x7 x8 x10 n x9 x11]; rfl
theorem v1 {K : Res → Option Res} {l : List Lf} {k : St → Option Res} {r : Res} (h : p1 K l k = some r) : ∃ x7 x8 x9 x10 x11, l = [.i x7, .i x8, .i x9, .q (.cells x10), .q (.strs x11)] ∧ l1 x7 x8 x10 (fun y1 => k (o1 x7 x8 x10 y1)) fuel x9 x11 = some r := by
 unfold p1 at h; split at h
 ·exact ⟨_, _, _, _, _, rfl, h⟩
 ·cases h
theorem w1 (K : Res → Option Res) : LpSound Go.Proofs.Tryd.prog (X K) 1 b1 := lp_ok ((cx K).ok laid) (by rw [show loopsOf b1 = [] from by kernel_rfl]; intro p hp; cases hp) rfl fun p hp hid => by
 rcases List.mem_cons.1 hp with rfl | hp
 ·intro st k r h1 h2; obtain ⟨x7, x8, x9, x10, x11, e, h⟩ := v1 (K := K) h2; have := St.like_eq (y := s1 x7 x8 x9 x10 x11) h1 (by kernel_rfl) e; subst this; exact ⟨fuel, (i1 K k x7 x8 x10 fuel x9 x11).trans h⟩
 cases hp
theorem tie (K : Res → Option Res) (a1 a2 : List Int) : exec (X K) c (entry 42 [.v ⟨true, [.tr 0 1 [.int .i64] (.ints a1), .tr 0 1 [.int .i64] (.ints a2)]⟩] [] []) (endK (X K)) = g a1 a2 (fun r1 => K (m r1)) := Eq.trans (b := b a1 a2 (fun r1 => K (m r1))) (by kernel_rfl) (by rw [e])
theorem runv {l : List Lf} {K : Res → Option Res} {r : Res} (h : run l K = some r) : ∃ a1 a2, l = [.q (.ints a1), .q (.ints a2)] ∧ g a1 a2 (fun r1 => K (m r1)) = some r := by
 unfold run at h; split at h
 ·exact ⟨_, _, rfl, h⟩
 ·cases h
theorem ok : Con Go.Proofs.Tryd.prog con := con_of (fn := Go.Proofs.Tryd.f28) (c := c) (Fi := fi) (X := X) (fun_of laid (by kernel_rfl) (by kernel_rfl) (by kernel_rfl) rfl (by kernel_rfl) (by kernel_rfl) cx (fun _ => rfl) (fun _ => rfl) (fun K => by
 rw [show loopsOf c = [(1, b1)] from by kernel_rfl]; intro p hp
 rcases List.mem_cons.1 hp with rfl | hp
 ·exact w1 K
 cases hp)) fun xs rows boxes K r hl hr => by
 obtain ⟨a1, a2, e, h⟩ := runv hr
 have := St.like_eq (y := a a1 a2) hl (by kernel_rfl) e
 obtain ⟨rfl, rfl, rfl⟩ := argSt_inj this
 exact (tie K a1 a2).trans h
end impl_Show
namespace spec_l2DrawRight
noncomputable def c : Code := bodyOf Go.Proofs.Tryd.f92
noncomputable def fi : Fin := ⟨Γ0, [(.tmp 2, 24)], [[1]], [], [([.sl [.int .u8] 1, .int .i64, .int .i64], [0, 1, 1])], []⟩
noncomputable def m (a1 r1 : List Int) (r3 r4 : Int) : Res := ⟨[⟨false, [.ow 1000]⟩], [], [⟨[.int .i64], .ints r1, true, 0⟩], [[.tr 2 2 [.int .u8] (.ints a1), .int .i64 r3, .int .i64 r4]], []⟩
noncomputable def os : List (FuncId × St × (List Lf → (Res → Option Res) → Option Res)) := [spec_l1Below.con]
noncomputable def X (K : Res → Option Res) : Ctx := { Γ := Γ0, orc := orcOf os, io := [], share := [], mvl := [], bun := [], cut := [], own := [], cin := [], cout := [], lp := lpOf [], kl := [], nk := true, eqs := eqs0, byt := byt0, fin := finK fi K }
noncomputable def b (a1 : List Int) (a2 a3 : Int) (R : List Int → Int → Int → Option Res) : Option Res :=
 spec_l1Below.g 5 a1 a2 a3 fun r4 r5 r6 =>
 bif (r4 == 0) then R ([] : List Int) r5 r6
 else bif (r4 == 1) then (spec_l1Below.g 6 a1 r5 r6 fun r7 r8 r9 =>
  R ([r7] : List Int) r8 r9)
 else bif (r4 == 2) then (spec_l1Below.g 6 a1 r5 r6 fun r10 r11 r12 =>
  R ([r10] : List Int) r11 r12)
 else bif (r4 == 3) then (spec_l1Below.g 4 a1 r5 r6 fun r13 r14 r15 =>
  spec_l1Below.g 3 a1 r14 r15 fun r16 r17 r18 =>
  R ([r13, IntKind.i64.wrap (1 + r16)] : List Int) r17 r18)
 else (spec_l1Below.g 3 a1 r5 r6 fun r19 r20 r21 =>
 spec_l1Below.g 2 a1 r20 r21 fun r22 r23 r24 =>
 spec_l1Below.g 4 a1 r23 r24 fun r25 r26 r27 =>
 R ([IntKind.i64.wrap (1 + r19), IntKind.i64.wrap (1 + r22), r25] : List Int) r26 r27)
theorem gx : ∃ x : List Int → Int → Int → (List Int → Int → Int → Option Res) → Option Res, x = b := ⟨_, rfl⟩
noncomputable def g : List Int → Int → Int → (List Int → Int → Int → Option Res) → Option Res := Classical.choose gx
theorem e : g = b := Classical.choose_spec gx
noncomputable def run : List Lf → (Res → Option Res) → Option Res
 | [.q (.ints a1), .i a2, .i a3], K => g a1 a2 a3 (fun r1 r3 r4 => K (m a1 r1 r3 r4))
 | _, _ => none
noncomputable def a (a1 : List Int) (a2 a3 : Int) : St := argSt [one (.bp 0 0)] [] [[.tr 2 2 [.int .u8] (.ints a1), .int .i64 a2, .int .i64 a3]]
noncomputable def con : FuncId × St × (List Lf → (Res → Option Res) → Option Res) := (92, a [] 0 0, run)
theorem cx (K : Res → Option Res) : CtxOk Go.Proofs.Tryd.prog Γ0 byt0 eqs0 (X K) os := ⟨rfl, rfl, rfl, (fun p hp => by
 rcases List.mem_cons.1 hp with rfl | hp
 ·exact spec_l1Below.ok
 cases hp), rfl, rfl, rfl, rfl⟩
theorem tie (K : Res → Option Res) (a1 : List Int) (a2 a3 : Int) : exec (X K) c (entry 31 [one (.bp 0 0)] [] [[.tr 2 2 [.int .u8] (.ints a1), .int .i64 a2, .int .i64 a3]]) (endK (X K)) = g a1 a2 a3 (fun r1 r3 r4 => K (m a1 r1 r3 r4)) := Eq.trans (b := b a1 a2 a3 (fun r1 r3 r4 => K (m a1 r1 r3 r4))) (by kernel_rfl) (by rw [e])
theorem runv {l : List Lf} {K : Res → Option Res} {r : Res} (h : run l K = some r) : ∃ a1 a2 a3, l = [.q (.ints a1), .i a2, .i a3] ∧ g a1 a2 a3 (fun r1 r3 r4 => K (m a1 r1 r3 r4)) = some r := by
 unfold run at h; split at h
 ·exact ⟨_, _, _, rfl, h⟩
 ·cases h
theorem ok : Con Go.Proofs.Tryd.prog con := con_of (fn := Go.Proofs.Tryd.f92) (c := c) (Fi := fi) (X := X) (fun_of laid (by kernel_rfl) (by kernel_rfl) (by kernel_rfl) rfl (by kernel_rfl) (by kernel_rfl) cx (fun _ => rfl) (fun _ => rfl) (fun K => by
 rw [show loopsOf c = [] from by kernel_rfl]; intro p hp
 cases hp)) fun xs rows boxes K r hl hr => by
 obtain ⟨a1, a2, a3, e, h⟩ := runv hr
 have := St.like_eq (y := a a1 a2 a3) hl (by kernel_rfl) e
 obtain ⟨rfl, rfl, rfl⟩ := argSt_inj this
 exact (tie K a1 a2 a3).trans h
end spec_l2DrawRight
namespace spec_l3Fill
noncomputable def c : Code := bodyOf Go.Proofs.Tryd.f91
noncomputable def fi : Fin := ⟨Γ0, [(.cell 4 44, 44)], [[1, 1]], [], [([.sl [.int .u8] 1, .int .i64, .int .i64], [0, 1, 1])], []⟩
noncomputable def m (r1 r2 r3 : List Int) (r4 r5 : Int) : Res := ⟨[⟨true, [.ow 1000, .ow 1001]⟩], [], [⟨[.int .i64], .ints r1, true, 0⟩, ⟨[.int .i64], .ints r2, true, 0⟩], [[.tr 2 2 [.int .u8] (.ints r3), .int .i64 r4, .int .i64 r5]], []⟩
noncomputable def b0 : Code := codeAt c [1, 1, 0, 1, 0, 0]
noncomputable def s0 (x5 : List Int) (x6 : Int) (x7 x8 x9 : List Int) (x10 x11 : Int) : St := ⟨mkT 25 [(0, one (.bp 0 0)), (1, one (.tr 0 1 [.int .i64] (.ints x5))), (4, one (.bp 1000 0)), (5, one (.bp 3112 0)), (6, one (.int .i64 x6))], [(3080, ⟨[.int .i64], .ints x7, true, 0⟩), (3105, ⟨[.int .i64], .ints x8, true, 0⟩)], [(0, [.tr 2 2 [.int .u8] (.ints x9), .int .i64 x10, .int .i64 x11]), (1000, [.nil, .nil]), (3112, [.ow 3080, .ow 3105])]⟩
noncomputable def l0s (x5 x7 x9 : List Int) (rec : Int → List Int → Int → Int → Option Res) (k : List Int → Int → Int → Option Res) (x6 : Int) (x8 : List Int) (x10 x11 : Int) : Option Res :=
 spec_SizeOf.g x5 fun r12 =>
 bif decide (x6 < r12) then (spec_l1DrawNum.g x9 x10 x11 fun r13 r14 r15 =>
  bif decide ((x8.length + 1) * 8 ≤ 140737488355328) then rec (IntKind.i64.wrap (x6 + 1)) (x8 ++ ([r13] : List Int)) r14 r15
  else none)
 else k x8 x10 x11
noncomputable def l0 (x5 x7 x9 : List Int) (k : List Int → Int → Int → Option Res) : Nat → Int → List Int → Int → Int → Option Res
 | 0, _, _, _, _ => none
 | n + 1, x6, x8, x10, x11 => l0s x5 x7 x9 (fun x6 x8 x10 x11 => l0 x5 x7 x9 k n x6 x8 x10 x11) k x6 x8 x10 x11
noncomputable def o0 (x5 x7 x9 y2 : List Int) (y4 y5 : Int) : St := ⟨mkT 25 [(4, one (.bp 1000 0)), (5, one (.bp 3112 0))], [(3080, ⟨[.int .i64], .ints x7, true, 0⟩), (3105, ⟨[.int .i64], .ints y2, true, 0⟩)], [(1000, [.nil, .nil]), (3112, [.ow 3080, .ow 3105]), (0, [.tr 2 2 [.int .u8] (.ints x9), .int .i64 y4, .int .i64 y5])]⟩
noncomputable def p0 (K : Res → Option Res) : List Lf → (St → Option Res) → Option Res
 | [.q (.ints x5), .i x6, .q (.ints x7), .q (.ints x8), .q (.ints x9), .i x10, .i x11], k => l0 x5 x7 x9 (fun y2 y4 y5 => k (o0 x5 x7 x9 y2 y4 y5)) fuel x6 x8 x10 x11
 | _, _ => none
noncomputable def os : List (FuncId × St × (List Lf → (Res → Option Res) → Option Res)) := [spec_SizeOf.con, spec_l1DrawNum.con]
noncomputable def X (K : Res → Option Res) : Ctx := { Γ := Γ0, orc := orcOf os, io := [], share := [], mvl := [], bun := [], cut := [], own := [(1, 3, 1, [.int .i64])], cin := [(0, ⟨[0, 1, 4, 5, 6], [(3080, 3080), (3105, 3105), (11320, 3105)], [0, 1000, 3112], [], [], []⟩)], cout := [(0, ⟨[4, 5], [(3080, 3080), (3105, 3105)], [1000, 3112, 0], [], [], []⟩)], lp := lpOf [(0, s0 [] 0 [] [] [] 0 0, p0 K)], kl := [], nk := true, eqs := eqs0, byt := byt0, fin := finK fi K }
noncomputable def b (a1 a2 : List Int) (a3 a4 : Int) (R : List Int → List Int → List Int → Int → Int → Option Res) : Option Res :=
 bif decide ((0 + a1.length) * 8 ≤ 140737488355328) then (l0 a1 (([] : List Int) ++ a1) a2 (fun y16 y17 y18 =>
  R (([] : List Int) ++ a1) y16 a2 y17 y18) fuel 0 ([] : List Int) a3 a4)
 else none
theorem gx : ∃ x : List Int → List Int → Int → Int → (List Int → List Int → List Int → Int → Int → Option Res) → Option Res, x = b := ⟨_, rfl⟩
noncomputable def g : List Int → List Int → Int → Int → (List Int → List Int → List Int → Int → Int → Option Res) → Option Res := Classical.choose gx
theorem e : g = b := Classical.choose_spec gx
noncomputable def run : List Lf → (Res → Option Res) → Option Res
 | [.q (.ints a1), .q (.ints a2), .i a3, .i a4], K => g a1 a2 a3 a4 (fun r1 r2 r3 r4 r5 => K (m r1 r2 r3 r4 r5))
 | _, _ => none
noncomputable def a (a1 a2 : List Int) (a3 a4 : Int) : St := argSt [one (.bp 0 0), one (.tr 0 1 [.int .i64] (.ints a1))] [] [[.tr 2 2 [.int .u8] (.ints a2), .int .i64 a3, .int .i64 a4]]
noncomputable def con : FuncId × St × (List Lf → (Res → Option Res) → Option Res) := (91, a [] [] 0 0, run)
theorem cx (K : Res → Option Res) : CtxOk Go.Proofs.Tryd.prog Γ0 byt0 eqs0 (X K) os := ⟨rfl, rfl, rfl, (fun p hp => by
 rcases List.mem_cons.1 hp with rfl | hp
 ·exact spec_SizeOf.ok
 rcases List.mem_cons.1 hp with rfl | hp
 ·exact spec_l1DrawNum.ok
 cases hp), rfl, rfl, rfl, rfl⟩
theorem t0 (K : Res → Option Res) (k : St → Option Res) (it : St → (St → Option Res) → Option Res) (x5 : List Int) (x6 : Int) (x7 x8 x9 : List Int) (x10 x11 : Int) : iterS (X K) 0 b0 it (s0 x5 x6 x7 x8 x9 x10 x11) k = l0s x5 x7 x9 (fun x6 x8 x10 x11 => it (s0 x5 x6 x7 x8 x9 x10 x11) k) (fun y2 y4 y5 => k (o0 x5 x7 x9 y2 y4 y5)) x6 x8 x10 x11 := by kernel_rfl
theorem i0 (K : Res → Option Res) (k : St → Option Res) (x5 x7 x9 : List Int) : ∀ (n : Nat) (x6 : Int) (x8 : List Int) (x10 x11 : Int), iter (X K) 0 b0 n (s0 x5 x6 x7 x8 x9 x10 x11) k = l0 x5 x7 x9 (fun y2 y4 y5 => k (o0 x5 x7 x9 y2 y4 y5)) n x6 x8 x10 x11
 | 0, _, _, _, _ => rfl
 | n + 1, x6, x8, x10, x11 => by
  rw [iter_succ, t0, show (fun x6 x8 x10 x11 => iter (X K) 0 b0 n (s0 x5 x6 x7 x8 x9 x10 x11) k) = (fun x6 x8 x10 x11 => l0 x5 x7 x9 (fun y2 y4 y5 => k (o0 x5 x7 x9 y2 y4 y5)) n x6 x8 x10 x11) from funext fun x6 => funext fun x8 => funext fun x10 => funext fun x11 => i0 K k x5 x7 x9 n x6 x8 x10 x11]; rfl
theorem v0 {K : Res → Option Res} {l : List Lf} {k : St → Option Res} {r : Res} (h : p0 K l k = some r) : ∃ x5 x6 x7 x8 x9 x10 x11, l = [.q (.ints x5), .i x6, .q (.ints x7), .q (.ints x8), .q (.ints x9), .i x10, .i x11] ∧ l0 x5 x7 x9 (fun y2 y4 y5 => k (o0 x5 x7 x9 y2 y4 y5)) fuel x6 x8 x10 x11 = some r := by
 unfold p0 at h; split at h
 ·exact ⟨_, _, _, _, _, _, _, rfl, h⟩
 ·cases h
theorem w0 (K : Res → Option Res) : LpSound Go.Proofs.Tryd.prog (X K) 0 b0 := lp_ok ((cx K).ok laid) (by rw [show loopsOf b0 = [] from by kernel_rfl]; intro p hp; cases hp) rfl fun p hp hid => by
 rcases List.mem_cons.1 hp with rfl | hp
 ·intro st k r h1 h2; obtain ⟨x5, x6, x7, x8, x9, x10, x11, e, h⟩ := v0 (K := K) h2; have := St.like_eq (y := s0 x5 x6 x7 x8 x9 x10 x11) h1 (by kernel_rfl) e; subst this; exact ⟨fuel, (i0 K k x5 x7 x9 fuel x6 x8 x10 x11).trans h⟩
 cases hp
theorem tie (K : Res → Option Res) (a1 a2 : List Int) (a3 a4 : Int) : exec (X K) c (entry 25 [one (.bp 0 0), one (.tr 0 1 [.int .i64] (.ints a1))] [] [[.tr 2 2 [.int .u8] (.ints a2), .int .i64 a3, .int .i64 a4]]) (endK (X K)) = g a1 a2 a3 a4 (fun r1 r2 r3 r4 r5 => K (m r1 r2 r3 r4 r5)) := Eq.trans (b := b a1 a2 a3 a4 (fun r1 r2 r3 r4 r5 => K (m r1 r2 r3 r4 r5))) (by kernel_rfl) (by rw [e])
theorem runv {l : List Lf} {K : Res → Option Res} {r : Res} (h : run l K = some r) : ∃ a1 a2 a3 a4, l = [.q (.ints a1), .q (.ints a2), .i a3, .i a4] ∧ g a1 a2 a3 a4 (fun r1 r2 r3 r4 r5 => K (m r1 r2 r3 r4 r5)) = some r := by
 unfold run at h; split at h
 ·exact ⟨_, _, _, _, rfl, h⟩
 ·cases h
theorem ok : Con Go.Proofs.Tryd.prog con := con_of (fn := Go.Proofs.Tryd.f91) (c := c) (Fi := fi) (X := X) (fun_of laid (by kernel_rfl) (by kernel_rfl) (by kernel_rfl) rfl (by kernel_rfl) (by kernel_rfl) cx (fun _ => rfl) (fun _ => rfl) (fun K => by
 rw [show loopsOf c = [(0, b0)] from by kernel_rfl]; intro p hp
 rcases List.mem_cons.1 hp with rfl | hp
 ·exact w0 K
 cases hp)) fun xs rows boxes K r hl hr => by
 obtain ⟨a1, a2, a3, a4, e, h⟩ := runv hr
 have := St.like_eq (y := a a1 a2 a3 a4) hl (by kernel_rfl) e
 obtain ⟨rfl, rfl, rfl⟩ := argSt_inj this
 exact (tie K a1 a2 a3 a4).trans h
end spec_l3Fill
namespace spec_l3DrawRight
noncomputable def c : Code := bodyOf Go.Proofs.Tryd.f77
noncomputable def fi : Fin := ⟨Γ0, [(.cell 2 44, 44)], [[1, 1]], [], [([.sl [.int .u8] 1, .int .i64, .int .i64], [0, 1, 1])], []⟩
noncomputable def m (r1 r2 r3 : List Int) (r4 r5 : Int) : Res := ⟨[⟨true, [.ow 1000, .ow 1001]⟩], [], [⟨[.int .i64], .ints r1, true, 0⟩, ⟨[.int .i64], .ints r2, true, 0⟩], [[.tr 2 2 [.int .u8] (.ints r3), .int .i64 r4, .int .i64 r5]], []⟩
noncomputable def os : List (FuncId × St × (List Lf → (Res → Option Res) → Option Res)) := [spec_l2DrawRight.con, spec_l3Fill.con]
noncomputable def X (K : Res → Option Res) : Ctx := { Γ := Γ0, orc := orcOf os, io := [], share := [], mvl := [], bun := [], cut := [], own := [], cin := [], cout := [], lp := lpOf [], kl := [], nk := true, eqs := eqs0, byt := byt0, fin := finK fi K }
noncomputable def b (a1 : List Int) (a2 a3 : Int) (R : List Int → List Int → List Int → Int → Int → Option Res) : Option Res :=
 spec_l2DrawRight.g a1 a2 a3 fun r4 r5 r6 =>
 spec_l3Fill.g r4 a1 r5 r6 fun r7 r8 r9 r10 r11 =>
 R r7 r8 r9 r10 r11
theorem gx : ∃ x : List Int → Int → Int → (List Int → List Int → List Int → Int → Int → Option Res) → Option Res, x = b := ⟨_, rfl⟩
noncomputable def g : List Int → Int → Int → (List Int → List Int → List Int → Int → Int → Option Res) → Option Res := Classical.choose gx
theorem e : g = b := Classical.choose_spec gx
noncomputable def run : List Lf → (Res → Option Res) → Option Res
 | [.q (.ints a1), .i a2, .i a3], K => g a1 a2 a3 (fun r1 r2 r3 r4 r5 => K (m r1 r2 r3 r4 r5))
 | _, _ => none
noncomputable def a (a1 : List Int) (a2 a3 : Int) : St := argSt [one (.bp 0 0)] [] [[.tr 2 2 [.int .u8] (.ints a1), .int .i64 a2, .int .i64 a3]]
noncomputable def con : FuncId × St × (List Lf → (Res → Option Res) → Option Res) := (77, a [] 0 0, run)
theorem cx (K : Res → Option Res) : CtxOk Go.Proofs.Tryd.prog Γ0 byt0 eqs0 (X K) os := ⟨rfl, rfl, rfl, (fun p hp => by
 rcases List.mem_cons.1 hp with rfl | hp
 ·exact spec_l2DrawRight.ok
 rcases List.mem_cons.1 hp with rfl | hp
 ·exact spec_l3Fill.ok
 cases hp), rfl, rfl, rfl, rfl⟩
theorem tie (K : Res → Option Res) (a1 : List Int) (a2 a3 : Int) : exec (X K) c (entry 7 [one (.bp 0 0)] [] [[.tr 2 2 [.int .u8] (.ints a1), .int .i64 a2, .int .i64 a3]]) (endK (X K)) = g a1 a2 a3 (fun r1 r2 r3 r4 r5 => K (m r1 r2 r3 r4 r5)) := Eq.trans (b := b a1 a2 a3 (fun r1 r2 r3 r4 r5 => K (m r1 r2 r3 r4 r5))) (by kernel_rfl) (by rw [e])
theorem runv {l : List Lf} {K : Res → Option Res} {r : Res} (h : run l K = some r) : ∃ a1 a2 a3, l = [.q (.ints a1), .i a2, .i a3] ∧ g a1 a2 a3 (fun r1 r2 r3 r4 r5 => K (m r1 r2 r3 r4 r5)) = some r := by
 unfold run at h; split at h
 ·exact ⟨_, _, _, rfl, h⟩
 ·cases h
theorem ok : Con Go.Proofs.Tryd.prog con := con_of (fn := Go.Proofs.Tryd.f77) (c := c) (Fi := fi) (X := X) (fun_of laid (by kernel_rfl) (by kernel_rfl) (by kernel_rfl) rfl (by kernel_rfl) (by kernel_rfl) cx (fun _ => rfl) (fun _ => rfl) (fun K => by
 rw [show loopsOf c = [] from by kernel_rfl]; intro p hp
 cases hp)) fun xs rows boxes K r hl hr => by
 obtain ⟨a1, a2, a3, e, h⟩ := runv hr
 have := St.like_eq (y := a a1 a2 a3) hl (by kernel_rfl) e
 obtain ⟨rfl, rfl, rfl⟩ := argSt_inj this
 exact (tie K a1 a2 a3).trans h
end spec_l3DrawRight
namespace spec_l2Draw
noncomputable def c : Code := bodyOf Go.Proofs.Tryd.f78
noncomputable def fi : Fin := ⟨Γ0, [(.tmp 2, 24)], [[1]], [], [([.sl [.int .u8] 1, .int .i64, .int .i64], [0, 1, 1])], []⟩
noncomputable def m (a1 r1 : List Int) (r3 r4 : Int) : Res := ⟨[⟨false, [.ow 1000]⟩], [], [⟨[.int .i64], .ints r1, true, 0⟩], [[.tr 2 2 [.int .u8] (.ints a1), .int .i64 r3, .int .i64 r4]], []⟩
noncomputable def os : List (FuncId × St × (List Lf → (Res → Option Res) → Option Res)) := [spec_l2DrawRight.con, spec_l1Below.con, spec_l1PickInt.con]
noncomputable def X (K : Res → Option Res) : Ctx := { Γ := Γ0, orc := orcOf os, io := [], share := [], mvl := [], bun := [], cut := [], own := [], cin := [], cout := [], lp := lpOf [], kl := [], nk := true, eqs := eqs0, byt := byt0, fin := finK fi K }
noncomputable def b (a1 : List Int) (a2 a3 : Int) (R : List Int → Int → Int → Option Res) : Option Res :=
 spec_l2DrawRight.g a1 a2 a3 fun r4 r5 r6 =>
 spec_l1Below.g 20 a1 r5 r6 fun r7 r8 r9 =>
 bif (r7 == 0) then (spec_l1PickInt.g ([(-1), 0, 300, 301] : List Int) a1 r8 r9 fun r10 r11 r12 =>
  bif decide ((r4.length + 1) * 8 ≤ 140737488355328) then R (r4 ++ ([r10] : List Int)) r11 r12
  else none)
 else bif (r7 == 1) then R ([1, 1, 1, 1] : List Int) r8 r9
 else bif (r7 == 2) then (spec_l1PickInt.g ([17, 20, 15, 300] : List Int) a1 r8 r9 fun r13 r14 r15 =>
  spec_l1PickInt.g ([15, 20, 16, 0] : List Int) a1 r14 r15 fun r16 r17 r18 =>
  R ([r13, r16] : List Int) r17 r18)
 else R r4 r8 r9
theorem gx : ∃ x : List Int → Int → Int → (List Int → Int → Int → Option Res) → Option Res, x = b := ⟨_, rfl⟩
noncomputable def g : List Int → Int → Int → (List Int → Int → Int → Option Res) → Option Res := Classical.choose gx
theorem e : g = b := Classical.choose_spec gx
noncomputable def run : List Lf → (Res → Option Res) → Option Res
 | [.q (.ints a1), .i a2, .i a3], K => g a1 a2 a3 (fun r1 r3 r4 => K (m a1 r1 r3 r4))
 | _, _ => none
noncomputable def a (a1 : List Int) (a2 a3 : Int) : St := argSt [one (.bp 0 0)] [] [[.tr 2 2 [.int .u8] (.ints a1), .int .i64 a2, .int .i64 a3]]
noncomputable def con : FuncId × St × (List Lf → (Res → Option Res) → Option Res) := (78, a [] 0 0, run)
theorem cx (K : Res → Option Res) : CtxOk Go.Proofs.Tryd.prog Γ0 byt0 eqs0 (X K) os := ⟨rfl, rfl, rfl, (fun p hp => by
 rcases List.mem_cons.1 hp with rfl | hp
 ·exact spec_l2DrawRight.ok
 rcases List.mem_cons.1 hp with rfl | hp
 ·exact spec_l1Below.ok
 rcases List.mem_cons.1 hp with rfl | hp
 ·exact spec_l1PickInt.ok
 cases hp), rfl, rfl, rfl, rfl⟩
theorem tie (K : Res → Option Res) (a1 : List Int) (a2 a3 : Int) : exec (X K) c (entry 29 [one (.bp 0 0)] [] [[.tr 2 2 [.int .u8] (.ints a1), .int .i64 a2, .int .i64 a3]]) (endK (X K)) = g a1 a2 a3 (fun r1 r3 r4 => K (m a1 r1 r3 r4)) := Eq.trans (b := b a1 a2 a3 (fun r1 r3 r4 => K (m a1 r1 r3 r4))) (by kernel_rfl) (by rw [e])
theorem runv {l : List Lf} {K : Res → Option Res} {r : Res} (h : run l K = some r) : ∃ a1 a2 a3, l = [.q (.ints a1), .i a2, .i a3] ∧ g a1 a2 a3 (fun r1 r3 r4 => K (m a1 r1 r3 r4)) = some r := by
 unfold run at h; split at h
 ·exact ⟨_, _, _, rfl, h⟩
 ·cases h
theorem ok : Con Go.Proofs.Tryd.prog con := con_of (fn := Go.Proofs.Tryd.f78) (c := c) (Fi := fi) (X := X) (fun_of laid (by kernel_rfl) (by kernel_rfl) (by kernel_rfl) rfl (by kernel_rfl) (by kernel_rfl) cx (fun _ => rfl) (fun _ => rfl) (fun K => by
 rw [show loopsOf c = [] from by kernel_rfl]; intro p hp
 cases hp)) fun xs rows boxes K r hl hr => by
 obtain ⟨a1, a2, a3, e, h⟩ := runv hr
 have := St.like_eq (y := a a1 a2 a3) hl (by kernel_rfl) e
 obtain ⟨rfl, rfl, rfl⟩ := argSt_inj this
 exact (tie K a1 a2 a3).trans h
end spec_l2Draw
namespace spec_l3Draw
noncomputable def c : Code := bodyOf Go.Proofs.Tryd.f52
noncomputable def fi : Fin := ⟨Γ0, [(.cell 2 44, 44)], [[1, 1]], [], [([.sl [.int .u8] 1, .int .i64, .int .i64], [0, 1, 1])], []⟩
noncomputable def m (r1 r2 r3 : List Int) (r4 r5 : Int) : Res := ⟨[⟨true, [.ow 1000, .ow 1001]⟩], [], [⟨[.int .i64], .ints r1, true, 0⟩, ⟨[.int .i64], .ints r2, true, 0⟩], [[.tr 2 2 [.int .u8] (.ints r3), .int .i64 r4, .int .i64 r5]], []⟩
noncomputable def os : List (FuncId × St × (List Lf → (Res → Option Res) → Option Res)) := [spec_l3DrawRight.con, spec_l1Below.con, spec_l2Draw.con, spec_l1DrawRaw.con]
noncomputable def X (K : Res → Option Res) : Ctx := { Γ := Γ0, orc := orcOf os, io := [], share := [], mvl := [], bun := [], cut := [], own := [], cin := [], cout := [], lp := lpOf [], kl := [], nk := true, eqs := eqs0, byt := byt0, fin := finK fi K }
noncomputable def b (a1 : List Int) (a2 a3 : Int) (R : List Int → List Int → List Int → Int → Int → Option Res) : Option Res :=
 spec_l3DrawRight.g a1 a2 a3 fun r4 r5 r6 r7 r8 =>
 spec_l1Below.g 20 r6 r7 r8 fun r9 r10 r11 =>
 bif (r9 == 0) then (bif decide ((r5.length + 1) * 8 ≤ 140737488355328) then R r4 (r5 ++ ([1] : List Int)) r6 r10 r11
  else none)
 else bif (r9 == 1) then (spec_l2Draw.g r6 r10 r11 fun r12 r13 r14 =>
  R r12 r5 r6 r13 r14)
 else bif (r9 == 2) then (bif decide (0 < (r5.length : Int)) then (spec_l1Below.g (r5.length : Int) r6 r10 r11 fun r15 r16 r17 =>
  spec_l1DrawRaw.g r6 r16 r17 fun r18 r19 r20 =>
  bif decide (0 ≤ r15) && decide (r15 < (r5.length : Int)) then R r4 (r5.set r15.toNat r18) r6 r19 r20
  else none)
  else R r4 r5 r6 r10 r11)
 else bif (r9 == 3) then (spec_l1Below.g 2 r6 r10 r11 fun r21 r22 r23 =>
  bif decide (IntKind.i64.wrap (300 + r21) = IntKind.i64.wrap (300 + r21)) && decide (0 ≤ IntKind.i64.wrap (300 + r21)) && decide (IntKind.i64.wrap (300 + r21) * 8 ≤ 140737488355328) then R ([300] : List Int) (List.replicate ((IntKind.i64.wrap (300 + r21)).toNat) 0) r6 r22 r23
  else none)
 else R r4 r5 r6 r10 r11
theorem gx : ∃ x : List Int → Int → Int → (List Int → List Int → List Int → Int → Int → Option Res) → Option Res, x = b := ⟨_, rfl⟩
noncomputable def g : List Int → Int → Int → (List Int → List Int → List Int → Int → Int → Option Res) → Option Res := Classical.choose gx
theorem e : g = b := Classical.choose_spec gx
noncomputable def run : List Lf → (Res → Option Res) → Option Res
 | [.q (.ints a1), .i a2, .i a3], K => g a1 a2 a3 (fun r1 r2 r3 r4 r5 => K (m r1 r2 r3 r4 r5))
 | _, _ => none
noncomputable def a (a1 : List Int) (a2 a3 : Int) : St := argSt [one (.bp 0 0)] [] [[.tr 2 2 [.int .u8] (.ints a1), .int .i64 a2, .int .i64 a3]]
noncomputable def con : FuncId × St × (List Lf → (Res → Option Res) → Option Res) := (52, a [] 0 0, run)
theorem cx (K : Res → Option Res) : CtxOk Go.Proofs.Tryd.prog Γ0 byt0 eqs0 (X K) os := ⟨rfl, rfl, rfl, (fun p hp => by
 rcases List.mem_cons.1 hp with rfl | hp
 ·exact spec_l3DrawRight.ok
 rcases List.mem_cons.1 hp with rfl | hp
 ·exact spec_l1Below.ok
 rcases List.mem_cons.1 hp with rfl | hp
 ·exact spec_l2Draw.ok
 rcases List.mem_cons.1 hp with rfl | hp
 ·exact spec_l1DrawRaw.ok
 cases hp), rfl, rfl, rfl, rfl⟩
theorem tie (K : Res → Option Res) (a1 : List Int) (a2 a3 : Int) : exec (X K) c (entry 45 [one (.bp 0 0)] [] [[.tr 2 2 [.int .u8] (.ints a1), .int .i64 a2, .int .i64 a3]]) (endK (X K)) = g a1 a2 a3 (fun r1 r2 r3 r4 r5 => K (m r1 r2 r3 r4 r5)) := Eq.trans (b := b a1 a2 a3 (fun r1 r2 r3 r4 r5 => K (m r1 r2 r3 r4 r5))) (by kernel_rfl) (by rw [e])
theorem runv {l : List Lf} {K : Res → Option Res} {r : Res} (h : run l K = some r) : ∃ a1 a2 a3, l = [.q (.ints a1), .i a2, .i a3] ∧ g a1 a2 a3 (fun r1 r2 r3 r4 r5 => K (m r1 r2 r3 r4 r5)) = some r := by
 unfold run at h; split at h
 ·exact ⟨_, _, _, rfl, h⟩
 ·cases h
theorem ok : Con Go.Proofs.Tryd.prog con := con_of (fn := Go.Proofs.Tryd.f52) (c := c) (Fi := fi) (X := X) (fun_of laid (by kernel_rfl) (by kernel_rfl) (by kernel_rfl) rfl (by kernel_rfl) (by kernel_rfl) cx (fun _ => rfl) (fun _ => rfl) (fun K => by
 rw [show loopsOf c = [] from by kernel_rfl]; intro p hp
 cases hp)) fun xs rows boxes K r hl hr => by
 obtain ⟨a1, a2, a3, e, h⟩ := runv hr
 have := St.like_eq (y := a a1 a2 a3) hl (by kernel_rfl) e
 obtain ⟨rfl, rfl, rfl⟩ := argSt_inj this
 exact (tie K a1 a2 a3).trans h
end spec_l3Draw
namespace spec_DrawShow
noncomputable def c : Code := bodyOf Go.Proofs.Tryd.f30
noncomputable def fi : Fin := ⟨Γ0, [(.cell 2 44, 44)], [[1, 1]], [], [], []⟩
noncomputable def m (r1 r2 : List Int) : Res := ⟨[⟨true, [.ow 1000, .ow 1001]⟩], [], [⟨[.int .i64], .ints r1, true, 0⟩, ⟨[.int .i64], .ints r2, true, 0⟩], [], []⟩
noncomputable def os : List (FuncId × St × (List Lf → (Res → Option Res) → Option Res)) := [spec_l1New.con, spec_l3Draw.con]
noncomputable def X (K : Res → Option Res) : Ctx := { Γ := Γ0, orc := orcOf os, io := [(53, [⟨false, 2, 1⟩])], share := [], mvl := [], bun := [], cut := [], own := [], cin := [], cout := [], lp := lpOf [], kl := [], nk := true, eqs := eqs0, byt := byt0, fin := finK fi K }
noncomputable def b (a1 : List Int) (R : List Int → List Int → Option Res) : Option Res :=
 spec_l1New.g a1 fun r2 r3 r4 =>
 spec_l3Draw.g r2 r3 r4 fun r5 r6 r7 r8 r9 =>
 R r5 r6
theorem gx : ∃ x : List Int → (List Int → List Int → Option Res) → Option Res, x = b := ⟨_, rfl⟩
noncomputable def g : List Int → (List Int → List Int → Option Res) → Option Res := Classical.choose gx
theorem e : g = b := Classical.choose_spec gx
noncomputable def run : List Lf → (Res → Option Res) → Option Res
 | [.q (.ints a1)], K => g a1 (fun r1 r2 => K (m r1 r2))
 | _, _ => none
noncomputable def a (a1 : List Int) : St := argSt [one (.tr 2 1 [.int .u8] (.ints a1))] [] []
noncomputable def con : FuncId × St × (List Lf → (Res → Option Res) → Option Res) := (30, a [], run)
theorem cx (K : Res → Option Res) : CtxOk Go.Proofs.Tryd.prog Γ0 byt0 eqs0 (X K) os := ⟨rfl, rfl, rfl, (fun p hp => by
 rcases List.mem_cons.1 hp with rfl | hp
 ·exact spec_l1New.ok
 rcases List.mem_cons.1 hp with rfl | hp
 ·exact spec_l3Draw.ok
 cases hp), rfl, rfl, rfl, rfl⟩
theorem tie (K : Res → Option Res) (a1 : List Int) : exec (X K) c (entry 6 [one (.tr 2 1 [.int .u8] (.ints a1))] [] []) (endK (X K)) = g a1 (fun r1 r2 => K (m r1 r2)) := Eq.trans (b := b a1 (fun r1 r2 => K (m r1 r2))) (by kernel_rfl) (by rw [e])
theorem runv {l : List Lf} {K : Res → Option Res} {r : Res} (h : run l K = some r) : ∃ a1, l = [.q (.ints a1)] ∧ g a1 (fun r1 r2 => K (m r1 r2)) = some r := by
 unfold run at h; split at h
 ·exact ⟨_, rfl, h⟩
 ·cases h
theorem ok : Con Go.Proofs.Tryd.prog con := con_of (fn := Go.Proofs.Tryd.f30) (c := c) (Fi := fi) (X := X) (fun_of laid (by kernel_rfl) (by kernel_rfl) (by kernel_rfl) rfl (by kernel_rfl) (by kernel_rfl) cx (fun _ => rfl) (fun _ => rfl) (fun K => by
 rw [show loopsOf c = [] from by kernel_rfl]; intro p hp
 cases hp)) fun xs rows boxes K r hl hr => by
 obtain ⟨a1, e, h⟩ := runv hr
 have := St.like_eq (y := a a1) hl (by kernel_rfl) e
 obtain ⟨rfl, rfl, rfl⟩ := argSt_inj this
 exact (tie K a1).trans h
end spec_DrawShow
namespace laws_FnShow
noncomputable def c : Code := bodyOf Go.Proofs.Tryd.f9
noncomputable def fi : Fin := ⟨Γ0, [(.tmp 2, 4)], [[1]], [], [], []⟩
noncomputable def m (r1 : Bool) : Res := ⟨[⟨false, [.bool r1]⟩], [], [], [], []⟩
noncomputable def b0 : Code := codeAt c [1, 1, 1, 1, 1, 1, 1, 1, 0, 1, 0, 0]
noncomputable def s0 (x8 : ByteArray) (x9 x10 x11 : Int) (x12 : Bool) (x13 : Int) (x14 x15 : List Int) : St := ⟨mkT 114 [(3, one (.bp 7176 0)), (4, one (.str x8)), (5, one (.int .i64 x9)), (6, one (.int .i64 x10)), (7, one (.int .i64 x11)), (8, one (.bool x12)), (9, one (.int .i64 x13))], [(7161, ⟨[.int .i64], .ints x14, true, 0⟩), (7162, ⟨[.int .i64], .ints x15, true, 0⟩)], [(7176, [.ow 7161, .ow 7162])]⟩
noncomputable def l0s (x8 : ByteArray) (x14 x15 : List Int) (rec : Int → Int → Int → Bool → Int → Option Res) (k : Int → Bool → Option Res) (x9 x10 x11 : Int) (x12 : Bool) (x13 : Int) : Option Res :=
 bif decide (x13 ≤ (x8.size : Int)) then (bif decide (x13 < (x8.size : Int)) then (bif decide (0 ≤ x13) && decide (x13 < (x8.size : Int)) then (bif ((bytesOf x8).getD x13.toNat 0 != 10) then rec x9 x10 (IntKind.i64.wrap (x11 + 1)) x12 (IntKind.i64.wrap (x13 + 1))
  else bif decide (x13 < (x8.size : Int)) then (bif x12 then (bif decide (x10 < 0) then rec (IntKind.i64.wrap (x9 + 1)) x11 0 true (IntKind.i64.wrap (x13 + 1))
   else rec (IntKind.i64.wrap (x9 + 1)) x11 0 (x11 == x10) (IntKind.i64.wrap (x13 + 1)))
   else rec (IntKind.i64.wrap (x9 + 1)) x11 0 false (IntKind.i64.wrap (x13 + 1)))
  else bif x12 then (bif decide (x10 < 0) then rec x9 x11 0 true (IntKind.i64.wrap (x13 + 1))
   else rec x9 x11 0 (x11 == x10) (IntKind.i64.wrap (x13 + 1)))
  else rec x9 x11 0 false (IntKind.i64.wrap (x13 + 1)))
  else none)
  else bif decide (x13 < (x8.size : Int)) then (bif x12 then (bif decide (x10 < 0) then rec (IntKind.i64.wrap (x9 + 1)) x11 0 true (IntKind.i64.wrap (x13 + 1))
   else rec (IntKind.i64.wrap (x9 + 1)) x11 0 (x11 == x10) (IntKind.i64.wrap (x13 + 1)))
   else rec (IntKind.i64.wrap (x9 + 1)) x11 0 false (IntKind.i64.wrap (x13 + 1)))
  else bif x12 then (bif decide (x10 < 0) then rec x9 x11 0 true (IntKind.i64.wrap (x13 + 1))
   else rec x9 x11 0 (x11 == x10) (IntKind.i64.wrap (x13 + 1)))
  else rec x9 x11 0 false (IntKind.i64.wrap (x13 + 1)))
 else k x9 x12
noncomputable def l0 (x8 : ByteArray) (x14 x15 : List Int) (k : Int → Bool → Option Res) : Nat → Int → Int → Int → Bool → Int → Option Res
 | 0, _, _, _, _, _ => none
 | n + 1, x9, x10, x11, x12, x13 => l0s x8 x14 x15 (fun x9 x10 x11 x12 x13 => l0 x8 x14 x15 k n x9 x10 x11 x12 x13) k x9 x10 x11 x12 x13
noncomputable def o0 (x8 : ByteArray) (x14 x15 : List Int) (y2 : Int) (y3 : Bool) : St := ⟨mkT 114 [(3, one (.bp 7176 0)), (4, one (.str x8)), (5, one (.int .i64 y2)), (8, one (.bool y3))], [(7161, ⟨[.int .i64], .ints x14, true, 0⟩), (7162, ⟨[.int .i64], .ints x15, true, 0⟩)], [(7176, [.ow 7161, .ow 7162])]⟩
noncomputable def p0 (K : Res → Option Res) : List Lf → (St → Option Res) → Option Res
 | [.s x8, .i x9, .i x10, .i x11, .b x12, .i x13, .q (.ints x14), .q (.ints x15)], k => l0 x8 x14 x15 (fun y2 y3 => k (o0 x8 x14 x15 y2 y3)) fuel x9 x10 x11 x12 x13
 | _, _ => none
noncomputable def os : List (FuncId × St × (List Lf → (Res → Option Res) → Option Res)) := [laws_big.con, spec_DrawShow.con, impl_Show.con, spec_Show.con, spec_ArrayOk.con, impl_ShowRow.con]
noncomputable def X (K : Res → Option Res) : Ctx := { Γ := Γ0, orc := orcOf os, io := [(30, [⟨false, 2, 1⟩])], share := [], mvl := [], bun := [], cut := [], own := [], cin := [(0, ⟨[3, 4, 5, 6, 7, 8, 9], [(7161, 7161), (7162, 7162)], [7176], [], [], []⟩)], cout := [(0, ⟨[3, 4, 5, 8], [(7161, 7161), (7162, 7162)], [7176], [], [], []⟩)], lp := lpOf [(0, s0 ByteArray.empty 0 0 0 false 0 [] [], p0 K)], kl := [], nk := true, eqs := eqs0, byt := byt0, fin := finK fi K }
noncomputable def b (a1 : List Int) (R : Bool → Option Res) : Option Res :=
 laws_big.g a1 fun r2 =>
 bif r2 then R true
 else (spec_DrawShow.g a1 fun r3 r4 =>
 impl_Show.g r3 r4 fun r5 =>
 spec_Show.g r3 r4 fun r6 =>
 bif !(r5.toList == r6.toList) then R false
 else (spec_ArrayOk.g r3 r4 fun r7 =>
 bif !r7 then R (r5.toList == (⟨#[]⟩ : ByteArray).toList)
 else (l0 r5 r3 r4 (fun y16 y17 =>
 bif ((r3.length : Int) == 0) then (bif (y16 == 1) then (impl_ShowRow.g r4 fun r18 =>
  R (r5.toList == r18.toList))
  else R false)
 else bif ((r3.length : Int) == 1) then (bif (y16 == 1) then (impl_ShowRow.g r4 fun r19 =>
  R (r5.toList == r19.toList))
  else R false)
 else bif ((r3.length : Int) == 2) then (bif y17 then (bif decide (0 < (r3.length : Int)) then (bif (r3.getD 0 0 == 0) then (bif (r5.toList == (⟨#[]⟩ : ByteArray).toList) then R true
  else bif decide (0 < (r3.length : Int)) then R (y16 == r3.getD 0 0)
  else none)
  else bif decide (0 < (r3.length : Int)) then R (y16 == r3.getD 0 0)
  else none)
  else none)
  else R false)
 else bif ((r4.length : Int) == 0) then R true
 else bif decide (0 < (r3.length : Int)) then (bif decide (1 < (r3.length : Int)) then R (decide (IntKind.i64.wrap ((r3.getD 0 0) * (r3.getD 1 0)) ≤ y16))
  else none)
 else none) fuel 1 (-1) 0 true 0)))
theorem gx : ∃ x : List Int → (Bool → Option Res) → Option Res, x = b := ⟨_, rfl⟩
noncomputable def g : List Int → (Bool → Option Res) → Option Res := Classical.choose gx
theorem e : g = b := Classical.choose_spec gx
noncomputable def run : List Lf → (Res → Option Res) → Option Res
 | [.q (.ints a1)], K => g a1 (fun r1 => K (m r1))
 | _, _ => none
noncomputable def a (a1 : List Int) : St := argSt [one (.tr 2 1 [.int .u8] (.ints a1))] [] []
noncomputable def con : FuncId × St × (List Lf → (Res → Option Res) → Option Res) := (9, a [], run)
theorem cx (K : Res → Option Res) : CtxOk Go.Proofs.Tryd.prog Γ0 byt0 eqs0 (X K) os := ⟨rfl, rfl, rfl, (fun p hp => by
 rcases List.mem_cons.1 hp with rfl | hp
 ·exact laws_big.ok
 rcases List.mem_cons.1 hp with rfl | hp
 ·exact spec_DrawShow.ok
 rcases List.mem_cons.1 hp with rfl | hp
 ·exact impl_Show.ok
 rcases List.mem_cons.1 hp with rfl | hp
 ·exact spec_Show.ok
 rcases List.mem_cons.1 hp with rfl | hp
 ·exact spec_ArrayOk.ok
 rcases List.mem_cons.1 hp with rfl | hp
 ·exact impl_ShowRow.ok
 cases hp), rfl, rfl, rfl, rfl⟩
theorem t0 (K : Res → Option Res) (k : St → Option Res) (it : St → (St → Option Res) → Option Res) (x8 : ByteArray) (x9 x10 x11 : Int) (x12 : Bool) (x13 : Int) (x14 x15 : List Int) : iterS (X K) 0 b0 it (s0 x8 x9 x10 x11 x12 x13 x14 x15) k = l0s x8 x14 x15 (fun x9 x10 x11 x12 x13 => it (s0 x8 x9 x10 x11 x12 x13 x14 x15) k) (fun y2 y3 => k (o0 x8 x14 x15 y2 y3)) x9 x10 x11 x12 x13 := by kernel_rfl
theorem i0 (K : Res → Option Res) (k : St → Option Res) (x8 : ByteArray) (x14 x15 : List Int) : ∀ (n : Nat) (x9 x10 x11 : Int) (x12 : Bool) (x13 : Int), iter (X K) 0 b0 n (s0 x8 x9 x10 x11 x12 x13 x14 x15) k = l0 x8 x14 x15 (fun y2 y3 => k (o0 x8 x14 x15 y2 y3)) n x9 x10 x11 x12 x13
 | 0, _, _, _, _, _ => rfl
 | n + 1, x9, x10, x11, x12, x13 => by
  rw [iter_succ, t0, show (fun x9 x10 x11 x12 x13 => iter (X K) 0 b0 n (s0 x8 x9 x10 x11 x12 x13 x14 x15) k) = (fun x9 x10 x11 x12 x13 => l0 x8 x14 x15 (fun y2 y3 => k (o0 x8 x14 x15 y2 y3)) n x9 x10 x11 x12 x13) from funext fun x9 => funext fun x10 => funext fun x11 => funext fun x12 => funext fun x13 => i0 K k x8 x14 x15 n x9 x10 x11 x12 x13]; rfl
theorem v0 {K : Res → Option Res} {l : List Lf} {k : St → Option Res} {r : Res} (h : p0 K l k = some r) : ∃ x8 x9 x10 x11 x12 x13 x14 x15, l = [.s x8, .i x9, .i x10, .i x11, .b x12, .i x13, .q (.ints x14), .q (.ints x15)] ∧ l0 x8 x14 x15 (fun y2 y3 => k (o0 x8 x14 x15 y2 y3)) fuel x9 x10 x11 x12 x13 = some r := by
 unfold p0 at h; split at h
 ·exact ⟨_, _, _, _, _, _, _, _, rfl, h⟩
 ·cases h
theorem w0 (K : Res → Option Res) : LpSound Go.Proofs.Tryd.prog (X K) 0 b0 := lp_ok ((cx K).ok laid) (by rw [show loopsOf b0 = [] from by kernel_rfl]; intro p hp; cases hp) rfl fun p hp hid => by
 rcases List.mem_cons.1 hp with rfl | hp
 ·intro st k r h1 h2; obtain ⟨x8, x9, x10, x11, x12, x13, x14, x15, e, h⟩ := v0 (K := K) h2; have := St.like_eq (y := s0 x8 x9 x10 x11 x12 x13 x14 x15) h1 (by kernel_rfl) e; subst this; exact ⟨fuel, (i0 K k x8 x14 x15 fuel x9 x10 x11 x12 x13).trans h⟩
 cases hp
theorem tie (K : Res → Option Res) (a1 : List Int) : exec (X K) c (entry 114 [one (.tr 2 1 [.int .u8] (.ints a1))] [] []) (endK (X K)) = g a1 (fun r1 => K (m r1)) := Eq.trans (b := b a1 (fun r1 => K (m r1))) (by kernel_rfl) (by rw [e])
theorem runv {l : List Lf} {K : Res → Option Res} {r : Res} (h : run l K = some r) : ∃ a1, l = [.q (.ints a1)] ∧ g a1 (fun r1 => K (m r1)) = some r := by
 unfold run at h; split at h
 ·exact ⟨_, rfl, h⟩
 ·cases h
theorem ok : Con Go.Proofs.Tryd.prog con := con_of (fn := Go.Proofs.Tryd.f9) (c := c) (Fi := fi) (X := X) (fun_of laid (by kernel_rfl) (by kernel_rfl) (by kernel_rfl) rfl (by kernel_rfl) (by kernel_rfl) cx (fun _ => rfl) (fun _ => rfl) (fun K => by
 rw [show loopsOf c = [(0, b0)] from by kernel_rfl]; intro p hp
 rcases List.mem_cons.1 hp with rfl | hp
 ·exact w0 K
 cases hp)) fun xs rows boxes K r hl hr => by
 obtain ⟨a1, e, h⟩ := runv hr
 have := St.like_eq (y := a a1) hl (by kernel_rfl) e
 obtain ⟨rfl, rfl, rfl⟩ := argSt_inj this
 exact (tie K a1).trans h
end laws_FnShow
end Go.Tv.F
