/- The law's functions, printed by a program of ours, each with its contract. They hold without condition. -/
import Derived.Test.YtpinlhfddhlcpaaDoorProg
import Derived.Test.YtpinlhfddhlcpaaDoorWidthShelf
import Derived.Test.YtpinlhfddhlcpaaDoorTvC
set_option linter.unusedVariables false
set_option linter.unusedSectionVars false
set_option linter.unusedSimpArgs false
set_option linter.unnecessarySimpa false
set_option maxRecDepth 100000
set_option autoImplicit false
namespace Go.Tv.F
open Go Go.Tv
instance envI : Env := envTab Go.Proofs.Tryd.prog
noncomputable def Γ0 : List (Nat × TI) := [(3, ⟨false, [.int .i64], []⟩),
 (4, ⟨false, [.bool], []⟩),
 (5, ⟨false, [.int .u8], []⟩),
 (9, ⟨false, [.str], []⟩),
 (23, ⟨false, [.fn], []⟩),
 (24, ⟨false, [.sl [.int .i64] 8], []⟩),
 (30, ⟨false, [.sl [.int .u8] 1], []⟩),
 (33, ⟨false, [.sl [.int .i64, .int .i64] 16], []⟩),
 (36, ⟨false, [.sl [.int .i64, .int .i64] 16], []⟩),
 (41, ⟨true, [.sl [.int .i64] 8, .sl [.int .i64] 8], [(0, 1, false), (1, 1, false)]⟩),
 (44, ⟨true, [.sl [.int .i64] 8, .sl [.int .i64] 8], [(0, 1, false), (1, 1, false)]⟩),
 (51, ⟨false, [.sl [.str] 16], []⟩),
 (56, ⟨true, [.int .i64, .int .i64], [(0, 1, false), (1, 1, false)]⟩),
 (58, ⟨true, [.int .i64, .int .i64], [(0, 1, false), (1, 1, false)]⟩),
 (62, ⟨false, [.sl [.ints .i64, .ints .i64] 48], []⟩),
 (65, ⟨false, [.ptr], []⟩),
 (81, ⟨false, [.fn], []⟩),
 (88, ⟨true, [.sl [.int .u8] 1, .int .i64, .int .i64], [(0, 1, false), (1, 1, false), (2, 1, false)]⟩)]
noncomputable def byt0 : List TypeId := [30]
noncomputable def eqs0 : List TypeId := [56, 58]
theorem laid : Laid Go.Proofs.Tryd.prog Γ0 byt0 eqs0 := ⟨by kernel_rfl, by kernel_rfl, by kernel_rfl, by kernel_rfl⟩
namespace spec_l1In
noncomputable def c : Code := bodyOf Go.Proofs.Tryd.f55
noncomputable def fi : Fin := ⟨Γ0, [(.tmp 6, 4)], [[1]], [], [], []⟩
noncomputable def m (r1 : Bool) : Res := ⟨[⟨false, [.bool r1]⟩], [], [], [], []⟩
noncomputable def os : List (FuncId × St × (List Lf → (Res → Option Res) → Option Res)) := []
noncomputable def X (K : Res → Option Res) : Ctx := { Γ := Γ0, orc := orcOf os, io := [], share := [], mvl := [], bun := [], cut := [], own := [], cin := [], cout := [], lp := lpOf [], kl := [], nk := true, eqs := eqs0, byt := byt0, fin := finK fi K }
noncomputable def b (a1 a2 a3 : Int) (R : Bool → Option Res) : Option Res :=
 bif decide (a2 ≤ a1) then R (decide (a1 ≤ a3))
 else R false
theorem gx : ∃ x : Int → Int → Int → (Bool → Option Res) → Option Res, x = b := ⟨_, rfl⟩
noncomputable def g : Int → Int → Int → (Bool → Option Res) → Option Res := Classical.choose gx
theorem e : g = b := Classical.choose_spec gx
noncomputable def run : List Lf → (Res → Option Res) → Option Res
 | [.i a1, .i a2, .i a3], K => g a1 a2 a3 (fun r1 => K (m r1))
 | _, _ => none
noncomputable def a (a1 a2 a3 : Int) : St := argSt [one (.int .i64 a1), one (.int .i64 a2), one (.int .i64 a3)] [] []
noncomputable def con : FuncId × St × (List Lf → (Res → Option Res) → Option Res) := (55, a 0 0 0, run)
theorem cx (K : Res → Option Res) : CtxOk Go.Proofs.Tryd.prog Γ0 byt0 eqs0 (X K) os := ⟨rfl, rfl, rfl, (fun p hp => by
 cases hp), rfl, rfl, rfl, rfl⟩
theorem tie (K : Res → Option Res) (a1 a2 a3 : Int) : exec (X K) c (entry 15 [one (.int .i64 a1), one (.int .i64 a2), one (.int .i64 a3)] [] []) (endK (X K)) = g a1 a2 a3 (fun r1 => K (m r1)) := Eq.trans (b := b a1 a2 a3 (fun r1 => K (m r1))) (by kernel_rfl) (by rw [e])
theorem runv {l : List Lf} {K : Res → Option Res} {r : Res} (h : run l K = some r) : ∃ a1 a2 a3, l = [.i a1, .i a2, .i a3] ∧ g a1 a2 a3 (fun r1 => K (m r1)) = some r := by
 unfold run at h; split at h
 ·exact ⟨_, _, _, rfl, h⟩
 ·cases h
theorem ok : Con Go.Proofs.Tryd.prog con := con_of (fn := Go.Proofs.Tryd.f55) (c := c) (Fi := fi) (X := X) (fun_of laid (by kernel_rfl) (by kernel_rfl) (by kernel_rfl) rfl (by kernel_rfl) (by kernel_rfl) cx (fun _ => rfl) (fun _ => rfl) (fun K => by
 rw [show loopsOf c = [] from by kernel_rfl]; intro p hp
 cases hp)) fun xs rows boxes K r hl hr => by
 obtain ⟨a1, a2, a3, e, h⟩ := runv hr
 have := St.like_eq (y := a a1 a2 a3) hl (by kernel_rfl) e
 obtain ⟨rfl, rfl, rfl⟩ := argSt_inj this
 exact (tie K a1 a2 a3).trans h
end spec_l1In
namespace spec_NumOk
noncomputable def c : Code := bodyOf Go.Proofs.Tryd.f32
noncomputable def fi : Fin := ⟨Γ0, [(.tmp 2, 4)], [[1]], [], [], []⟩
noncomputable def m (r1 : Bool) : Res := ⟨[⟨false, [.bool r1]⟩], [], [], [], []⟩
noncomputable def os : List (FuncId × St × (List Lf → (Res → Option Res) → Option Res)) := [spec_l1In.con]
noncomputable def X (K : Res → Option Res) : Ctx := { Γ := Γ0, orc := orcOf os, io := [], share := [], mvl := [], bun := [], cut := [], own := [], cin := [], cout := [], lp := lpOf [], kl := [], nk := true, eqs := eqs0, byt := byt0, fin := finK fi K }
noncomputable def b (a1 : Int) (R : Bool → Option Res) : Option Res :=
 spec_l1In.g a1 (-1000000000000) 1000000000000 fun r2 =>
 R r2
theorem gx : ∃ x : Int → (Bool → Option Res) → Option Res, x = b := ⟨_, rfl⟩
noncomputable def g : Int → (Bool → Option Res) → Option Res := Classical.choose gx
theorem e : g = b := Classical.choose_spec gx
noncomputable def run : List Lf → (Res → Option Res) → Option Res
 | [.i a1], K => g a1 (fun r1 => K (m r1))
 | _, _ => none
noncomputable def a (a1 : Int) : St := argSt [one (.int .i64 a1)] [] []
noncomputable def con : FuncId × St × (List Lf → (Res → Option Res) → Option Res) := (32, a 0, run)
theorem cx (K : Res → Option Res) : CtxOk Go.Proofs.Tryd.prog Γ0 byt0 eqs0 (X K) os := ⟨rfl, rfl, rfl, (fun p hp => by
 rcases List.mem_cons.1 hp with rfl | hp
 ·exact spec_l1In.ok
 cases hp), rfl, rfl, rfl, rfl⟩
theorem tie (K : Res → Option Res) (a1 : Int) : exec (X K) c (entry 5 [one (.int .i64 a1)] [] []) (endK (X K)) = g a1 (fun r1 => K (m r1)) := Eq.trans (b := b a1 (fun r1 => K (m r1))) (by kernel_rfl) (by rw [e])
theorem runv {l : List Lf} {K : Res → Option Res} {r : Res} (h : run l K = some r) : ∃ a1, l = [.i a1] ∧ g a1 (fun r1 => K (m r1)) = some r := by
 unfold run at h; split at h
 ·exact ⟨_, rfl, h⟩
 ·cases h
theorem ok : Con Go.Proofs.Tryd.prog con := con_of (fn := Go.Proofs.Tryd.f32) (c := c) (Fi := fi) (X := X) (fun_of laid (by kernel_rfl) (by kernel_rfl) (by kernel_rfl) rfl (by kernel_rfl) (by kernel_rfl) cx (fun _ => rfl) (fun _ => rfl) (fun K => by
 rw [show loopsOf c = [] from by kernel_rfl]; intro p hp
 cases hp)) fun xs rows boxes K r hl hr => by
 obtain ⟨a1, e, h⟩ := runv hr
 have := St.like_eq (y := a a1) hl (by kernel_rfl) e
 obtain ⟨rfl, rfl, rfl⟩ := argSt_inj this
 exact (tie K a1).trans h
end spec_NumOk
-- GROUP spec_l8Digits
namespace spec_l8Digits
noncomputable def c : Code := bodyOf Go.Proofs.Tryd.f33
noncomputable def fi : Fin := ⟨Γ0, [(.tmp 2, 9)], [[1]], [], [], []⟩
noncomputable def m (r1 : ByteArray) : Res := ⟨[⟨false, [.str r1]⟩], [], [], [], []⟩
abbrev T : Type := Int → (ByteArray → Option Res) → Option Res
noncomputable def runz (h : T) : List Lf → (Res → Option Res) → Option Res
 | [.i a1], K => h a1 (fun r1 => K (m r1))
 | _, _ => none
noncomputable def a (a1 : Int) : St := argSt [one (.int .i64 a1)] [] []
noncomputable def conz (h : T) : FuncId × St × (List Lf → (Res → Option Res) → Option Res) := (33, a 0, runz h)
end spec_l8Digits
abbrev Z_spec_l8Digits : Type := spec_l8Digits.T
def Gd_spec_l8Digits (z : Z_spec_l8Digits) : Prop := Con Go.Proofs.Tryd.prog (spec_l8Digits.conz z)
namespace spec_l8Digits
noncomputable def b0 : Code := codeAt c [1, 1, 1, 1, 0, 0, 0]
noncomputable def s0 (x3 : Int) (x4 : ByteArray) : St := ⟨mkT 25 [(0, one (.int .i64 x3)), (3, one (.str x4))], [], []⟩
noncomputable def l0s  (rec : Int → ByteArray → Option Res) (k : ByteArray → Option Res) (x3 : Int) (x4 : ByteArray) : Option Res :=
 bif decide (0 < x3) then (bif decide ((strOf ([IntKind.u8.wrap (IntKind.i64.wrap (48 + (x3.tmod 10)))] : List Int)).size + x4.size ≤ 9223372036854775807) then rec (IntKind.i64.wrap (x3.tdiv 10)) ((strOf ([IntKind.u8.wrap (IntKind.i64.wrap (48 + (x3.tmod 10)))] : List Int)) ++ x4)
  else none)
 else k x4
noncomputable def l0  (k : ByteArray → Option Res) : Nat → Int → ByteArray → Option Res
 | 0, _, _ => none
 | n + 1, x3, x4 => l0s (fun x3 x4 => l0 k n x3 x4) k x3 x4
noncomputable def o0 (y1 : ByteArray) : St := ⟨mkT 25 [(3, one (.str y1))], [], []⟩
noncomputable def p0 (K : Res → Option Res) : List Lf → (St → Option Res) → Option Res
 | [.i x3, .s x4], k => l0 (fun y1 => k (o0 y1)) fuel x3 x4
 | _, _ => none
noncomputable def os (z : Z_spec_l8Digits) : List (FuncId × St × (List Lf → (Res → Option Res) → Option Res)) := [spec_l8Digits.conz z]
noncomputable def X (z : Z_spec_l8Digits) (K : Res → Option Res) : Ctx := { Γ := Γ0, orc := orcOf (os z), io := [], share := [], mvl := [], bun := [], cut := [], own := [], cin := [(0, ⟨[0, 3], [], [], [], [], []⟩)], cout := [(0, ⟨[3], [], [], [], [], []⟩)], lp := lpOf [(0, s0 0 ByteArray.empty, p0 K)], kl := [], nk := true, eqs := eqs0, byt := byt0, fin := finK fi K }
noncomputable def g (z : Z_spec_l8Digits) (a1 : Int) (R : ByteArray → Option Res) : Option Res :=
 bif decide (a1 < 0) then (z (IntKind.i64.wrap (0 - a1)) fun r2 =>
  bif decide (1 + r2.size ≤ 9223372036854775807) then R ((⟨#[95]⟩ : ByteArray) ++ r2)
  else none)
 else bif (a1 == 0) then R (⟨#[48]⟩ : ByteArray)
 else (l0 (fun y5 =>
 R y5) fuel a1 (⟨#[]⟩ : ByteArray))
theorem cx (z : Z_spec_l8Digits) (hz : Gd_spec_l8Digits z) (K : Res → Option Res) : CtxOk Go.Proofs.Tryd.prog Γ0 byt0 eqs0 (X z K) (os z) := ⟨rfl, rfl, rfl, (fun p hp => by
 rcases List.mem_cons.1 hp with rfl | hp
 ·exact hz
 cases hp), rfl, rfl, rfl, rfl⟩
theorem t0 (z : Z_spec_l8Digits) (K : Res → Option Res) (k : St → Option Res) (it : St → (St → Option Res) → Option Res) (x3 : Int) (x4 : ByteArray) : iterS (X z K) 0 b0 it (s0 x3 x4) k = l0s (fun x3 x4 => it (s0 x3 x4) k) (fun y1 => k (o0 y1)) x3 x4 := by kernel_rfl
theorem i0 (z : Z_spec_l8Digits) (K : Res → Option Res) (k : St → Option Res)  : ∀ (n : Nat) (x3 : Int) (x4 : ByteArray), iter (X z K) 0 b0 n (s0 x3 x4) k = l0 (fun y1 => k (o0 y1)) n x3 x4
 | 0, _, _ => rfl
 | n + 1, x3, x4 => by
  rw [iter_succ, t0 z, show (fun x3 x4 => iter (X z K) 0 b0 n (s0 x3 x4) k) = (fun x3 x4 => l0 (fun y1 => k (o0 y1)) n x3 x4) from funext fun x3 => funext fun x4 => i0 z K k n x3 x4]; rfl
theorem v0 {K : Res → Option Res} {l : List Lf} {k : St → Option Res} {r : Res} (h : p0 K l k = some r) : ∃ x3 x4, l = [.i x3, .s x4] ∧ l0 (fun y1 => k (o0 y1)) fuel x3 x4 = some r := by
 unfold p0 at h; split at h
 ·exact ⟨_, _, rfl, h⟩
 ·cases h
theorem w0 (z : Z_spec_l8Digits) (hz : Gd_spec_l8Digits z) (K : Res → Option Res) : LpSound Go.Proofs.Tryd.prog (X z K) 0 b0 := lp_ok (((cx z hz) K).ok laid) (by rw [show loopsOf b0 = [] from by kernel_rfl]; intro p hp; cases hp) rfl fun p hp hid => by
 rcases List.mem_cons.1 hp with rfl | hp
 ·intro st k r h1 h2; obtain ⟨x3, x4, e, h⟩ := v0 (K := K) h2; have := St.like_eq (y := s0 x3 x4) h1 (by kernel_rfl) e; subst this; exact ⟨fuel, (i0 z K k fuel x3 x4).trans h⟩
 cases hp
theorem tie (z : Z_spec_l8Digits) (K : Res → Option Res) (a1 : Int) : exec (X z K) c (entry 25 [one (.int .i64 a1)] [] []) (endK (X z K)) = (g z) a1 (fun r1 => K (m r1)) := by kernel_rfl
theorem runv (z : Z_spec_l8Digits) {l : List Lf} {K : Res → Option Res} {r : Res} (h : runz (g z) l K = some r) : ∃ a1, l = [.i a1] ∧ (g z) a1 (fun r1 => K (m r1)) = some r := by
 unfold runz at h; split at h
 ·exact ⟨_, rfl, h⟩
 ·cases h
theorem ok (z : Z_spec_l8Digits) (hz : Gd_spec_l8Digits z) : Con Go.Proofs.Tryd.prog (conz (g z)) := con_of (fn := Go.Proofs.Tryd.f33) (c := c) (Fi := fi) (X := X z) (fun_of laid (by kernel_rfl) (by kernel_rfl) (by kernel_rfl) rfl (by kernel_rfl) (by kernel_rfl) (cx z hz) (fun _ => rfl) (fun _ => rfl) (fun K => by
 rw [show loopsOf c = [(0, b0)] from by kernel_rfl]; intro p hp
 rcases List.mem_cons.1 hp with rfl | hp
 ·exact w0 z hz K
 cases hp)) fun xs rows boxes K r hl hr => by
 obtain ⟨a1, e, h⟩ := runv z hr
 have := St.like_eq (y := a a1) hl (by kernel_rfl) e
 obtain ⟨rfl, rfl, rfl⟩ := argSt_inj this
 exact (tie z K a1).trans h
end spec_l8Digits
noncomputable def rec_spec_l8Digits : Nat → Z_spec_l8Digits
 | 0 => (fun _ _ => none)
 | n + 1 => spec_l8Digits.g (rec_spec_l8Digits n)
theorem good_spec_l8Digits : ∀ n, Gd_spec_l8Digits (rec_spec_l8Digits n)
 | 0 => con_none (fun l K => by show spec_l8Digits.runz (fun _ _ => none) l K = none; unfold spec_l8Digits.runz; split <;> rfl)
 | n + 1 => spec_l8Digits.ok _ (good_spec_l8Digits n)
namespace spec_l8Digits
noncomputable def gn (n : Nat) (a1 : Int) (R : ByteArray → Option Res) : Option Res := (rec_spec_l8Digits n) a1 R
theorem Gx : ∃ x : T, x = gn fuel := ⟨_, rfl⟩
noncomputable def G : T := Classical.choose Gx
theorem Ge : G = gn fuel := Classical.choose_spec Gx
theorem gn_succ (n : Nat) (a1 : Int) (R : ByteArray → Option Res) : gn (n + 1) a1 R = g (rec_spec_l8Digits n) a1 R := rfl
noncomputable def con : FuncId × St × (List Lf → (Res → Option Res) → Option Res) := conz G
theorem okG : Con Go.Proofs.Tryd.prog con := by
 unfold con; rw [Ge]; exact (good_spec_l8Digits fuel)
end spec_l8Digits
-- END GROUP
namespace spec_ShowNum
noncomputable def c : Code := bodyOf Go.Proofs.Tryd.f10
noncomputable def fi : Fin := ⟨Γ0, [(.tmp 2, 9)], [[1]], [], [], []⟩
noncomputable def m (r1 : ByteArray) : Res := ⟨[⟨false, [.str r1]⟩], [], [], [], []⟩
noncomputable def os : List (FuncId × St × (List Lf → (Res → Option Res) → Option Res)) := [spec_NumOk.con, spec_l8Digits.con]
noncomputable def X (K : Res → Option Res) : Ctx := { Γ := Γ0, orc := orcOf os, io := [], share := [], mvl := [], bun := [], cut := [], own := [], cin := [], cout := [], lp := lpOf [], kl := [], nk := true, eqs := eqs0, byt := byt0, fin := finK fi K }
noncomputable def b (a1 : Int) (R : ByteArray → Option Res) : Option Res :=
 spec_NumOk.g a1 fun r2 =>
 bif !r2 then R (⟨#[]⟩ : ByteArray)
 else (spec_l8Digits.G a1 fun r3 =>
 R r3)
theorem gx : ∃ x : Int → (ByteArray → Option Res) → Option Res, x = b := ⟨_, rfl⟩
noncomputable def g : Int → (ByteArray → Option Res) → Option Res := Classical.choose gx
theorem e : g = b := Classical.choose_spec gx
noncomputable def run : List Lf → (Res → Option Res) → Option Res
 | [.i a1], K => g a1 (fun r1 => K (m r1))
 | _, _ => none
noncomputable def a (a1 : Int) : St := argSt [one (.int .i64 a1)] [] []
noncomputable def con : FuncId × St × (List Lf → (Res → Option Res) → Option Res) := (10, a 0, run)
theorem cx (K : Res → Option Res) : CtxOk Go.Proofs.Tryd.prog Γ0 byt0 eqs0 (X K) os := ⟨rfl, rfl, rfl, (fun p hp => by
 rcases List.mem_cons.1 hp with rfl | hp
 ·exact spec_NumOk.ok
 rcases List.mem_cons.1 hp with rfl | hp
 ·exact spec_l8Digits.okG
 cases hp), rfl, rfl, rfl, rfl⟩
theorem tie (K : Res → Option Res) (a1 : Int) : exec (X K) c (entry 8 [one (.int .i64 a1)] [] []) (endK (X K)) = g a1 (fun r1 => K (m r1)) := Eq.trans (b := b a1 (fun r1 => K (m r1))) (by kernel_rfl) (by rw [e])
theorem runv {l : List Lf} {K : Res → Option Res} {r : Res} (h : run l K = some r) : ∃ a1, l = [.i a1] ∧ g a1 (fun r1 => K (m r1)) = some r := by
 unfold run at h; split at h
 ·exact ⟨_, rfl, h⟩
 ·cases h
theorem ok : Con Go.Proofs.Tryd.prog con := con_of (fn := Go.Proofs.Tryd.f10) (c := c) (Fi := fi) (X := X) (fun_of laid (by kernel_rfl) (by kernel_rfl) (by kernel_rfl) rfl (by kernel_rfl) (by kernel_rfl) cx (fun _ => rfl) (fun _ => rfl) (fun K => by
 rw [show loopsOf c = [] from by kernel_rfl]; intro p hp
 cases hp)) fun xs rows boxes K r hl hr => by
 obtain ⟨a1, e, h⟩ := runv hr
 have := St.like_eq (y := a a1) hl (by kernel_rfl) e
 obtain ⟨rfl, rfl, rfl⟩ := argSt_inj this
 exact (tie K a1).trans h
end spec_ShowNum
namespace impl_within
noncomputable def c : Code := bodyOf Go.Proofs.Tryd.f56
noncomputable def fi : Fin := ⟨Γ0, [(.tmp 6, 4)], [[1]], [], [], []⟩
noncomputable def m (r1 : Bool) : Res := ⟨[⟨false, [.bool r1]⟩], [], [], [], []⟩
noncomputable def os : List (FuncId × St × (List Lf → (Res → Option Res) → Option Res)) := []
noncomputable def X (K : Res → Option Res) : Ctx := { Γ := Γ0, orc := orcOf os, io := [], share := [], mvl := [], bun := [], cut := [], own := [], cin := [], cout := [], lp := lpOf [], kl := [], nk := true, eqs := eqs0, byt := byt0, fin := finK fi K }
noncomputable def b (a1 a2 a3 : Int) (R : Bool → Option Res) : Option Res :=
 bif decide (a2 ≤ a1) then R (decide (a1 ≤ a3))
 else R false
theorem gx : ∃ x : Int → Int → Int → (Bool → Option Res) → Option Res, x = b := ⟨_, rfl⟩
noncomputable def g : Int → Int → Int → (Bool → Option Res) → Option Res := Classical.choose gx
theorem e : g = b := Classical.choose_spec gx
noncomputable def run : List Lf → (Res → Option Res) → Option Res
 | [.i a1, .i a2, .i a3], K => g a1 a2 a3 (fun r1 => K (m r1))
 | _, _ => none
noncomputable def a (a1 a2 a3 : Int) : St := argSt [one (.int .i64 a1), one (.int .i64 a2), one (.int .i64 a3)] [] []
noncomputable def con : FuncId × St × (List Lf → (Res → Option Res) → Option Res) := (56, a 0 0 0, run)
theorem cx (K : Res → Option Res) : CtxOk Go.Proofs.Tryd.prog Γ0 byt0 eqs0 (X K) os := ⟨rfl, rfl, rfl, (fun p hp => by
 cases hp), rfl, rfl, rfl, rfl⟩
theorem tie (K : Res → Option Res) (a1 a2 a3 : Int) : exec (X K) c (entry 15 [one (.int .i64 a1), one (.int .i64 a2), one (.int .i64 a3)] [] []) (endK (X K)) = g a1 a2 a3 (fun r1 => K (m r1)) := Eq.trans (b := b a1 a2 a3 (fun r1 => K (m r1))) (by kernel_rfl) (by rw [e])
theorem runv {l : List Lf} {K : Res → Option Res} {r : Res} (h : run l K = some r) : ∃ a1 a2 a3, l = [.i a1, .i a2, .i a3] ∧ g a1 a2 a3 (fun r1 => K (m r1)) = some r := by
 unfold run at h; split at h
 ·exact ⟨_, _, _, rfl, h⟩
 ·cases h
theorem ok : Con Go.Proofs.Tryd.prog con := con_of (fn := Go.Proofs.Tryd.f56) (c := c) (Fi := fi) (X := X) (fun_of laid (by kernel_rfl) (by kernel_rfl) (by kernel_rfl) rfl (by kernel_rfl) (by kernel_rfl) cx (fun _ => rfl) (fun _ => rfl) (fun K => by
 rw [show loopsOf c = [] from by kernel_rfl]; intro p hp
 cases hp)) fun xs rows boxes K r hl hr => by
 obtain ⟨a1, a2, a3, e, h⟩ := runv hr
 have := St.like_eq (y := a a1 a2 a3) hl (by kernel_rfl) e
 obtain ⟨rfl, rfl, rfl⟩ := argSt_inj this
 exact (tie K a1 a2 a3).trans h
end impl_within
namespace impl_NumOk
noncomputable def c : Code := bodyOf Go.Proofs.Tryd.f34
noncomputable def fi : Fin := ⟨Γ0, [(.tmp 2, 4)], [[1]], [], [], []⟩
noncomputable def m (r1 : Bool) : Res := ⟨[⟨false, [.bool r1]⟩], [], [], [], []⟩
noncomputable def os : List (FuncId × St × (List Lf → (Res → Option Res) → Option Res)) := [impl_within.con]
noncomputable def X (K : Res → Option Res) : Ctx := { Γ := Γ0, orc := orcOf os, io := [], share := [], mvl := [], bun := [], cut := [], own := [], cin := [], cout := [], lp := lpOf [], kl := [], nk := true, eqs := eqs0, byt := byt0, fin := finK fi K }
noncomputable def b (a1 : Int) (R : Bool → Option Res) : Option Res :=
 impl_within.g a1 (-1000000000000) 1000000000000 fun r2 =>
 R r2
theorem gx : ∃ x : Int → (Bool → Option Res) → Option Res, x = b := ⟨_, rfl⟩
noncomputable def g : Int → (Bool → Option Res) → Option Res := Classical.choose gx
theorem e : g = b := Classical.choose_spec gx
noncomputable def run : List Lf → (Res → Option Res) → Option Res
 | [.i a1], K => g a1 (fun r1 => K (m r1))
 | _, _ => none
noncomputable def a (a1 : Int) : St := argSt [one (.int .i64 a1)] [] []
noncomputable def con : FuncId × St × (List Lf → (Res → Option Res) → Option Res) := (34, a 0, run)
theorem cx (K : Res → Option Res) : CtxOk Go.Proofs.Tryd.prog Γ0 byt0 eqs0 (X K) os := ⟨rfl, rfl, rfl, (fun p hp => by
 rcases List.mem_cons.1 hp with rfl | hp
 ·exact impl_within.ok
 cases hp), rfl, rfl, rfl, rfl⟩
theorem tie (K : Res → Option Res) (a1 : Int) : exec (X K) c (entry 5 [one (.int .i64 a1)] [] []) (endK (X K)) = g a1 (fun r1 => K (m r1)) := Eq.trans (b := b a1 (fun r1 => K (m r1))) (by kernel_rfl) (by rw [e])
theorem runv {l : List Lf} {K : Res → Option Res} {r : Res} (h : run l K = some r) : ∃ a1, l = [.i a1] ∧ g a1 (fun r1 => K (m r1)) = some r := by
 unfold run at h; split at h
 ·exact ⟨_, rfl, h⟩
 ·cases h
theorem ok : Con Go.Proofs.Tryd.prog con := con_of (fn := Go.Proofs.Tryd.f34) (c := c) (Fi := fi) (X := X) (fun_of laid (by kernel_rfl) (by kernel_rfl) (by kernel_rfl) rfl (by kernel_rfl) (by kernel_rfl) cx (fun _ => rfl) (fun _ => rfl) (fun K => by
 rw [show loopsOf c = [] from by kernel_rfl]; intro p hp
 cases hp)) fun xs rows boxes K r hl hr => by
 obtain ⟨a1, e, h⟩ := runv hr
 have := St.like_eq (y := a a1) hl (by kernel_rfl) e
 obtain ⟨rfl, rfl, rfl⟩ := argSt_inj this
 exact (tie K a1).trans h
end impl_NumOk
namespace strconv_Itoa
theorem is : ItoaIs Go.Proofs.Tryd.prog 35 := fun n h0 h1 w ht => Go.Proofs.Tryd.strconv_Itoa n h0 h1 w ht
noncomputable def g (a1 : Int) (R : ByteArray → Option Res) : Option Res := itoaG a1 R
noncomputable def con : FuncId × St × (List Lf → (Res → Option Res) → Option Res) := itoaC 35
theorem ok : Con Go.Proofs.Tryd.prog con := con_itoa (fn := Go.Proofs.Tryd.f35) (by kernel_rfl) (by kernel_rfl) (by kernel_rfl) is
end strconv_Itoa
namespace impl_ShowNum
noncomputable def c : Code := bodyOf Go.Proofs.Tryd.f11
noncomputable def fi : Fin := ⟨Γ0, [(.tmp 2, 9)], [[1]], [], [], []⟩
noncomputable def m (r1 : ByteArray) : Res := ⟨[⟨false, [.str r1]⟩], [], [], [], []⟩
noncomputable def os : List (FuncId × St × (List Lf → (Res → Option Res) → Option Res)) := [impl_NumOk.con, strconv_Itoa.con]
noncomputable def X (K : Res → Option Res) : Ctx := { Γ := Γ0, orc := orcOf os, io := [], share := [], mvl := [], bun := [], cut := [], own := [], cin := [], cout := [], lp := lpOf [], kl := [], nk := true, eqs := eqs0, byt := byt0, fin := finK fi K }
noncomputable def b (a1 : Int) (R : ByteArray → Option Res) : Option Res :=
 impl_NumOk.g a1 fun r2 =>
 bif !r2 then R (⟨#[]⟩ : ByteArray)
 else bif decide (a1 < 0) then (strconv_Itoa.g (IntKind.i64.wrap (0 - a1)) fun r3 =>
  bif decide (1 + r3.size ≤ 9223372036854775807) then R ((⟨#[95]⟩ : ByteArray) ++ r3)
  else none)
 else (strconv_Itoa.g a1 fun r4 =>
 R r4)
theorem gx : ∃ x : Int → (ByteArray → Option Res) → Option Res, x = b := ⟨_, rfl⟩
noncomputable def g : Int → (ByteArray → Option Res) → Option Res := Classical.choose gx
theorem e : g = b := Classical.choose_spec gx
noncomputable def run : List Lf → (Res → Option Res) → Option Res
 | [.i a1], K => g a1 (fun r1 => K (m r1))
 | _, _ => none
noncomputable def a (a1 : Int) : St := argSt [one (.int .i64 a1)] [] []
noncomputable def con : FuncId × St × (List Lf → (Res → Option Res) → Option Res) := (11, a 0, run)
theorem cx (K : Res → Option Res) : CtxOk Go.Proofs.Tryd.prog Γ0 byt0 eqs0 (X K) os := ⟨rfl, rfl, rfl, (fun p hp => by
 rcases List.mem_cons.1 hp with rfl | hp
 ·exact impl_NumOk.ok
 rcases List.mem_cons.1 hp with rfl | hp
 ·exact strconv_Itoa.ok
 cases hp), rfl, rfl, rfl, rfl⟩
theorem tie (K : Res → Option Res) (a1 : Int) : exec (X K) c (entry 14 [one (.int .i64 a1)] [] []) (endK (X K)) = g a1 (fun r1 => K (m r1)) := Eq.trans (b := b a1 (fun r1 => K (m r1))) (by kernel_rfl) (by rw [e])
theorem runv {l : List Lf} {K : Res → Option Res} {r : Res} (h : run l K = some r) : ∃ a1, l = [.i a1] ∧ g a1 (fun r1 => K (m r1)) = some r := by
 unfold run at h; split at h
 ·exact ⟨_, rfl, h⟩
 ·cases h
theorem ok : Con Go.Proofs.Tryd.prog con := con_of (fn := Go.Proofs.Tryd.f11) (c := c) (Fi := fi) (X := X) (fun_of laid (by kernel_rfl) (by kernel_rfl) (by kernel_rfl) rfl (by kernel_rfl) (by kernel_rfl) cx (fun _ => rfl) (fun _ => rfl) (fun K => by
 rw [show loopsOf c = [] from by kernel_rfl]; intro p hp
 cases hp)) fun xs rows boxes K r hl hr => by
 obtain ⟨a1, e, h⟩ := runv hr
 have := St.like_eq (y := a a1) hl (by kernel_rfl) e
 obtain ⟨rfl, rfl, rfl⟩ := argSt_inj this
 exact (tie K a1).trans h
end impl_ShowNum
namespace spec_l16Nums
noncomputable def c : Code := bodyOf Go.Proofs.Tryd.f36
noncomputable def fi : Fin := ⟨Γ0, [(.tmp 2, 4)], [[1]], [], [], []⟩
noncomputable def m (r1 : Bool) : Res := ⟨[⟨false, [.bool r1]⟩], [], [], [], []⟩
noncomputable def b0 : Code := codeAt c [1, 0, 1, 0, 0]
noncomputable def s0 (x2 : List Int) (x3 : Int) : St := ⟨mkT 16 [(0, one (.tr 0 1 [.int .i64] (.ints x2))), (3, one (.int .i64 x3))], [], []⟩
noncomputable def l0s (x2 : List Int) (rec : Int → Option Res) (k : Option Res) (R : Bool → Option Res) (x3 : Int) : Option Res :=
 bif decide (x3 < (x2.length : Int)) then (bif decide (0 ≤ x3) && decide (x3 < (x2.length : Int)) then (spec_NumOk.g (x2.getD x3.toNat 0) fun r4 =>
  bif !r4 then R false
  else rec (IntKind.i64.wrap (x3 + 1)))
  else none)
 else k
noncomputable def l0 (x2 : List Int) (k : Option Res) (R : Bool → Option Res) : Nat → Int → Option Res
 | 0, _ => none
 | n + 1, x3 => l0s x2 (fun x3 => l0 x2 k R n x3) k R x3
noncomputable def o0 (x2 : List Int) : St := ⟨mkT 16 [], [], []⟩
noncomputable def p0 (K : Res → Option Res) : List Lf → (St → Option Res) → Option Res
 | [.q (.ints x2), .i x3], k => l0 x2 (k (o0 x2)) (fun r1 => K (m r1)) fuel x3
 | _, _ => none
noncomputable def os : List (FuncId × St × (List Lf → (Res → Option Res) → Option Res)) := [spec_NumOk.con]
noncomputable def X (K : Res → Option Res) : Ctx := { Γ := Γ0, orc := orcOf os, io := [], share := [], mvl := [], bun := [], cut := [], own := [], cin := [(0, ⟨[0, 3], [], [], [], [], []⟩)], cout := [(0, ⟨[], [], [], [], [], []⟩)], lp := lpOf [(0, s0 [] 0, p0 K)], kl := [], nk := true, eqs := eqs0, byt := byt0, fin := finK fi K }
noncomputable def b (a1 : List Int) (R : Bool → Option Res) : Option Res :=
 l0 a1 (
 R true) R fuel 0
theorem gx : ∃ x : List Int → (Bool → Option Res) → Option Res, x = b := ⟨_, rfl⟩
noncomputable def g : List Int → (Bool → Option Res) → Option Res := Classical.choose gx
theorem e : g = b := Classical.choose_spec gx
noncomputable def run : List Lf → (Res → Option Res) → Option Res
 | [.q (.ints a1)], K => g a1 (fun r1 => K (m r1))
 | _, _ => none
noncomputable def a (a1 : List Int) : St := argSt [one (.tr 0 1 [.int .i64] (.ints a1))] [] []
noncomputable def con : FuncId × St × (List Lf → (Res → Option Res) → Option Res) := (36, a [], run)
theorem cx (K : Res → Option Res) : CtxOk Go.Proofs.Tryd.prog Γ0 byt0 eqs0 (X K) os := ⟨rfl, rfl, rfl, (fun p hp => by
 rcases List.mem_cons.1 hp with rfl | hp
 ·exact spec_NumOk.ok
 cases hp), rfl, rfl, rfl, rfl⟩
theorem t0 (K : Res → Option Res) (k : St → Option Res) (it : St → (St → Option Res) → Option Res) (x2 : List Int) (x3 : Int) : iterS (X K) 0 b0 it (s0 x2 x3) k = l0s x2 (fun x3 => it (s0 x2 x3) k) (k (o0 x2)) (fun r1 => K (m r1)) x3 := by kernel_rfl
theorem i0 (K : Res → Option Res) (k : St → Option Res) (x2 : List Int) : ∀ (n : Nat) (x3 : Int), iter (X K) 0 b0 n (s0 x2 x3) k = l0 x2 (k (o0 x2)) (fun r1 => K (m r1)) n x3
 | 0, _ => rfl
 | n + 1, x3 => by
  rw [iter_succ, t0, show (fun x3 => iter (X K) 0 b0 n (s0 x2 x3) k) = (fun x3 => l0 x2 (k (o0 x2)) (fun r1 => K (m r1)) n x3) from funext fun x3 => i0 K k x2 n x3]; rfl
theorem v0 {K : Res → Option Res} {l : List Lf} {k : St → Option Res} {r : Res} (h : p0 K l k = some r) : ∃ x2 x3, l = [.q (.ints x2), .i x3] ∧ l0 x2 (k (o0 x2)) (fun r1 => K (m r1)) fuel x3 = some r := by
 unfold p0 at h; split at h
 ·exact ⟨_, _, rfl, h⟩
 ·cases h
theorem w0 (K : Res → Option Res) : LpSound Go.Proofs.Tryd.prog (X K) 0 b0 := lp_ok ((cx K).ok laid) (by rw [show loopsOf b0 = [] from by kernel_rfl]; intro p hp; cases hp) rfl fun p hp hid => by
 rcases List.mem_cons.1 hp with rfl | hp
 ·intro st k r h1 h2; obtain ⟨x2, x3, e, h⟩ := v0 (K := K) h2; have := St.like_eq (y := s0 x2 x3) h1 (by kernel_rfl) e; subst this; exact ⟨fuel, (i0 K k x2 fuel x3).trans h⟩
 cases hp
theorem tie (K : Res → Option Res) (a1 : List Int) : exec (X K) c (entry 16 [one (.tr 0 1 [.int .i64] (.ints a1))] [] []) (endK (X K)) = g a1 (fun r1 => K (m r1)) := Eq.trans (b := b a1 (fun r1 => K (m r1))) (by kernel_rfl) (by rw [e])
theorem runv {l : List Lf} {K : Res → Option Res} {r : Res} (h : run l K = some r) : ∃ a1, l = [.q (.ints a1)] ∧ g a1 (fun r1 => K (m r1)) = some r := by
 unfold run at h; split at h
 ·exact ⟨_, rfl, h⟩
 ·cases h
theorem ok : Con Go.Proofs.Tryd.prog con := con_of (fn := Go.Proofs.Tryd.f36) (c := c) (Fi := fi) (X := X) (fun_of laid (by kernel_rfl) (by kernel_rfl) (by kernel_rfl) rfl (by kernel_rfl) (by kernel_rfl) cx (fun _ => rfl) (fun _ => rfl) (fun K => by
 rw [show loopsOf c = [(0, b0)] from by kernel_rfl]; intro p hp
 rcases List.mem_cons.1 hp with rfl | hp
 ·exact w0 K
 cases hp)) fun xs rows boxes K r hl hr => by
 obtain ⟨a1, e, h⟩ := runv hr
 have := St.like_eq (y := a a1) hl (by kernel_rfl) e
 obtain ⟨rfl, rfl, rfl⟩ := argSt_inj this
 exact (tie K a1).trans h
end spec_l16Nums
namespace spec_l1Max
noncomputable def c : Code := bodyOf Go.Proofs.Tryd.f37
noncomputable def fi : Fin := ⟨Γ0, [(.tmp 4, 3)], [[1]], [], [], []⟩
noncomputable def m (r1 : Int) : Res := ⟨[⟨false, [.int .i64 r1]⟩], [], [], [], []⟩
noncomputable def os : List (FuncId × St × (List Lf → (Res → Option Res) → Option Res)) := []
noncomputable def X (K : Res → Option Res) : Ctx := { Γ := Γ0, orc := orcOf os, io := [], share := [], mvl := [], bun := [], cut := [], own := [], cin := [], cout := [], lp := lpOf [], kl := [], nk := true, eqs := eqs0, byt := byt0, fin := finK fi K }
noncomputable def b (a1 a2 : Int) (R : Int → Option Res) : Option Res :=
 bif decide (a2 < a1) then R a1
 else R a2
theorem gx : ∃ x : Int → Int → (Int → Option Res) → Option Res, x = b := ⟨_, rfl⟩
noncomputable def g : Int → Int → (Int → Option Res) → Option Res := Classical.choose gx
theorem e : g = b := Classical.choose_spec gx
noncomputable def run : List Lf → (Res → Option Res) → Option Res
 | [.i a1, .i a2], K => g a1 a2 (fun r1 => K (m r1))
 | _, _ => none
noncomputable def a (a1 a2 : Int) : St := argSt [one (.int .i64 a1), one (.int .i64 a2)] [] []
noncomputable def con : FuncId × St × (List Lf → (Res → Option Res) → Option Res) := (37, a 0 0, run)
theorem cx (K : Res → Option Res) : CtxOk Go.Proofs.Tryd.prog Γ0 byt0 eqs0 (X K) os := ⟨rfl, rfl, rfl, (fun p hp => by
 cases hp), rfl, rfl, rfl, rfl⟩
theorem tie (K : Res → Option Res) (a1 a2 : Int) : exec (X K) c (entry 10 [one (.int .i64 a1), one (.int .i64 a2)] [] []) (endK (X K)) = g a1 a2 (fun r1 => K (m r1)) := Eq.trans (b := b a1 a2 (fun r1 => K (m r1))) (by kernel_rfl) (by rw [e])
theorem runv {l : List Lf} {K : Res → Option Res} {r : Res} (h : run l K = some r) : ∃ a1 a2, l = [.i a1, .i a2] ∧ g a1 a2 (fun r1 => K (m r1)) = some r := by
 unfold run at h; split at h
 ·exact ⟨_, _, rfl, h⟩
 ·cases h
theorem ok : Con Go.Proofs.Tryd.prog con := con_of (fn := Go.Proofs.Tryd.f37) (c := c) (Fi := fi) (X := X) (fun_of laid (by kernel_rfl) (by kernel_rfl) (by kernel_rfl) rfl (by kernel_rfl) (by kernel_rfl) cx (fun _ => rfl) (fun _ => rfl) (fun K => by
 rw [show loopsOf c = [] from by kernel_rfl]; intro p hp
 cases hp)) fun xs rows boxes K r hl hr => by
 obtain ⟨a1, a2, e, h⟩ := runv hr
 have := St.like_eq (y := a a1 a2) hl (by kernel_rfl) e
 obtain ⟨rfl, rfl, rfl⟩ := argSt_inj this
 exact (tie K a1 a2).trans h
end spec_l1Max
namespace spec_ShowWide
noncomputable def c : Code := bodyOf Go.Proofs.Tryd.f12
noncomputable def fi : Fin := ⟨Γ0, [(.tmp 2, 3)], [[1]], [], [], []⟩
noncomputable def m (r1 : Int) : Res := ⟨[⟨false, [.int .i64 r1]⟩], [], [], [], []⟩
noncomputable def b0 : Code := codeAt c [1, 1, 1, 0, 1, 0, 0]
noncomputable def s0 (x3 : List Int) (x4 x5 : Int) : St := ⟨mkT 23 [(0, one (.tr 0 1 [.int .i64] (.ints x3))), (3, one (.int .i64 x4)), (4, one (.int .i64 x5))], [], []⟩
noncomputable def l0s (x3 : List Int) (rec : Int → Int → Option Res) (k : Int → Option Res) (x4 x5 : Int) : Option Res :=
 bif decide (x5 < (x3.length : Int)) then (bif decide (0 ≤ x5) && decide (x5 < (x3.length : Int)) then (spec_l8Digits.G (x3.getD x5.toNat 0) fun r6 =>
  spec_l1Max.g x4 (r6.size : Int) fun r7 =>
  rec r7 (IntKind.i64.wrap (x5 + 1)))
  else none)
 else k x4
noncomputable def l0 (x3 : List Int) (k : Int → Option Res) : Nat → Int → Int → Option Res
 | 0, _, _ => none
 | n + 1, x4, x5 => l0s x3 (fun x4 x5 => l0 x3 k n x4 x5) k x4 x5
noncomputable def o0 (x3 : List Int) (y1 : Int) : St := ⟨mkT 23 [(3, one (.int .i64 y1))], [], []⟩
noncomputable def p0 (K : Res → Option Res) : List Lf → (St → Option Res) → Option Res
 | [.q (.ints x3), .i x4, .i x5], k => l0 x3 (fun y1 => k (o0 x3 y1)) fuel x4 x5
 | _, _ => none
noncomputable def os : List (FuncId × St × (List Lf → (Res → Option Res) → Option Res)) := [spec_l16Nums.con, spec_l8Digits.con, spec_l1Max.con]
noncomputable def X (K : Res → Option Res) : Ctx := { Γ := Γ0, orc := orcOf os, io := [], share := [], mvl := [], bun := [], cut := [], own := [], cin := [(0, ⟨[0, 3, 4], [], [], [], [], []⟩)], cout := [(0, ⟨[3], [], [], [], [], []⟩)], lp := lpOf [(0, s0 [] 0 0, p0 K)], kl := [], nk := true, eqs := eqs0, byt := byt0, fin := finK fi K }
noncomputable def b (a1 : List Int) (R : Int → Option Res) : Option Res :=
 spec_l16Nums.g a1 fun r2 =>
 bif !r2 then R (-1)
 else (l0 a1 (fun y8 =>
 R y8) fuel 0 0)
theorem gx : ∃ x : List Int → (Int → Option Res) → Option Res, x = b := ⟨_, rfl⟩
noncomputable def g : List Int → (Int → Option Res) → Option Res := Classical.choose gx
theorem e : g = b := Classical.choose_spec gx
noncomputable def run : List Lf → (Res → Option Res) → Option Res
 | [.q (.ints a1)], K => g a1 (fun r1 => K (m r1))
 | _, _ => none
noncomputable def a (a1 : List Int) : St := argSt [one (.tr 0 1 [.int .i64] (.ints a1))] [] []
noncomputable def con : FuncId × St × (List Lf → (Res → Option Res) → Option Res) := (12, a [], run)
theorem cx (K : Res → Option Res) : CtxOk Go.Proofs.Tryd.prog Γ0 byt0 eqs0 (X K) os := ⟨rfl, rfl, rfl, (fun p hp => by
 rcases List.mem_cons.1 hp with rfl | hp
 ·exact spec_l16Nums.ok
 rcases List.mem_cons.1 hp with rfl | hp
 ·exact spec_l8Digits.okG
 rcases List.mem_cons.1 hp with rfl | hp
 ·exact spec_l1Max.ok
 cases hp), rfl, rfl, rfl, rfl⟩
theorem t0 (K : Res → Option Res) (k : St → Option Res) (it : St → (St → Option Res) → Option Res) (x3 : List Int) (x4 x5 : Int) : iterS (X K) 0 b0 it (s0 x3 x4 x5) k = l0s x3 (fun x4 x5 => it (s0 x3 x4 x5) k) (fun y1 => k (o0 x3 y1)) x4 x5 := by kernel_rfl
theorem i0 (K : Res → Option Res) (k : St → Option Res) (x3 : List Int) : ∀ (n : Nat) (x4 x5 : Int), iter (X K) 0 b0 n (s0 x3 x4 x5) k = l0 x3 (fun y1 => k (o0 x3 y1)) n x4 x5
 | 0, _, _ => rfl
 | n + 1, x4, x5 => by
  rw [iter_succ, t0, show (fun x4 x5 => iter (X K) 0 b0 n (s0 x3 x4 x5) k) = (fun x4 x5 => l0 x3 (fun y1 => k (o0 x3 y1)) n x4 x5) from funext fun x4 => funext fun x5 => i0 K k x3 n x4 x5]; rfl
theorem v0 {K : Res → Option Res} {l : List Lf} {k : St → Option Res} {r : Res} (h : p0 K l k = some r) : ∃ x3 x4 x5, l = [.q (.ints x3), .i x4, .i x5] ∧ l0 x3 (fun y1 => k (o0 x3 y1)) fuel x4 x5 = some r := by
 unfold p0 at h; split at h
 ·exact ⟨_, _, _, rfl, h⟩
 ·cases h
theorem w0 (K : Res → Option Res) : LpSound Go.Proofs.Tryd.prog (X K) 0 b0 := lp_ok ((cx K).ok laid) (by rw [show loopsOf b0 = [] from by kernel_rfl]; intro p hp; cases hp) rfl fun p hp hid => by
 rcases List.mem_cons.1 hp with rfl | hp
 ·intro st k r h1 h2; obtain ⟨x3, x4, x5, e, h⟩ := v0 (K := K) h2; have := St.like_eq (y := s0 x3 x4 x5) h1 (by kernel_rfl) e; subst this; exact ⟨fuel, (i0 K k x3 fuel x4 x5).trans h⟩
 cases hp
theorem tie (K : Res → Option Res) (a1 : List Int) : exec (X K) c (entry 23 [one (.tr 0 1 [.int .i64] (.ints a1))] [] []) (endK (X K)) = g a1 (fun r1 => K (m r1)) := Eq.trans (b := b a1 (fun r1 => K (m r1))) (by kernel_rfl) (by rw [e])
theorem runv {l : List Lf} {K : Res → Option Res} {r : Res} (h : run l K = some r) : ∃ a1, l = [.q (.ints a1)] ∧ g a1 (fun r1 => K (m r1)) = some r := by
 unfold run at h; split at h
 ·exact ⟨_, rfl, h⟩
 ·cases h
theorem ok : Con Go.Proofs.Tryd.prog con := con_of (fn := Go.Proofs.Tryd.f12) (c := c) (Fi := fi) (X := X) (fun_of laid (by kernel_rfl) (by kernel_rfl) (by kernel_rfl) rfl (by kernel_rfl) (by kernel_rfl) cx (fun _ => rfl) (fun _ => rfl) (fun K => by
 rw [show loopsOf c = [(0, b0)] from by kernel_rfl]; intro p hp
 rcases List.mem_cons.1 hp with rfl | hp
 ·exact w0 K
 cases hp)) fun xs rows boxes K r hl hr => by
 obtain ⟨a1, e, h⟩ := runv hr
 have := St.like_eq (y := a a1) hl (by kernel_rfl) e
 obtain ⟨rfl, rfl, rfl⟩ := argSt_inj this
 exact (tie K a1).trans h
end spec_ShowWide
namespace impl_allRight_1
noncomputable def c : Code := bodyOf Go.Proofs.Tryd.f59
noncomputable def fi : Fin := ⟨Γ0, [(.tmp 2, 4)], [[1]], [], [], []⟩
noncomputable def m (r1 : Bool) : Res := ⟨[⟨false, [.bool r1]⟩], [], [], [], []⟩
noncomputable def os : List (FuncId × St × (List Lf → (Res → Option Res) → Option Res)) := [impl_NumOk.con]
noncomputable def X (K : Res → Option Res) : Ctx := { Γ := Γ0, orc := orcOf os, io := [], share := [], mvl := [], bun := [], cut := [], own := [], cin := [], cout := [], lp := lpOf [], kl := [], nk := true, eqs := eqs0, byt := byt0, fin := finK fi K }
noncomputable def b (a1 : Int) (R : Bool → Option Res) : Option Res :=
 impl_NumOk.g a1 fun r2 =>
 R (!r2)
theorem gx : ∃ x : Int → (Bool → Option Res) → Option Res, x = b := ⟨_, rfl⟩
noncomputable def g : Int → (Bool → Option Res) → Option Res := Classical.choose gx
theorem e : g = b := Classical.choose_spec gx
noncomputable def run : List Lf → (Res → Option Res) → Option Res
 | [.i a1], K => g a1 (fun r1 => K (m r1))
 | _, _ => none
noncomputable def a (a1 : Int) : St := argSt [one (.int .i64 a1)] [] []
noncomputable def con : FuncId × St × (List Lf → (Res → Option Res) → Option Res) := (59, a 0, run)
theorem cx (K : Res → Option Res) : CtxOk Go.Proofs.Tryd.prog Γ0 byt0 eqs0 (X K) os := ⟨rfl, rfl, rfl, (fun p hp => by
 rcases List.mem_cons.1 hp with rfl | hp
 ·exact impl_NumOk.ok
 cases hp), rfl, rfl, rfl, rfl⟩
theorem tie (K : Res → Option Res) (a1 : Int) : exec (X K) c (entry 6 [one (.int .i64 a1)] [] []) (endK (X K)) = g a1 (fun r1 => K (m r1)) := Eq.trans (b := b a1 (fun r1 => K (m r1))) (by kernel_rfl) (by rw [e])
theorem runv {l : List Lf} {K : Res → Option Res} {r : Res} (h : run l K = some r) : ∃ a1, l = [.i a1] ∧ g a1 (fun r1 => K (m r1)) = some r := by
 unfold run at h; split at h
 ·exact ⟨_, rfl, h⟩
 ·cases h
theorem ok : Con Go.Proofs.Tryd.prog con := con_of (fn := Go.Proofs.Tryd.f59) (c := c) (Fi := fi) (X := X) (fun_of laid (by kernel_rfl) (by kernel_rfl) (by kernel_rfl) rfl (by kernel_rfl) (by kernel_rfl) cx (fun _ => rfl) (fun _ => rfl) (fun K => by
 rw [show loopsOf c = [] from by kernel_rfl]; intro p hp
 cases hp)) fun xs rows boxes K r hl hr => by
 obtain ⟨a1, e, h⟩ := runv hr
 have := St.like_eq (y := a a1) hl (by kernel_rfl) e
 obtain ⟨rfl, rfl, rfl⟩ := argSt_inj this
 exact (tie K a1).trans h
end impl_allRight_1
namespace slices_IndexFunc_int_int_i2
noncomputable def c : Code := bodyOf Go.Proofs.Tryd.f80
noncomputable def fi : Fin := ⟨Γ0, [(.tmp 4, 3)], [[1]], [], [], []⟩
noncomputable def m (r1 : Int) : Res := ⟨[⟨false, [.int .i64 r1]⟩], [], [], [], []⟩
noncomputable def b0 : Code := codeAt c [1, 0, 1, 0, 0]
noncomputable def s0 (x2 : List Int) (x3 x4 : Int) : St := ⟨mkT 19 [(0, one (.tr 0 1 [.int .i64] (.ints x2))), (1, one (.fn 59 [])), (7, one (.int .i64 x3)), (8, one (.int .i64 x4))], [], []⟩
noncomputable def l0s (x2 : List Int) (x3 : Int) (rec : Int → Option Res) (k : Option Res) (R : Int → Option Res) (x4 : Int) : Option Res :=
 bif decide (x4 < x3) then (bif decide (0 ≤ x4) && decide (x4 < (x2.length : Int)) then (impl_allRight_1.g (x2.getD x4.toNat 0) fun r5 =>
  bif r5 then R x4
  else rec (IntKind.i64.wrap (x4 + 1)))
  else none)
 else k
noncomputable def l0 (x2 : List Int) (x3 : Int) (k : Option Res) (R : Int → Option Res) : Nat → Int → Option Res
 | 0, _ => none
 | n + 1, x4 => l0s x2 x3 (fun x4 => l0 x2 x3 k R n x4) k R x4
noncomputable def o0 (x2 : List Int) (x3 : Int) : St := ⟨mkT 19 [], [], []⟩
noncomputable def p0 (K : Res → Option Res) : List Lf → (St → Option Res) → Option Res
 | [.q (.ints x2), .i x3, .i x4], k => l0 x2 x3 (k (o0 x2 x3)) (fun r1 => K (m r1)) fuel x4
 | _, _ => none
noncomputable def os : List (FuncId × St × (List Lf → (Res → Option Res) → Option Res)) := [impl_allRight_1.con]
noncomputable def X (K : Res → Option Res) : Ctx := { Γ := Γ0, orc := orcOf os, io := [], share := [], mvl := [], bun := [], cut := [], own := [], cin := [(0, ⟨[0, 1, 7, 8], [], [], [], [], []⟩)], cout := [(0, ⟨[], [], [], [], [], []⟩)], lp := lpOf [(0, s0 [] 0 0, p0 K)], kl := [], nk := true, eqs := eqs0, byt := byt0, fin := finK fi K }
noncomputable def b (a1 : List Int) (R : Int → Option Res) : Option Res :=
 l0 a1 (a1.length : Int) (
 R (-1)) R fuel 0
theorem gx : ∃ x : List Int → (Int → Option Res) → Option Res, x = b := ⟨_, rfl⟩
noncomputable def g : List Int → (Int → Option Res) → Option Res := Classical.choose gx
theorem e : g = b := Classical.choose_spec gx
noncomputable def run : List Lf → (Res → Option Res) → Option Res
 | [.q (.ints a1)], K => g a1 (fun r1 => K (m r1))
 | _, _ => none
noncomputable def a (a1 : List Int) : St := argSt [one (.tr 0 1 [.int .i64] (.ints a1)), one (.fn 59 [])] [] []
noncomputable def con : FuncId × St × (List Lf → (Res → Option Res) → Option Res) := (80, a [], run)
theorem cx (K : Res → Option Res) : CtxOk Go.Proofs.Tryd.prog Γ0 byt0 eqs0 (X K) os := ⟨rfl, rfl, rfl, (fun p hp => by
 rcases List.mem_cons.1 hp with rfl | hp
 ·exact impl_allRight_1.ok
 cases hp), rfl, rfl, rfl, rfl⟩
theorem t0 (K : Res → Option Res) (k : St → Option Res) (it : St → (St → Option Res) → Option Res) (x2 : List Int) (x3 x4 : Int) : iterS (X K) 0 b0 it (s0 x2 x3 x4) k = l0s x2 x3 (fun x4 => it (s0 x2 x3 x4) k) (k (o0 x2 x3)) (fun r1 => K (m r1)) x4 := by kernel_rfl
theorem i0 (K : Res → Option Res) (k : St → Option Res) (x2 : List Int) (x3 : Int) : ∀ (n : Nat) (x4 : Int), iter (X K) 0 b0 n (s0 x2 x3 x4) k = l0 x2 x3 (k (o0 x2 x3)) (fun r1 => K (m r1)) n x4
 | 0, _ => rfl
 | n + 1, x4 => by
  rw [iter_succ, t0, show (fun x4 => iter (X K) 0 b0 n (s0 x2 x3 x4) k) = (fun x4 => l0 x2 x3 (k (o0 x2 x3)) (fun r1 => K (m r1)) n x4) from funext fun x4 => i0 K k x2 x3 n x4]; rfl
theorem v0 {K : Res → Option Res} {l : List Lf} {k : St → Option Res} {r : Res} (h : p0 K l k = some r) : ∃ x2 x3 x4, l = [.q (.ints x2), .i x3, .i x4] ∧ l0 x2 x3 (k (o0 x2 x3)) (fun r1 => K (m r1)) fuel x4 = some r := by
 unfold p0 at h; split at h
 ·exact ⟨_, _, _, rfl, h⟩
 ·cases h
theorem w0 (K : Res → Option Res) : LpSound Go.Proofs.Tryd.prog (X K) 0 b0 := lp_ok ((cx K).ok laid) (by rw [show loopsOf b0 = [] from by kernel_rfl]; intro p hp; cases hp) rfl fun p hp hid => by
 rcases List.mem_cons.1 hp with rfl | hp
 ·intro st k r h1 h2; obtain ⟨x2, x3, x4, e, h⟩ := v0 (K := K) h2; have := St.like_eq (y := s0 x2 x3 x4) h1 (by kernel_rfl) e; subst this; exact ⟨fuel, (i0 K k x2 x3 fuel x4).trans h⟩
 cases hp
theorem tie (K : Res → Option Res) (a1 : List Int) : exec (X K) c (entry 19 [one (.tr 0 1 [.int .i64] (.ints a1)), one (.fn 59 [])] [] []) (endK (X K)) = g a1 (fun r1 => K (m r1)) := Eq.trans (b := b a1 (fun r1 => K (m r1))) (by kernel_rfl) (by rw [e])
theorem runv {l : List Lf} {K : Res → Option Res} {r : Res} (h : run l K = some r) : ∃ a1, l = [.q (.ints a1)] ∧ g a1 (fun r1 => K (m r1)) = some r := by
 unfold run at h; split at h
 ·exact ⟨_, rfl, h⟩
 ·cases h
theorem ok : Con Go.Proofs.Tryd.prog con := con_of (fn := Go.Proofs.Tryd.f80) (c := c) (Fi := fi) (X := X) (fun_of laid (by kernel_rfl) (by kernel_rfl) (by kernel_rfl) rfl (by kernel_rfl) (by kernel_rfl) cx (fun _ => rfl) (fun _ => rfl) (fun K => by
 rw [show loopsOf c = [(0, b0)] from by kernel_rfl]; intro p hp
 rcases List.mem_cons.1 hp with rfl | hp
 ·exact w0 K
 cases hp)) fun xs rows boxes K r hl hr => by
 obtain ⟨a1, e, h⟩ := runv hr
 have := St.like_eq (y := a a1) hl (by kernel_rfl) e
 obtain ⟨rfl, rfl, rfl⟩ := argSt_inj this
 exact (tie K a1).trans h
end slices_IndexFunc_int_int_i2
namespace slices_ContainsFunc_int_int_i2
noncomputable def c : Code := bodyOf Go.Proofs.Tryd.f58
noncomputable def fi : Fin := ⟨Γ0, [(.tmp 4, 4)], [[1]], [], [], []⟩
noncomputable def m (r1 : Bool) : Res := ⟨[⟨false, [.bool r1]⟩], [], [], [], []⟩
noncomputable def os : List (FuncId × St × (List Lf → (Res → Option Res) → Option Res)) := [slices_IndexFunc_int_int_i2.con]
noncomputable def X (K : Res → Option Res) : Ctx := { Γ := Γ0, orc := orcOf os, io := [], share := [], mvl := [], bun := [], cut := [], own := [], cin := [], cout := [], lp := lpOf [], kl := [], nk := true, eqs := eqs0, byt := byt0, fin := finK fi K }
noncomputable def b (a1 : List Int) (R : Bool → Option Res) : Option Res :=
 slices_IndexFunc_int_int_i2.g a1 fun r2 =>
 R (decide (0 ≤ r2))
theorem gx : ∃ x : List Int → (Bool → Option Res) → Option Res, x = b := ⟨_, rfl⟩
noncomputable def g : List Int → (Bool → Option Res) → Option Res := Classical.choose gx
theorem e : g = b := Classical.choose_spec gx
noncomputable def run : List Lf → (Res → Option Res) → Option Res
 | [.q (.ints a1)], K => g a1 (fun r1 => K (m r1))
 | _, _ => none
noncomputable def a (a1 : List Int) : St := argSt [one (.tr 0 1 [.int .i64] (.ints a1)), one (.fn 59 [])] [] []
noncomputable def con : FuncId × St × (List Lf → (Res → Option Res) → Option Res) := (58, a [], run)
theorem cx (K : Res → Option Res) : CtxOk Go.Proofs.Tryd.prog Γ0 byt0 eqs0 (X K) os := ⟨rfl, rfl, rfl, (fun p hp => by
 rcases List.mem_cons.1 hp with rfl | hp
 ·exact slices_IndexFunc_int_int_i2.ok
 cases hp), rfl, rfl, rfl, rfl⟩
theorem tie (K : Res → Option Res) (a1 : List Int) : exec (X K) c (entry 9 [one (.tr 0 1 [.int .i64] (.ints a1)), one (.fn 59 [])] [] []) (endK (X K)) = g a1 (fun r1 => K (m r1)) := Eq.trans (b := b a1 (fun r1 => K (m r1))) (by kernel_rfl) (by rw [e])
theorem runv {l : List Lf} {K : Res → Option Res} {r : Res} (h : run l K = some r) : ∃ a1, l = [.q (.ints a1)] ∧ g a1 (fun r1 => K (m r1)) = some r := by
 unfold run at h; split at h
 ·exact ⟨_, rfl, h⟩
 ·cases h
theorem ok : Con Go.Proofs.Tryd.prog con := con_of (fn := Go.Proofs.Tryd.f58) (c := c) (Fi := fi) (X := X) (fun_of laid (by kernel_rfl) (by kernel_rfl) (by kernel_rfl) rfl (by kernel_rfl) (by kernel_rfl) cx (fun _ => rfl) (fun _ => rfl) (fun K => by
 rw [show loopsOf c = [] from by kernel_rfl]; intro p hp
 cases hp)) fun xs rows boxes K r hl hr => by
 obtain ⟨a1, e, h⟩ := runv hr
 have := St.like_eq (y := a a1) hl (by kernel_rfl) e
 obtain ⟨rfl, rfl, rfl⟩ := argSt_inj this
 exact (tie K a1).trans h
end slices_ContainsFunc_int_int_i2
namespace impl_allRight
noncomputable def c : Code := bodyOf Go.Proofs.Tryd.f38
noncomputable def fi : Fin := ⟨Γ0, [(.tmp 2, 4)], [[1]], [], [], []⟩
noncomputable def m (r1 : Bool) : Res := ⟨[⟨false, [.bool r1]⟩], [], [], [], []⟩
noncomputable def os : List (FuncId × St × (List Lf → (Res → Option Res) → Option Res)) := [slices_ContainsFunc_int_int_i2.con]
noncomputable def X (K : Res → Option Res) : Ctx := { Γ := Γ0, orc := orcOf os, io := [], share := [], mvl := [], bun := [], cut := [], own := [], cin := [], cout := [], lp := lpOf [], kl := [], nk := true, eqs := eqs0, byt := byt0, fin := finK fi K }
noncomputable def b (a1 : List Int) (R : Bool → Option Res) : Option Res :=
 slices_ContainsFunc_int_int_i2.g a1 fun r2 =>
 R (!r2)
theorem gx : ∃ x : List Int → (Bool → Option Res) → Option Res, x = b := ⟨_, rfl⟩
noncomputable def g : List Int → (Bool → Option Res) → Option Res := Classical.choose gx
theorem e : g = b := Classical.choose_spec gx
noncomputable def run : List Lf → (Res → Option Res) → Option Res
 | [.q (.ints a1)], K => g a1 (fun r1 => K (m r1))
 | _, _ => none
noncomputable def a (a1 : List Int) : St := argSt [one (.tr 0 1 [.int .i64] (.ints a1))] [] []
noncomputable def con : FuncId × St × (List Lf → (Res → Option Res) → Option Res) := (38, a [], run)
theorem cx (K : Res → Option Res) : CtxOk Go.Proofs.Tryd.prog Γ0 byt0 eqs0 (X K) os := ⟨rfl, rfl, rfl, (fun p hp => by
 rcases List.mem_cons.1 hp with rfl | hp
 ·exact slices_ContainsFunc_int_int_i2.ok
 cases hp), rfl, rfl, rfl, rfl⟩
theorem tie (K : Res → Option Res) (a1 : List Int) : exec (X K) c (entry 6 [one (.tr 0 1 [.int .i64] (.ints a1))] [] []) (endK (X K)) = g a1 (fun r1 => K (m r1)) := Eq.trans (b := b a1 (fun r1 => K (m r1))) (by kernel_rfl) (by rw [e])
theorem runv {l : List Lf} {K : Res → Option Res} {r : Res} (h : run l K = some r) : ∃ a1, l = [.q (.ints a1)] ∧ g a1 (fun r1 => K (m r1)) = some r := by
 unfold run at h; split at h
 ·exact ⟨_, rfl, h⟩
 ·cases h
theorem ok : Con Go.Proofs.Tryd.prog con := con_of (fn := Go.Proofs.Tryd.f38) (c := c) (Fi := fi) (X := X) (fun_of laid (by kernel_rfl) (by kernel_rfl) (by kernel_rfl) rfl (by kernel_rfl) (by kernel_rfl) cx (fun _ => rfl) (fun _ => rfl) (fun K => by
 rw [show loopsOf c = [] from by kernel_rfl]; intro p hp
 cases hp)) fun xs rows boxes K r hl hr => by
 obtain ⟨a1, e, h⟩ := runv hr
 have := St.like_eq (y := a a1) hl (by kernel_rfl) e
 obtain ⟨rfl, rfl, rfl⟩ := argSt_inj this
 exact (tie K a1).trans h
end impl_allRight
namespace impl_ShowWide
noncomputable def c : Code := bodyOf Go.Proofs.Tryd.f14
noncomputable def fi : Fin := ⟨Γ0, [(.tmp 2, 3)], [[1]], [], [], []⟩
noncomputable def m (r1 : Int) : Res := ⟨[⟨false, [.int .i64 r1]⟩], [], [], [], []⟩
noncomputable def b0 : Code := codeAt c [1, 1, 1, 0, 1, 0, 0]
noncomputable def s0 (x3 : Int) (x4 : List Int) (x5 x6 : Int) : St := ⟨mkT 22 [(3, one (.int .i64 x3)), (9, one (.tr 0 1 [.int .i64] (.ints x4))), (10, one (.int .i64 x5)), (11, one (.int .i64 x6))], [], []⟩
noncomputable def l0s (x4 : List Int) (x5 : Int) (rec : Int → Int → Option Res) (k : Int → Option Res) (x3 x6 : Int) : Option Res :=
 bif decide (x6 < x5) then (bif decide (0 ≤ x6) && decide (x6 < (x4.length : Int)) then (impl_ShowNum.g (x4.getD x6.toNat 0) fun r7 =>
  rec (minmax true x3 (r7.size : Int)) (IntKind.i64.wrap (x6 + 1)))
  else none)
 else k x3
noncomputable def l0 (x4 : List Int) (x5 : Int) (k : Int → Option Res) : Nat → Int → Int → Option Res
 | 0, _, _ => none
 | n + 1, x3, x6 => l0s x4 x5 (fun x3 x6 => l0 x4 x5 k n x3 x6) k x3 x6
noncomputable def o0 (x4 : List Int) (x5 y1 : Int) : St := ⟨mkT 22 [(3, one (.int .i64 y1))], [], []⟩
noncomputable def p0 (K : Res → Option Res) : List Lf → (St → Option Res) → Option Res
 | [.i x3, .q (.ints x4), .i x5, .i x6], k => l0 x4 x5 (fun y1 => k (o0 x4 x5 y1)) fuel x3 x6
 | _, _ => none
noncomputable def os : List (FuncId × St × (List Lf → (Res → Option Res) → Option Res)) := [impl_allRight.con, impl_ShowNum.con]
noncomputable def X (K : Res → Option Res) : Ctx := { Γ := Γ0, orc := orcOf os, io := [], share := [], mvl := [], bun := [], cut := [], own := [], cin := [(0, ⟨[3, 9, 10, 11], [], [], [], [], []⟩)], cout := [(0, ⟨[3], [], [], [], [], []⟩)], lp := lpOf [(0, s0 0 [] 0 0, p0 K)], kl := [], nk := true, eqs := eqs0, byt := byt0, fin := finK fi K }
noncomputable def b (a1 : List Int) (R : Int → Option Res) : Option Res :=
 impl_allRight.g a1 fun r2 =>
 bif !r2 then R (-1)
 else (l0 a1 (a1.length : Int) (fun y8 =>
 R y8) fuel 0 0)
theorem gx : ∃ x : List Int → (Int → Option Res) → Option Res, x = b := ⟨_, rfl⟩
noncomputable def g : List Int → (Int → Option Res) → Option Res := Classical.choose gx
theorem e : g = b := Classical.choose_spec gx
noncomputable def run : List Lf → (Res → Option Res) → Option Res
 | [.q (.ints a1)], K => g a1 (fun r1 => K (m r1))
 | _, _ => none
noncomputable def a (a1 : List Int) : St := argSt [one (.tr 0 1 [.int .i64] (.ints a1))] [] []
noncomputable def con : FuncId × St × (List Lf → (Res → Option Res) → Option Res) := (14, a [], run)
theorem cx (K : Res → Option Res) : CtxOk Go.Proofs.Tryd.prog Γ0 byt0 eqs0 (X K) os := ⟨rfl, rfl, rfl, (fun p hp => by
 rcases List.mem_cons.1 hp with rfl | hp
 ·exact impl_allRight.ok
 rcases List.mem_cons.1 hp with rfl | hp
 ·exact impl_ShowNum.ok
 cases hp), rfl, rfl, rfl, rfl⟩
theorem t0 (K : Res → Option Res) (k : St → Option Res) (it : St → (St → Option Res) → Option Res) (x3 : Int) (x4 : List Int) (x5 x6 : Int) : iterS (X K) 0 b0 it (s0 x3 x4 x5 x6) k = l0s x4 x5 (fun x3 x6 => it (s0 x3 x4 x5 x6) k) (fun y1 => k (o0 x4 x5 y1)) x3 x6 := by kernel_rfl
theorem i0 (K : Res → Option Res) (k : St → Option Res) (x4 : List Int) (x5 : Int) : ∀ (n : Nat) (x3 x6 : Int), iter (X K) 0 b0 n (s0 x3 x4 x5 x6) k = l0 x4 x5 (fun y1 => k (o0 x4 x5 y1)) n x3 x6
 | 0, _, _ => rfl
 | n + 1, x3, x6 => by
  rw [iter_succ, t0, show (fun x3 x6 => iter (X K) 0 b0 n (s0 x3 x4 x5 x6) k) = (fun x3 x6 => l0 x4 x5 (fun y1 => k (o0 x4 x5 y1)) n x3 x6) from funext fun x3 => funext fun x6 => i0 K k x4 x5 n x3 x6]; rfl
theorem v0 {K : Res → Option Res} {l : List Lf} {k : St → Option Res} {r : Res} (h : p0 K l k = some r) : ∃ x3 x4 x5 x6, l = [.i x3, .q (.ints x4), .i x5, .i x6] ∧ l0 x4 x5 (fun y1 => k (o0 x4 x5 y1)) fuel x3 x6 = some r := by
 unfold p0 at h; split at h
 ·exact ⟨_, _, _, _, rfl, h⟩
 ·cases h
theorem w0 (K : Res → Option Res) : LpSound Go.Proofs.Tryd.prog (X K) 0 b0 := lp_ok ((cx K).ok laid) (by rw [show loopsOf b0 = [] from by kernel_rfl]; intro p hp; cases hp) rfl fun p hp hid => by
 rcases List.mem_cons.1 hp with rfl | hp
 ·intro st k r h1 h2; obtain ⟨x3, x4, x5, x6, e, h⟩ := v0 (K := K) h2; have := St.like_eq (y := s0 x3 x4 x5 x6) h1 (by kernel_rfl) e; subst this; exact ⟨fuel, (i0 K k x4 x5 fuel x3 x6).trans h⟩
 cases hp
theorem tie (K : Res → Option Res) (a1 : List Int) : exec (X K) c (entry 22 [one (.tr 0 1 [.int .i64] (.ints a1))] [] []) (endK (X K)) = g a1 (fun r1 => K (m r1)) := Eq.trans (b := b a1 (fun r1 => K (m r1))) (by kernel_rfl) (by rw [e])
theorem runv {l : List Lf} {K : Res → Option Res} {r : Res} (h : run l K = some r) : ∃ a1, l = [.q (.ints a1)] ∧ g a1 (fun r1 => K (m r1)) = some r := by
 unfold run at h; split at h
 ·exact ⟨_, rfl, h⟩
 ·cases h
theorem ok : Con Go.Proofs.Tryd.prog con := con_of (fn := Go.Proofs.Tryd.f14) (c := c) (Fi := fi) (X := X) (fun_of laid (by kernel_rfl) (by kernel_rfl) (by kernel_rfl) rfl (by kernel_rfl) (by kernel_rfl) cx (fun _ => rfl) (fun _ => rfl) (fun K => by
 rw [show loopsOf c = [(0, b0)] from by kernel_rfl]; intro p hp
 rcases List.mem_cons.1 hp with rfl | hp
 ·exact w0 K
 cases hp)) fun xs rows boxes K r hl hr => by
 obtain ⟨a1, e, h⟩ := runv hr
 have := St.like_eq (y := a a1) hl (by kernel_rfl) e
 obtain ⟨rfl, rfl, rfl⟩ := argSt_inj this
 exact (tie K a1).trans h
end impl_ShowWide
namespace strings_Join
theorem is : JoinIs Go.Proofs.Tryd.prog 39 := ⟨fun a c sep w => Go.Proofs.Tryd.strings_Join_none a c sep w, fun bk o c xs sep w h1 h2 h3 h4 h5 => Go.Proofs.Tryd.strings_Join bk o c xs sep w h1 h2 h3 h4 h5⟩
noncomputable def g (a1 : List ByteArray) (a2 : ByteArray) (R : ByteArray → Option Res) : Option Res := joinG a1 a2 R
noncomputable def con : FuncId × St × (List Lf → (Res → Option Res) → Option Res) := joinC 39 0 1
theorem ok : Con Go.Proofs.Tryd.prog con := con_join 0 1 (fn := Go.Proofs.Tryd.f39) (by kernel_rfl) (by kernel_rfl) (by kernel_rfl) is
end strings_Join
namespace impl_ShowRow
noncomputable def c : Code := bodyOf Go.Proofs.Tryd.f17
noncomputable def fi : Fin := ⟨Γ0, [(.tmp 2, 9)], [[1]], [], [], []⟩
noncomputable def m (r1 : ByteArray) : Res := ⟨[⟨false, [.str r1]⟩], [], [], [], []⟩
noncomputable def b0 : Code := codeAt c [1, 1, 1, 0, 1, 0, 0]
noncomputable def s0 (x3 : List Int) (x4 x5 : Int) (x6 : List ByteArray) : St := ⟨mkT 23 [(3, one (.ow 7152)), (9, one (.tr 0 1 [.int .i64] (.ints x3))), (10, one (.int .i64 x4)), (11, one (.int .i64 x5))], [(7152, ⟨[.str], .strs x6, true, 0⟩)], []⟩
noncomputable def l0s (x3 : List Int) (x4 : Int) (rec : Int → List ByteArray → Option Res) (k : List ByteArray → Option Res) (x5 : Int) (x6 : List ByteArray) : Option Res :=
 bif decide (x5 < x4) then (bif decide (0 ≤ x5) && decide (x5 < (x3.length : Int)) then (impl_ShowNum.g (x3.getD x5.toNat 0) fun r7 =>
  bif decide ((x6.length + 1) * 16 ≤ 140737488355328) then rec (IntKind.i64.wrap (x5 + 1)) (x6 ++ ([r7] : List ByteArray))
  else none)
  else none)
 else k x6
noncomputable def l0 (x3 : List Int) (x4 : Int) (k : List ByteArray → Option Res) : Nat → Int → List ByteArray → Option Res
 | 0, _, _ => none
 | n + 1, x5, x6 => l0s x3 x4 (fun x5 x6 => l0 x3 x4 k n x5 x6) k x5 x6
noncomputable def o0 (x3 : List Int) (x4 : Int) (y1 : List ByteArray) : St := ⟨mkT 23 [(3, one (.ow 7152))], [(7152, ⟨[.str], .strs y1, true, 0⟩)], []⟩
noncomputable def p0 (K : Res → Option Res) : List Lf → (St → Option Res) → Option Res
 | [.q (.ints x3), .i x4, .i x5, .q (.strs x6)], k => l0 x3 x4 (fun y1 => k (o0 x3 x4 y1)) fuel x5 x6
 | _, _ => none
noncomputable def os : List (FuncId × St × (List Lf → (Res → Option Res) → Option Res)) := [impl_allRight.con, impl_ShowNum.con, strings_Join.con]
noncomputable def X (K : Res → Option Res) : Ctx := { Γ := Γ0, orc := orcOf os, io := [], share := [], mvl := [], bun := [], cut := [], own := [(3, 0, 0, [.str])], cin := [(0, ⟨[3, 9, 10, 11], [(7152, 7152), (15400, 7152)], [], [], [], []⟩)], cout := [(0, ⟨[3], [(7152, 7152)], [], [], [], []⟩)], lp := lpOf [(0, s0 [] 0 0 [], p0 K)], kl := [], nk := true, eqs := eqs0, byt := byt0, fin := finK fi K }
noncomputable def b (a1 : List Int) (R : ByteArray → Option Res) : Option Res :=
 impl_allRight.g a1 fun r2 =>
 bif !r2 then R (⟨#[]⟩ : ByteArray)
 else (l0 a1 (a1.length : Int) (fun y8 =>
 strings_Join.g y8 (⟨#[32]⟩ : ByteArray) fun r9 =>
 R r9) fuel 0 ([] : List ByteArray))
theorem gx : ∃ x : List Int → (ByteArray → Option Res) → Option Res, x = b := ⟨_, rfl⟩
noncomputable def g : List Int → (ByteArray → Option Res) → Option Res := Classical.choose gx
theorem e : g = b := Classical.choose_spec gx
noncomputable def run : List Lf → (Res → Option Res) → Option Res
 | [.q (.ints a1)], K => g a1 (fun r1 => K (m r1))
 | _, _ => none
noncomputable def a (a1 : List Int) : St := argSt [one (.tr 0 1 [.int .i64] (.ints a1))] [] []
noncomputable def con : FuncId × St × (List Lf → (Res → Option Res) → Option Res) := (17, a [], run)
theorem cx (K : Res → Option Res) : CtxOk Go.Proofs.Tryd.prog Γ0 byt0 eqs0 (X K) os := ⟨rfl, rfl, rfl, (fun p hp => by
 rcases List.mem_cons.1 hp with rfl | hp
 ·exact impl_allRight.ok
 rcases List.mem_cons.1 hp with rfl | hp
 ·exact impl_ShowNum.ok
 rcases List.mem_cons.1 hp with rfl | hp
 ·exact strings_Join.ok
 cases hp), rfl, rfl, rfl, rfl⟩
theorem t0 (K : Res → Option Res) (k : St → Option Res) (it : St → (St → Option Res) → Option Res) (x3 : List Int) (x4 x5 : Int) (x6 : List ByteArray) : iterS (X K) 0 b0 it (s0 x3 x4 x5 x6) k = l0s x3 x4 (fun x5 x6 => it (s0 x3 x4 x5 x6) k) (fun y1 => k (o0 x3 x4 y1)) x5 x6 := by kernel_rfl
theorem i0 (K : Res → Option Res) (k : St → Option Res) (x3 : List Int) (x4 : Int) : ∀ (n : Nat) (x5 : Int) (x6 : List ByteArray), iter (X K) 0 b0 n (s0 x3 x4 x5 x6) k = l0 x3 x4 (fun y1 => k (o0 x3 x4 y1)) n x5 x6
 | 0, _, _ => rfl
 | n + 1, x5, x6 => by
  rw [iter_succ, t0, show (fun x5 x6 => iter (X K) 0 b0 n (s0 x3 x4 x5 x6) k) = (fun x5 x6 => l0 x3 x4 (fun y1 => k (o0 x3 x4 y1)) n x5 x6) from funext fun x5 => funext fun x6 => i0 K k x3 x4 n x5 x6]; rfl
theorem v0 {K : Res → Option Res} {l : List Lf} {k : St → Option Res} {r : Res} (h : p0 K l k = some r) : ∃ x3 x4 x5 x6, l = [.q (.ints x3), .i x4, .i x5, .q (.strs x6)] ∧ l0 x3 x4 (fun y1 => k (o0 x3 x4 y1)) fuel x5 x6 = some r := by
 unfold p0 at h; split at h
 ·exact ⟨_, _, _, _, rfl, h⟩
 ·cases h
theorem w0 (K : Res → Option Res) : LpSound Go.Proofs.Tryd.prog (X K) 0 b0 := lp_ok ((cx K).ok laid) (by rw [show loopsOf b0 = [] from by kernel_rfl]; intro p hp; cases hp) rfl fun p hp hid => by
 rcases List.mem_cons.1 hp with rfl | hp
 ·intro st k r h1 h2; obtain ⟨x3, x4, x5, x6, e, h⟩ := v0 (K := K) h2; have := St.like_eq (y := s0 x3 x4 x5 x6) h1 (by kernel_rfl) e; subst this; exact ⟨fuel, (i0 K k x3 x4 fuel x5 x6).trans h⟩
 cases hp
theorem tie (K : Res → Option Res) (a1 : List Int) : exec (X K) c (entry 23 [one (.tr 0 1 [.int .i64] (.ints a1))] [] []) (endK (X K)) = g a1 (fun r1 => K (m r1)) := Eq.trans (b := b a1 (fun r1 => K (m r1))) (by kernel_rfl) (by rw [e])
theorem runv {l : List Lf} {K : Res → Option Res} {r : Res} (h : run l K = some r) : ∃ a1, l = [.q (.ints a1)] ∧ g a1 (fun r1 => K (m r1)) = some r := by
 unfold run at h; split at h
 ·exact ⟨_, rfl, h⟩
 ·cases h
theorem ok : Con Go.Proofs.Tryd.prog con := con_of (fn := Go.Proofs.Tryd.f17) (c := c) (Fi := fi) (X := X) (fun_of laid (by kernel_rfl) (by kernel_rfl) (by kernel_rfl) rfl (by kernel_rfl) (by kernel_rfl) cx (fun _ => rfl) (fun _ => rfl) (fun K => by
 rw [show loopsOf c = [(0, b0)] from by kernel_rfl]; intro p hp
 rcases List.mem_cons.1 hp with rfl | hp
 ·exact w0 K
 cases hp)) fun xs rows boxes K r hl hr => by
 obtain ⟨a1, e, h⟩ := runv hr
 have := St.like_eq (y := a a1) hl (by kernel_rfl) e
 obtain ⟨rfl, rfl, rfl⟩ := argSt_inj this
 exact (tie K a1).trans h
end impl_ShowRow
namespace laws_big
noncomputable def c : Code := bodyOf Go.Proofs.Tryd.f18
noncomputable def fi : Fin := ⟨Γ0, [(.tmp 2, 4)], [[1]], [], [], []⟩
noncomputable def m (r1 : Bool) : Res := ⟨[⟨false, [.bool r1]⟩], [], [], [], []⟩
noncomputable def os : List (FuncId × St × (List Lf → (Res → Option Res) → Option Res)) := []
noncomputable def X (K : Res → Option Res) : Ctx := { Γ := Γ0, orc := orcOf os, io := [], share := [], mvl := [], bun := [], cut := [], own := [], cin := [], cout := [], lp := lpOf [], kl := [], nk := true, eqs := eqs0, byt := byt0, fin := finK fi K }
noncomputable def b (a1 : List Int) (R : Bool → Option Res) : Option Res :=
 R (decide (1048576 < (a1.length : Int)))
theorem gx : ∃ x : List Int → (Bool → Option Res) → Option Res, x = b := ⟨_, rfl⟩
noncomputable def g : List Int → (Bool → Option Res) → Option Res := Classical.choose gx
theorem e : g = b := Classical.choose_spec gx
noncomputable def run : List Lf → (Res → Option Res) → Option Res
 | [.q (.ints a1)], K => g a1 (fun r1 => K (m r1))
 | _, _ => none
noncomputable def a (a1 : List Int) : St := argSt [one (.tr 0 1 [.int .u8] (.ints a1))] [] []
noncomputable def con : FuncId × St × (List Lf → (Res → Option Res) → Option Res) := (18, a [], run)
theorem cx (K : Res → Option Res) : CtxOk Go.Proofs.Tryd.prog Γ0 byt0 eqs0 (X K) os := ⟨rfl, rfl, rfl, (fun p hp => by
 cases hp), rfl, rfl, rfl, rfl⟩
theorem tie (K : Res → Option Res) (a1 : List Int) : exec (X K) c (entry 6 [one (.tr 0 1 [.int .u8] (.ints a1))] [] []) (endK (X K)) = g a1 (fun r1 => K (m r1)) := Eq.trans (b := b a1 (fun r1 => K (m r1))) (by kernel_rfl) (by rw [e])
theorem runv {l : List Lf} {K : Res → Option Res} {r : Res} (h : run l K = some r) : ∃ a1, l = [.q (.ints a1)] ∧ g a1 (fun r1 => K (m r1)) = some r := by
 unfold run at h; split at h
 ·exact ⟨_, rfl, h⟩
 ·cases h
theorem ok : Con Go.Proofs.Tryd.prog con := con_of (fn := Go.Proofs.Tryd.f18) (c := c) (Fi := fi) (X := X) (fun_of laid (by kernel_rfl) (by kernel_rfl) (by kernel_rfl) rfl (by kernel_rfl) (by kernel_rfl) cx (fun _ => rfl) (fun _ => rfl) (fun K => by
 rw [show loopsOf c = [] from by kernel_rfl]; intro p hp
 cases hp)) fun xs rows boxes K r hl hr => by
 obtain ⟨a1, e, h⟩ := runv hr
 have := St.like_eq (y := a a1) hl (by kernel_rfl) e
 obtain ⟨rfl, rfl, rfl⟩ := argSt_inj this
 exact (tie K a1).trans h
end laws_big
namespace spec_l1New
noncomputable def c : Code := bodyOf Go.Proofs.Tryd.f53
noncomputable def fi : Fin := ⟨Γ0, [(.tmp 2, 65)], [[1]], [], [], [(2, [.sl [.int .u8] 1, .int .i64, .int .i64], [0, 1, 1])]⟩
noncomputable def m (r1 : List Int) (r2 r3 : Int) : Res := ⟨[⟨false, [.bp 1000 0]⟩], [], [], [], [[.tr 2 2 [.int .u8] (.ints r1), .int .i64 r2, .int .i64 r3]]⟩
noncomputable def b0 : Code := codeAt c [1, 1, 0, 1, 0, 0]
noncomputable def s0 (x2 : List Int) (x3 x4 : Int) : St := ⟨mkT 32 [(0, one (.tr 2 1 [.int .u8] (.ints x2))), (3, one (.int .i64 x3)), (4, one (.int .i64 x4))], [], []⟩
noncomputable def l0s (x2 : List Int) (rec : Int → Int → Option Res) (k : Int → Option Res) (x3 x4 : Int) : Option Res :=
 bif decide (x4 < (x2.length : Int)) then (bif decide (x4 < 4000) then (bif decide (0 ≤ x4) && decide (x4 < (x2.length : Int)) then rec (arith.bits .and .i64 (IntKind.i64.wrap ((IntKind.i64.wrap ((IntKind.i64.wrap (x3 * 131)) + (IntKind.i64.wrap (x2.getD x4.toNat 0)))) + 7)) 1073741823) (IntKind.i64.wrap (x4 + 1))
  else none)
  else k x3)
 else k x3
noncomputable def l0 (x2 : List Int) (k : Int → Option Res) : Nat → Int → Int → Option Res
 | 0, _, _ => none
 | n + 1, x3, x4 => l0s x2 (fun x3 x4 => l0 x2 k n x3 x4) k x3 x4
noncomputable def o0 (x2 : List Int) (y2 : Int) : St := ⟨mkT 32 [(0, one (.tr 2 1 [.int .u8] (.ints x2))), (3, one (.int .i64 y2))], [], []⟩
noncomputable def p0 (K : Res → Option Res) : List Lf → (St → Option Res) → Option Res
 | [.q (.ints x2), .i x3, .i x4], k => l0 x2 (fun y2 => k (o0 x2 y2)) fuel x3 x4
 | _, _ => none
noncomputable def os : List (FuncId × St × (List Lf → (Res → Option Res) → Option Res)) := []
noncomputable def X (K : Res → Option Res) : Ctx := { Γ := Γ0, orc := orcOf os, io := [], share := [], mvl := [], bun := [], cut := [], own := [], cin := [(0, ⟨[0, 3, 4], [], [], [], [], []⟩)], cout := [(0, ⟨[0, 3], [], [], [], [], []⟩)], lp := lpOf [(0, s0 [] 0 0, p0 K)], kl := [], nk := true, eqs := eqs0, byt := byt0, fin := finK fi K }
noncomputable def b (a1 : List Int) (R : List Int → Int → Int → Option Res) : Option Res :=
 l0 a1 (fun y5 =>
 R a1 0 y5) fuel (IntKind.i64.wrap (18218 + (a1.length : Int))) 0
theorem gx : ∃ x : List Int → (List Int → Int → Int → Option Res) → Option Res, x = b := ⟨_, rfl⟩
noncomputable def g : List Int → (List Int → Int → Int → Option Res) → Option Res := Classical.choose gx
theorem e : g = b := Classical.choose_spec gx
noncomputable def run : List Lf → (Res → Option Res) → Option Res
 | [.q (.ints a1)], K => g a1 (fun r1 r2 r3 => K (m r1 r2 r3))
 | _, _ => none
noncomputable def a (a1 : List Int) : St := argSt [one (.tr 2 1 [.int .u8] (.ints a1))] [] []
noncomputable def con : FuncId × St × (List Lf → (Res → Option Res) → Option Res) := (53, a [], run)
theorem cx (K : Res → Option Res) : CtxOk Go.Proofs.Tryd.prog Γ0 byt0 eqs0 (X K) os := ⟨rfl, rfl, rfl, (fun p hp => by
 cases hp), rfl, rfl, rfl, rfl⟩
theorem t0 (K : Res → Option Res) (k : St → Option Res) (it : St → (St → Option Res) → Option Res) (x2 : List Int) (x3 x4 : Int) : iterS (X K) 0 b0 it (s0 x2 x3 x4) k = l0s x2 (fun x3 x4 => it (s0 x2 x3 x4) k) (fun y2 => k (o0 x2 y2)) x3 x4 := by kernel_rfl
theorem i0 (K : Res → Option Res) (k : St → Option Res) (x2 : List Int) : ∀ (n : Nat) (x3 x4 : Int), iter (X K) 0 b0 n (s0 x2 x3 x4) k = l0 x2 (fun y2 => k (o0 x2 y2)) n x3 x4
 | 0, _, _ => rfl
 | n + 1, x3, x4 => by
  rw [iter_succ, t0, show (fun x3 x4 => iter (X K) 0 b0 n (s0 x2 x3 x4) k) = (fun x3 x4 => l0 x2 (fun y2 => k (o0 x2 y2)) n x3 x4) from funext fun x3 => funext fun x4 => i0 K k x2 n x3 x4]; rfl
theorem v0 {K : Res → Option Res} {l : List Lf} {k : St → Option Res} {r : Res} (h : p0 K l k = some r) : ∃ x2 x3 x4, l = [.q (.ints x2), .i x3, .i x4] ∧ l0 x2 (fun y2 => k (o0 x2 y2)) fuel x3 x4 = some r := by
 unfold p0 at h; split at h
 ·exact ⟨_, _, _, rfl, h⟩
 ·cases h
theorem w0 (K : Res → Option Res) : LpSound Go.Proofs.Tryd.prog (X K) 0 b0 := lp_ok ((cx K).ok laid) (by rw [show loopsOf b0 = [] from by kernel_rfl]; intro p hp; cases hp) rfl fun p hp hid => by
 rcases List.mem_cons.1 hp with rfl | hp
 ·intro st k r h1 h2; obtain ⟨x2, x3, x4, e, h⟩ := v0 (K := K) h2; have := St.like_eq (y := s0 x2 x3 x4) h1 (by kernel_rfl) e; subst this; exact ⟨fuel, (i0 K k x2 fuel x3 x4).trans h⟩
 cases hp
theorem tie (K : Res → Option Res) (a1 : List Int) : exec (X K) c (entry 32 [one (.tr 2 1 [.int .u8] (.ints a1))] [] []) (endK (X K)) = g a1 (fun r1 r2 r3 => K (m r1 r2 r3)) := Eq.trans (b := b a1 (fun r1 r2 r3 => K (m r1 r2 r3))) (by kernel_rfl) (by rw [e])
theorem runv {l : List Lf} {K : Res → Option Res} {r : Res} (h : run l K = some r) : ∃ a1, l = [.q (.ints a1)] ∧ g a1 (fun r1 r2 r3 => K (m r1 r2 r3)) = some r := by
 unfold run at h; split at h
 ·exact ⟨_, rfl, h⟩
 ·cases h
theorem ok : Con Go.Proofs.Tryd.prog con := con_of (fn := Go.Proofs.Tryd.f53) (c := c) (Fi := fi) (X := X) (fun_of laid (by kernel_rfl) (by kernel_rfl) (by kernel_rfl) rfl (by kernel_rfl) (by kernel_rfl) cx (fun _ => rfl) (fun _ => rfl) (fun K => by
 rw [show loopsOf c = [(0, b0)] from by kernel_rfl]; intro p hp
 rcases List.mem_cons.1 hp with rfl | hp
 ·exact w0 K
 cases hp)) fun xs rows boxes K r hl hr => by
 obtain ⟨a1, e, h⟩ := runv hr
 have := St.like_eq (y := a a1) hl (by kernel_rfl) e
 obtain ⟨rfl, rfl, rfl⟩ := argSt_inj this
 exact (tie K a1).trans h
end spec_l1New
namespace spec_l1Byte
noncomputable def c : Code := bodyOf Go.Proofs.Tryd.f83
noncomputable def fi : Fin := ⟨Γ0, [(.tmp 2, 3)], [[1]], [], [([.sl [.int .u8] 1, .int .i64, .int .i64], [0, 1, 1])], []⟩
noncomputable def m (a1 : List Int) (r1 r3 r4 : Int) : Res := ⟨[⟨false, [.int .i64 r1]⟩], [], [], [[.tr 2 2 [.int .u8] (.ints a1), .int .i64 r3, .int .i64 r4]], []⟩
noncomputable def os : List (FuncId × St × (List Lf → (Res → Option Res) → Option Res)) := []
noncomputable def X (K : Res → Option Res) : Ctx := { Γ := Γ0, orc := orcOf os, io := [], share := [], mvl := [], bun := [], cut := [], own := [], cin := [], cout := [], lp := lpOf [], kl := [], nk := true, eqs := eqs0, byt := byt0, fin := finK fi K }
noncomputable def b (a1 : List Int) (a2 a3 : Int) (R : Int → Int → Int → Option Res) : Option Res :=
 bif decide (a2 < (a1.length : Int)) then (bif decide (0 ≤ a2) && decide (a2 < (a1.length : Int)) then R (arith.bits .and .i64 (IntKind.i64.wrap ((arith.bits .and .i64 (arith.bits .xor .i64 ((IntKind.i64.wrap ((IntKind.i64.wrap (a3 * 6364136223846793005)) + 1442695040888963407)).fdiv (2 ^ 33)) ((IntKind.i64.wrap ((IntKind.i64.wrap (a3 * 6364136223846793005)) + 1442695040888963407)).fdiv (2 ^ 45))) 255) + (IntKind.i64.wrap (a1.getD a2.toNat 0)))) 255) (IntKind.i64.wrap (a2 + 1)) (IntKind.i64.wrap ((IntKind.i64.wrap (a3 * 6364136223846793005)) + 1442695040888963407))
  else none)
 else R (arith.bits .and .i64 (arith.bits .xor .i64 ((IntKind.i64.wrap ((IntKind.i64.wrap (a3 * 6364136223846793005)) + 1442695040888963407)).fdiv (2 ^ 33)) ((IntKind.i64.wrap ((IntKind.i64.wrap (a3 * 6364136223846793005)) + 1442695040888963407)).fdiv (2 ^ 45))) 255) a2 (IntKind.i64.wrap ((IntKind.i64.wrap (a3 * 6364136223846793005)) + 1442695040888963407))
theorem gx : ∃ x : List Int → Int → Int → (Int → Int → Int → Option Res) → Option Res, x = b := ⟨_, rfl⟩
noncomputable def g : List Int → Int → Int → (Int → Int → Int → Option Res) → Option Res := Classical.choose gx
theorem e : g = b := Classical.choose_spec gx
noncomputable def run : List Lf → (Res → Option Res) → Option Res
 | [.q (.ints a1), .i a2, .i a3], K => g a1 a2 a3 (fun r1 r3 r4 => K (m a1 r1 r3 r4))
 | _, _ => none
noncomputable def a (a1 : List Int) (a2 a3 : Int) : St := argSt [one (.bp 0 0)] [] [[.tr 2 2 [.int .u8] (.ints a1), .int .i64 a2, .int .i64 a3]]
noncomputable def con : FuncId × St × (List Lf → (Res → Option Res) → Option Res) := (83, a [] 0 0, run)
theorem cx (K : Res → Option Res) : CtxOk Go.Proofs.Tryd.prog Γ0 byt0 eqs0 (X K) os := ⟨rfl, rfl, rfl, (fun p hp => by
 cases hp), rfl, rfl, rfl, rfl⟩
theorem tie (K : Res → Option Res) (a1 : List Int) (a2 a3 : Int) : exec (X K) c (entry 58 [one (.bp 0 0)] [] [[.tr 2 2 [.int .u8] (.ints a1), .int .i64 a2, .int .i64 a3]]) (endK (X K)) = g a1 a2 a3 (fun r1 r3 r4 => K (m a1 r1 r3 r4)) := Eq.trans (b := b a1 a2 a3 (fun r1 r3 r4 => K (m a1 r1 r3 r4))) (by kernel_rfl) (by rw [e])
theorem runv {l : List Lf} {K : Res → Option Res} {r : Res} (h : run l K = some r) : ∃ a1 a2 a3, l = [.q (.ints a1), .i a2, .i a3] ∧ g a1 a2 a3 (fun r1 r3 r4 => K (m a1 r1 r3 r4)) = some r := by
 unfold run at h; split at h
 ·exact ⟨_, _, _, rfl, h⟩
 ·cases h
theorem ok : Con Go.Proofs.Tryd.prog con := con_of (fn := Go.Proofs.Tryd.f83) (c := c) (Fi := fi) (X := X) (fun_of laid (by kernel_rfl) (by kernel_rfl) (by kernel_rfl) rfl (by kernel_rfl) (by kernel_rfl) cx (fun _ => rfl) (fun _ => rfl) (fun K => by
 rw [show loopsOf c = [] from by kernel_rfl]; intro p hp
 cases hp)) fun xs rows boxes K r hl hr => by
 obtain ⟨a1, a2, a3, e, h⟩ := runv hr
 have := St.like_eq (y := a a1 a2 a3) hl (by kernel_rfl) e
 obtain ⟨rfl, rfl, rfl⟩ := argSt_inj this
 exact (tie K a1 a2 a3).trans h
end spec_l1Byte
namespace spec_l1Below
noncomputable def c : Code := bodyOf Go.Proofs.Tryd.f63
noncomputable def fi : Fin := ⟨Γ0, [(.tmp 4, 3)], [[1]], [], [([.sl [.int .u8] 1, .int .i64, .int .i64], [0, 1, 1])], []⟩
noncomputable def m (a2 : List Int) (r1 r3 r4 : Int) : Res := ⟨[⟨false, [.int .i64 r1]⟩], [], [], [[.tr 2 2 [.int .u8] (.ints a2), .int .i64 r3, .int .i64 r4]], []⟩
noncomputable def os : List (FuncId × St × (List Lf → (Res → Option Res) → Option Res)) := [spec_l1Byte.con]
noncomputable def X (K : Res → Option Res) : Ctx := { Γ := Γ0, orc := orcOf os, io := [], share := [], mvl := [], bun := [], cut := [], own := [], cin := [], cout := [], lp := lpOf [], kl := [], nk := true, eqs := eqs0, byt := byt0, fin := finK fi K }
noncomputable def b (a1 : Int) (a2 : List Int) (a3 a4 : Int) (R : Int → Int → Int → Option Res) : Option Res :=
 bif decide (a1 ≤ 0) then R 0 a3 a4
 else bif decide (a1 ≤ 256) then (spec_l1Byte.g a2 a3 a4 fun r5 r6 r7 =>
  bif decide (a1 = 0) then none
  else R (r5.tmod a1) r6 r7)
 else (spec_l1Byte.g a2 a3 a4 fun r8 r9 r10 =>
 spec_l1Byte.g a2 r9 r10 fun r11 r12 r13 =>
 spec_l1Byte.g a2 r12 r13 fun r14 r15 r16 =>
 spec_l1Byte.g a2 r15 r16 fun r17 r18 r19 =>
 bif decide (a1 = 0) then none
 else R ((IntKind.i64.wrap ((IntKind.i64.wrap ((IntKind.i64.wrap ((IntKind.i64.wrap (r8 * 16777216)) + (IntKind.i64.wrap (r11 * 65536)))) + (IntKind.i64.wrap (r14 * 256)))) + r17)).tmod a1) r18 r19)
theorem gx : ∃ x : Int → List Int → Int → Int → (Int → Int → Int → Option Res) → Option Res, x = b := ⟨_, rfl⟩
noncomputable def g : Int → List Int → Int → Int → (Int → Int → Int → Option Res) → Option Res := Classical.choose gx
theorem e : g = b := Classical.choose_spec gx
noncomputable def run : List Lf → (Res → Option Res) → Option Res
 | [.i a1, .q (.ints a2), .i a3, .i a4], K => g a1 a2 a3 a4 (fun r1 r3 r4 => K (m a2 r1 r3 r4))
 | _, _ => none
noncomputable def a (a1 : Int) (a2 : List Int) (a3 a4 : Int) : St := argSt [one (.bp 0 0), one (.int .i64 a1)] [] [[.tr 2 2 [.int .u8] (.ints a2), .int .i64 a3, .int .i64 a4]]
noncomputable def con : FuncId × St × (List Lf → (Res → Option Res) → Option Res) := (63, a 0 [] 0 0, run)
theorem cx (K : Res → Option Res) : CtxOk Go.Proofs.Tryd.prog Γ0 byt0 eqs0 (X K) os := ⟨rfl, rfl, rfl, (fun p hp => by
 rcases List.mem_cons.1 hp with rfl | hp
 ·exact spec_l1Byte.ok
 cases hp), rfl, rfl, rfl, rfl⟩
theorem tie (K : Res → Option Res) (a1 : Int) (a2 : List Int) (a3 a4 : Int) : exec (X K) c (entry 37 [one (.bp 0 0), one (.int .i64 a1)] [] [[.tr 2 2 [.int .u8] (.ints a2), .int .i64 a3, .int .i64 a4]]) (endK (X K)) = g a1 a2 a3 a4 (fun r1 r3 r4 => K (m a2 r1 r3 r4)) := Eq.trans (b := b a1 a2 a3 a4 (fun r1 r3 r4 => K (m a2 r1 r3 r4))) (by kernel_rfl) (by rw [e])
theorem runv {l : List Lf} {K : Res → Option Res} {r : Res} (h : run l K = some r) : ∃ a1 a2 a3 a4, l = [.i a1, .q (.ints a2), .i a3, .i a4] ∧ g a1 a2 a3 a4 (fun r1 r3 r4 => K (m a2 r1 r3 r4)) = some r := by
 unfold run at h; split at h
 ·exact ⟨_, _, _, _, rfl, h⟩
 ·cases h
theorem ok : Con Go.Proofs.Tryd.prog con := con_of (fn := Go.Proofs.Tryd.f63) (c := c) (Fi := fi) (X := X) (fun_of laid (by kernel_rfl) (by kernel_rfl) (by kernel_rfl) rfl (by kernel_rfl) (by kernel_rfl) cx (fun _ => rfl) (fun _ => rfl) (fun K => by
 rw [show loopsOf c = [] from by kernel_rfl]; intro p hp
 cases hp)) fun xs rows boxes K r hl hr => by
 obtain ⟨a1, a2, a3, a4, e, h⟩ := runv hr
 have := St.like_eq (y := a a1 a2 a3 a4) hl (by kernel_rfl) e
 obtain ⟨rfl, rfl, rfl⟩ := argSt_inj this
 exact (tie K a1 a2 a3 a4).trans h
end spec_l1Below
namespace spec_l1Once
noncomputable def c : Code := bodyOf Go.Proofs.Tryd.f65
noncomputable def fi : Fin := ⟨Γ0, [(.tmp 4, 4)], [[1]], [], [([.sl [.int .u8] 1, .int .i64, .int .i64], [0, 1, 1])], []⟩
noncomputable def m (a2 : List Int) (r1 : Bool) (r3 r4 : Int) : Res := ⟨[⟨false, [.bool r1]⟩], [], [], [[.tr 2 2 [.int .u8] (.ints a2), .int .i64 r3, .int .i64 r4]], []⟩
noncomputable def os : List (FuncId × St × (List Lf → (Res → Option Res) → Option Res)) := [spec_l1Below.con]
noncomputable def X (K : Res → Option Res) : Ctx := { Γ := Γ0, orc := orcOf os, io := [], share := [], mvl := [], bun := [], cut := [], own := [], cin := [], cout := [], lp := lpOf [], kl := [], nk := true, eqs := eqs0, byt := byt0, fin := finK fi K }
noncomputable def b (a1 : Int) (a2 : List Int) (a3 a4 : Int) (R : Bool → Int → Int → Option Res) : Option Res :=
 spec_l1Below.g a1 a2 a3 a4 fun r5 r6 r7 =>
 R (r5 == 0) r6 r7
theorem gx : ∃ x : Int → List Int → Int → Int → (Bool → Int → Int → Option Res) → Option Res, x = b := ⟨_, rfl⟩
noncomputable def g : Int → List Int → Int → Int → (Bool → Int → Int → Option Res) → Option Res := Classical.choose gx
theorem e : g = b := Classical.choose_spec gx
noncomputable def run : List Lf → (Res → Option Res) → Option Res
 | [.i a1, .q (.ints a2), .i a3, .i a4], K => g a1 a2 a3 a4 (fun r1 r3 r4 => K (m a2 r1 r3 r4))
 | _, _ => none
noncomputable def a (a1 : Int) (a2 : List Int) (a3 a4 : Int) : St := argSt [one (.bp 0 0), one (.int .i64 a1)] [] [[.tr 2 2 [.int .u8] (.ints a2), .int .i64 a3, .int .i64 a4]]
noncomputable def con : FuncId × St × (List Lf → (Res → Option Res) → Option Res) := (65, a 0 [] 0 0, run)
theorem cx (K : Res → Option Res) : CtxOk Go.Proofs.Tryd.prog Γ0 byt0 eqs0 (X K) os := ⟨rfl, rfl, rfl, (fun p hp => by
 rcases List.mem_cons.1 hp with rfl | hp
 ·exact spec_l1Below.ok
 cases hp), rfl, rfl, rfl, rfl⟩
theorem tie (K : Res → Option Res) (a1 : Int) (a2 : List Int) (a3 a4 : Int) : exec (X K) c (entry 9 [one (.bp 0 0), one (.int .i64 a1)] [] [[.tr 2 2 [.int .u8] (.ints a2), .int .i64 a3, .int .i64 a4]]) (endK (X K)) = g a1 a2 a3 a4 (fun r1 r3 r4 => K (m a2 r1 r3 r4)) := Eq.trans (b := b a1 a2 a3 a4 (fun r1 r3 r4 => K (m a2 r1 r3 r4))) (by kernel_rfl) (by rw [e])
theorem runv {l : List Lf} {K : Res → Option Res} {r : Res} (h : run l K = some r) : ∃ a1 a2 a3 a4, l = [.i a1, .q (.ints a2), .i a3, .i a4] ∧ g a1 a2 a3 a4 (fun r1 r3 r4 => K (m a2 r1 r3 r4)) = some r := by
 unfold run at h; split at h
 ·exact ⟨_, _, _, _, rfl, h⟩
 ·cases h
theorem ok : Con Go.Proofs.Tryd.prog con := con_of (fn := Go.Proofs.Tryd.f65) (c := c) (Fi := fi) (X := X) (fun_of laid (by kernel_rfl) (by kernel_rfl) (by kernel_rfl) rfl (by kernel_rfl) (by kernel_rfl) cx (fun _ => rfl) (fun _ => rfl) (fun K => by
 rw [show loopsOf c = [] from by kernel_rfl]; intro p hp
 cases hp)) fun xs rows boxes K r hl hr => by
 obtain ⟨a1, a2, a3, a4, e, h⟩ := runv hr
 have := St.like_eq (y := a a1 a2 a3 a4) hl (by kernel_rfl) e
 obtain ⟨rfl, rfl, rfl⟩ := argSt_inj this
 exact (tie K a1 a2 a3 a4).trans h
end spec_l1Once
namespace spec_l1PickInt
noncomputable def c : Code := bodyOf Go.Proofs.Tryd.f84
noncomputable def fi : Fin := ⟨Γ0, [(.tmp 4, 3)], [[1]], [], [([.sl [.int .u8] 1, .int .i64, .int .i64], [0, 1, 1])], []⟩
noncomputable def m (a2 : List Int) (r1 r3 r4 : Int) : Res := ⟨[⟨false, [.int .i64 r1]⟩], [], [], [[.tr 2 2 [.int .u8] (.ints a2), .int .i64 r3, .int .i64 r4]], []⟩
noncomputable def os : List (FuncId × St × (List Lf → (Res → Option Res) → Option Res)) := [spec_l1Below.con]
noncomputable def X (K : Res → Option Res) : Ctx := { Γ := Γ0, orc := orcOf os, io := [], share := [], mvl := [], bun := [], cut := [], own := [], cin := [], cout := [], lp := lpOf [], kl := [], nk := true, eqs := eqs0, byt := byt0, fin := finK fi K }
noncomputable def b (a1 a2 : List Int) (a3 a4 : Int) (R : Int → Int → Int → Option Res) : Option Res :=
 spec_l1Below.g (a1.length : Int) a2 a3 a4 fun r5 r6 r7 =>
 bif decide (0 ≤ r5) && decide (r5 < (a1.length : Int)) then R (a1.getD r5.toNat 0) r6 r7
 else none
theorem gx : ∃ x : List Int → List Int → Int → Int → (Int → Int → Int → Option Res) → Option Res, x = b := ⟨_, rfl⟩
noncomputable def g : List Int → List Int → Int → Int → (Int → Int → Int → Option Res) → Option Res := Classical.choose gx
theorem e : g = b := Classical.choose_spec gx
noncomputable def run : List Lf → (Res → Option Res) → Option Res
 | [.q (.ints a1), .q (.ints a2), .i a3, .i a4], K => g a1 a2 a3 a4 (fun r1 r3 r4 => K (m a2 r1 r3 r4))
 | _, _ => none
noncomputable def a (a1 a2 : List Int) (a3 a4 : Int) : St := argSt [one (.bp 0 0), one (.tr 0 1 [.int .i64] (.ints a1))] [] [[.tr 2 2 [.int .u8] (.ints a2), .int .i64 a3, .int .i64 a4]]
noncomputable def con : FuncId × St × (List Lf → (Res → Option Res) → Option Res) := (84, a [] [] 0 0, run)
theorem cx (K : Res → Option Res) : CtxOk Go.Proofs.Tryd.prog Γ0 byt0 eqs0 (X K) os := ⟨rfl, rfl, rfl, (fun p hp => by
 rcases List.mem_cons.1 hp with rfl | hp
 ·exact spec_l1Below.ok
 cases hp), rfl, rfl, rfl, rfl⟩
theorem tie (K : Res → Option Res) (a1 a2 : List Int) (a3 a4 : Int) : exec (X K) c (entry 12 [one (.bp 0 0), one (.tr 0 1 [.int .i64] (.ints a1))] [] [[.tr 2 2 [.int .u8] (.ints a2), .int .i64 a3, .int .i64 a4]]) (endK (X K)) = g a1 a2 a3 a4 (fun r1 r3 r4 => K (m a2 r1 r3 r4)) := Eq.trans (b := b a1 a2 a3 a4 (fun r1 r3 r4 => K (m a2 r1 r3 r4))) (by kernel_rfl) (by rw [e])
theorem runv {l : List Lf} {K : Res → Option Res} {r : Res} (h : run l K = some r) : ∃ a1 a2 a3 a4, l = [.q (.ints a1), .q (.ints a2), .i a3, .i a4] ∧ g a1 a2 a3 a4 (fun r1 r3 r4 => K (m a2 r1 r3 r4)) = some r := by
 unfold run at h; split at h
 ·exact ⟨_, _, _, _, rfl, h⟩
 ·cases h
theorem ok : Con Go.Proofs.Tryd.prog con := con_of (fn := Go.Proofs.Tryd.f84) (c := c) (Fi := fi) (X := X) (fun_of laid (by kernel_rfl) (by kernel_rfl) (by kernel_rfl) rfl (by kernel_rfl) (by kernel_rfl) cx (fun _ => rfl) (fun _ => rfl) (fun K => by
 rw [show loopsOf c = [] from by kernel_rfl]; intro p hp
 cases hp)) fun xs rows boxes K r hl hr => by
 obtain ⟨a1, a2, a3, a4, e, h⟩ := runv hr
 have := St.like_eq (y := a a1 a2 a3 a4) hl (by kernel_rfl) e
 obtain ⟨rfl, rfl, rfl⟩ := argSt_inj this
 exact (tie K a1 a2 a3 a4).trans h
end spec_l1PickInt
namespace spec_l1DrawNum
noncomputable def c : Code := bodyOf Go.Proofs.Tryd.f64
noncomputable def fi : Fin := ⟨Γ0, [(.tmp 2, 3)], [[1]], [], [([.sl [.int .u8] 1, .int .i64, .int .i64], [0, 1, 1])], []⟩
noncomputable def m (a1 : List Int) (r1 r3 r4 : Int) : Res := ⟨[⟨false, [.int .i64 r1]⟩], [], [], [[.tr 2 2 [.int .u8] (.ints a1), .int .i64 r3, .int .i64 r4]], []⟩
noncomputable def os : List (FuncId × St × (List Lf → (Res → Option Res) → Option Res)) := [spec_l1Once.con, spec_l1PickInt.con, spec_l1Below.con]
noncomputable def X (K : Res → Option Res) : Ctx := { Γ := Γ0, orc := orcOf os, io := [], share := [], mvl := [], bun := [], cut := [], own := [], cin := [], cout := [], lp := lpOf [], kl := [], nk := true, eqs := eqs0, byt := byt0, fin := finK fi K }
noncomputable def b (a1 : List Int) (a2 a3 : Int) (R : Int → Int → Int → Option Res) : Option Res :=
 spec_l1Once.g 12 a1 a2 a3 fun r4 r5 r6 =>
 bif r4 then (spec_l1PickInt.g ([1000000000000, (-1000000000000), 999999999999, 1000000, (-1000000), 1000001, 999999999999] : List Int) a1 r5 r6 fun r7 r8 r9 =>
  R r7 r8 r9)
 else (spec_l1Below.g 20 a1 r5 r6 fun r10 r11 r12 =>
 R (IntKind.i64.wrap (r10 - 6)) r11 r12)
theorem gx : ∃ x : List Int → Int → Int → (Int → Int → Int → Option Res) → Option Res, x = b := ⟨_, rfl⟩
noncomputable def g : List Int → Int → Int → (Int → Int → Int → Option Res) → Option Res := Classical.choose gx
theorem e : g = b := Classical.choose_spec gx
noncomputable def run : List Lf → (Res → Option Res) → Option Res
 | [.q (.ints a1), .i a2, .i a3], K => g a1 a2 a3 (fun r1 r3 r4 => K (m a1 r1 r3 r4))
 | _, _ => none
noncomputable def a (a1 : List Int) (a2 a3 : Int) : St := argSt [one (.bp 0 0)] [] [[.tr 2 2 [.int .u8] (.ints a1), .int .i64 a2, .int .i64 a3]]
noncomputable def con : FuncId × St × (List Lf → (Res → Option Res) → Option Res) := (64, a [] 0 0, run)
theorem cx (K : Res → Option Res) : CtxOk Go.Proofs.Tryd.prog Γ0 byt0 eqs0 (X K) os := ⟨rfl, rfl, rfl, (fun p hp => by
 rcases List.mem_cons.1 hp with rfl | hp
 ·exact spec_l1Once.ok
 rcases List.mem_cons.1 hp with rfl | hp
 ·exact spec_l1PickInt.ok
 rcases List.mem_cons.1 hp with rfl | hp
 ·exact spec_l1Below.ok
 cases hp), rfl, rfl, rfl, rfl⟩
theorem tie (K : Res → Option Res) (a1 : List Int) (a2 a3 : Int) : exec (X K) c (entry 11 [one (.bp 0 0)] [] [[.tr 2 2 [.int .u8] (.ints a1), .int .i64 a2, .int .i64 a3]]) (endK (X K)) = g a1 a2 a3 (fun r1 r3 r4 => K (m a1 r1 r3 r4)) := Eq.trans (b := b a1 a2 a3 (fun r1 r3 r4 => K (m a1 r1 r3 r4))) (by kernel_rfl) (by rw [e])
theorem runv {l : List Lf} {K : Res → Option Res} {r : Res} (h : run l K = some r) : ∃ a1 a2 a3, l = [.q (.ints a1), .i a2, .i a3] ∧ g a1 a2 a3 (fun r1 r3 r4 => K (m a1 r1 r3 r4)) = some r := by
 unfold run at h; split at h
 ·exact ⟨_, _, _, rfl, h⟩
 ·cases h
theorem ok : Con Go.Proofs.Tryd.prog con := con_of (fn := Go.Proofs.Tryd.f64) (c := c) (Fi := fi) (X := X) (fun_of laid (by kernel_rfl) (by kernel_rfl) (by kernel_rfl) rfl (by kernel_rfl) (by kernel_rfl) cx (fun _ => rfl) (fun _ => rfl) (fun K => by
 rw [show loopsOf c = [] from by kernel_rfl]; intro p hp
 cases hp)) fun xs rows boxes K r hl hr => by
 obtain ⟨a1, a2, a3, e, h⟩ := runv hr
 have := St.like_eq (y := a a1 a2 a3) hl (by kernel_rfl) e
 obtain ⟨rfl, rfl, rfl⟩ := argSt_inj this
 exact (tie K a1 a2 a3).trans h
end spec_l1DrawNum
namespace spec_l1DrawRaw
noncomputable def c : Code := bodyOf Go.Proofs.Tryd.f66
noncomputable def fi : Fin := ⟨Γ0, [(.tmp 2, 3)], [[1]], [], [([.sl [.int .u8] 1, .int .i64, .int .i64], [0, 1, 1])], []⟩
noncomputable def m (a1 : List Int) (r1 r3 r4 : Int) : Res := ⟨[⟨false, [.int .i64 r1]⟩], [], [], [[.tr 2 2 [.int .u8] (.ints a1), .int .i64 r3, .int .i64 r4]], []⟩
noncomputable def os : List (FuncId × St × (List Lf → (Res → Option Res) → Option Res)) := [spec_l1Once.con, spec_l1PickInt.con, spec_l1DrawNum.con]
noncomputable def X (K : Res → Option Res) : Ctx := { Γ := Γ0, orc := orcOf os, io := [], share := [], mvl := [], bun := [], cut := [], own := [], cin := [], cout := [], lp := lpOf [], kl := [], nk := true, eqs := eqs0, byt := byt0, fin := finK fi K }
noncomputable def b (a1 : List Int) (a2 a3 : Int) (R : Int → Int → Int → Option Res) : Option Res :=
 spec_l1Once.g 15 a1 a2 a3 fun r4 r5 r6 =>
 bif r4 then (spec_l1PickInt.g ([1000000000001, (-1000000000001), 9223372036854775807, (-9223372036854775808)] : List Int) a1 r5 r6 fun r7 r8 r9 =>
  R r7 r8 r9)
 else (spec_l1DrawNum.g a1 r5 r6 fun r10 r11 r12 =>
 R r10 r11 r12)
theorem gx : ∃ x : List Int → Int → Int → (Int → Int → Int → Option Res) → Option Res, x = b := ⟨_, rfl⟩
noncomputable def g : List Int → Int → Int → (Int → Int → Int → Option Res) → Option Res := Classical.choose gx
theorem e : g = b := Classical.choose_spec gx
noncomputable def run : List Lf → (Res → Option Res) → Option Res
 | [.q (.ints a1), .i a2, .i a3], K => g a1 a2 a3 (fun r1 r3 r4 => K (m a1 r1 r3 r4))
 | _, _ => none
noncomputable def a (a1 : List Int) (a2 a3 : Int) : St := argSt [one (.bp 0 0)] [] [[.tr 2 2 [.int .u8] (.ints a1), .int .i64 a2, .int .i64 a3]]
noncomputable def con : FuncId × St × (List Lf → (Res → Option Res) → Option Res) := (66, a [] 0 0, run)
theorem cx (K : Res → Option Res) : CtxOk Go.Proofs.Tryd.prog Γ0 byt0 eqs0 (X K) os := ⟨rfl, rfl, rfl, (fun p hp => by
 rcases List.mem_cons.1 hp with rfl | hp
 ·exact spec_l1Once.ok
 rcases List.mem_cons.1 hp with rfl | hp
 ·exact spec_l1PickInt.ok
 rcases List.mem_cons.1 hp with rfl | hp
 ·exact spec_l1DrawNum.ok
 cases hp), rfl, rfl, rfl, rfl⟩
theorem tie (K : Res → Option Res) (a1 : List Int) (a2 a3 : Int) : exec (X K) c (entry 10 [one (.bp 0 0)] [] [[.tr 2 2 [.int .u8] (.ints a1), .int .i64 a2, .int .i64 a3]]) (endK (X K)) = g a1 a2 a3 (fun r1 r3 r4 => K (m a1 r1 r3 r4)) := Eq.trans (b := b a1 a2 a3 (fun r1 r3 r4 => K (m a1 r1 r3 r4))) (by kernel_rfl) (by rw [e])
theorem runv {l : List Lf} {K : Res → Option Res} {r : Res} (h : run l K = some r) : ∃ a1 a2 a3, l = [.q (.ints a1), .i a2, .i a3] ∧ g a1 a2 a3 (fun r1 r3 r4 => K (m a1 r1 r3 r4)) = some r := by
 unfold run at h; split at h
 ·exact ⟨_, _, _, rfl, h⟩
 ·cases h
theorem ok : Con Go.Proofs.Tryd.prog con := con_of (fn := Go.Proofs.Tryd.f66) (c := c) (Fi := fi) (X := X) (fun_of laid (by kernel_rfl) (by kernel_rfl) (by kernel_rfl) rfl (by kernel_rfl) (by kernel_rfl) cx (fun _ => rfl) (fun _ => rfl) (fun K => by
 rw [show loopsOf c = [] from by kernel_rfl]; intro p hp
 cases hp)) fun xs rows boxes K r hl hr => by
 obtain ⟨a1, a2, a3, e, h⟩ := runv hr
 have := St.like_eq (y := a a1 a2 a3) hl (by kernel_rfl) e
 obtain ⟨rfl, rfl, rfl⟩ := argSt_inj this
 exact (tie K a1 a2 a3).trans h
end spec_l1DrawRaw
namespace spec_l16DrawList
noncomputable def c : Code := bodyOf Go.Proofs.Tryd.f40
noncomputable def fi : Fin := ⟨Γ0, [(.tmp 2, 24)], [[1]], [], [], []⟩
noncomputable def m (r1 : List Int) : Res := ⟨[⟨false, [.ow 1000]⟩], [], [⟨[.int .i64], .ints r1, true, 0⟩], [], []⟩
noncomputable def b0 : Code := codeAt c [1, 1, 1, 0, 1, 0, 0]
noncomputable def s0 (x5 : Int) (x6 x7 : List Int) (x8 x9 : Int) : St := ⟨mkT 28 [(3, one (.bp 3065 0)), (4, one (.ow 5096)), (5, one (.int .i64 x5))], [(5096, ⟨[.int .i64], .ints x6, true, 0⟩)], [(3065, [.tr 2 2 [.int .u8] (.ints x7), .int .i64 x8, .int .i64 x9])]⟩
noncomputable def l0s (x7 : List Int) (rec : Int → List Int → Int → Int → Option Res) (k : List Int → Int → Int → Option Res) (x5 : Int) (x6 : List Int) (x8 x9 : Int) : Option Res :=
 spec_l1Below.g 9 x7 x8 x9 fun r10 r11 r12 =>
 bif decide (x5 < r10) then (spec_l1DrawNum.g x7 r11 r12 fun r13 r14 r15 =>
  bif decide ((x6.length + 1) * 8 ≤ 140737488355328) then rec (IntKind.i64.wrap (x5 + 1)) (x6 ++ ([r13] : List Int)) r14 r15
  else none)
 else k x6 r11 r12
noncomputable def l0 (x7 : List Int) (k : List Int → Int → Int → Option Res) : Nat → Int → List Int → Int → Int → Option Res
 | 0, _, _, _, _ => none
 | n + 1, x5, x6, x8, x9 => l0s x7 (fun x5 x6 x8 x9 => l0 x7 k n x5 x6 x8 x9) k x5 x6 x8 x9
noncomputable def o0 (x7 y1 : List Int) (y3 y4 : Int) : St := ⟨mkT 28 [(3, one (.bp 3065 0)), (4, one (.ow 5096))], [(5096, ⟨[.int .i64], .ints y1, true, 0⟩)], [(3065, [.tr 2 2 [.int .u8] (.ints x7), .int .i64 y3, .int .i64 y4])]⟩
noncomputable def p0 (K : Res → Option Res) : List Lf → (St → Option Res) → Option Res
 | [.i x5, .q (.ints x6), .q (.ints x7), .i x8, .i x9], k => l0 x7 (fun y1 y3 y4 => k (o0 x7 y1 y3 y4)) fuel x5 x6 x8 x9
 | _, _ => none
noncomputable def os : List (FuncId × St × (List Lf → (Res → Option Res) → Option Res)) := [spec_l1New.con, spec_l1Below.con, spec_l1DrawNum.con, spec_l1Once.con, spec_l1DrawRaw.con]
noncomputable def X (K : Res → Option Res) : Ctx := { Γ := Γ0, orc := orcOf os, io := [(53, [⟨false, 2, 1⟩])], share := [], mvl := [], bun := [], cut := [], own := [], cin := [(0, ⟨[3, 4, 5], [(5096, 5096), (13352, 5096)], [3065], [], [], []⟩)], cout := [(0, ⟨[3, 4], [(5096, 5096)], [3065], [], [], []⟩)], lp := lpOf [(0, s0 0 [] [] 0 0, p0 K)], kl := [], nk := true, eqs := eqs0, byt := byt0, fin := finK fi K }
noncomputable def b (a1 : List Int) (R : List Int → Option Res) : Option Res :=
 spec_l1New.g a1 fun r2 r3 r4 =>
 l0 r2 (fun y16 y17 y18 =>
 spec_l1Once.g 15 r2 y17 y18 fun r19 r20 r21 =>
 bif r19 then (spec_l1DrawRaw.g r2 r20 r21 fun r22 r23 r24 =>
  bif decide ((y16.length + 1) * 8 ≤ 140737488355328) then R (y16 ++ ([r22] : List Int))
  else none)
 else R y16) fuel 0 ([] : List Int) r3 r4
theorem gx : ∃ x : List Int → (List Int → Option Res) → Option Res, x = b := ⟨_, rfl⟩
noncomputable def g : List Int → (List Int → Option Res) → Option Res := Classical.choose gx
theorem e : g = b := Classical.choose_spec gx
noncomputable def run : List Lf → (Res → Option Res) → Option Res
 | [.q (.ints a1)], K => g a1 (fun r1 => K (m r1))
 | _, _ => none
noncomputable def a (a1 : List Int) : St := argSt [one (.tr 2 1 [.int .u8] (.ints a1))] [] []
noncomputable def con : FuncId × St × (List Lf → (Res → Option Res) → Option Res) := (40, a [], run)
theorem cx (K : Res → Option Res) : CtxOk Go.Proofs.Tryd.prog Γ0 byt0 eqs0 (X K) os := ⟨rfl, rfl, rfl, (fun p hp => by
 rcases List.mem_cons.1 hp with rfl | hp
 ·exact spec_l1New.ok
 rcases List.mem_cons.1 hp with rfl | hp
 ·exact spec_l1Below.ok
 rcases List.mem_cons.1 hp with rfl | hp
 ·exact spec_l1DrawNum.ok
 rcases List.mem_cons.1 hp with rfl | hp
 ·exact spec_l1Once.ok
 rcases List.mem_cons.1 hp with rfl | hp
 ·exact spec_l1DrawRaw.ok
 cases hp), rfl, rfl, rfl, rfl⟩
theorem t0 (K : Res → Option Res) (k : St → Option Res) (it : St → (St → Option Res) → Option Res) (x5 : Int) (x6 x7 : List Int) (x8 x9 : Int) : iterS (X K) 0 b0 it (s0 x5 x6 x7 x8 x9) k = l0s x7 (fun x5 x6 x8 x9 => it (s0 x5 x6 x7 x8 x9) k) (fun y1 y3 y4 => k (o0 x7 y1 y3 y4)) x5 x6 x8 x9 := by kernel_rfl
theorem i0 (K : Res → Option Res) (k : St → Option Res) (x7 : List Int) : ∀ (n : Nat) (x5 : Int) (x6 : List Int) (x8 x9 : Int), iter (X K) 0 b0 n (s0 x5 x6 x7 x8 x9) k = l0 x7 (fun y1 y3 y4 => k (o0 x7 y1 y3 y4)) n x5 x6 x8 x9
 | 0, _, _, _, _ => rfl
 | n + 1, x5, x6, x8, x9 => by
  rw [iter_succ, t0, show (fun x5 x6 x8 x9 => iter (X K) 0 b0 n (s0 x5 x6 x7 x8 x9) k) = (fun x5 x6 x8 x9 => l0 x7 (fun y1 y3 y4 => k (o0 x7 y1 y3 y4)) n x5 x6 x8 x9) from funext fun x5 => funext fun x6 => funext fun x8 => funext fun x9 => i0 K k x7 n x5 x6 x8 x9]; rfl
theorem v0 {K : Res → Option Res} {l : List Lf} {k : St → Option Res} {r : Res} (h : p0 K l k = some r) : ∃ x5 x6 x7 x8 x9, l = [.i x5, .q (.ints x6), .q (.ints x7), .i x8, .i x9] ∧ l0 x7 (fun y1 y3 y4 => k (o0 x7 y1 y3 y4)) fuel x5 x6 x8 x9 = some r := by
 unfold p0 at h; split at h
 ·exact ⟨_, _, _, _, _, rfl, h⟩
 ·cases h
theorem w0 (K : Res → Option Res) : LpSound Go.Proofs.Tryd.prog (X K) 0 b0 := lp_ok ((cx K).ok laid) (by rw [show loopsOf b0 = [] from by kernel_rfl]; intro p hp; cases hp) rfl fun p hp hid => by
 rcases List.mem_cons.1 hp with rfl | hp
 ·intro st k r h1 h2; obtain ⟨x5, x6, x7, x8, x9, e, h⟩ := v0 (K := K) h2; have := St.like_eq (y := s0 x5 x6 x7 x8 x9) h1 (by kernel_rfl) e; subst this; exact ⟨fuel, (i0 K k x7 fuel x5 x6 x8 x9).trans h⟩
 cases hp
theorem tie (K : Res → Option Res) (a1 : List Int) : exec (X K) c (entry 28 [one (.tr 2 1 [.int .u8] (.ints a1))] [] []) (endK (X K)) = g a1 (fun r1 => K (m r1)) := Eq.trans (b := b a1 (fun r1 => K (m r1))) (by kernel_rfl) (by rw [e])
theorem runv {l : List Lf} {K : Res → Option Res} {r : Res} (h : run l K = some r) : ∃ a1, l = [.q (.ints a1)] ∧ g a1 (fun r1 => K (m r1)) = some r := by
 unfold run at h; split at h
 ·exact ⟨_, rfl, h⟩
 ·cases h
theorem ok : Con Go.Proofs.Tryd.prog con := con_of (fn := Go.Proofs.Tryd.f40) (c := c) (Fi := fi) (X := X) (fun_of laid (by kernel_rfl) (by kernel_rfl) (by kernel_rfl) rfl (by kernel_rfl) (by kernel_rfl) cx (fun _ => rfl) (fun _ => rfl) (fun K => by
 rw [show loopsOf c = [(0, b0)] from by kernel_rfl]; intro p hp
 rcases List.mem_cons.1 hp with rfl | hp
 ·exact w0 K
 cases hp)) fun xs rows boxes K r hl hr => by
 obtain ⟨a1, e, h⟩ := runv hr
 have := St.like_eq (y := a a1) hl (by kernel_rfl) e
 obtain ⟨rfl, rfl, rfl⟩ := argSt_inj this
 exact (tie K a1).trans h
end spec_l16DrawList
namespace spec_DrawShowWide
noncomputable def c : Code := bodyOf Go.Proofs.Tryd.f19
noncomputable def fi : Fin := ⟨Γ0, [(.tmp 2, 24)], [[1]], [], [], []⟩
noncomputable def m (r1 : List Int) : Res := ⟨[⟨false, [.ow 1000]⟩], [], [⟨[.int .i64], .ints r1, true, 0⟩], [], []⟩
noncomputable def os : List (FuncId × St × (List Lf → (Res → Option Res) → Option Res)) := [spec_l16DrawList.con]
noncomputable def X (K : Res → Option Res) : Ctx := { Γ := Γ0, orc := orcOf os, io := [(40, [⟨false, 2, 1⟩])], share := [], mvl := [], bun := [], cut := [], own := [], cin := [], cout := [], lp := lpOf [], kl := [], nk := true, eqs := eqs0, byt := byt0, fin := finK fi K }
noncomputable def b (a1 : List Int) (R : List Int → Option Res) : Option Res :=
 spec_l16DrawList.g a1 fun r2 =>
 R r2
theorem gx : ∃ x : List Int → (List Int → Option Res) → Option Res, x = b := ⟨_, rfl⟩
noncomputable def g : List Int → (List Int → Option Res) → Option Res := Classical.choose gx
theorem e : g = b := Classical.choose_spec gx
noncomputable def run : List Lf → (Res → Option Res) → Option Res
 | [.q (.ints a1)], K => g a1 (fun r1 => K (m r1))
 | _, _ => none
noncomputable def a (a1 : List Int) : St := argSt [one (.tr 2 1 [.int .u8] (.ints a1))] [] []
noncomputable def con : FuncId × St × (List Lf → (Res → Option Res) → Option Res) := (19, a [], run)
theorem cx (K : Res → Option Res) : CtxOk Go.Proofs.Tryd.prog Γ0 byt0 eqs0 (X K) os := ⟨rfl, rfl, rfl, (fun p hp => by
 rcases List.mem_cons.1 hp with rfl | hp
 ·exact spec_l16DrawList.ok
 cases hp), rfl, rfl, rfl, rfl⟩
theorem tie (K : Res → Option Res) (a1 : List Int) : exec (X K) c (entry 5 [one (.tr 2 1 [.int .u8] (.ints a1))] [] []) (endK (X K)) = g a1 (fun r1 => K (m r1)) := Eq.trans (b := b a1 (fun r1 => K (m r1))) (by kernel_rfl) (by rw [e])
theorem runv {l : List Lf} {K : Res → Option Res} {r : Res} (h : run l K = some r) : ∃ a1, l = [.q (.ints a1)] ∧ g a1 (fun r1 => K (m r1)) = some r := by
 unfold run at h; split at h
 ·exact ⟨_, rfl, h⟩
 ·cases h
theorem ok : Con Go.Proofs.Tryd.prog con := con_of (fn := Go.Proofs.Tryd.f19) (c := c) (Fi := fi) (X := X) (fun_of laid (by kernel_rfl) (by kernel_rfl) (by kernel_rfl) rfl (by kernel_rfl) (by kernel_rfl) cx (fun _ => rfl) (fun _ => rfl) (fun K => by
 rw [show loopsOf c = [] from by kernel_rfl]; intro p hp
 cases hp)) fun xs rows boxes K r hl hr => by
 obtain ⟨a1, e, h⟩ := runv hr
 have := St.like_eq (y := a a1) hl (by kernel_rfl) e
 obtain ⟨rfl, rfl, rfl⟩ := argSt_inj this
 exact (tie K a1).trans h
end spec_DrawShowWide
namespace laws_FnWidth
noncomputable def c : Code := bodyOf Go.Proofs.Tryd.f6
noncomputable def fi : Fin := ⟨Γ0, [(.tmp 2, 4)], [[1]], [], [], []⟩
noncomputable def m (r1 : Bool) : Res := ⟨[⟨false, [.bool r1]⟩], [], [], [], []⟩
noncomputable def b0 : Code := codeAt c [1, 1, 1, 1, 1, 1, 0, 1, 0, 0]
noncomputable def s0 (x6 x7 x8 : Int) (x9 : List Int) : St := ⟨mkT 64 [(3, one (.ow 7161)), (4, one (.int .i64 x6)), (5, one (.int .i64 x7)), (6, one (.int .i64 x8))], [(7161, ⟨[.int .i64], .ints x9, true, 0⟩)], []⟩
noncomputable def l0s (x6 : Int) (x9 : List Int) (rec : Int → Int → Option Res) (k : Int → Option Res) (R : Bool → Option Res) (x7 x8 : Int) : Option Res :=
 bif decide (x8 < (x9.length : Int)) then (bif decide (0 ≤ x8) && decide (x8 < (x9.length : Int)) then (impl_ShowNum.g (x9.getD x8.toNat 0) fun r10 =>
  bif decide (0 ≤ x8) && decide (x8 < (x9.length : Int)) then (spec_ShowNum.g (x9.getD x8.toNat 0) fun r11 =>
   bif !(r10.toList == r11.toList) then R false
   else rec (IntKind.i64.wrap (x7 + (r10.size : Int))) (IntKind.i64.wrap (x8 + 1)))
  else none)
  else none)
 else k x7
noncomputable def l0 (x6 : Int) (x9 : List Int) (k : Int → Option Res) (R : Bool → Option Res) : Nat → Int → Int → Option Res
 | 0, _, _ => none
 | n + 1, x7, x8 => l0s x6 x9 (fun x7 x8 => l0 x6 x9 k R n x7 x8) k R x7 x8
noncomputable def o0 (x6 : Int) (x9 : List Int) (y2 : Int) : St := ⟨mkT 64 [(3, one (.ow 7161)), (4, one (.int .i64 x6)), (5, one (.int .i64 y2))], [(7161, ⟨[.int .i64], .ints x9, true, 0⟩)], []⟩
noncomputable def p0 (K : Res → Option Res) : List Lf → (St → Option Res) → Option Res
 | [.i x6, .i x7, .i x8, .q (.ints x9)], k => l0 x6 x9 (fun y2 => k (o0 x6 x9 y2)) (fun r1 => K (m r1)) fuel x7 x8
 | _, _ => none
noncomputable def os : List (FuncId × St × (List Lf → (Res → Option Res) → Option Res)) := [laws_big.con, spec_DrawShowWide.con, impl_ShowWide.con, spec_ShowWide.con, impl_ShowNum.con, spec_ShowNum.con, impl_ShowRow.con]
noncomputable def X (K : Res → Option Res) : Ctx := { Γ := Γ0, orc := orcOf os, io := [(19, [⟨false, 2, 1⟩])], share := [], mvl := [], bun := [], cut := [], own := [], cin := [(0, ⟨[3, 4, 5, 6], [(7161, 7161)], [], [], [], []⟩)], cout := [(0, ⟨[3, 4, 5], [(7161, 7161)], [], [], [], []⟩)], lp := lpOf [(0, s0 0 0 0 [], p0 K)], kl := [], nk := true, eqs := eqs0, byt := byt0, fin := finK fi K }
noncomputable def b (a1 : List Int) (R : Bool → Option Res) : Option Res :=
 laws_big.g a1 fun r2 =>
 bif r2 then R true
 else (spec_DrawShowWide.g a1 fun r3 =>
 impl_ShowWide.g r3 fun r4 =>
 spec_ShowWide.g r3 fun r5 =>
 bif (r4 != r5) then R false
 else (l0 r4 r3 (fun y12 =>
 bif decide (r4 < 0) then (impl_ShowRow.g r3 fun r13 =>
  R (r13.toList == (⟨#[]⟩ : ByteArray).toList))
 else bif ((r3.length : Int) == 0) then R (r4 == 0)
 else (impl_ShowRow.g r3 fun r14 =>
 bif ((r14.size : Int) == IntKind.i64.wrap ((IntKind.i64.wrap (y12 + (r3.length : Int))) - 1)) then R (decide (r4 ≤ y12))
 else R false)) R fuel 0 0))
theorem gx : ∃ x : List Int → (Bool → Option Res) → Option Res, x = b := ⟨_, rfl⟩
noncomputable def g : List Int → (Bool → Option Res) → Option Res := Classical.choose gx
theorem e : g = b := Classical.choose_spec gx
noncomputable def run : List Lf → (Res → Option Res) → Option Res
 | [.q (.ints a1)], K => g a1 (fun r1 => K (m r1))
 | _, _ => none
noncomputable def a (a1 : List Int) : St := argSt [one (.tr 2 1 [.int .u8] (.ints a1))] [] []
noncomputable def con : FuncId × St × (List Lf → (Res → Option Res) → Option Res) := (6, a [], run)
theorem cx (K : Res → Option Res) : CtxOk Go.Proofs.Tryd.prog Γ0 byt0 eqs0 (X K) os := ⟨rfl, rfl, rfl, (fun p hp => by
 rcases List.mem_cons.1 hp with rfl | hp
 ·exact laws_big.ok
 rcases List.mem_cons.1 hp with rfl | hp
 ·exact spec_DrawShowWide.ok
 rcases List.mem_cons.1 hp with rfl | hp
 ·exact impl_ShowWide.ok
 rcases List.mem_cons.1 hp with rfl | hp
 ·exact spec_ShowWide.ok
 rcases List.mem_cons.1 hp with rfl | hp
 ·exact impl_ShowNum.ok
 rcases List.mem_cons.1 hp with rfl | hp
 ·exact spec_ShowNum.ok
 rcases List.mem_cons.1 hp with rfl | hp
 ·exact impl_ShowRow.ok
 cases hp), rfl, rfl, rfl, rfl⟩
theorem t0 (K : Res → Option Res) (k : St → Option Res) (it : St → (St → Option Res) → Option Res) (x6 x7 x8 : Int) (x9 : List Int) : iterS (X K) 0 b0 it (s0 x6 x7 x8 x9) k = l0s x6 x9 (fun x7 x8 => it (s0 x6 x7 x8 x9) k) (fun y2 => k (o0 x6 x9 y2)) (fun r1 => K (m r1)) x7 x8 := by kernel_rfl
theorem i0 (K : Res → Option Res) (k : St → Option Res) (x6 : Int) (x9 : List Int) : ∀ (n : Nat) (x7 x8 : Int), iter (X K) 0 b0 n (s0 x6 x7 x8 x9) k = l0 x6 x9 (fun y2 => k (o0 x6 x9 y2)) (fun r1 => K (m r1)) n x7 x8
 | 0, _, _ => rfl
 | n + 1, x7, x8 => by
  rw [iter_succ, t0, show (fun x7 x8 => iter (X K) 0 b0 n (s0 x6 x7 x8 x9) k) = (fun x7 x8 => l0 x6 x9 (fun y2 => k (o0 x6 x9 y2)) (fun r1 => K (m r1)) n x7 x8) from funext fun x7 => funext fun x8 => i0 K k x6 x9 n x7 x8]; rfl
theorem v0 {K : Res → Option Res} {l : List Lf} {k : St → Option Res} {r : Res} (h : p0 K l k = some r) : ∃ x6 x7 x8 x9, l = [.i x6, .i x7, .i x8, .q (.ints x9)] ∧ l0 x6 x9 (fun y2 => k (o0 x6 x9 y2)) (fun r1 => K (m r1)) fuel x7 x8 = some r := by
 unfold p0 at h; split at h
 ·exact ⟨_, _, _, _, rfl, h⟩
 ·cases h
theorem w0 (K : Res → Option Res) : LpSound Go.Proofs.Tryd.prog (X K) 0 b0 := lp_ok ((cx K).ok laid) (by rw [show loopsOf b0 = [] from by kernel_rfl]; intro p hp; cases hp) rfl fun p hp hid => by
 rcases List.mem_cons.1 hp with rfl | hp
 ·intro st k r h1 h2; obtain ⟨x6, x7, x8, x9, e, h⟩ := v0 (K := K) h2; have := St.like_eq (y := s0 x6 x7 x8 x9) h1 (by kernel_rfl) e; subst this; exact ⟨fuel, (i0 K k x6 x9 fuel x7 x8).trans h⟩
 cases hp
theorem tie (K : Res → Option Res) (a1 : List Int) : exec (X K) c (entry 64 [one (.tr 2 1 [.int .u8] (.ints a1))] [] []) (endK (X K)) = g a1 (fun r1 => K (m r1)) := Eq.trans (b := b a1 (fun r1 => K (m r1))) (by kernel_rfl) (by rw [e])
theorem runv {l : List Lf} {K : Res → Option Res} {r : Res} (h : run l K = some r) : ∃ a1, l = [.q (.ints a1)] ∧ g a1 (fun r1 => K (m r1)) = some r := by
 unfold run at h; split at h
 ·exact ⟨_, rfl, h⟩
 ·cases h
theorem ok : Con Go.Proofs.Tryd.prog con := con_of (fn := Go.Proofs.Tryd.f6) (c := c) (Fi := fi) (X := X) (fun_of laid (by kernel_rfl) (by kernel_rfl) (by kernel_rfl) rfl (by kernel_rfl) (by kernel_rfl) cx (fun _ => rfl) (fun _ => rfl) (fun K => by
 rw [show loopsOf c = [(0, b0)] from by kernel_rfl]; intro p hp
 rcases List.mem_cons.1 hp with rfl | hp
 ·exact w0 K
 cases hp)) fun xs rows boxes K r hl hr => by
 obtain ⟨a1, e, h⟩ := runv hr
 have := St.like_eq (y := a a1) hl (by kernel_rfl) e
 obtain ⟨rfl, rfl, rfl⟩ := argSt_inj this
 exact (tie K a1).trans h
end laws_FnWidth
end Go.Tv.F
