/- The law's functions, printed by a program of ours, each with its contract. They hold without condition. -/
import Derived.Test.YtbocgpagaacpoaaProg
import Derived.Test.YtbocgpagaacpoaaTvC
set_option linter.unusedVariables false
set_option linter.unusedSimpArgs false
set_option linter.unnecessarySimpa false
set_option maxRecDepth 100000
set_option autoImplicit false
namespace Go.Tv.F
open Go Go.Tv
noncomputable def Γ0 : List (Nat × TI) := [(3, ⟨false, [.int .i64], []⟩),
  (4, ⟨false, [.bool], []⟩),
  (5, ⟨false, [.int .u8], []⟩),
  (9, ⟨false, [.str], []⟩),
  (22, ⟨false, [.sl [.int .u8] 1], []⟩),
  (23, ⟨false, [.sl [.int .i64] 8], []⟩),
  (25, ⟨true, [.sl [.int .i64] 8, .sl [.int .i64] 8], [(0, 1, false), (1, 1, false)]⟩),
  (34, ⟨false, [.sl [.int .i64, .int .i64, .bool] 24], []⟩),
  (36, ⟨true, [.sl [.int .i64] 8, .int .i64, .sl [.int .i64, .int .i64, .bool] 24], [(0, 1, false), (1, 1, false), (2, 1, false)]⟩),
  (38, ⟨false, [.sl [.int .i64, .int .i64, .bool] 24], []⟩),
  (40, ⟨true, [.sl [.int .i64] 8, .int .i64, .sl [.int .i64, .int .i64, .bool] 24], [(0, 1, false), (1, 1, false), (2, 1, false)]⟩),
  (57, ⟨true, [.int .i64, .int .i64, .bool], [(0, 1, false), (1, 1, false), (2, 1, false)]⟩),
  (76, ⟨false, [.sl [.int .i64, .int .i64, .int .i64, .int .i64, .int .i64, .int .i64, .ints .i64] 72], []⟩),
  (78, ⟨true, [.sl [.int .i64, .int .i64, .int .i64, .int .i64, .int .i64, .int .i64, .ints .i64] 72], [(0, 1, false)]⟩),
  (81, ⟨false, [.sl [.int .i64, .int .i64] 16], []⟩),
  (90, ⟨true, [.int .i64, .int .i64], [(0, 1, false), (1, 1, false)]⟩),
  (94, ⟨false, [.int .u64], []⟩),
  (95, ⟨false, [.ptr], []⟩),
  (97, ⟨true, [.sl [.int .u8] 1, .bool], [(0, 1, false), (1, 1, false)]⟩),
  (110, ⟨false, [.ptr], []⟩),
  (113, ⟨false, [.fn], []⟩),
  (121, ⟨false, [.sl [.bool] 1], []⟩),
  (130, ⟨true, [.int .i64, .int .i64, .int .i64], [(0, 1, false), (1, 1, false), (2, 1, false)]⟩),
  (138, ⟨false, [.fn], []⟩),
  (140, ⟨false, [.ptr], []⟩),
  (142, ⟨true, [.sl [.int .i64, .int .i64] 16, .int .i64, .sl [.int .i64, .int .i64, .int .i64, .int .i64, .int .i64, .int .i64, .ints .i64] 72], [(0, 1, false), (1, 1, false), (2, 1, false)]⟩),
  (146, ⟨false, [.ptr], []⟩),
  (148, ⟨true, [.sl [.int .i64, .int .i64] 16, .int .i64, .sl [.int .i64, .int .i64, .int .i64, .int .i64, .int .i64, .int .i64, .ints .i64] 72, .bool], [(0, 1, false), (1, 1, false), (2, 1, false), (3, 1, false)]⟩),
  (156, ⟨true, [.int .i64, .int .i64, .int .i64, .int .i64, .int .i64, .int .i64, .sl [.int .i64] 8], [(0, 1, false), (1, 1, false), (2, 1, false), (3, 3, true), (6, 1, false)]⟩),
  (157, ⟨false, [.int .u64], []⟩),
  (159, ⟨true, [.int .i64, .int .i64, .bool], [(0, 1, false), (1, 1, false), (2, 1, false)]⟩),
  (164, ⟨true, [.sl [.int .u8] 1, .int .i64, .int .i64], [(0, 1, false), (1, 1, false), (2, 1, false)]⟩),
  (179, ⟨false, [.fn], []⟩),
  (180, ⟨false, [.fn], []⟩),
  (198, ⟨false, [.sl [.str] 16], []⟩),
  (201, ⟨false, [.sl [.ints .i64] 24], []⟩),
  (209, ⟨false, [.int .i64], []⟩),
  (219, ⟨false, [.int .u64], []⟩),
  (223, ⟨false, [.ptr], []⟩)]
noncomputable def byt0 : List TypeId := [22]
noncomputable def eqs0 : List TypeId := [57, 90, 130, 159]
theorem laid : Laid Go.Proofs.Try.prog Γ0 byt0 eqs0 := ⟨by kernel_rfl, by kernel_rfl, by kernel_rfl, by kernel_rfl⟩
namespace spec_l1In
noncomputable def c : Code := bodyOf Go.Proofs.Try.f100
noncomputable def fi : Fin := ⟨Γ0, [(.tmp 6, 4)], [[1]], [], [], []⟩
noncomputable def m (r1 : Bool) : Res := ⟨[⟨false, [.bool r1]⟩], [], [], [], []⟩
noncomputable def os : List (FuncId × St × (List Lf → (Res → Option Res) → Option Res)) := []
noncomputable def X (K : Res → Option Res) : Ctx := { Γ := Γ0, orc := orcOf os, io := [], share := [], mvl := [], bun := [], cut := [], own := [], cin := [], cout := [], lp := lpOf [], kl := [], nk := true, eqs := eqs0, byt := byt0, fin := finK fi K }
noncomputable def b (a1 a2 a3 : Int) (R : Bool → Option Res) : Option Res :=
  bif decide (a2 ≤ a1) then R (decide (a1 ≤ a3))
  else R false
theorem gx : ∃ x : Int → Int → Int → (Bool → Option Res) → Option Res, x = b := ⟨_, rfl⟩
noncomputable def g : Int → Int → Int → (Bool → Option Res) → Option Res := Classical.choose gx
theorem e : g = b := Classical.choose_spec gx
noncomputable def run : List Lf → (Res → Option Res) → Option Res
  | [.i a1, .i a2, .i a3], K => g a1 a2 a3 (fun r1 => K (m r1))
  | _, _ => none
noncomputable def a (a1 a2 a3 : Int) : St := argSt [one (.int .i64 a1), one (.int .i64 a2), one (.int .i64 a3)] [] []
noncomputable def con : FuncId × St × (List Lf → (Res → Option Res) → Option Res) := (100, a 0 0 0, run)
theorem cx (K : Res → Option Res) : CtxOk Go.Proofs.Try.prog Γ0 byt0 eqs0 (X K) os := ⟨rfl, rfl, rfl, (fun p hp => by
  cases hp), rfl, rfl, rfl, rfl⟩
theorem tie (K : Res → Option Res) (a1 a2 a3 : Int) : exec (X K) c (entry 15 [one (.int .i64 a1), one (.int .i64 a2), one (.int .i64 a3)] [] []) (endK (X K)) = g a1 a2 a3 (fun r1 => K (m r1)) := Eq.trans (b := b a1 a2 a3 (fun r1 => K (m r1))) (by kernel_rfl) (by rw [e])
theorem runv {l : List Lf} {K : Res → Option Res} {r : Res} (h : run l K = some r) : ∃ a1 a2 a3, l = [.i a1, .i a2, .i a3] ∧ g a1 a2 a3 (fun r1 => K (m r1)) = some r := by
  unfold run at h; split at h
  · exact ⟨_, _, _, rfl, h⟩
  · cases h
theorem ok : Con Go.Proofs.Try.prog con := con_of (fn := Go.Proofs.Try.f100) (c := c) (Fi := fi) (X := X) (fun_of laid (by kernel_rfl) (by kernel_rfl) (by kernel_rfl) rfl (by kernel_rfl) (by kernel_rfl) cx (fun _ => rfl) (fun _ => rfl) (fun K => by
    rw [show loopsOf c = [] from by kernel_rfl]; intro p hp
    cases hp)) fun xs rows boxes K r hl hr => by
  obtain ⟨a1, a2, a3, e, h⟩ := runv hr
  have := St.like_eq (y := a a1 a2 a3) hl (by kernel_rfl) e
  obtain ⟨rfl, rfl, rfl⟩ := argSt_inj this
  exact (tie K a1 a2 a3).trans h
end spec_l1In
namespace spec_SizeOf
noncomputable def c : Code := bodyOf Go.Proofs.Try.f67
noncomputable def fi : Fin := ⟨Γ0, [(.tmp 2, 3)], [[1]], [], [], []⟩
noncomputable def m (r1 : Int) : Res := ⟨[⟨false, [.int .i64 r1]⟩], [], [], [], []⟩
noncomputable def b0 : Code := codeAt c [1, 1, 1, 0, 1, 0, 0]
noncomputable def b2 : Code := codeAt c [1, 1, 1, 1, 1, 0, 1, 0, 0]
noncomputable def s0 (x2 : List Int) (x3 : Bool) (x4 : Int) : St := ⟨mkT 49 [(0, one (.tr 0 1 [.int .i64] (.ints x2))), (3, one (.bool x3)), (4, one (.int .i64 x4))], [], []⟩
noncomputable def l0s (x2 : List Int) (rec : Bool → Int → Option Res) (k : Bool → Option Res) (R : Int → Option Res) (x3 : Bool) (x4 : Int) : Option Res :=
  bif decide (x4 < (x2.length : Int)) then (bif decide (0 ≤ x4) && decide (x4 < (x2.length : Int)) then (spec_l1In.g (x2.getD x4.toNat 0) 0 300 fun r5 =>
      bif !r5 then R (-1)
      else bif x3 then rec true (IntKind.i64.wrap (x4 + 1))
      else bif decide (0 ≤ x4) && decide (x4 < (x2.length : Int)) then rec (x2.getD x4.toNat 0 == 0) (IntKind.i64.wrap (x4 + 1))
      else none)
    else none)
  else k x3
noncomputable def l0 (x2 : List Int) (k : Bool → Option Res) (R : Int → Option Res) : Nat → Bool → Int → Option Res
  | 0, _, _ => none
  | n + 1, x3, x4 => l0s x2 (fun x3 x4 => l0 x2 k R n x3 x4) k R x3 x4
noncomputable def o0 (x2 : List Int) (y2 : Bool) : St := ⟨mkT 49 [(0, one (.tr 0 1 [.int .i64] (.ints x2))), (3, one (.bool y2))], [], []⟩
noncomputable def p0 (K : Res → Option Res) : List Lf → (St → Option Res) → Option Res
  | [.q (.ints x2), .b x3, .i x4], k => l0 x2 (fun y2 => k (o0 x2 y2)) (fun r1 => K (m r1)) fuel x3 x4
  | _, _ => none
noncomputable def s2 (x7 : List Int) (x8 : Bool) (x9 x10 : Int) : St := ⟨mkT 49 [(0, one (.tr 0 1 [.int .i64] (.ints x7))), (3, one (.bool x8)), (5, one (.int .i64 x9)), (6, one (.int .i64 x10))], [], []⟩
noncomputable def l2s (x7 : List Int) (x8 : Bool) (rec : Int → Int → Option Res) (k : Int → Option Res) (x9 x10 : Int) : Option Res :=
  bif decide (x10 < (x7.length : Int)) then (bif decide (0 ≤ x10) && decide (x10 < (x7.length : Int)) then rec (IntKind.i64.wrap (x9 * (x7.getD x10.toNat 0))) (IntKind.i64.wrap (x10 + 1))
    else none)
  else k x9
noncomputable def l2 (x7 : List Int) (x8 : Bool) (k : Int → Option Res) : Nat → Int → Int → Option Res
  | 0, _, _ => none
  | n + 1, x9, x10 => l2s x7 x8 (fun x9 x10 => l2 x7 x8 k n x9 x10) k x9 x10
noncomputable def o2 (x7 : List Int) (x8 : Bool) (y2 : Int) : St := ⟨mkT 49 [(3, one (.bool x8)), (5, one (.int .i64 y2))], [], []⟩
noncomputable def p2 (K : Res → Option Res) : List Lf → (St → Option Res) → Option Res
  | [.q (.ints x7), .b x8, .i x9, .i x10], k => l2 x7 x8 (fun y2 => k (o2 x7 x8 y2)) fuel x9 x10
  | _, _ => none
noncomputable def os : List (FuncId × St × (List Lf → (Res → Option Res) → Option Res)) := [spec_l1In.con]
noncomputable def X (K : Res → Option Res) : Ctx := { Γ := Γ0, orc := orcOf os, io := [], share := [], mvl := [], bun := [], cut := [], own := [], cin := [(0, ⟨[0, 3, 4], [], [], [], [], []⟩), (2, ⟨[0, 3, 5, 6], [], [], [], [], []⟩)], cout := [(0, ⟨[0, 3], [], [], [], [], []⟩), (2, ⟨[3, 5], [], [], [], [], []⟩)], lp := lpOf [(0, s0 [] false 0, p0 K), (2, s2 [] false 0 0, p2 K)], kl := [], nk := true, eqs := eqs0, byt := byt0, fin := finK fi K }
noncomputable def b (a1 : List Int) (R : Int → Option Res) : Option Res :=
  bif decide (3 < (a1.length : Int)) then R (-1)
  else (l0 a1 (fun y6 => 
  l2 a1 y6 (fun y11 => 
  bif decide (300 < y11) then (bif !y6 then R (-1)
    else R y11)
  else R y11) fuel 1 0) R fuel false 0)
theorem gx : ∃ x : List Int → (Int → Option Res) → Option Res, x = b := ⟨_, rfl⟩
noncomputable def g : List Int → (Int → Option Res) → Option Res := Classical.choose gx
theorem e : g = b := Classical.choose_spec gx
noncomputable def run : List Lf → (Res → Option Res) → Option Res
  | [.q (.ints a1)], K => g a1 (fun r1 => K (m r1))
  | _, _ => none
noncomputable def a (a1 : List Int) : St := argSt [one (.tr 0 1 [.int .i64] (.ints a1))] [] []
noncomputable def con : FuncId × St × (List Lf → (Res → Option Res) → Option Res) := (67, a [], run)
theorem cx (K : Res → Option Res) : CtxOk Go.Proofs.Try.prog Γ0 byt0 eqs0 (X K) os := ⟨rfl, rfl, rfl, (fun p hp => by
  rcases List.mem_cons.1 hp with rfl | hp
  · exact spec_l1In.ok
  cases hp), rfl, rfl, rfl, rfl⟩
theorem t0 (K : Res → Option Res) (k : St → Option Res) (it : St → (St → Option Res) → Option Res) (x2 : List Int) (x3 : Bool) (x4 : Int) : iterS (X K) 0 b0 it (s0 x2 x3 x4) k = l0s x2 (fun x3 x4 => it (s0 x2 x3 x4) k) (fun y2 => k (o0 x2 y2)) (fun r1 => K (m r1)) x3 x4 := by kernel_rfl
theorem i0 (K : Res → Option Res) (k : St → Option Res) (x2 : List Int) : ∀ (n : Nat) (x3 : Bool) (x4 : Int), iter (X K) 0 b0 n (s0 x2 x3 x4) k = l0 x2 (fun y2 => k (o0 x2 y2)) (fun r1 => K (m r1)) n x3 x4
  | 0, _, _ => rfl
  | n + 1, x3, x4 => by
    rw [iter_succ, t0, show (fun x3 x4 => iter (X K) 0 b0 n (s0 x2 x3 x4) k) = (fun x3 x4 => l0 x2 (fun y2 => k (o0 x2 y2)) (fun r1 => K (m r1)) n x3 x4) from funext fun x3 => funext fun x4 => i0 K k x2 n x3 x4]; rfl
theorem v0 {K : Res → Option Res} {l : List Lf} {k : St → Option Res} {r : Res} (h : p0 K l k = some r) : ∃ x2 x3 x4, l = [.q (.ints x2), .b x3, .i x4] ∧ l0 x2 (fun y2 => k (o0 x2 y2)) (fun r1 => K (m r1)) fuel x3 x4 = some r := by
  unfold p0 at h; split at h
  · exact ⟨_, _, _, rfl, h⟩
  · cases h
theorem t2 (K : Res → Option Res) (k : St → Option Res) (it : St → (St → Option Res) → Option Res) (x7 : List Int) (x8 : Bool) (x9 x10 : Int) : iterS (X K) 2 b2 it (s2 x7 x8 x9 x10) k = l2s x7 x8 (fun x9 x10 => it (s2 x7 x8 x9 x10) k) (fun y2 => k (o2 x7 x8 y2)) x9 x10 := by kernel_rfl
theorem i2 (K : Res → Option Res) (k : St → Option Res) (x7 : List Int) (x8 : Bool) : ∀ (n : Nat) (x9 x10 : Int), iter (X K) 2 b2 n (s2 x7 x8 x9 x10) k = l2 x7 x8 (fun y2 => k (o2 x7 x8 y2)) n x9 x10
  | 0, _, _ => rfl
  | n + 1, x9, x10 => by
    rw [iter_succ, t2, show (fun x9 x10 => iter (X K) 2 b2 n (s2 x7 x8 x9 x10) k) = (fun x9 x10 => l2 x7 x8 (fun y2 => k (o2 x7 x8 y2)) n x9 x10) from funext fun x9 => funext fun x10 => i2 K k x7 x8 n x9 x10]; rfl
theorem v2 {K : Res → Option Res} {l : List Lf} {k : St → Option Res} {r : Res} (h : p2 K l k = some r) : ∃ x7 x8 x9 x10, l = [.q (.ints x7), .b x8, .i x9, .i x10] ∧ l2 x7 x8 (fun y2 => k (o2 x7 x8 y2)) fuel x9 x10 = some r := by
  unfold p2 at h; split at h
  · exact ⟨_, _, _, _, rfl, h⟩
  · cases h
theorem w2 (K : Res → Option Res) : LpSound Go.Proofs.Try.prog (X K) 2 b2 := lp_ok ((cx K).ok laid) (by rw [show loopsOf b2 = [] from by kernel_rfl]; intro p hp; cases hp) rfl fun p hp hid => by
  rcases List.mem_cons.1 hp with rfl | hp
  · exact absurd hid (by simp)
  rcases List.mem_cons.1 hp with rfl | hp
  · intro st k r h1 h2; obtain ⟨x7, x8, x9, x10, e, h⟩ := v2 (K := K) h2; have := St.like_eq (y := s2 x7 x8 x9 x10) h1 (by kernel_rfl) e; subst this; exact ⟨fuel, (i2 K k x7 x8 fuel x9 x10).trans h⟩
  cases hp
theorem w0 (K : Res → Option Res) : LpSound Go.Proofs.Try.prog (X K) 0 b0 := lp_ok ((cx K).ok laid) (by rw [show loopsOf b0 = [] from by kernel_rfl]; intro p hp; cases hp) rfl fun p hp hid => by
  rcases List.mem_cons.1 hp with rfl | hp
  · intro st k r h1 h2; obtain ⟨x2, x3, x4, e, h⟩ := v0 (K := K) h2; have := St.like_eq (y := s0 x2 x3 x4) h1 (by kernel_rfl) e; subst this; exact ⟨fuel, (i0 K k x2 fuel x3 x4).trans h⟩
  rcases List.mem_cons.1 hp with rfl | hp
  · exact absurd hid (by simp)
  cases hp
theorem tie (K : Res → Option Res) (a1 : List Int) : exec (X K) c (entry 49 [one (.tr 0 1 [.int .i64] (.ints a1))] [] []) (endK (X K)) = g a1 (fun r1 => K (m r1)) := Eq.trans (b := b a1 (fun r1 => K (m r1))) (by kernel_rfl) (by rw [e])
theorem runv {l : List Lf} {K : Res → Option Res} {r : Res} (h : run l K = some r) : ∃ a1, l = [.q (.ints a1)] ∧ g a1 (fun r1 => K (m r1)) = some r := by
  unfold run at h; split at h
  · exact ⟨_, rfl, h⟩
  · cases h
theorem ok : Con Go.Proofs.Try.prog con := con_of (fn := Go.Proofs.Try.f67) (c := c) (Fi := fi) (X := X) (fun_of laid (by kernel_rfl) (by kernel_rfl) (by kernel_rfl) rfl (by kernel_rfl) (by kernel_rfl) cx (fun _ => rfl) (fun _ => rfl) (fun K => by
    rw [show loopsOf c = [(0, b0), (2, b2)] from by kernel_rfl]; intro p hp
    rcases List.mem_cons.1 hp with rfl | hp
    · exact w0 K
    rcases List.mem_cons.1 hp with rfl | hp
    · exact w2 K
    cases hp)) fun xs rows boxes K r hl hr => by
  obtain ⟨a1, e, h⟩ := runv hr
  have := St.like_eq (y := a a1) hl (by kernel_rfl) e
  obtain ⟨rfl, rfl, rfl⟩ := argSt_inj this
  exact (tie K a1).trans h
end spec_SizeOf
namespace spec_NumOk
noncomputable def c : Code := bodyOf Go.Proofs.Try.f91
noncomputable def fi : Fin := ⟨Γ0, [(.tmp 2, 4)], [[1]], [], [], []⟩
noncomputable def m (r1 : Bool) : Res := ⟨[⟨false, [.bool r1]⟩], [], [], [], []⟩
noncomputable def os : List (FuncId × St × (List Lf → (Res → Option Res) → Option Res)) := [spec_l1In.con]
noncomputable def X (K : Res → Option Res) : Ctx := { Γ := Γ0, orc := orcOf os, io := [], share := [], mvl := [], bun := [], cut := [], own := [], cin := [], cout := [], lp := lpOf [], kl := [], nk := true, eqs := eqs0, byt := byt0, fin := finK fi K }
noncomputable def b (a1 : Int) (R : Bool → Option Res) : Option Res :=
  spec_l1In.g a1 (-1000000000000) 1000000000000 fun r2 =>
  R r2
theorem gx : ∃ x : Int → (Bool → Option Res) → Option Res, x = b := ⟨_, rfl⟩
noncomputable def g : Int → (Bool → Option Res) → Option Res := Classical.choose gx
theorem e : g = b := Classical.choose_spec gx
noncomputable def run : List Lf → (Res → Option Res) → Option Res
  | [.i a1], K => g a1 (fun r1 => K (m r1))
  | _, _ => none
noncomputable def a (a1 : Int) : St := argSt [one (.int .i64 a1)] [] []
noncomputable def con : FuncId × St × (List Lf → (Res → Option Res) → Option Res) := (91, a 0, run)
theorem cx (K : Res → Option Res) : CtxOk Go.Proofs.Try.prog Γ0 byt0 eqs0 (X K) os := ⟨rfl, rfl, rfl, (fun p hp => by
  rcases List.mem_cons.1 hp with rfl | hp
  · exact spec_l1In.ok
  cases hp), rfl, rfl, rfl, rfl⟩
theorem tie (K : Res → Option Res) (a1 : Int) : exec (X K) c (entry 5 [one (.int .i64 a1)] [] []) (endK (X K)) = g a1 (fun r1 => K (m r1)) := Eq.trans (b := b a1 (fun r1 => K (m r1))) (by kernel_rfl) (by rw [e])
theorem runv {l : List Lf} {K : Res → Option Res} {r : Res} (h : run l K = some r) : ∃ a1, l = [.i a1] ∧ g a1 (fun r1 => K (m r1)) = some r := by
  unfold run at h; split at h
  · exact ⟨_, rfl, h⟩
  · cases h
theorem ok : Con Go.Proofs.Try.prog con := con_of (fn := Go.Proofs.Try.f91) (c := c) (Fi := fi) (X := X) (fun_of laid (by kernel_rfl) (by kernel_rfl) (by kernel_rfl) rfl (by kernel_rfl) (by kernel_rfl) cx (fun _ => rfl) (fun _ => rfl) (fun K => by
    rw [show loopsOf c = [] from by kernel_rfl]; intro p hp
    cases hp)) fun xs rows boxes K r hl hr => by
  obtain ⟨a1, e, h⟩ := runv hr
  have := St.like_eq (y := a a1) hl (by kernel_rfl) e
  obtain ⟨rfl, rfl, rfl⟩ := argSt_inj this
  exact (tie K a1).trans h
end spec_NumOk
namespace spec_ArrayOk
noncomputable def c : Code := bodyOf Go.Proofs.Try.f31
noncomputable def fi : Fin := ⟨Γ0, [(.tmp 2, 4)], [[1]], [], [], []⟩
noncomputable def m (r1 : Bool) : Res := ⟨[⟨false, [.bool r1]⟩], [], [], [], []⟩
noncomputable def b0 : Code := codeAt c [1, 1, 0, 1, 0, 0]
noncomputable def s0 (x4 : Int) (x5 x6 : List Int) : St := ⟨mkT 25 [(1, one (.bp 1000 0)), (3, one (.int .i64 x4))], [], [(1000, [.tr 0 1 [.int .i64] (.ints x5), .tr 0 1 [.int .i64] (.ints x6)])]⟩
noncomputable def l0s (x5 x6 : List Int) (rec : Int → Option Res) (k : Option Res) (R : Bool → Option Res) (x4 : Int) : Option Res :=
  bif decide (x4 < (x6.length : Int)) then (bif decide (0 ≤ x4) && decide (x4 < (x6.length : Int)) then (spec_NumOk.g (x6.getD x4.toNat 0) fun r7 =>
      bif !r7 then R false
      else rec (IntKind.i64.wrap (x4 + 1)))
    else none)
  else k
noncomputable def l0 (x5 x6 : List Int) (k : Option Res) (R : Bool → Option Res) : Nat → Int → Option Res
  | 0, _ => none
  | n + 1, x4 => l0s x5 x6 (fun x4 => l0 x5 x6 k R n x4) k R x4
noncomputable def o0 (x5 x6 : List Int) : St := ⟨mkT 25 [], [], []⟩
noncomputable def p0 (K : Res → Option Res) : List Lf → (St → Option Res) → Option Res
  | [.i x4, .q (.ints x5), .q (.ints x6)], k => l0 x5 x6 (k (o0 x5 x6)) (fun r1 => K (m r1)) fuel x4
  | _, _ => none
noncomputable def os : List (FuncId × St × (List Lf → (Res → Option Res) → Option Res)) := [spec_SizeOf.con, spec_NumOk.con]
noncomputable def X (K : Res → Option Res) : Ctx := { Γ := Γ0, orc := orcOf os, io := [], share := [], mvl := [], bun := [], cut := [], own := [], cin := [(0, ⟨[1, 3], [], [1000], [], [], []⟩)], cout := [(0, ⟨[], [], [], [], [], []⟩)], lp := lpOf [(0, s0 0 [] [], p0 K)], kl := [], nk := true, eqs := eqs0, byt := byt0, fin := finK fi K }
noncomputable def b (a1 a2 : List Int) (R : Bool → Option Res) : Option Res :=
  spec_SizeOf.g a1 fun r3 =>
  bif (r3 != (a2.length : Int)) then R false
  else (l0 a1 a2 (
  R true) R fuel 0)
theorem gx : ∃ x : List Int → List Int → (Bool → Option Res) → Option Res, x = b := ⟨_, rfl⟩
noncomputable def g : List Int → List Int → (Bool → Option Res) → Option Res := Classical.choose gx
theorem e : g = b := Classical.choose_spec gx
noncomputable def run : List Lf → (Res → Option Res) → Option Res
  | [.q (.ints a1), .q (.ints a2)], K => g a1 a2 (fun r1 => K (m r1))
  | _, _ => none
noncomputable def a (a1 a2 : List Int) : St := argSt [.v ⟨true, [.tr 0 1 [.int .i64] (.ints a1), .tr 0 1 [.int .i64] (.ints a2)]⟩] [] []
noncomputable def con : FuncId × St × (List Lf → (Res → Option Res) → Option Res) := (31, a [] [], run)
theorem cx (K : Res → Option Res) : CtxOk Go.Proofs.Try.prog Γ0 byt0 eqs0 (X K) os := ⟨rfl, rfl, rfl, (fun p hp => by
  rcases List.mem_cons.1 hp with rfl | hp
  · exact spec_SizeOf.ok
  rcases List.mem_cons.1 hp with rfl | hp
  · exact spec_NumOk.ok
  cases hp), rfl, rfl, rfl, rfl⟩
theorem t0 (K : Res → Option Res) (k : St → Option Res) (it : St → (St → Option Res) → Option Res) (x4 : Int) (x5 x6 : List Int) : iterS (X K) 0 b0 it (s0 x4 x5 x6) k = l0s x5 x6 (fun x4 => it (s0 x4 x5 x6) k) (k (o0 x5 x6)) (fun r1 => K (m r1)) x4 := by kernel_rfl
theorem i0 (K : Res → Option Res) (k : St → Option Res) (x5 x6 : List Int) : ∀ (n : Nat) (x4 : Int), iter (X K) 0 b0 n (s0 x4 x5 x6) k = l0 x5 x6 (k (o0 x5 x6)) (fun r1 => K (m r1)) n x4
  | 0, _ => rfl
  | n + 1, x4 => by
    rw [iter_succ, t0, show (fun x4 => iter (X K) 0 b0 n (s0 x4 x5 x6) k) = (fun x4 => l0 x5 x6 (k (o0 x5 x6)) (fun r1 => K (m r1)) n x4) from funext fun x4 => i0 K k x5 x6 n x4]; rfl
theorem v0 {K : Res → Option Res} {l : List Lf} {k : St → Option Res} {r : Res} (h : p0 K l k = some r) : ∃ x4 x5 x6, l = [.i x4, .q (.ints x5), .q (.ints x6)] ∧ l0 x5 x6 (k (o0 x5 x6)) (fun r1 => K (m r1)) fuel x4 = some r := by
  unfold p0 at h; split at h
  · exact ⟨_, _, _, rfl, h⟩
  · cases h
theorem w0 (K : Res → Option Res) : LpSound Go.Proofs.Try.prog (X K) 0 b0 := lp_ok ((cx K).ok laid) (by rw [show loopsOf b0 = [] from by kernel_rfl]; intro p hp; cases hp) rfl fun p hp hid => by
  rcases List.mem_cons.1 hp with rfl | hp
  · intro st k r h1 h2; obtain ⟨x4, x5, x6, e, h⟩ := v0 (K := K) h2; have := St.like_eq (y := s0 x4 x5 x6) h1 (by kernel_rfl) e; subst this; exact ⟨fuel, (i0 K k x5 x6 fuel x4).trans h⟩
  cases hp
theorem tie (K : Res → Option Res) (a1 a2 : List Int) : exec (X K) c (entry 25 [.v ⟨true, [.tr 0 1 [.int .i64] (.ints a1), .tr 0 1 [.int .i64] (.ints a2)]⟩] [] []) (endK (X K)) = g a1 a2 (fun r1 => K (m r1)) := Eq.trans (b := b a1 a2 (fun r1 => K (m r1))) (by kernel_rfl) (by rw [e])
theorem runv {l : List Lf} {K : Res → Option Res} {r : Res} (h : run l K = some r) : ∃ a1 a2, l = [.q (.ints a1), .q (.ints a2)] ∧ g a1 a2 (fun r1 => K (m r1)) = some r := by
  unfold run at h; split at h
  · exact ⟨_, _, rfl, h⟩
  · cases h
theorem ok : Con Go.Proofs.Try.prog con := con_of (fn := Go.Proofs.Try.f31) (c := c) (Fi := fi) (X := X) (fun_of laid (by kernel_rfl) (by kernel_rfl) (by kernel_rfl) rfl (by kernel_rfl) (by kernel_rfl) cx (fun _ => rfl) (fun _ => rfl) (fun K => by
    rw [show loopsOf c = [(0, b0)] from by kernel_rfl]; intro p hp
    rcases List.mem_cons.1 hp with rfl | hp
    · exact w0 K
    cases hp)) fun xs rows boxes K r hl hr => by
  obtain ⟨a1, a2, e, h⟩ := runv hr
  have := St.like_eq (y := a a1 a2) hl (by kernel_rfl) e
  obtain ⟨rfl, rfl, rfl⟩ := argSt_inj this
  exact (tie K a1 a2).trans h
end spec_ArrayOk
namespace spec_ArrayRead
noncomputable def c : Code := bodyOf Go.Proofs.Try.f13
noncomputable def fi : Fin := ⟨Γ0, [(.cell 2 25, 25), (.tmp 3, 4)], [[1, 1], [1]], [], [], []⟩
noncomputable def m (r1 r2 : List Int) (r3 : Bool) : Res := ⟨[⟨true, [.ow 1000, .ow 1001]⟩, ⟨false, [.bool r3]⟩], [], [⟨[.int .i64], .ints r1, true, 0⟩, ⟨[.int .i64], .ints r2, true, 0⟩], [], []⟩
noncomputable def b0 : Code := codeAt c [1, 1, 1, 1, 1, 0, 1, 0, 0]
noncomputable def b2 : Code := codeAt c [1, 1, 1, 1, 1, 1, 1, 1, 0, 1, 0, 0]
noncomputable def b4 : Code := codeAt c [1, 1, 1, 1, 1, 1, 1, 1, 0, 1, 0, 0, 1, 0, 0, 1, 0, 1, 0, 0]
noncomputable def s0 (x2 : List Int) (x3 x4 : Int) (x5 x6 : List Int) : St := ⟨mkT 112 [(0, one (.tr 0 1 [.int .u8] (.ints x2))), (2, one (.bp 1000 0)), (4, one (.bp 3064 0)), (5, one (.bp 9208 0)), (6, one (.int .i64 x3)), (7, one (.int .i64 x4))], [(9200, ⟨[.int .i64], .ints x5, true, 0⟩), (9201, ⟨[.int .i64], .ints x6, true, 0⟩)], [(1000, [.nil, .nil]), (3064, [.nil, .nil]), (9208, [.ow 9200, .ow 9201])]⟩
noncomputable def l0s (x2 x6 : List Int) (rec : Int → Int → List Int → Option Res) (k : Int → List Int → Option Res) (x3 x4 : Int) (x5 : List Int) : Option Res :=
  bif decide (0 < (x2.length : Int)) then (bif decide (x4 < IntKind.i64.wrap (x2.getD 0 0)) then (bif decide (0 ≤ x3) && decide (x3 < (x2.length : Int)) then (bif decide (0 ≤ IntKind.i64.wrap (x3 + 1)) && decide (IntKind.i64.wrap (x3 + 1) < (x2.length : Int)) then (bif decide ((x5.length + 1) * 8 ≤ 140737488355328) then rec (IntKind.i64.wrap (x3 + 2)) (IntKind.i64.wrap (x4 + 1)) (x5 ++ ([IntKind.i64.wrap ((IntKind.i64.wrap (x2.getD x3.toNat 0)) + (IntKind.i64.wrap (256 * (IntKind.i64.wrap (x2.getD ((IntKind.i64.wrap (x3 + 1)).toNat) 0)))))] : List Int))
          else none)
        else none)
      else none)
    else k x3 x5)
  else none
noncomputable def l0 (x2 x6 : List Int) (k : Int → List Int → Option Res) : Nat → Int → Int → List Int → Option Res
  | 0, _, _, _ => none
  | n + 1, x3, x4, x5 => l0s x2 x6 (fun x3 x4 x5 => l0 x2 x6 k n x3 x4 x5) k x3 x4 x5
noncomputable def o0 (x2 x6 : List Int) (y2 : Int) (y3 : List Int) : St := ⟨mkT 112 [(0, one (.tr 0 1 [.int .u8] (.ints x2))), (2, one (.bp 1000 0)), (4, one (.bp 3064 0)), (5, one (.bp 9208 0)), (6, one (.int .i64 y2))], [(9200, ⟨[.int .i64], .ints y3, true, 0⟩), (9201, ⟨[.int .i64], .ints x6, true, 0⟩)], [(1000, [.nil, .nil]), (3064, [.nil, .nil]), (9208, [.ow 9200, .ow 9201])]⟩
noncomputable def p0 (K : Res → Option Res) : List Lf → (St → Option Res) → Option Res
  | [.q (.ints x2), .i x3, .i x4, .q (.ints x5), .q (.ints x6)], k => l0 x2 x6 (fun y2 y3 => k (o0 x2 x6 y2 y3)) fuel x3 x4 x5
  | _, _ => none
noncomputable def s4 (x16 : List Int) (x17 x18 x19 x20 x21 : Int) (x22 x23 : List Int) : St := ⟨mkT 112 [(0, one (.tr 0 1 [.int .u8] (.ints x16))), (2, one (.bp 1000 0)), (4, one (.bp 3064 0)), (5, one (.bp 9208 0)), (6, one (.int .i64 x17)), (8, one (.int .i64 x18)), (9, one (.int .i64 x19)), (10, one (.int .i64 x20)), (11, one (.int .i64 x21))], [(9200, ⟨[.int .i64], .ints x22, true, 0⟩), (9201, ⟨[.int .i64], .ints x23, true, 0⟩)], [(1000, [.nil, .nil]), (3064, [.nil, .nil]), (9208, [.ow 9200, .ow 9201])]⟩
noncomputable def l4s (x16 : List Int) (x17 x18 x19 : Int) (x22 x23 : List Int) (rec : Int → Int → Option Res) (k : Int → Option Res) (x20 x21 : Int) : Option Res :=
  bif decide (0 ≤ x21) then (bif decide (0 ≤ IntKind.i64.wrap (x17 + x21)) && decide (IntKind.i64.wrap (x17 + x21) < (x16.length : Int)) then rec (arith.bits .or .i64 (IntKind.i64.wrap (x20 * 2 ^ 8)) (IntKind.i64.wrap (x16.getD ((IntKind.i64.wrap (x17 + x21)).toNat) 0))) (IntKind.i64.wrap (x21 - 1))
    else none)
  else k x20
noncomputable def l4 (x16 : List Int) (x17 x18 x19 : Int) (x22 x23 : List Int) (k : Int → Option Res) : Nat → Int → Int → Option Res
  | 0, _, _ => none
  | n + 1, x20, x21 => l4s x16 x17 x18 x19 x22 x23 (fun x20 x21 => l4 x16 x17 x18 x19 x22 x23 k n x20 x21) k x20 x21
noncomputable def o4 (x16 : List Int) (x17 x18 x19 : Int) (x22 x23 : List Int) (y5 : Int) : St := ⟨mkT 112 [(0, one (.tr 0 1 [.int .u8] (.ints x16))), (2, one (.bp 1000 0)), (4, one (.bp 3064 0)), (5, one (.bp 9208 0)), (6, one (.int .i64 x17)), (8, one (.int .i64 x18)), (9, one (.int .i64 x19)), (10, one (.int .i64 y5))], [(9200, ⟨[.int .i64], .ints x22, true, 0⟩), (9201, ⟨[.int .i64], .ints x23, true, 0⟩)], [(1000, [.nil, .nil]), (3064, [.nil, .nil]), (9208, [.ow 9200, .ow 9201])]⟩
noncomputable def p4 (K : Res → Option Res) : List Lf → (St → Option Res) → Option Res
  | [.q (.ints x16), .i x17, .i x18, .i x19, .i x20, .i x21, .q (.ints x22), .q (.ints x23)], k => l4 x16 x17 x18 x19 x22 x23 (fun y5 => k (o4 x16 x17 x18 x19 x22 x23 y5)) fuel x20 x21
  | _, _ => none
noncomputable def s2 (x10 : List Int) (x11 x12 x13 : Int) (x14 x15 : List Int) : St := ⟨mkT 112 [(0, one (.tr 0 1 [.int .u8] (.ints x10))), (2, one (.bp 1000 0)), (4, one (.bp 3064 0)), (5, one (.bp 9208 0)), (6, one (.int .i64 x11)), (8, one (.int .i64 x12)), (9, one (.int .i64 x13))], [(9200, ⟨[.int .i64], .ints x14, true, 0⟩), (9201, ⟨[.int .i64], .ints x15, true, 0⟩)], [(1000, [.nil, .nil]), (3064, [.nil, .nil]), (9208, [.ow 9200, .ow 9201])]⟩
noncomputable def l2s (x10 : List Int) (x12 : Int) (x14 : List Int) (rec : Int → Int → List Int → Option Res) (k : List Int → Option Res) (x11 x13 : Int) (x15 : List Int) : Option Res :=
  bif decide (x13 < x12) then (l4 x10 x11 x12 x13 x14 x15 (fun y24 => 
    bif decide ((x15.length + 1) * 8 ≤ 140737488355328) then rec (IntKind.i64.wrap (x11 + 8)) (IntKind.i64.wrap (x13 + 1)) (x15 ++ ([IntKind.i64.wrap (y24 - 1000000000000)] : List Int))
    else none) fuel 0 7)
  else k x15
noncomputable def l2 (x10 : List Int) (x12 : Int) (x14 : List Int) (k : List Int → Option Res) : Nat → Int → Int → List Int → Option Res
  | 0, _, _, _ => none
  | n + 1, x11, x13, x15 => l2s x10 x12 x14 (fun x11 x13 x15 => l2 x10 x12 x14 k n x11 x13 x15) k x11 x13 x15
noncomputable def o2 (x10 : List Int) (x12 : Int) (x14 y2 : List Int) : St := ⟨mkT 112 [(2, one (.bp 1000 0)), (4, one (.bp 3064 0)), (5, one (.bp 9208 0))], [(9200, ⟨[.int .i64], .ints x14, true, 0⟩), (9201, ⟨[.int .i64], .ints y2, true, 0⟩)], [(1000, [.nil, .nil]), (3064, [.nil, .nil]), (9208, [.ow 9200, .ow 9201])]⟩
noncomputable def p2 (K : Res → Option Res) : List Lf → (St → Option Res) → Option Res
  | [.q (.ints x10), .i x11, .i x12, .i x13, .q (.ints x14), .q (.ints x15)], k => l2 x10 x12 x14 (fun y2 => k (o2 x10 x12 x14 y2)) fuel x11 x13 x15
  | _, _ => none
noncomputable def os : List (FuncId × St × (List Lf → (Res → Option Res) → Option Res)) := [spec_SizeOf.con, spec_ArrayOk.con]
noncomputable def X (K : Res → Option Res) : Ctx := { Γ := Γ0, orc := orcOf os, io := [], share := [], mvl := [], bun := [], cut := [], own := [(4, 0, 0, [.int .i64]), (4, 0, 1, [.int .i64])], cin := [(0, ⟨[0, 2, 4, 5, 6, 7], [(9200, 9200), (19688, 9200), (9201, 9201)], [1000, 3064, 9208], [], [], []⟩), (4, ⟨[0, 2, 4, 5, 6, 8, 9, 10, 11], [(9200, 9200), (9201, 9201)], [1000, 3064, 9208], [], [], []⟩), (2, ⟨[0, 2, 4, 5, 6, 8, 9], [(9200, 9200), (9201, 9201), (46136, 9201)], [1000, 3064, 9208], [], [], []⟩)], cout := [(0, ⟨[0, 2, 4, 5, 6], [(9200, 9200), (9201, 9201)], [1000, 3064, 9208], [], [], []⟩), (4, ⟨[0, 2, 4, 5, 6, 8, 9, 10], [(9200, 9200), (9201, 9201)], [1000, 3064, 9208], [], [], []⟩), (2, ⟨[2, 4, 5], [(9200, 9200), (9201, 9201)], [1000, 3064, 9208], [], [], []⟩)], lp := lpOf [(0, s0 [] 0 0 [] [], p0 K), (4, s4 [] 0 0 0 0 0 [] [], p4 K), (2, s2 [] 0 0 0 [] [], p2 K)], kl := [], nk := true, eqs := eqs0, byt := byt0, fin := finK fi K }
noncomputable def b (a1 : List Int) (R : List Int → List Int → Bool → Option Res) : Option Res :=
  bif ((a1.length : Int) == 0) then R ([] : List Int) ([] : List Int) false
  else bif decide (0 < (a1.length : Int)) then (bif decide (3 < IntKind.i64.wrap (a1.getD 0 0)) then R ([] : List Int) ([] : List Int) false
    else bif decide (0 < (a1.length : Int)) then (bif decide (IntKind.i64.wrap ((a1.length : Int) - 1) < IntKind.i64.wrap (2 * (IntKind.i64.wrap (a1.getD 0 0)))) then R ([] : List Int) ([] : List Int) false
      else (l0 a1 ([] : List Int) (fun y7 y8 => 
      spec_SizeOf.g y8 fun r9 =>
      bif decide (r9 < 0) then R ([] : List Int) ([] : List Int) false
      else bif (IntKind.i64.wrap ((a1.length : Int) - y7) != IntKind.i64.wrap (8 * r9)) then R ([] : List Int) ([] : List Int) false
      else (l2 a1 r9 y8 (fun y25 => 
      spec_ArrayOk.g y8 y25 fun r26 =>
      bif !r26 then R ([] : List Int) ([] : List Int) false
      else R y8 y25 true) fuel y7 0 ([] : List Int))) fuel 1 0 ([] : List Int)))
    else none)
  else none
theorem gx : ∃ x : List Int → (List Int → List Int → Bool → Option Res) → Option Res, x = b := ⟨_, rfl⟩
noncomputable def g : List Int → (List Int → List Int → Bool → Option Res) → Option Res := Classical.choose gx
theorem e : g = b := Classical.choose_spec gx
noncomputable def run : List Lf → (Res → Option Res) → Option Res
  | [.q (.ints a1)], K => g a1 (fun r1 r2 r3 => K (m r1 r2 r3))
  | _, _ => none
noncomputable def a (a1 : List Int) : St := argSt [one (.tr 0 1 [.int .u8] (.ints a1))] [] []
noncomputable def con : FuncId × St × (List Lf → (Res → Option Res) → Option Res) := (13, a [], run)
theorem cx (K : Res → Option Res) : CtxOk Go.Proofs.Try.prog Γ0 byt0 eqs0 (X K) os := ⟨rfl, rfl, rfl, (fun p hp => by
  rcases List.mem_cons.1 hp with rfl | hp
  · exact spec_SizeOf.ok
  rcases List.mem_cons.1 hp with rfl | hp
  · exact spec_ArrayOk.ok
  cases hp), rfl, rfl, rfl, rfl⟩
theorem t0 (K : Res → Option Res) (k : St → Option Res) (it : St → (St → Option Res) → Option Res) (x2 : List Int) (x3 x4 : Int) (x5 x6 : List Int) : iterS (X K) 0 b0 it (s0 x2 x3 x4 x5 x6) k = l0s x2 x6 (fun x3 x4 x5 => it (s0 x2 x3 x4 x5 x6) k) (fun y2 y3 => k (o0 x2 x6 y2 y3)) x3 x4 x5 := by kernel_rfl
theorem i0 (K : Res → Option Res) (k : St → Option Res) (x2 x6 : List Int) : ∀ (n : Nat) (x3 x4 : Int) (x5 : List Int), iter (X K) 0 b0 n (s0 x2 x3 x4 x5 x6) k = l0 x2 x6 (fun y2 y3 => k (o0 x2 x6 y2 y3)) n x3 x4 x5
  | 0, _, _, _ => rfl
  | n + 1, x3, x4, x5 => by
    rw [iter_succ, t0, show (fun x3 x4 x5 => iter (X K) 0 b0 n (s0 x2 x3 x4 x5 x6) k) = (fun x3 x4 x5 => l0 x2 x6 (fun y2 y3 => k (o0 x2 x6 y2 y3)) n x3 x4 x5) from funext fun x3 => funext fun x4 => funext fun x5 => i0 K k x2 x6 n x3 x4 x5]; rfl
theorem v0 {K : Res → Option Res} {l : List Lf} {k : St → Option Res} {r : Res} (h : p0 K l k = some r) : ∃ x2 x3 x4 x5 x6, l = [.q (.ints x2), .i x3, .i x4, .q (.ints x5), .q (.ints x6)] ∧ l0 x2 x6 (fun y2 y3 => k (o0 x2 x6 y2 y3)) fuel x3 x4 x5 = some r := by
  unfold p0 at h; split at h
  · exact ⟨_, _, _, _, _, rfl, h⟩
  · cases h
theorem t4 (K : Res → Option Res) (k : St → Option Res) (it : St → (St → Option Res) → Option Res) (x16 : List Int) (x17 x18 x19 x20 x21 : Int) (x22 x23 : List Int) : iterS (X K) 4 b4 it (s4 x16 x17 x18 x19 x20 x21 x22 x23) k = l4s x16 x17 x18 x19 x22 x23 (fun x20 x21 => it (s4 x16 x17 x18 x19 x20 x21 x22 x23) k) (fun y5 => k (o4 x16 x17 x18 x19 x22 x23 y5)) x20 x21 := by kernel_rfl
theorem i4 (K : Res → Option Res) (k : St → Option Res) (x16 : List Int) (x17 x18 x19 : Int) (x22 x23 : List Int) : ∀ (n : Nat) (x20 x21 : Int), iter (X K) 4 b4 n (s4 x16 x17 x18 x19 x20 x21 x22 x23) k = l4 x16 x17 x18 x19 x22 x23 (fun y5 => k (o4 x16 x17 x18 x19 x22 x23 y5)) n x20 x21
  | 0, _, _ => rfl
  | n + 1, x20, x21 => by
    rw [iter_succ, t4, show (fun x20 x21 => iter (X K) 4 b4 n (s4 x16 x17 x18 x19 x20 x21 x22 x23) k) = (fun x20 x21 => l4 x16 x17 x18 x19 x22 x23 (fun y5 => k (o4 x16 x17 x18 x19 x22 x23 y5)) n x20 x21) from funext fun x20 => funext fun x21 => i4 K k x16 x17 x18 x19 x22 x23 n x20 x21]; rfl
theorem v4 {K : Res → Option Res} {l : List Lf} {k : St → Option Res} {r : Res} (h : p4 K l k = some r) : ∃ x16 x17 x18 x19 x20 x21 x22 x23, l = [.q (.ints x16), .i x17, .i x18, .i x19, .i x20, .i x21, .q (.ints x22), .q (.ints x23)] ∧ l4 x16 x17 x18 x19 x22 x23 (fun y5 => k (o4 x16 x17 x18 x19 x22 x23 y5)) fuel x20 x21 = some r := by
  unfold p4 at h; split at h
  · exact ⟨_, _, _, _, _, _, _, _, rfl, h⟩
  · cases h
theorem t2 (K : Res → Option Res) (k : St → Option Res) (it : St → (St → Option Res) → Option Res) (x10 : List Int) (x11 x12 x13 : Int) (x14 x15 : List Int) : iterS (X K) 2 b2 it (s2 x10 x11 x12 x13 x14 x15) k = l2s x10 x12 x14 (fun x11 x13 x15 => it (s2 x10 x11 x12 x13 x14 x15) k) (fun y2 => k (o2 x10 x12 x14 y2)) x11 x13 x15 := by kernel_rfl
theorem i2 (K : Res → Option Res) (k : St → Option Res) (x10 : List Int) (x12 : Int) (x14 : List Int) : ∀ (n : Nat) (x11 x13 : Int) (x15 : List Int), iter (X K) 2 b2 n (s2 x10 x11 x12 x13 x14 x15) k = l2 x10 x12 x14 (fun y2 => k (o2 x10 x12 x14 y2)) n x11 x13 x15
  | 0, _, _, _ => rfl
  | n + 1, x11, x13, x15 => by
    rw [iter_succ, t2, show (fun x11 x13 x15 => iter (X K) 2 b2 n (s2 x10 x11 x12 x13 x14 x15) k) = (fun x11 x13 x15 => l2 x10 x12 x14 (fun y2 => k (o2 x10 x12 x14 y2)) n x11 x13 x15) from funext fun x11 => funext fun x13 => funext fun x15 => i2 K k x10 x12 x14 n x11 x13 x15]; rfl
theorem v2 {K : Res → Option Res} {l : List Lf} {k : St → Option Res} {r : Res} (h : p2 K l k = some r) : ∃ x10 x11 x12 x13 x14 x15, l = [.q (.ints x10), .i x11, .i x12, .i x13, .q (.ints x14), .q (.ints x15)] ∧ l2 x10 x12 x14 (fun y2 => k (o2 x10 x12 x14 y2)) fuel x11 x13 x15 = some r := by
  unfold p2 at h; split at h
  · exact ⟨_, _, _, _, _, _, rfl, h⟩
  · cases h
theorem w4 (K : Res → Option Res) : LpSound Go.Proofs.Try.prog (X K) 4 b4 := lp_ok ((cx K).ok laid) (by rw [show loopsOf b4 = [] from by kernel_rfl]; intro p hp; cases hp) rfl fun p hp hid => by
  rcases List.mem_cons.1 hp with rfl | hp
  · exact absurd hid (by simp)
  rcases List.mem_cons.1 hp with rfl | hp
  · intro st k r h1 h2; obtain ⟨x16, x17, x18, x19, x20, x21, x22, x23, e, h⟩ := v4 (K := K) h2; have := St.like_eq (y := s4 x16 x17 x18 x19 x20 x21 x22 x23) h1 (by kernel_rfl) e; subst this; exact ⟨fuel, (i4 K k x16 x17 x18 x19 x22 x23 fuel x20 x21).trans h⟩
  rcases List.mem_cons.1 hp with rfl | hp
  · exact absurd hid (by simp)
  cases hp
theorem w2 (K : Res → Option Res) : LpSound Go.Proofs.Try.prog (X K) 2 b2 := lp_ok ((cx K).ok laid) (by
    rw [show loopsOf b2 = [(4, b4)] from by kernel_rfl]; intro p hp
    rcases List.mem_cons.1 hp with rfl | hp
    · exact w4 K
    cases hp) rfl fun p hp hid => by
  rcases List.mem_cons.1 hp with rfl | hp
  · exact absurd hid (by simp)
  rcases List.mem_cons.1 hp with rfl | hp
  · exact absurd hid (by simp)
  rcases List.mem_cons.1 hp with rfl | hp
  · intro st k r h1 h2; obtain ⟨x10, x11, x12, x13, x14, x15, e, h⟩ := v2 (K := K) h2; have := St.like_eq (y := s2 x10 x11 x12 x13 x14 x15) h1 (by kernel_rfl) e; subst this; exact ⟨fuel, (i2 K k x10 x12 x14 fuel x11 x13 x15).trans h⟩
  cases hp
theorem w0 (K : Res → Option Res) : LpSound Go.Proofs.Try.prog (X K) 0 b0 := lp_ok ((cx K).ok laid) (by rw [show loopsOf b0 = [] from by kernel_rfl]; intro p hp; cases hp) rfl fun p hp hid => by
  rcases List.mem_cons.1 hp with rfl | hp
  · intro st k r h1 h2; obtain ⟨x2, x3, x4, x5, x6, e, h⟩ := v0 (K := K) h2; have := St.like_eq (y := s0 x2 x3 x4 x5 x6) h1 (by kernel_rfl) e; subst this; exact ⟨fuel, (i0 K k x2 x6 fuel x3 x4 x5).trans h⟩
  rcases List.mem_cons.1 hp with rfl | hp
  · exact absurd hid (by simp)
  rcases List.mem_cons.1 hp with rfl | hp
  · exact absurd hid (by simp)
  cases hp
theorem tie (K : Res → Option Res) (a1 : List Int) : exec (X K) c (entry 112 [one (.tr 0 1 [.int .u8] (.ints a1))] [] []) (endK (X K)) = g a1 (fun r1 r2 r3 => K (m r1 r2 r3)) := Eq.trans (b := b a1 (fun r1 r2 r3 => K (m r1 r2 r3))) (by kernel_rfl) (by rw [e])
theorem runv {l : List Lf} {K : Res → Option Res} {r : Res} (h : run l K = some r) : ∃ a1, l = [.q (.ints a1)] ∧ g a1 (fun r1 r2 r3 => K (m r1 r2 r3)) = some r := by
  unfold run at h; split at h
  · exact ⟨_, rfl, h⟩
  · cases h
theorem ok : Con Go.Proofs.Try.prog con := con_of (fn := Go.Proofs.Try.f13) (c := c) (Fi := fi) (X := X) (fun_of laid (by kernel_rfl) (by kernel_rfl) (by kernel_rfl) rfl (by kernel_rfl) (by kernel_rfl) cx (fun _ => rfl) (fun _ => rfl) (fun K => by
    rw [show loopsOf c = [(0, b0), (2, b2), (4, b4)] from by kernel_rfl]; intro p hp
    rcases List.mem_cons.1 hp with rfl | hp
    · exact w0 K
    rcases List.mem_cons.1 hp with rfl | hp
    · exact w2 K
    rcases List.mem_cons.1 hp with rfl | hp
    · exact w4 K
    cases hp)) fun xs rows boxes K r hl hr => by
  obtain ⟨a1, e, h⟩ := runv hr
  have := St.like_eq (y := a a1) hl (by kernel_rfl) e
  obtain ⟨rfl, rfl, rfl⟩ := argSt_inj this
  exact (tie K a1).trans h
end spec_ArrayRead
namespace impl_byteReader_one
noncomputable def c : Code := bodyOf Go.Proofs.Try.f68
noncomputable def fi : Fin := ⟨Γ0, [(.tmp 2, 3)], [[1]], [], [([.sl [.int .u8] 1, .bool], [0, 1])], []⟩
noncomputable def m (r1 : Int) (r2 : List Int) (r3 : Bool) : Res := ⟨[⟨false, [.int .i64 r1]⟩], [], [], [[.tr 2 2 [.int .u8] (.ints r2), .bool r3]], []⟩
noncomputable def os : List (FuncId × St × (List Lf → (Res → Option Res) → Option Res)) := []
noncomputable def X (K : Res → Option Res) : Ctx := { Γ := Γ0, orc := orcOf os, io := [], share := [], mvl := [], bun := [], cut := [], own := [], cin := [], cout := [], lp := lpOf [], kl := [], nk := true, eqs := eqs0, byt := byt0, fin := finK fi K }
noncomputable def b (a1 : List Int) (a2 : Bool) (R : Int → List Int → Bool → Option Res) : Option Res :=
  bif ((a1.length : Int) == 0) then R 0 a1 true
  else bif decide (0 < (a1.length : Int)) then (bif decide (1 ≤ (a1.length : Int)) then R (IntKind.i64.wrap (a1.getD 0 0)) (a1.drop 1) a2
    else none)
  else none
theorem gx : ∃ x : List Int → Bool → (Int → List Int → Bool → Option Res) → Option Res, x = b := ⟨_, rfl⟩
noncomputable def g : List Int → Bool → (Int → List Int → Bool → Option Res) → Option Res := Classical.choose gx
theorem e : g = b := Classical.choose_spec gx
noncomputable def run : List Lf → (Res → Option Res) → Option Res
  | [.q (.ints a1), .b a2], K => g a1 a2 (fun r1 r2 r3 => K (m r1 r2 r3))
  | _, _ => none
noncomputable def a (a1 : List Int) (a2 : Bool) : St := argSt [one (.bp 0 0)] [] [[.tr 2 2 [.int .u8] (.ints a1), .bool a2]]
noncomputable def con : FuncId × St × (List Lf → (Res → Option Res) → Option Res) := (68, a [] false, run)
theorem cx (K : Res → Option Res) : CtxOk Go.Proofs.Try.prog Γ0 byt0 eqs0 (X K) os := ⟨rfl, rfl, rfl, (fun p hp => by
  cases hp), rfl, rfl, rfl, rfl⟩
theorem tie (K : Res → Option Res) (a1 : List Int) (a2 : Bool) : exec (X K) c (entry 29 [one (.bp 0 0)] [] [[.tr 2 2 [.int .u8] (.ints a1), .bool a2]]) (endK (X K)) = g a1 a2 (fun r1 r2 r3 => K (m r1 r2 r3)) := Eq.trans (b := b a1 a2 (fun r1 r2 r3 => K (m r1 r2 r3))) (by kernel_rfl) (by rw [e])
theorem runv {l : List Lf} {K : Res → Option Res} {r : Res} (h : run l K = some r) : ∃ a1 a2, l = [.q (.ints a1), .b a2] ∧ g a1 a2 (fun r1 r2 r3 => K (m r1 r2 r3)) = some r := by
  unfold run at h; split at h
  · exact ⟨_, _, rfl, h⟩
  · cases h
theorem ok : Con Go.Proofs.Try.prog con := con_of (fn := Go.Proofs.Try.f68) (c := c) (Fi := fi) (X := X) (fun_of laid (by kernel_rfl) (by kernel_rfl) (by kernel_rfl) rfl (by kernel_rfl) (by kernel_rfl) cx (fun _ => rfl) (fun _ => rfl) (fun K => by
    rw [show loopsOf c = [] from by kernel_rfl]; intro p hp
    cases hp)) fun xs rows boxes K r hl hr => by
  obtain ⟨a1, a2, e, h⟩ := runv hr
  have := St.like_eq (y := a a1 a2) hl (by kernel_rfl) e
  obtain ⟨rfl, rfl, rfl⟩ := argSt_inj this
  exact (tie K a1 a2).trans h
end impl_byteReader_one
namespace impl_byteReader_two
noncomputable def c : Code := bodyOf Go.Proofs.Try.f69
noncomputable def fi : Fin := ⟨Γ0, [(.tmp 2, 3)], [[1]], [], [([.sl [.int .u8] 1, .bool], [0, 1])], []⟩
noncomputable def m (r1 : Int) (r2 : List Int) (r3 : Bool) : Res := ⟨[⟨false, [.int .i64 r1]⟩], [], [], [[.tr 2 2 [.int .u8] (.ints r2), .bool r3]], []⟩
noncomputable def os : List (FuncId × St × (List Lf → (Res → Option Res) → Option Res)) := [impl_byteReader_one.con]
noncomputable def X (K : Res → Option Res) : Ctx := { Γ := Γ0, orc := orcOf os, io := [], share := [], mvl := [], bun := [], cut := [], own := [], cin := [], cout := [], lp := lpOf [], kl := [], nk := true, eqs := eqs0, byt := byt0, fin := finK fi K }
noncomputable def b (a1 : List Int) (a2 : Bool) (R : Int → List Int → Bool → Option Res) : Option Res :=
  impl_byteReader_one.g a1 a2 fun r3 r4 r5 =>
  impl_byteReader_one.g r4 r5 fun r6 r7 r8 =>
  R (IntKind.i64.wrap (r3 + (IntKind.i64.wrap (256 * r6)))) r7 r8
theorem gx : ∃ x : List Int → Bool → (Int → List Int → Bool → Option Res) → Option Res, x = b := ⟨_, rfl⟩
noncomputable def g : List Int → Bool → (Int → List Int → Bool → Option Res) → Option Res := Classical.choose gx
theorem e : g = b := Classical.choose_spec gx
noncomputable def run : List Lf → (Res → Option Res) → Option Res
  | [.q (.ints a1), .b a2], K => g a1 a2 (fun r1 r2 r3 => K (m r1 r2 r3))
  | _, _ => none
noncomputable def a (a1 : List Int) (a2 : Bool) : St := argSt [one (.bp 0 0)] [] [[.tr 2 2 [.int .u8] (.ints a1), .bool a2]]
noncomputable def con : FuncId × St × (List Lf → (Res → Option Res) → Option Res) := (69, a [] false, run)
theorem cx (K : Res → Option Res) : CtxOk Go.Proofs.Try.prog Γ0 byt0 eqs0 (X K) os := ⟨rfl, rfl, rfl, (fun p hp => by
  rcases List.mem_cons.1 hp with rfl | hp
  · exact impl_byteReader_one.ok
  cases hp), rfl, rfl, rfl, rfl⟩
theorem tie (K : Res → Option Res) (a1 : List Int) (a2 : Bool) : exec (X K) c (entry 11 [one (.bp 0 0)] [] [[.tr 2 2 [.int .u8] (.ints a1), .bool a2]]) (endK (X K)) = g a1 a2 (fun r1 r2 r3 => K (m r1 r2 r3)) := Eq.trans (b := b a1 a2 (fun r1 r2 r3 => K (m r1 r2 r3))) (by kernel_rfl) (by rw [e])
theorem runv {l : List Lf} {K : Res → Option Res} {r : Res} (h : run l K = some r) : ∃ a1 a2, l = [.q (.ints a1), .b a2] ∧ g a1 a2 (fun r1 r2 r3 => K (m r1 r2 r3)) = some r := by
  unfold run at h; split at h
  · exact ⟨_, _, rfl, h⟩
  · cases h
theorem ok : Con Go.Proofs.Try.prog con := con_of (fn := Go.Proofs.Try.f69) (c := c) (Fi := fi) (X := X) (fun_of laid (by kernel_rfl) (by kernel_rfl) (by kernel_rfl) rfl (by kernel_rfl) (by kernel_rfl) cx (fun _ => rfl) (fun _ => rfl) (fun K => by
    rw [show loopsOf c = [] from by kernel_rfl]; intro p hp
    cases hp)) fun xs rows boxes K r hl hr => by
  obtain ⟨a1, a2, e, h⟩ := runv hr
  have := St.like_eq (y := a a1 a2) hl (by kernel_rfl) e
  obtain ⟨rfl, rfl, rfl⟩ := argSt_inj this
  exact (tie K a1 a2).trans h
end impl_byteReader_two
namespace impl_within
noncomputable def c : Code := bodyOf Go.Proofs.Try.f101
noncomputable def fi : Fin := ⟨Γ0, [(.tmp 6, 4)], [[1]], [], [], []⟩
noncomputable def m (r1 : Bool) : Res := ⟨[⟨false, [.bool r1]⟩], [], [], [], []⟩
noncomputable def os : List (FuncId × St × (List Lf → (Res → Option Res) → Option Res)) := []
noncomputable def X (K : Res → Option Res) : Ctx := { Γ := Γ0, orc := orcOf os, io := [], share := [], mvl := [], bun := [], cut := [], own := [], cin := [], cout := [], lp := lpOf [], kl := [], nk := true, eqs := eqs0, byt := byt0, fin := finK fi K }
noncomputable def b (a1 a2 a3 : Int) (R : Bool → Option Res) : Option Res :=
  bif decide (a2 ≤ a1) then R (decide (a1 ≤ a3))
  else R false
theorem gx : ∃ x : Int → Int → Int → (Bool → Option Res) → Option Res, x = b := ⟨_, rfl⟩
noncomputable def g : Int → Int → Int → (Bool → Option Res) → Option Res := Classical.choose gx
theorem e : g = b := Classical.choose_spec gx
noncomputable def run : List Lf → (Res → Option Res) → Option Res
  | [.i a1, .i a2, .i a3], K => g a1 a2 a3 (fun r1 => K (m r1))
  | _, _ => none
noncomputable def a (a1 a2 a3 : Int) : St := argSt [one (.int .i64 a1), one (.int .i64 a2), one (.int .i64 a3)] [] []
noncomputable def con : FuncId × St × (List Lf → (Res → Option Res) → Option Res) := (101, a 0 0 0, run)
theorem cx (K : Res → Option Res) : CtxOk Go.Proofs.Try.prog Γ0 byt0 eqs0 (X K) os := ⟨rfl, rfl, rfl, (fun p hp => by
  cases hp), rfl, rfl, rfl, rfl⟩
theorem tie (K : Res → Option Res) (a1 a2 a3 : Int) : exec (X K) c (entry 15 [one (.int .i64 a1), one (.int .i64 a2), one (.int .i64 a3)] [] []) (endK (X K)) = g a1 a2 a3 (fun r1 => K (m r1)) := Eq.trans (b := b a1 a2 a3 (fun r1 => K (m r1))) (by kernel_rfl) (by rw [e])
theorem runv {l : List Lf} {K : Res → Option Res} {r : Res} (h : run l K = some r) : ∃ a1 a2 a3, l = [.i a1, .i a2, .i a3] ∧ g a1 a2 a3 (fun r1 => K (m r1)) = some r := by
  unfold run at h; split at h
  · exact ⟨_, _, _, rfl, h⟩
  · cases h
theorem ok : Con Go.Proofs.Try.prog con := con_of (fn := Go.Proofs.Try.f101) (c := c) (Fi := fi) (X := X) (fun_of laid (by kernel_rfl) (by kernel_rfl) (by kernel_rfl) rfl (by kernel_rfl) (by kernel_rfl) cx (fun _ => rfl) (fun _ => rfl) (fun K => by
    rw [show loopsOf c = [] from by kernel_rfl]; intro p hp
    cases hp)) fun xs rows boxes K r hl hr => by
  obtain ⟨a1, a2, a3, e, h⟩ := runv hr
  have := St.like_eq (y := a a1 a2 a3) hl (by kernel_rfl) e
  obtain ⟨rfl, rfl, rfl⟩ := argSt_inj this
  exact (tie K a1 a2 a3).trans h
end impl_within
namespace impl_SizeOf
noncomputable def c : Code := bodyOf Go.Proofs.Try.f70
noncomputable def fi : Fin := ⟨Γ0, [(.tmp 2, 3)], [[1]], [], [], []⟩
noncomputable def m (r1 : Int) : Res := ⟨[⟨false, [.int .i64 r1]⟩], [], [], [], []⟩
noncomputable def b0 : Code := codeAt c [1, 1, 1, 0, 1, 0, 0]
noncomputable def s0 (x2 : Int) (x3 : List Int) (x4 x5 : Int) : St := ⟨mkT 25 [(3, one (.int .i64 x2)), (9, one (.tr 0 1 [.int .i64] (.ints x3))), (10, one (.int .i64 x4)), (11, one (.int .i64 x5))], [], []⟩
noncomputable def l0s (x3 : List Int) (x4 : Int) (rec : Int → Int → Option Res) (k : Int → Option Res) (R : Int → Option Res) (x2 x5 : Int) : Option Res :=
  bif decide (x5 < x4) then (bif decide (0 ≤ x5) && decide (x5 < (x3.length : Int)) then (impl_within.g (x3.getD x5.toNat 0) 0 300 fun r6 =>
      bif !r6 then R (-1)
      else rec (IntKind.i64.wrap (x2 * (x3.getD x5.toNat 0))) (IntKind.i64.wrap (x5 + 1)))
    else none)
  else k x2
noncomputable def l0 (x3 : List Int) (x4 : Int) (k : Int → Option Res) (R : Int → Option Res) : Nat → Int → Int → Option Res
  | 0, _, _ => none
  | n + 1, x2, x5 => l0s x3 x4 (fun x2 x5 => l0 x3 x4 k R n x2 x5) k R x2 x5
noncomputable def o0 (x3 : List Int) (x4 y1 : Int) : St := ⟨mkT 25 [(3, one (.int .i64 y1))], [], []⟩
noncomputable def p0 (K : Res → Option Res) : List Lf → (St → Option Res) → Option Res
  | [.i x2, .q (.ints x3), .i x4, .i x5], k => l0 x3 x4 (fun y1 => k (o0 x3 x4 y1)) (fun r1 => K (m r1)) fuel x2 x5
  | _, _ => none
noncomputable def os : List (FuncId × St × (List Lf → (Res → Option Res) → Option Res)) := [impl_within.con]
noncomputable def X (K : Res → Option Res) : Ctx := { Γ := Γ0, orc := orcOf os, io := [], share := [], mvl := [], bun := [], cut := [], own := [], cin := [(0, ⟨[3, 9, 10, 11], [], [], [], [], []⟩)], cout := [(0, ⟨[3], [], [], [], [], []⟩)], lp := lpOf [(0, s0 0 [] 0 0, p0 K)], kl := [], nk := true, eqs := eqs0, byt := byt0, fin := finK fi K }
noncomputable def b (a1 : List Int) (R : Int → Option Res) : Option Res :=
  bif decide (3 < (a1.length : Int)) then R (-1)
  else (l0 a1 (a1.length : Int) (fun y7 => 
  bif decide (300 < y7) then R (-1)
  else R y7) R fuel 1 0)
theorem gx : ∃ x : List Int → (Int → Option Res) → Option Res, x = b := ⟨_, rfl⟩
noncomputable def g : List Int → (Int → Option Res) → Option Res := Classical.choose gx
theorem e : g = b := Classical.choose_spec gx
noncomputable def run : List Lf → (Res → Option Res) → Option Res
  | [.q (.ints a1)], K => g a1 (fun r1 => K (m r1))
  | _, _ => none
noncomputable def a (a1 : List Int) : St := argSt [one (.tr 0 1 [.int .i64] (.ints a1))] [] []
noncomputable def con : FuncId × St × (List Lf → (Res → Option Res) → Option Res) := (70, a [], run)
theorem cx (K : Res → Option Res) : CtxOk Go.Proofs.Try.prog Γ0 byt0 eqs0 (X K) os := ⟨rfl, rfl, rfl, (fun p hp => by
  rcases List.mem_cons.1 hp with rfl | hp
  · exact impl_within.ok
  cases hp), rfl, rfl, rfl, rfl⟩
theorem t0 (K : Res → Option Res) (k : St → Option Res) (it : St → (St → Option Res) → Option Res) (x2 : Int) (x3 : List Int) (x4 x5 : Int) : iterS (X K) 0 b0 it (s0 x2 x3 x4 x5) k = l0s x3 x4 (fun x2 x5 => it (s0 x2 x3 x4 x5) k) (fun y1 => k (o0 x3 x4 y1)) (fun r1 => K (m r1)) x2 x5 := by kernel_rfl
theorem i0 (K : Res → Option Res) (k : St → Option Res) (x3 : List Int) (x4 : Int) : ∀ (n : Nat) (x2 x5 : Int), iter (X K) 0 b0 n (s0 x2 x3 x4 x5) k = l0 x3 x4 (fun y1 => k (o0 x3 x4 y1)) (fun r1 => K (m r1)) n x2 x5
  | 0, _, _ => rfl
  | n + 1, x2, x5 => by
    rw [iter_succ, t0, show (fun x2 x5 => iter (X K) 0 b0 n (s0 x2 x3 x4 x5) k) = (fun x2 x5 => l0 x3 x4 (fun y1 => k (o0 x3 x4 y1)) (fun r1 => K (m r1)) n x2 x5) from funext fun x2 => funext fun x5 => i0 K k x3 x4 n x2 x5]; rfl
theorem v0 {K : Res → Option Res} {l : List Lf} {k : St → Option Res} {r : Res} (h : p0 K l k = some r) : ∃ x2 x3 x4 x5, l = [.i x2, .q (.ints x3), .i x4, .i x5] ∧ l0 x3 x4 (fun y1 => k (o0 x3 x4 y1)) (fun r1 => K (m r1)) fuel x2 x5 = some r := by
  unfold p0 at h; split at h
  · exact ⟨_, _, _, _, rfl, h⟩
  · cases h
theorem w0 (K : Res → Option Res) : LpSound Go.Proofs.Try.prog (X K) 0 b0 := lp_ok ((cx K).ok laid) (by rw [show loopsOf b0 = [] from by kernel_rfl]; intro p hp; cases hp) rfl fun p hp hid => by
  rcases List.mem_cons.1 hp with rfl | hp
  · intro st k r h1 h2; obtain ⟨x2, x3, x4, x5, e, h⟩ := v0 (K := K) h2; have := St.like_eq (y := s0 x2 x3 x4 x5) h1 (by kernel_rfl) e; subst this; exact ⟨fuel, (i0 K k x3 x4 fuel x2 x5).trans h⟩
  cases hp
theorem tie (K : Res → Option Res) (a1 : List Int) : exec (X K) c (entry 25 [one (.tr 0 1 [.int .i64] (.ints a1))] [] []) (endK (X K)) = g a1 (fun r1 => K (m r1)) := Eq.trans (b := b a1 (fun r1 => K (m r1))) (by kernel_rfl) (by rw [e])
theorem runv {l : List Lf} {K : Res → Option Res} {r : Res} (h : run l K = some r) : ∃ a1, l = [.q (.ints a1)] ∧ g a1 (fun r1 => K (m r1)) = some r := by
  unfold run at h; split at h
  · exact ⟨_, rfl, h⟩
  · cases h
theorem ok : Con Go.Proofs.Try.prog con := con_of (fn := Go.Proofs.Try.f70) (c := c) (Fi := fi) (X := X) (fun_of laid (by kernel_rfl) (by kernel_rfl) (by kernel_rfl) rfl (by kernel_rfl) (by kernel_rfl) cx (fun _ => rfl) (fun _ => rfl) (fun K => by
    rw [show loopsOf c = [(0, b0)] from by kernel_rfl]; intro p hp
    rcases List.mem_cons.1 hp with rfl | hp
    · exact w0 K
    cases hp)) fun xs rows boxes K r hl hr => by
  obtain ⟨a1, e, h⟩ := runv hr
  have := St.like_eq (y := a a1) hl (by kernel_rfl) e
  obtain ⟨rfl, rfl, rfl⟩ := argSt_inj this
  exact (tie K a1).trans h
end impl_SizeOf
namespace impl_byteReader_num
noncomputable def c : Code := bodyOf Go.Proofs.Try.f71
noncomputable def fi : Fin := ⟨Γ0, [(.tmp 2, 3)], [[1]], [], [([.sl [.int .u8] 1, .bool], [0, 1])], []⟩
noncomputable def m (r1 : Int) (r2 : List Int) (r3 : Bool) : Res := ⟨[⟨false, [.int .i64 r1]⟩], [], [], [[.tr 2 2 [.int .u8] (.ints r2), .bool r3]], []⟩
noncomputable def b0 : Code := codeAt c [1, 1, 0, 1, 0, 0]
noncomputable def s0 (x3 x4 : Int) (x5 : List Int) (x6 : Bool) : St := ⟨mkT 25 [(0, one (.bp 0 0)), (3, one (.int .u64 x3)), (4, one (.int .i64 x4))], [], [(0, [.tr 2 2 [.int .u8] (.ints x5), .bool x6])]⟩
noncomputable def l0s  (rec : Int → Int → List Int → Bool → Option Res) (k : Int → List Int → Bool → Option Res) (x3 x4 : Int) (x5 : List Int) (x6 : Bool) : Option Res :=
  bif decide (x4 < 8) then (impl_byteReader_one.g x5 x6 fun r7 r8 r9 =>
    bif decide (IntKind.i64.wrap (8 * x4) < 0) then none
    else rec (arith.bits .or .u64 x3 (IntKind.u64.wrap ((IntKind.u64.wrap r7) * 2 ^ (min (IntKind.i64.wrap (8 * x4)).toNat 64)))) (IntKind.i64.wrap (x4 + 1)) r8 r9)
  else k x3 x5 x6
noncomputable def l0  (k : Int → List Int → Bool → Option Res) : Nat → Int → Int → List Int → Bool → Option Res
  | 0, _, _, _, _ => none
  | n + 1, x3, x4, x5, x6 => l0s (fun x3 x4 x5 x6 => l0 k n x3 x4 x5 x6) k x3 x4 x5 x6
noncomputable def o0 (y1 : Int) (y2 : List Int) (y3 : Bool) : St := ⟨mkT 25 [(0, one (.bp 0 0)), (3, one (.int .u64 y1))], [], [(0, [.tr 2 2 [.int .u8] (.ints y2), .bool y3])]⟩
noncomputable def p0 (K : Res → Option Res) : List Lf → (St → Option Res) → Option Res
  | [.i x3, .i x4, .q (.ints x5), .b x6], k => l0 (fun y1 y2 y3 => k (o0 y1 y2 y3)) fuel x3 x4 x5 x6
  | _, _ => none
noncomputable def os : List (FuncId × St × (List Lf → (Res → Option Res) → Option Res)) := [impl_byteReader_one.con]
noncomputable def X (K : Res → Option Res) : Ctx := { Γ := Γ0, orc := orcOf os, io := [], share := [], mvl := [], bun := [], cut := [], own := [], cin := [(0, ⟨[0, 3, 4], [], [0], [], [], []⟩)], cout := [(0, ⟨[0, 3], [], [0], [], [], []⟩)], lp := lpOf [(0, s0 0 0 [] false, p0 K)], kl := [], nk := true, eqs := eqs0, byt := byt0, fin := finK fi K }
noncomputable def b (a1 : List Int) (a2 : Bool) (R : Int → List Int → Bool → Option Res) : Option Res :=
  l0 (fun y10 y11 y12 => 
  bif decide (2000000000000 < y10) then R 0 y11 true
  else R (IntKind.i64.wrap ((IntKind.i64.wrap y10) - 1000000000000)) y11 y12) fuel 0 0 a1 a2
theorem gx : ∃ x : List Int → Bool → (Int → List Int → Bool → Option Res) → Option Res, x = b := ⟨_, rfl⟩
noncomputable def g : List Int → Bool → (Int → List Int → Bool → Option Res) → Option Res := Classical.choose gx
theorem e : g = b := Classical.choose_spec gx
noncomputable def run : List Lf → (Res → Option Res) → Option Res
  | [.q (.ints a1), .b a2], K => g a1 a2 (fun r1 r2 r3 => K (m r1 r2 r3))
  | _, _ => none
noncomputable def a (a1 : List Int) (a2 : Bool) : St := argSt [one (.bp 0 0)] [] [[.tr 2 2 [.int .u8] (.ints a1), .bool a2]]
noncomputable def con : FuncId × St × (List Lf → (Res → Option Res) → Option Res) := (71, a [] false, run)
theorem cx (K : Res → Option Res) : CtxOk Go.Proofs.Try.prog Γ0 byt0 eqs0 (X K) os := ⟨rfl, rfl, rfl, (fun p hp => by
  rcases List.mem_cons.1 hp with rfl | hp
  · exact impl_byteReader_one.ok
  cases hp), rfl, rfl, rfl, rfl⟩
theorem t0 (K : Res → Option Res) (k : St → Option Res) (it : St → (St → Option Res) → Option Res) (x3 x4 : Int) (x5 : List Int) (x6 : Bool) : iterS (X K) 0 b0 it (s0 x3 x4 x5 x6) k = l0s (fun x3 x4 x5 x6 => it (s0 x3 x4 x5 x6) k) (fun y1 y2 y3 => k (o0 y1 y2 y3)) x3 x4 x5 x6 := by kernel_rfl
theorem i0 (K : Res → Option Res) (k : St → Option Res)  : ∀ (n : Nat) (x3 x4 : Int) (x5 : List Int) (x6 : Bool), iter (X K) 0 b0 n (s0 x3 x4 x5 x6) k = l0 (fun y1 y2 y3 => k (o0 y1 y2 y3)) n x3 x4 x5 x6
  | 0, _, _, _, _ => rfl
  | n + 1, x3, x4, x5, x6 => by
    rw [iter_succ, t0, show (fun x3 x4 x5 x6 => iter (X K) 0 b0 n (s0 x3 x4 x5 x6) k) = (fun x3 x4 x5 x6 => l0 (fun y1 y2 y3 => k (o0 y1 y2 y3)) n x3 x4 x5 x6) from funext fun x3 => funext fun x4 => funext fun x5 => funext fun x6 => i0 K k n x3 x4 x5 x6]; rfl
theorem v0 {K : Res → Option Res} {l : List Lf} {k : St → Option Res} {r : Res} (h : p0 K l k = some r) : ∃ x3 x4 x5 x6, l = [.i x3, .i x4, .q (.ints x5), .b x6] ∧ l0 (fun y1 y2 y3 => k (o0 y1 y2 y3)) fuel x3 x4 x5 x6 = some r := by
  unfold p0 at h; split at h
  · exact ⟨_, _, _, _, rfl, h⟩
  · cases h
theorem w0 (K : Res → Option Res) : LpSound Go.Proofs.Try.prog (X K) 0 b0 := lp_ok ((cx K).ok laid) (by rw [show loopsOf b0 = [] from by kernel_rfl]; intro p hp; cases hp) rfl fun p hp hid => by
  rcases List.mem_cons.1 hp with rfl | hp
  · intro st k r h1 h2; obtain ⟨x3, x4, x5, x6, e, h⟩ := v0 (K := K) h2; have := St.like_eq (y := s0 x3 x4 x5 x6) h1 (by kernel_rfl) e; subst this; exact ⟨fuel, (i0 K k fuel x3 x4 x5 x6).trans h⟩
  cases hp
theorem tie (K : Res → Option Res) (a1 : List Int) (a2 : Bool) : exec (X K) c (entry 25 [one (.bp 0 0)] [] [[.tr 2 2 [.int .u8] (.ints a1), .bool a2]]) (endK (X K)) = g a1 a2 (fun r1 r2 r3 => K (m r1 r2 r3)) := Eq.trans (b := b a1 a2 (fun r1 r2 r3 => K (m r1 r2 r3))) (by kernel_rfl) (by rw [e])
theorem runv {l : List Lf} {K : Res → Option Res} {r : Res} (h : run l K = some r) : ∃ a1 a2, l = [.q (.ints a1), .b a2] ∧ g a1 a2 (fun r1 r2 r3 => K (m r1 r2 r3)) = some r := by
  unfold run at h; split at h
  · exact ⟨_, _, rfl, h⟩
  · cases h
theorem ok : Con Go.Proofs.Try.prog con := con_of (fn := Go.Proofs.Try.f71) (c := c) (Fi := fi) (X := X) (fun_of laid (by kernel_rfl) (by kernel_rfl) (by kernel_rfl) rfl (by kernel_rfl) (by kernel_rfl) cx (fun _ => rfl) (fun _ => rfl) (fun K => by
    rw [show loopsOf c = [(0, b0)] from by kernel_rfl]; intro p hp
    rcases List.mem_cons.1 hp with rfl | hp
    · exact w0 K
    cases hp)) fun xs rows boxes K r hl hr => by
  obtain ⟨a1, a2, e, h⟩ := runv hr
  have := St.like_eq (y := a a1 a2) hl (by kernel_rfl) e
  obtain ⟨rfl, rfl, rfl⟩ := argSt_inj this
  exact (tie K a1 a2).trans h
end impl_byteReader_num
namespace impl_NumOk
noncomputable def c : Code := bodyOf Go.Proofs.Try.f94
noncomputable def fi : Fin := ⟨Γ0, [(.tmp 2, 4)], [[1]], [], [], []⟩
noncomputable def m (r1 : Bool) : Res := ⟨[⟨false, [.bool r1]⟩], [], [], [], []⟩
noncomputable def os : List (FuncId × St × (List Lf → (Res → Option Res) → Option Res)) := [impl_within.con]
noncomputable def X (K : Res → Option Res) : Ctx := { Γ := Γ0, orc := orcOf os, io := [], share := [], mvl := [], bun := [], cut := [], own := [], cin := [], cout := [], lp := lpOf [], kl := [], nk := true, eqs := eqs0, byt := byt0, fin := finK fi K }
noncomputable def b (a1 : Int) (R : Bool → Option Res) : Option Res :=
  impl_within.g a1 (-1000000000000) 1000000000000 fun r2 =>
  R r2
theorem gx : ∃ x : Int → (Bool → Option Res) → Option Res, x = b := ⟨_, rfl⟩
noncomputable def g : Int → (Bool → Option Res) → Option Res := Classical.choose gx
theorem e : g = b := Classical.choose_spec gx
noncomputable def run : List Lf → (Res → Option Res) → Option Res
  | [.i a1], K => g a1 (fun r1 => K (m r1))
  | _, _ => none
noncomputable def a (a1 : Int) : St := argSt [one (.int .i64 a1)] [] []
noncomputable def con : FuncId × St × (List Lf → (Res → Option Res) → Option Res) := (94, a 0, run)
theorem cx (K : Res → Option Res) : CtxOk Go.Proofs.Try.prog Γ0 byt0 eqs0 (X K) os := ⟨rfl, rfl, rfl, (fun p hp => by
  rcases List.mem_cons.1 hp with rfl | hp
  · exact impl_within.ok
  cases hp), rfl, rfl, rfl, rfl⟩
theorem tie (K : Res → Option Res) (a1 : Int) : exec (X K) c (entry 5 [one (.int .i64 a1)] [] []) (endK (X K)) = g a1 (fun r1 => K (m r1)) := Eq.trans (b := b a1 (fun r1 => K (m r1))) (by kernel_rfl) (by rw [e])
theorem runv {l : List Lf} {K : Res → Option Res} {r : Res} (h : run l K = some r) : ∃ a1, l = [.i a1] ∧ g a1 (fun r1 => K (m r1)) = some r := by
  unfold run at h; split at h
  · exact ⟨_, rfl, h⟩
  · cases h
theorem ok : Con Go.Proofs.Try.prog con := con_of (fn := Go.Proofs.Try.f94) (c := c) (Fi := fi) (X := X) (fun_of laid (by kernel_rfl) (by kernel_rfl) (by kernel_rfl) rfl (by kernel_rfl) (by kernel_rfl) cx (fun _ => rfl) (fun _ => rfl) (fun K => by
    rw [show loopsOf c = [] from by kernel_rfl]; intro p hp
    cases hp)) fun xs rows boxes K r hl hr => by
  obtain ⟨a1, e, h⟩ := runv hr
  have := St.like_eq (y := a a1) hl (by kernel_rfl) e
  obtain ⟨rfl, rfl, rfl⟩ := argSt_inj this
  exact (tie K a1).trans h
end impl_NumOk
namespace impl_ArrayOk_1
noncomputable def c : Code := bodyOf Go.Proofs.Try.f93
noncomputable def fi : Fin := ⟨Γ0, [(.tmp 2, 4)], [[1]], [], [], []⟩
noncomputable def m (r1 : Bool) : Res := ⟨[⟨false, [.bool r1]⟩], [], [], [], []⟩
noncomputable def os : List (FuncId × St × (List Lf → (Res → Option Res) → Option Res)) := [impl_NumOk.con]
noncomputable def X (K : Res → Option Res) : Ctx := { Γ := Γ0, orc := orcOf os, io := [], share := [], mvl := [], bun := [], cut := [], own := [], cin := [], cout := [], lp := lpOf [], kl := [], nk := true, eqs := eqs0, byt := byt0, fin := finK fi K }
noncomputable def b (a1 : Int) (R : Bool → Option Res) : Option Res :=
  impl_NumOk.g a1 fun r2 =>
  R (!r2)
theorem gx : ∃ x : Int → (Bool → Option Res) → Option Res, x = b := ⟨_, rfl⟩
noncomputable def g : Int → (Bool → Option Res) → Option Res := Classical.choose gx
theorem e : g = b := Classical.choose_spec gx
noncomputable def run : List Lf → (Res → Option Res) → Option Res
  | [.i a1], K => g a1 (fun r1 => K (m r1))
  | _, _ => none
noncomputable def a (a1 : Int) : St := argSt [one (.int .i64 a1)] [] []
noncomputable def con : FuncId × St × (List Lf → (Res → Option Res) → Option Res) := (93, a 0, run)
theorem cx (K : Res → Option Res) : CtxOk Go.Proofs.Try.prog Γ0 byt0 eqs0 (X K) os := ⟨rfl, rfl, rfl, (fun p hp => by
  rcases List.mem_cons.1 hp with rfl | hp
  · exact impl_NumOk.ok
  cases hp), rfl, rfl, rfl, rfl⟩
theorem tie (K : Res → Option Res) (a1 : Int) : exec (X K) c (entry 6 [one (.int .i64 a1)] [] []) (endK (X K)) = g a1 (fun r1 => K (m r1)) := Eq.trans (b := b a1 (fun r1 => K (m r1))) (by kernel_rfl) (by rw [e])
theorem runv {l : List Lf} {K : Res → Option Res} {r : Res} (h : run l K = some r) : ∃ a1, l = [.i a1] ∧ g a1 (fun r1 => K (m r1)) = some r := by
  unfold run at h; split at h
  · exact ⟨_, rfl, h⟩
  · cases h
theorem ok : Con Go.Proofs.Try.prog con := con_of (fn := Go.Proofs.Try.f93) (c := c) (Fi := fi) (X := X) (fun_of laid (by kernel_rfl) (by kernel_rfl) (by kernel_rfl) rfl (by kernel_rfl) (by kernel_rfl) cx (fun _ => rfl) (fun _ => rfl) (fun K => by
    rw [show loopsOf c = [] from by kernel_rfl]; intro p hp
    cases hp)) fun xs rows boxes K r hl hr => by
  obtain ⟨a1, e, h⟩ := runv hr
  have := St.like_eq (y := a a1) hl (by kernel_rfl) e
  obtain ⟨rfl, rfl, rfl⟩ := argSt_inj this
  exact (tie K a1).trans h
end impl_ArrayOk_1
namespace slices_IndexFunc_int_int
noncomputable def c : Code := bodyOf Go.Proofs.Try.f133
noncomputable def fi : Fin := ⟨Γ0, [(.tmp 4, 3)], [[1]], [], [], []⟩
noncomputable def m (r1 : Int) : Res := ⟨[⟨false, [.int .i64 r1]⟩], [], [], [], []⟩
noncomputable def b0 : Code := codeAt c [1, 0, 1, 0, 0]
noncomputable def s0 (x2 : List Int) (x3 x4 : Int) : St := ⟨mkT 19 [(0, one (.tr 0 1 [.int .i64] (.ints x2))), (1, one (.fn 93 [])), (7, one (.int .i64 x3)), (8, one (.int .i64 x4))], [], []⟩
noncomputable def l0s (x2 : List Int) (x3 : Int) (rec : Int → Option Res) (k : Option Res) (R : Int → Option Res) (x4 : Int) : Option Res :=
  bif decide (x4 < x3) then (bif decide (0 ≤ x4) && decide (x4 < (x2.length : Int)) then (impl_ArrayOk_1.g (x2.getD x4.toNat 0) fun r5 =>
      bif r5 then R x4
      else rec (IntKind.i64.wrap (x4 + 1)))
    else none)
  else k
noncomputable def l0 (x2 : List Int) (x3 : Int) (k : Option Res) (R : Int → Option Res) : Nat → Int → Option Res
  | 0, _ => none
  | n + 1, x4 => l0s x2 x3 (fun x4 => l0 x2 x3 k R n x4) k R x4
noncomputable def o0 (x2 : List Int) (x3 : Int) : St := ⟨mkT 19 [], [], []⟩
noncomputable def p0 (K : Res → Option Res) : List Lf → (St → Option Res) → Option Res
  | [.q (.ints x2), .i x3, .i x4], k => l0 x2 x3 (k (o0 x2 x3)) (fun r1 => K (m r1)) fuel x4
  | _, _ => none
noncomputable def os : List (FuncId × St × (List Lf → (Res → Option Res) → Option Res)) := [impl_ArrayOk_1.con]
noncomputable def X (K : Res → Option Res) : Ctx := { Γ := Γ0, orc := orcOf os, io := [], share := [], mvl := [], bun := [], cut := [], own := [], cin := [(0, ⟨[0, 1, 7, 8], [], [], [], [], []⟩)], cout := [(0, ⟨[], [], [], [], [], []⟩)], lp := lpOf [(0, s0 [] 0 0, p0 K)], kl := [], nk := true, eqs := eqs0, byt := byt0, fin := finK fi K }
noncomputable def b (a1 : List Int) (R : Int → Option Res) : Option Res :=
  l0 a1 (a1.length : Int) (
  R (-1)) R fuel 0
theorem gx : ∃ x : List Int → (Int → Option Res) → Option Res, x = b := ⟨_, rfl⟩
noncomputable def g : List Int → (Int → Option Res) → Option Res := Classical.choose gx
theorem e : g = b := Classical.choose_spec gx
noncomputable def run : List Lf → (Res → Option Res) → Option Res
  | [.q (.ints a1)], K => g a1 (fun r1 => K (m r1))
  | _, _ => none
noncomputable def a (a1 : List Int) : St := argSt [one (.tr 0 1 [.int .i64] (.ints a1)), one (.fn 93 [])] [] []
noncomputable def con : FuncId × St × (List Lf → (Res → Option Res) → Option Res) := (133, a [], run)
theorem cx (K : Res → Option Res) : CtxOk Go.Proofs.Try.prog Γ0 byt0 eqs0 (X K) os := ⟨rfl, rfl, rfl, (fun p hp => by
  rcases List.mem_cons.1 hp with rfl | hp
  · exact impl_ArrayOk_1.ok
  cases hp), rfl, rfl, rfl, rfl⟩
theorem t0 (K : Res → Option Res) (k : St → Option Res) (it : St → (St → Option Res) → Option Res) (x2 : List Int) (x3 x4 : Int) : iterS (X K) 0 b0 it (s0 x2 x3 x4) k = l0s x2 x3 (fun x4 => it (s0 x2 x3 x4) k) (k (o0 x2 x3)) (fun r1 => K (m r1)) x4 := by kernel_rfl
theorem i0 (K : Res → Option Res) (k : St → Option Res) (x2 : List Int) (x3 : Int) : ∀ (n : Nat) (x4 : Int), iter (X K) 0 b0 n (s0 x2 x3 x4) k = l0 x2 x3 (k (o0 x2 x3)) (fun r1 => K (m r1)) n x4
  | 0, _ => rfl
  | n + 1, x4 => by
    rw [iter_succ, t0, show (fun x4 => iter (X K) 0 b0 n (s0 x2 x3 x4) k) = (fun x4 => l0 x2 x3 (k (o0 x2 x3)) (fun r1 => K (m r1)) n x4) from funext fun x4 => i0 K k x2 x3 n x4]; rfl
theorem v0 {K : Res → Option Res} {l : List Lf} {k : St → Option Res} {r : Res} (h : p0 K l k = some r) : ∃ x2 x3 x4, l = [.q (.ints x2), .i x3, .i x4] ∧ l0 x2 x3 (k (o0 x2 x3)) (fun r1 => K (m r1)) fuel x4 = some r := by
  unfold p0 at h; split at h
  · exact ⟨_, _, _, rfl, h⟩
  · cases h
theorem w0 (K : Res → Option Res) : LpSound Go.Proofs.Try.prog (X K) 0 b0 := lp_ok ((cx K).ok laid) (by rw [show loopsOf b0 = [] from by kernel_rfl]; intro p hp; cases hp) rfl fun p hp hid => by
  rcases List.mem_cons.1 hp with rfl | hp
  · intro st k r h1 h2; obtain ⟨x2, x3, x4, e, h⟩ := v0 (K := K) h2; have := St.like_eq (y := s0 x2 x3 x4) h1 (by kernel_rfl) e; subst this; exact ⟨fuel, (i0 K k x2 x3 fuel x4).trans h⟩
  cases hp
theorem tie (K : Res → Option Res) (a1 : List Int) : exec (X K) c (entry 19 [one (.tr 0 1 [.int .i64] (.ints a1)), one (.fn 93 [])] [] []) (endK (X K)) = g a1 (fun r1 => K (m r1)) := Eq.trans (b := b a1 (fun r1 => K (m r1))) (by kernel_rfl) (by rw [e])
theorem runv {l : List Lf} {K : Res → Option Res} {r : Res} (h : run l K = some r) : ∃ a1, l = [.q (.ints a1)] ∧ g a1 (fun r1 => K (m r1)) = some r := by
  unfold run at h; split at h
  · exact ⟨_, rfl, h⟩
  · cases h
theorem ok : Con Go.Proofs.Try.prog con := con_of (fn := Go.Proofs.Try.f133) (c := c) (Fi := fi) (X := X) (fun_of laid (by kernel_rfl) (by kernel_rfl) (by kernel_rfl) rfl (by kernel_rfl) (by kernel_rfl) cx (fun _ => rfl) (fun _ => rfl) (fun K => by
    rw [show loopsOf c = [(0, b0)] from by kernel_rfl]; intro p hp
    rcases List.mem_cons.1 hp with rfl | hp
    · exact w0 K
    cases hp)) fun xs rows boxes K r hl hr => by
  obtain ⟨a1, e, h⟩ := runv hr
  have := St.like_eq (y := a a1) hl (by kernel_rfl) e
  obtain ⟨rfl, rfl, rfl⟩ := argSt_inj this
  exact (tie K a1).trans h
end slices_IndexFunc_int_int
namespace slices_ContainsFunc_int_int
noncomputable def c : Code := bodyOf Go.Proofs.Try.f92
noncomputable def fi : Fin := ⟨Γ0, [(.tmp 4, 4)], [[1]], [], [], []⟩
noncomputable def m (r1 : Bool) : Res := ⟨[⟨false, [.bool r1]⟩], [], [], [], []⟩
noncomputable def os : List (FuncId × St × (List Lf → (Res → Option Res) → Option Res)) := [slices_IndexFunc_int_int.con]
noncomputable def X (K : Res → Option Res) : Ctx := { Γ := Γ0, orc := orcOf os, io := [], share := [], mvl := [], bun := [], cut := [], own := [], cin := [], cout := [], lp := lpOf [], kl := [], nk := true, eqs := eqs0, byt := byt0, fin := finK fi K }
noncomputable def b (a1 : List Int) (R : Bool → Option Res) : Option Res :=
  slices_IndexFunc_int_int.g a1 fun r2 =>
  R (decide (0 ≤ r2))
theorem gx : ∃ x : List Int → (Bool → Option Res) → Option Res, x = b := ⟨_, rfl⟩
noncomputable def g : List Int → (Bool → Option Res) → Option Res := Classical.choose gx
theorem e : g = b := Classical.choose_spec gx
noncomputable def run : List Lf → (Res → Option Res) → Option Res
  | [.q (.ints a1)], K => g a1 (fun r1 => K (m r1))
  | _, _ => none
noncomputable def a (a1 : List Int) : St := argSt [one (.tr 0 1 [.int .i64] (.ints a1)), one (.fn 93 [])] [] []
noncomputable def con : FuncId × St × (List Lf → (Res → Option Res) → Option Res) := (92, a [], run)
theorem cx (K : Res → Option Res) : CtxOk Go.Proofs.Try.prog Γ0 byt0 eqs0 (X K) os := ⟨rfl, rfl, rfl, (fun p hp => by
  rcases List.mem_cons.1 hp with rfl | hp
  · exact slices_IndexFunc_int_int.ok
  cases hp), rfl, rfl, rfl, rfl⟩
theorem tie (K : Res → Option Res) (a1 : List Int) : exec (X K) c (entry 9 [one (.tr 0 1 [.int .i64] (.ints a1)), one (.fn 93 [])] [] []) (endK (X K)) = g a1 (fun r1 => K (m r1)) := Eq.trans (b := b a1 (fun r1 => K (m r1))) (by kernel_rfl) (by rw [e])
theorem runv {l : List Lf} {K : Res → Option Res} {r : Res} (h : run l K = some r) : ∃ a1, l = [.q (.ints a1)] ∧ g a1 (fun r1 => K (m r1)) = some r := by
  unfold run at h; split at h
  · exact ⟨_, rfl, h⟩
  · cases h
theorem ok : Con Go.Proofs.Try.prog con := con_of (fn := Go.Proofs.Try.f92) (c := c) (Fi := fi) (X := X) (fun_of laid (by kernel_rfl) (by kernel_rfl) (by kernel_rfl) rfl (by kernel_rfl) (by kernel_rfl) cx (fun _ => rfl) (fun _ => rfl) (fun K => by
    rw [show loopsOf c = [] from by kernel_rfl]; intro p hp
    cases hp)) fun xs rows boxes K r hl hr => by
  obtain ⟨a1, e, h⟩ := runv hr
  have := St.like_eq (y := a a1) hl (by kernel_rfl) e
  obtain ⟨rfl, rfl, rfl⟩ := argSt_inj this
  exact (tie K a1).trans h
end slices_ContainsFunc_int_int
namespace impl_ArrayOk
noncomputable def c : Code := bodyOf Go.Proofs.Try.f32
noncomputable def fi : Fin := ⟨Γ0, [(.tmp 2, 4)], [[1]], [], [], []⟩
noncomputable def m (r1 : Bool) : Res := ⟨[⟨false, [.bool r1]⟩], [], [], [], []⟩
noncomputable def os : List (FuncId × St × (List Lf → (Res → Option Res) → Option Res)) := [impl_SizeOf.con, slices_ContainsFunc_int_int.con]
noncomputable def X (K : Res → Option Res) : Ctx := { Γ := Γ0, orc := orcOf os, io := [], share := [], mvl := [], bun := [], cut := [], own := [], cin := [], cout := [], lp := lpOf [], kl := [], nk := true, eqs := eqs0, byt := byt0, fin := finK fi K }
noncomputable def b (a1 a2 : List Int) (R : Bool → Option Res) : Option Res :=
  impl_SizeOf.g a1 fun r3 =>
  bif ((a2.length : Int) == r3) then (slices_ContainsFunc_int_int.g a2 fun r4 =>
    R (!r4))
  else R false
theorem gx : ∃ x : List Int → List Int → (Bool → Option Res) → Option Res, x = b := ⟨_, rfl⟩
noncomputable def g : List Int → List Int → (Bool → Option Res) → Option Res := Classical.choose gx
theorem e : g = b := Classical.choose_spec gx
noncomputable def run : List Lf → (Res → Option Res) → Option Res
  | [.q (.ints a1), .q (.ints a2)], K => g a1 a2 (fun r1 => K (m r1))
  | _, _ => none
noncomputable def a (a1 a2 : List Int) : St := argSt [.v ⟨true, [.tr 0 1 [.int .i64] (.ints a1), .tr 0 1 [.int .i64] (.ints a2)]⟩] [] []
noncomputable def con : FuncId × St × (List Lf → (Res → Option Res) → Option Res) := (32, a [] [], run)
theorem cx (K : Res → Option Res) : CtxOk Go.Proofs.Try.prog Γ0 byt0 eqs0 (X K) os := ⟨rfl, rfl, rfl, (fun p hp => by
  rcases List.mem_cons.1 hp with rfl | hp
  · exact impl_SizeOf.ok
  rcases List.mem_cons.1 hp with rfl | hp
  · exact slices_ContainsFunc_int_int.ok
  cases hp), rfl, rfl, rfl, rfl⟩
theorem tie (K : Res → Option Res) (a1 a2 : List Int) : exec (X K) c (entry 16 [.v ⟨true, [.tr 0 1 [.int .i64] (.ints a1), .tr 0 1 [.int .i64] (.ints a2)]⟩] [] []) (endK (X K)) = g a1 a2 (fun r1 => K (m r1)) := Eq.trans (b := b a1 a2 (fun r1 => K (m r1))) (by kernel_rfl) (by rw [e])
theorem runv {l : List Lf} {K : Res → Option Res} {r : Res} (h : run l K = some r) : ∃ a1 a2, l = [.q (.ints a1), .q (.ints a2)] ∧ g a1 a2 (fun r1 => K (m r1)) = some r := by
  unfold run at h; split at h
  · exact ⟨_, _, rfl, h⟩
  · cases h
theorem ok : Con Go.Proofs.Try.prog con := con_of (fn := Go.Proofs.Try.f32) (c := c) (Fi := fi) (X := X) (fun_of laid (by kernel_rfl) (by kernel_rfl) (by kernel_rfl) rfl (by kernel_rfl) (by kernel_rfl) cx (fun _ => rfl) (fun _ => rfl) (fun K => by
    rw [show loopsOf c = [] from by kernel_rfl]; intro p hp
    cases hp)) fun xs rows boxes K r hl hr => by
  obtain ⟨a1, a2, e, h⟩ := runv hr
  have := St.like_eq (y := a a1 a2) hl (by kernel_rfl) e
  obtain ⟨rfl, rfl, rfl⟩ := argSt_inj this
  exact (tie K a1 a2).trans h
end impl_ArrayOk
namespace impl_ArrayRead
noncomputable def c : Code := bodyOf Go.Proofs.Try.f15
noncomputable def fi : Fin := ⟨Γ0, [(.cell 2 25, 25), (.tmp 3, 4)], [[1, 1], [1]], [], [], []⟩
noncomputable def m (r1 r2 : List Int) (r3 : Bool) : Res := ⟨[⟨true, [.ow 1000, .ow 1001]⟩, ⟨false, [.bool r3]⟩], [], [⟨[.int .i64], .ints r1, true, 0⟩, ⟨[.int .i64], .ints r2, true, 0⟩], [], []⟩
noncomputable def b0 : Code := codeAt c [1, 1, 1, 1, 1, 0, 1, 0, 0]
noncomputable def b2 : Code := codeAt c [1, 1, 1, 1, 1, 1, 0, 1, 0, 0]
noncomputable def s0 (x5 x6 : Int) (x7 x8 x9 : List Int) (x10 : Bool) : St := ⟨mkT 75 [(2, one (.bp 1000 0)), (4, one (.bp 3080 0)), (5, one (.bp 5096 0)), (6, one (.int .i64 x5)), (7, one (.int .i64 x6))], [(5104, ⟨[.int .i64], .ints x7, true, 0⟩), (5105, ⟨[.int .i64], .ints x8, true, 0⟩)], [(1000, [.nil, .nil]), (3080, [.tr 2 2 [.int .u8] (.ints x9), .bool x10]), (5096, [.ow 5104, .ow 5105])]⟩
noncomputable def l0s (x5 : Int) (x8 : List Int) (rec : Int → List Int → List Int → Bool → Option Res) (k : List Int → List Int → Bool → Option Res) (x6 : Int) (x7 x9 : List Int) (x10 : Bool) : Option Res :=
  bif decide (x6 < x5) then (impl_byteReader_two.g x9 x10 fun r11 r12 r13 =>
    bif decide ((x7.length + 1) * 8 ≤ 140737488355328) then rec (IntKind.i64.wrap (x6 + 1)) (x7 ++ ([r11] : List Int)) r12 r13
    else none)
  else k x7 x9 x10
noncomputable def l0 (x5 : Int) (x8 : List Int) (k : List Int → List Int → Bool → Option Res) : Nat → Int → List Int → List Int → Bool → Option Res
  | 0, _, _, _, _ => none
  | n + 1, x6, x7, x9, x10 => l0s x5 x8 (fun x6 x7 x9 x10 => l0 x5 x8 k n x6 x7 x9 x10) k x6 x7 x9 x10
noncomputable def o0 (x5 : Int) (x8 y1 y3 : List Int) (y4 : Bool) : St := ⟨mkT 75 [(2, one (.bp 1000 0)), (4, one (.bp 3080 0)), (5, one (.bp 5096 0))], [(5104, ⟨[.int .i64], .ints y1, true, 0⟩), (5105, ⟨[.int .i64], .ints x8, true, 0⟩)], [(1000, [.nil, .nil]), (3080, [.tr 2 2 [.int .u8] (.ints y3), .bool y4]), (5096, [.ow 5104, .ow 5105])]⟩
noncomputable def p0 (K : Res → Option Res) : List Lf → (St → Option Res) → Option Res
  | [.i x5, .i x6, .q (.ints x7), .q (.ints x8), .q (.ints x9), .b x10], k => l0 x5 x8 (fun y1 y3 y4 => k (o0 x5 x8 y1 y3 y4)) fuel x6 x7 x9 x10
  | _, _ => none
noncomputable def s2 (x18 : Int) (x19 x20 x21 : List Int) (x22 : Bool) : St := ⟨mkT 75 [(2, one (.bp 1000 0)), (4, one (.bp 3080 0)), (5, one (.bp 5096 0)), (8, one (.int .i64 x18))], [(5104, ⟨[.int .i64], .ints x19, true, 0⟩), (5105, ⟨[.int .i64], .ints x20, true, 0⟩)], [(1000, [.nil, .nil]), (3080, [.tr 2 2 [.int .u8] (.ints x21), .bool x22]), (5096, [.ow 5104, .ow 5105])]⟩
noncomputable def l2s (x19 : List Int) (rec : Int → List Int → List Int → Bool → Option Res) (k : List Int → List Int → Bool → Option Res) (x18 : Int) (x20 x21 : List Int) (x22 : Bool) : Option Res :=
  bif decide (0 < x18) then (bif !x22 then (impl_byteReader_num.g x21 x22 fun r23 r24 r25 =>
      bif decide ((x20.length + 1) * 8 ≤ 140737488355328) then rec (IntKind.i64.wrap (x18 - 1)) (x20 ++ ([r23] : List Int)) r24 r25
      else none)
    else k x20 x21 x22)
  else k x20 x21 x22
noncomputable def l2 (x19 : List Int) (k : List Int → List Int → Bool → Option Res) : Nat → Int → List Int → List Int → Bool → Option Res
  | 0, _, _, _, _ => none
  | n + 1, x18, x20, x21, x22 => l2s x19 (fun x18 x20 x21 x22 => l2 x19 k n x18 x20 x21 x22) k x18 x20 x21 x22
noncomputable def o2 (x19 y2 y3 : List Int) (y4 : Bool) : St := ⟨mkT 75 [(2, one (.bp 1000 0)), (4, one (.bp 3080 0)), (5, one (.bp 5096 0))], [(5104, ⟨[.int .i64], .ints x19, true, 0⟩), (5105, ⟨[.int .i64], .ints y2, true, 0⟩)], [(1000, [.nil, .nil]), (3080, [.tr 2 2 [.int .u8] (.ints y3), .bool y4]), (5096, [.ow 5104, .ow 5105])]⟩
noncomputable def p2 (K : Res → Option Res) : List Lf → (St → Option Res) → Option Res
  | [.i x18, .q (.ints x19), .q (.ints x20), .q (.ints x21), .b x22], k => l2 x19 (fun y2 y3 y4 => k (o2 x19 y2 y3 y4)) fuel x18 x20 x21 x22
  | _, _ => none
noncomputable def os : List (FuncId × St × (List Lf → (Res → Option Res) → Option Res)) := [impl_byteReader_one.con, impl_byteReader_two.con, impl_SizeOf.con, impl_byteReader_num.con, impl_ArrayOk.con]
noncomputable def X (K : Res → Option Res) : Ctx := { Γ := Γ0, orc := orcOf os, io := [], share := [], mvl := [], bun := [], cut := [], own := [(2, 0, 0, [.int .i64]), (2, 0, 1, [.int .i64])], cin := [(0, ⟨[2, 4, 5, 6, 7], [(5104, 5104), (19512, 5104), (5105, 5105)], [1000, 3080, 5096], [], [], []⟩), (2, ⟨[2, 4, 5, 8], [(5104, 5104), (5105, 5105), (27704, 5105)], [1000, 3080, 5096], [], [], []⟩)], cout := [(0, ⟨[2, 4, 5], [(5104, 5104), (5105, 5105)], [1000, 3080, 5096], [], [], []⟩), (2, ⟨[2, 4, 5], [(5104, 5104), (5105, 5105)], [1000, 3080, 5096], [], [], []⟩)], lp := lpOf [(0, s0 0 0 [] [] [] false, p0 K), (2, s2 0 [] [] [] false, p2 K)], kl := [], nk := true, eqs := eqs0, byt := byt0, fin := finK fi K }
noncomputable def b (a1 : List Int) (R : List Int → List Int → Bool → Option Res) : Option Res :=
  impl_byteReader_one.g a1 false fun r2 r3 r4 =>
  bif r4 then R ([] : List Int) ([] : List Int) false
  else bif decide (3 < r2) then R ([] : List Int) ([] : List Int) false
  else (l0 r2 ([] : List Int) (fun y14 y15 y16 => 
  impl_SizeOf.g y14 fun r17 =>
  l2 y14 (fun y26 y27 y28 => 
  bif y28 then R ([] : List Int) ([] : List Int) false
  else bif decide (0 < (y27.length : Int)) then R ([] : List Int) ([] : List Int) false
  else (impl_ArrayOk.g y14 y26 fun r29 =>
  bif !r29 then R ([] : List Int) ([] : List Int) false
  else R y14 y26 true)) fuel r17 ([] : List Int) y15 y16) fuel 0 ([] : List Int) r3 r4)
theorem gx : ∃ x : List Int → (List Int → List Int → Bool → Option Res) → Option Res, x = b := ⟨_, rfl⟩
noncomputable def g : List Int → (List Int → List Int → Bool → Option Res) → Option Res := Classical.choose gx
theorem e : g = b := Classical.choose_spec gx
noncomputable def run : List Lf → (Res → Option Res) → Option Res
  | [.q (.ints a1)], K => g a1 (fun r1 r2 r3 => K (m r1 r2 r3))
  | _, _ => none
noncomputable def a (a1 : List Int) : St := argSt [one (.tr 2 2 [.int .u8] (.ints a1))] [] []
noncomputable def con : FuncId × St × (List Lf → (Res → Option Res) → Option Res) := (15, a [], run)
theorem cx (K : Res → Option Res) : CtxOk Go.Proofs.Try.prog Γ0 byt0 eqs0 (X K) os := ⟨rfl, rfl, rfl, (fun p hp => by
  rcases List.mem_cons.1 hp with rfl | hp
  · exact impl_byteReader_one.ok
  rcases List.mem_cons.1 hp with rfl | hp
  · exact impl_byteReader_two.ok
  rcases List.mem_cons.1 hp with rfl | hp
  · exact impl_SizeOf.ok
  rcases List.mem_cons.1 hp with rfl | hp
  · exact impl_byteReader_num.ok
  rcases List.mem_cons.1 hp with rfl | hp
  · exact impl_ArrayOk.ok
  cases hp), rfl, rfl, rfl, rfl⟩
theorem t0 (K : Res → Option Res) (k : St → Option Res) (it : St → (St → Option Res) → Option Res) (x5 x6 : Int) (x7 x8 x9 : List Int) (x10 : Bool) : iterS (X K) 0 b0 it (s0 x5 x6 x7 x8 x9 x10) k = l0s x5 x8 (fun x6 x7 x9 x10 => it (s0 x5 x6 x7 x8 x9 x10) k) (fun y1 y3 y4 => k (o0 x5 x8 y1 y3 y4)) x6 x7 x9 x10 := by kernel_rfl
theorem i0 (K : Res → Option Res) (k : St → Option Res) (x5 : Int) (x8 : List Int) : ∀ (n : Nat) (x6 : Int) (x7 x9 : List Int) (x10 : Bool), iter (X K) 0 b0 n (s0 x5 x6 x7 x8 x9 x10) k = l0 x5 x8 (fun y1 y3 y4 => k (o0 x5 x8 y1 y3 y4)) n x6 x7 x9 x10
  | 0, _, _, _, _ => rfl
  | n + 1, x6, x7, x9, x10 => by
    rw [iter_succ, t0, show (fun x6 x7 x9 x10 => iter (X K) 0 b0 n (s0 x5 x6 x7 x8 x9 x10) k) = (fun x6 x7 x9 x10 => l0 x5 x8 (fun y1 y3 y4 => k (o0 x5 x8 y1 y3 y4)) n x6 x7 x9 x10) from funext fun x6 => funext fun x7 => funext fun x9 => funext fun x10 => i0 K k x5 x8 n x6 x7 x9 x10]; rfl
theorem v0 {K : Res → Option Res} {l : List Lf} {k : St → Option Res} {r : Res} (h : p0 K l k = some r) : ∃ x5 x6 x7 x8 x9 x10, l = [.i x5, .i x6, .q (.ints x7), .q (.ints x8), .q (.ints x9), .b x10] ∧ l0 x5 x8 (fun y1 y3 y4 => k (o0 x5 x8 y1 y3 y4)) fuel x6 x7 x9 x10 = some r := by
  unfold p0 at h; split at h
  · exact ⟨_, _, _, _, _, _, rfl, h⟩
  · cases h
theorem t2 (K : Res → Option Res) (k : St → Option Res) (it : St → (St → Option Res) → Option Res) (x18 : Int) (x19 x20 x21 : List Int) (x22 : Bool) : iterS (X K) 2 b2 it (s2 x18 x19 x20 x21 x22) k = l2s x19 (fun x18 x20 x21 x22 => it (s2 x18 x19 x20 x21 x22) k) (fun y2 y3 y4 => k (o2 x19 y2 y3 y4)) x18 x20 x21 x22 := by kernel_rfl
theorem i2 (K : Res → Option Res) (k : St → Option Res) (x19 : List Int) : ∀ (n : Nat) (x18 : Int) (x20 x21 : List Int) (x22 : Bool), iter (X K) 2 b2 n (s2 x18 x19 x20 x21 x22) k = l2 x19 (fun y2 y3 y4 => k (o2 x19 y2 y3 y4)) n x18 x20 x21 x22
  | 0, _, _, _, _ => rfl
  | n + 1, x18, x20, x21, x22 => by
    rw [iter_succ, t2, show (fun x18 x20 x21 x22 => iter (X K) 2 b2 n (s2 x18 x19 x20 x21 x22) k) = (fun x18 x20 x21 x22 => l2 x19 (fun y2 y3 y4 => k (o2 x19 y2 y3 y4)) n x18 x20 x21 x22) from funext fun x18 => funext fun x20 => funext fun x21 => funext fun x22 => i2 K k x19 n x18 x20 x21 x22]; rfl
theorem v2 {K : Res → Option Res} {l : List Lf} {k : St → Option Res} {r : Res} (h : p2 K l k = some r) : ∃ x18 x19 x20 x21 x22, l = [.i x18, .q (.ints x19), .q (.ints x20), .q (.ints x21), .b x22] ∧ l2 x19 (fun y2 y3 y4 => k (o2 x19 y2 y3 y4)) fuel x18 x20 x21 x22 = some r := by
  unfold p2 at h; split at h
  · exact ⟨_, _, _, _, _, rfl, h⟩
  · cases h
theorem w2 (K : Res → Option Res) : LpSound Go.Proofs.Try.prog (X K) 2 b2 := lp_ok ((cx K).ok laid) (by rw [show loopsOf b2 = [] from by kernel_rfl]; intro p hp; cases hp) rfl fun p hp hid => by
  rcases List.mem_cons.1 hp with rfl | hp
  · exact absurd hid (by simp)
  rcases List.mem_cons.1 hp with rfl | hp
  · intro st k r h1 h2; obtain ⟨x18, x19, x20, x21, x22, e, h⟩ := v2 (K := K) h2; have := St.like_eq (y := s2 x18 x19 x20 x21 x22) h1 (by kernel_rfl) e; subst this; exact ⟨fuel, (i2 K k x19 fuel x18 x20 x21 x22).trans h⟩
  cases hp
theorem w0 (K : Res → Option Res) : LpSound Go.Proofs.Try.prog (X K) 0 b0 := lp_ok ((cx K).ok laid) (by rw [show loopsOf b0 = [] from by kernel_rfl]; intro p hp; cases hp) rfl fun p hp hid => by
  rcases List.mem_cons.1 hp with rfl | hp
  · intro st k r h1 h2; obtain ⟨x5, x6, x7, x8, x9, x10, e, h⟩ := v0 (K := K) h2; have := St.like_eq (y := s0 x5 x6 x7 x8 x9 x10) h1 (by kernel_rfl) e; subst this; exact ⟨fuel, (i0 K k x5 x8 fuel x6 x7 x9 x10).trans h⟩
  rcases List.mem_cons.1 hp with rfl | hp
  · exact absurd hid (by simp)
  cases hp
theorem tie (K : Res → Option Res) (a1 : List Int) : exec (X K) c (entry 75 [one (.tr 2 2 [.int .u8] (.ints a1))] [] []) (endK (X K)) = g a1 (fun r1 r2 r3 => K (m r1 r2 r3)) := Eq.trans (b := b a1 (fun r1 r2 r3 => K (m r1 r2 r3))) (by kernel_rfl) (by rw [e])
theorem runv {l : List Lf} {K : Res → Option Res} {r : Res} (h : run l K = some r) : ∃ a1, l = [.q (.ints a1)] ∧ g a1 (fun r1 r2 r3 => K (m r1 r2 r3)) = some r := by
  unfold run at h; split at h
  · exact ⟨_, rfl, h⟩
  · cases h
theorem ok : Con Go.Proofs.Try.prog con := con_of (fn := Go.Proofs.Try.f15) (c := c) (Fi := fi) (X := X) (fun_of laid (by kernel_rfl) (by kernel_rfl) (by kernel_rfl) rfl (by kernel_rfl) (by kernel_rfl) cx (fun _ => rfl) (fun _ => rfl) (fun K => by
    rw [show loopsOf c = [(0, b0), (2, b2)] from by kernel_rfl]; intro p hp
    rcases List.mem_cons.1 hp with rfl | hp
    · exact w0 K
    rcases List.mem_cons.1 hp with rfl | hp
    · exact w2 K
    cases hp)) fun xs rows boxes K r hl hr => by
  obtain ⟨a1, e, h⟩ := runv hr
  have := St.like_eq (y := a a1) hl (by kernel_rfl) e
  obtain ⟨rfl, rfl, rfl⟩ := argSt_inj this
  exact (tie K a1).trans h
end impl_ArrayRead
namespace laws_big
noncomputable def c : Code := bodyOf Go.Proofs.Try.f28
noncomputable def fi : Fin := ⟨Γ0, [(.tmp 2, 4)], [[1]], [], [], []⟩
noncomputable def m (r1 : Bool) : Res := ⟨[⟨false, [.bool r1]⟩], [], [], [], []⟩
noncomputable def os : List (FuncId × St × (List Lf → (Res → Option Res) → Option Res)) := []
noncomputable def X (K : Res → Option Res) : Ctx := { Γ := Γ0, orc := orcOf os, io := [], share := [], mvl := [], bun := [], cut := [], own := [], cin := [], cout := [], lp := lpOf [], kl := [], nk := true, eqs := eqs0, byt := byt0, fin := finK fi K }
noncomputable def b (a1 : List Int) (R : Bool → Option Res) : Option Res :=
  R (decide (1048576 < (a1.length : Int)))
theorem gx : ∃ x : List Int → (Bool → Option Res) → Option Res, x = b := ⟨_, rfl⟩
noncomputable def g : List Int → (Bool → Option Res) → Option Res := Classical.choose gx
theorem e : g = b := Classical.choose_spec gx
noncomputable def run : List Lf → (Res → Option Res) → Option Res
  | [.q (.ints a1)], K => g a1 (fun r1 => K (m r1))
  | _, _ => none
noncomputable def a (a1 : List Int) : St := argSt [one (.tr 0 1 [.int .u8] (.ints a1))] [] []
noncomputable def con : FuncId × St × (List Lf → (Res → Option Res) → Option Res) := (28, a [], run)
theorem cx (K : Res → Option Res) : CtxOk Go.Proofs.Try.prog Γ0 byt0 eqs0 (X K) os := ⟨rfl, rfl, rfl, (fun p hp => by
  cases hp), rfl, rfl, rfl, rfl⟩
theorem tie (K : Res → Option Res) (a1 : List Int) : exec (X K) c (entry 6 [one (.tr 0 1 [.int .u8] (.ints a1))] [] []) (endK (X K)) = g a1 (fun r1 => K (m r1)) := Eq.trans (b := b a1 (fun r1 => K (m r1))) (by kernel_rfl) (by rw [e])
theorem runv {l : List Lf} {K : Res → Option Res} {r : Res} (h : run l K = some r) : ∃ a1, l = [.q (.ints a1)] ∧ g a1 (fun r1 => K (m r1)) = some r := by
  unfold run at h; split at h
  · exact ⟨_, rfl, h⟩
  · cases h
theorem ok : Con Go.Proofs.Try.prog con := con_of (fn := Go.Proofs.Try.f28) (c := c) (Fi := fi) (X := X) (fun_of laid (by kernel_rfl) (by kernel_rfl) (by kernel_rfl) rfl (by kernel_rfl) (by kernel_rfl) cx (fun _ => rfl) (fun _ => rfl) (fun K => by
    rw [show loopsOf c = [] from by kernel_rfl]; intro p hp
    cases hp)) fun xs rows boxes K r hl hr => by
  obtain ⟨a1, e, h⟩ := runv hr
  have := St.like_eq (y := a a1) hl (by kernel_rfl) e
  obtain ⟨rfl, rfl, rfl⟩ := argSt_inj this
  exact (tie K a1).trans h
end laws_big
namespace spec_l1New
noncomputable def c : Code := bodyOf Go.Proofs.Try.f89
noncomputable def fi : Fin := ⟨Γ0, [(.tmp 2, 110)], [[1]], [], [], [(2, [.sl [.int .u8] 1, .int .i64, .int .i64], [0, 1, 1])]⟩
noncomputable def m (r1 : List Int) (r2 r3 : Int) : Res := ⟨[⟨false, [.bp 1000 0]⟩], [], [], [], [[.tr 2 2 [.int .u8] (.ints r1), .int .i64 r2, .int .i64 r3]]⟩
noncomputable def b0 : Code := codeAt c [1, 1, 0, 1, 0, 0]
noncomputable def s0 (x2 : List Int) (x3 x4 : Int) : St := ⟨mkT 32 [(0, one (.tr 2 1 [.int .u8] (.ints x2))), (3, one (.int .i64 x3)), (4, one (.int .i64 x4))], [], []⟩
noncomputable def l0s (x2 : List Int) (rec : Int → Int → Option Res) (k : Int → Option Res) (x3 x4 : Int) : Option Res :=
  bif decide (x4 < (x2.length : Int)) then (bif decide (x4 < 4000) then (bif decide (0 ≤ x4) && decide (x4 < (x2.length : Int)) then rec (arith.bits .and .i64 (IntKind.i64.wrap ((IntKind.i64.wrap ((IntKind.i64.wrap (x3 * 131)) + (IntKind.i64.wrap (x2.getD x4.toNat 0)))) + 7)) 1073741823) (IntKind.i64.wrap (x4 + 1))
      else none)
    else k x3)
  else k x3
noncomputable def l0 (x2 : List Int) (k : Int → Option Res) : Nat → Int → Int → Option Res
  | 0, _, _ => none
  | n + 1, x3, x4 => l0s x2 (fun x3 x4 => l0 x2 k n x3 x4) k x3 x4
noncomputable def o0 (x2 : List Int) (y2 : Int) : St := ⟨mkT 32 [(0, one (.tr 2 1 [.int .u8] (.ints x2))), (3, one (.int .i64 y2))], [], []⟩
noncomputable def p0 (K : Res → Option Res) : List Lf → (St → Option Res) → Option Res
  | [.q (.ints x2), .i x3, .i x4], k => l0 x2 (fun y2 => k (o0 x2 y2)) fuel x3 x4
  | _, _ => none
noncomputable def os : List (FuncId × St × (List Lf → (Res → Option Res) → Option Res)) := []
noncomputable def X (K : Res → Option Res) : Ctx := { Γ := Γ0, orc := orcOf os, io := [], share := [], mvl := [], bun := [], cut := [], own := [], cin := [(0, ⟨[0, 3, 4], [], [], [], [], []⟩)], cout := [(0, ⟨[0, 3], [], [], [], [], []⟩)], lp := lpOf [(0, s0 [] 0 0, p0 K)], kl := [], nk := true, eqs := eqs0, byt := byt0, fin := finK fi K }
noncomputable def b (a1 : List Int) (R : List Int → Int → Int → Option Res) : Option Res :=
  l0 a1 (fun y5 => 
  R a1 0 y5) fuel (IntKind.i64.wrap (18218 + (a1.length : Int))) 0
theorem gx : ∃ x : List Int → (List Int → Int → Int → Option Res) → Option Res, x = b := ⟨_, rfl⟩
noncomputable def g : List Int → (List Int → Int → Int → Option Res) → Option Res := Classical.choose gx
theorem e : g = b := Classical.choose_spec gx
noncomputable def run : List Lf → (Res → Option Res) → Option Res
  | [.q (.ints a1)], K => g a1 (fun r1 r2 r3 => K (m r1 r2 r3))
  | _, _ => none
noncomputable def a (a1 : List Int) : St := argSt [one (.tr 2 1 [.int .u8] (.ints a1))] [] []
noncomputable def con : FuncId × St × (List Lf → (Res → Option Res) → Option Res) := (89, a [], run)
theorem cx (K : Res → Option Res) : CtxOk Go.Proofs.Try.prog Γ0 byt0 eqs0 (X K) os := ⟨rfl, rfl, rfl, (fun p hp => by
  cases hp), rfl, rfl, rfl, rfl⟩
theorem t0 (K : Res → Option Res) (k : St → Option Res) (it : St → (St → Option Res) → Option Res) (x2 : List Int) (x3 x4 : Int) : iterS (X K) 0 b0 it (s0 x2 x3 x4) k = l0s x2 (fun x3 x4 => it (s0 x2 x3 x4) k) (fun y2 => k (o0 x2 y2)) x3 x4 := by kernel_rfl
theorem i0 (K : Res → Option Res) (k : St → Option Res) (x2 : List Int) : ∀ (n : Nat) (x3 x4 : Int), iter (X K) 0 b0 n (s0 x2 x3 x4) k = l0 x2 (fun y2 => k (o0 x2 y2)) n x3 x4
  | 0, _, _ => rfl
  | n + 1, x3, x4 => by
    rw [iter_succ, t0, show (fun x3 x4 => iter (X K) 0 b0 n (s0 x2 x3 x4) k) = (fun x3 x4 => l0 x2 (fun y2 => k (o0 x2 y2)) n x3 x4) from funext fun x3 => funext fun x4 => i0 K k x2 n x3 x4]; rfl
theorem v0 {K : Res → Option Res} {l : List Lf} {k : St → Option Res} {r : Res} (h : p0 K l k = some r) : ∃ x2 x3 x4, l = [.q (.ints x2), .i x3, .i x4] ∧ l0 x2 (fun y2 => k (o0 x2 y2)) fuel x3 x4 = some r := by
  unfold p0 at h; split at h
  · exact ⟨_, _, _, rfl, h⟩
  · cases h
theorem w0 (K : Res → Option Res) : LpSound Go.Proofs.Try.prog (X K) 0 b0 := lp_ok ((cx K).ok laid) (by rw [show loopsOf b0 = [] from by kernel_rfl]; intro p hp; cases hp) rfl fun p hp hid => by
  rcases List.mem_cons.1 hp with rfl | hp
  · intro st k r h1 h2; obtain ⟨x2, x3, x4, e, h⟩ := v0 (K := K) h2; have := St.like_eq (y := s0 x2 x3 x4) h1 (by kernel_rfl) e; subst this; exact ⟨fuel, (i0 K k x2 fuel x3 x4).trans h⟩
  cases hp
theorem tie (K : Res → Option Res) (a1 : List Int) : exec (X K) c (entry 32 [one (.tr 2 1 [.int .u8] (.ints a1))] [] []) (endK (X K)) = g a1 (fun r1 r2 r3 => K (m r1 r2 r3)) := Eq.trans (b := b a1 (fun r1 r2 r3 => K (m r1 r2 r3))) (by kernel_rfl) (by rw [e])
theorem runv {l : List Lf} {K : Res → Option Res} {r : Res} (h : run l K = some r) : ∃ a1, l = [.q (.ints a1)] ∧ g a1 (fun r1 r2 r3 => K (m r1 r2 r3)) = some r := by
  unfold run at h; split at h
  · exact ⟨_, rfl, h⟩
  · cases h
theorem ok : Con Go.Proofs.Try.prog con := con_of (fn := Go.Proofs.Try.f89) (c := c) (Fi := fi) (X := X) (fun_of laid (by kernel_rfl) (by kernel_rfl) (by kernel_rfl) rfl (by kernel_rfl) (by kernel_rfl) cx (fun _ => rfl) (fun _ => rfl) (fun K => by
    rw [show loopsOf c = [(0, b0)] from by kernel_rfl]; intro p hp
    rcases List.mem_cons.1 hp with rfl | hp
    · exact w0 K
    cases hp)) fun xs rows boxes K r hl hr => by
  obtain ⟨a1, e, h⟩ := runv hr
  have := St.like_eq (y := a a1) hl (by kernel_rfl) e
  obtain ⟨rfl, rfl, rfl⟩ := argSt_inj this
  exact (tie K a1).trans h
end spec_l1New
namespace spec_l1Byte
noncomputable def c : Code := bodyOf Go.Proofs.Try.f136
noncomputable def fi : Fin := ⟨Γ0, [(.tmp 2, 3)], [[1]], [], [([.sl [.int .u8] 1, .int .i64, .int .i64], [0, 1, 1])], []⟩
noncomputable def m (a1 : List Int) (r1 r3 r4 : Int) : Res := ⟨[⟨false, [.int .i64 r1]⟩], [], [], [[.tr 2 2 [.int .u8] (.ints a1), .int .i64 r3, .int .i64 r4]], []⟩
noncomputable def os : List (FuncId × St × (List Lf → (Res → Option Res) → Option Res)) := []
noncomputable def X (K : Res → Option Res) : Ctx := { Γ := Γ0, orc := orcOf os, io := [], share := [], mvl := [], bun := [], cut := [], own := [], cin := [], cout := [], lp := lpOf [], kl := [], nk := true, eqs := eqs0, byt := byt0, fin := finK fi K }
noncomputable def b (a1 : List Int) (a2 a3 : Int) (R : Int → Int → Int → Option Res) : Option Res :=
  bif decide (a2 < (a1.length : Int)) then (bif decide (0 ≤ a2) && decide (a2 < (a1.length : Int)) then R (arith.bits .and .i64 (IntKind.i64.wrap ((arith.bits .and .i64 (arith.bits .xor .i64 ((IntKind.i64.wrap ((IntKind.i64.wrap (a3 * 6364136223846793005)) + 1442695040888963407)).fdiv (2 ^ 33)) ((IntKind.i64.wrap ((IntKind.i64.wrap (a3 * 6364136223846793005)) + 1442695040888963407)).fdiv (2 ^ 45))) 255) + (IntKind.i64.wrap (a1.getD a2.toNat 0)))) 255) (IntKind.i64.wrap (a2 + 1)) (IntKind.i64.wrap ((IntKind.i64.wrap (a3 * 6364136223846793005)) + 1442695040888963407))
    else none)
  else R (arith.bits .and .i64 (arith.bits .xor .i64 ((IntKind.i64.wrap ((IntKind.i64.wrap (a3 * 6364136223846793005)) + 1442695040888963407)).fdiv (2 ^ 33)) ((IntKind.i64.wrap ((IntKind.i64.wrap (a3 * 6364136223846793005)) + 1442695040888963407)).fdiv (2 ^ 45))) 255) a2 (IntKind.i64.wrap ((IntKind.i64.wrap (a3 * 6364136223846793005)) + 1442695040888963407))
theorem gx : ∃ x : List Int → Int → Int → (Int → Int → Int → Option Res) → Option Res, x = b := ⟨_, rfl⟩
noncomputable def g : List Int → Int → Int → (Int → Int → Int → Option Res) → Option Res := Classical.choose gx
theorem e : g = b := Classical.choose_spec gx
noncomputable def run : List Lf → (Res → Option Res) → Option Res
  | [.q (.ints a1), .i a2, .i a3], K => g a1 a2 a3 (fun r1 r3 r4 => K (m a1 r1 r3 r4))
  | _, _ => none
noncomputable def a (a1 : List Int) (a2 a3 : Int) : St := argSt [one (.bp 0 0)] [] [[.tr 2 2 [.int .u8] (.ints a1), .int .i64 a2, .int .i64 a3]]
noncomputable def con : FuncId × St × (List Lf → (Res → Option Res) → Option Res) := (136, a [] 0 0, run)
theorem cx (K : Res → Option Res) : CtxOk Go.Proofs.Try.prog Γ0 byt0 eqs0 (X K) os := ⟨rfl, rfl, rfl, (fun p hp => by
  cases hp), rfl, rfl, rfl, rfl⟩
theorem tie (K : Res → Option Res) (a1 : List Int) (a2 a3 : Int) : exec (X K) c (entry 58 [one (.bp 0 0)] [] [[.tr 2 2 [.int .u8] (.ints a1), .int .i64 a2, .int .i64 a3]]) (endK (X K)) = g a1 a2 a3 (fun r1 r3 r4 => K (m a1 r1 r3 r4)) := Eq.trans (b := b a1 a2 a3 (fun r1 r3 r4 => K (m a1 r1 r3 r4))) (by kernel_rfl) (by rw [e])
theorem runv {l : List Lf} {K : Res → Option Res} {r : Res} (h : run l K = some r) : ∃ a1 a2 a3, l = [.q (.ints a1), .i a2, .i a3] ∧ g a1 a2 a3 (fun r1 r3 r4 => K (m a1 r1 r3 r4)) = some r := by
  unfold run at h; split at h
  · exact ⟨_, _, _, rfl, h⟩
  · cases h
theorem ok : Con Go.Proofs.Try.prog con := con_of (fn := Go.Proofs.Try.f136) (c := c) (Fi := fi) (X := X) (fun_of laid (by kernel_rfl) (by kernel_rfl) (by kernel_rfl) rfl (by kernel_rfl) (by kernel_rfl) cx (fun _ => rfl) (fun _ => rfl) (fun K => by
    rw [show loopsOf c = [] from by kernel_rfl]; intro p hp
    cases hp)) fun xs rows boxes K r hl hr => by
  obtain ⟨a1, a2, a3, e, h⟩ := runv hr
  have := St.like_eq (y := a a1 a2 a3) hl (by kernel_rfl) e
  obtain ⟨rfl, rfl, rfl⟩ := argSt_inj this
  exact (tie K a1 a2 a3).trans h
end spec_l1Byte
namespace spec_l1Below
noncomputable def c : Code := bodyOf Go.Proofs.Try.f98
noncomputable def fi : Fin := ⟨Γ0, [(.tmp 4, 3)], [[1]], [], [([.sl [.int .u8] 1, .int .i64, .int .i64], [0, 1, 1])], []⟩
noncomputable def m (a2 : List Int) (r1 r3 r4 : Int) : Res := ⟨[⟨false, [.int .i64 r1]⟩], [], [], [[.tr 2 2 [.int .u8] (.ints a2), .int .i64 r3, .int .i64 r4]], []⟩
noncomputable def os : List (FuncId × St × (List Lf → (Res → Option Res) → Option Res)) := [spec_l1Byte.con]
noncomputable def X (K : Res → Option Res) : Ctx := { Γ := Γ0, orc := orcOf os, io := [], share := [], mvl := [], bun := [], cut := [], own := [], cin := [], cout := [], lp := lpOf [], kl := [], nk := true, eqs := eqs0, byt := byt0, fin := finK fi K }
noncomputable def b (a1 : Int) (a2 : List Int) (a3 a4 : Int) (R : Int → Int → Int → Option Res) : Option Res :=
  bif decide (a1 ≤ 0) then R 0 a3 a4
  else bif decide (a1 ≤ 256) then (spec_l1Byte.g a2 a3 a4 fun r5 r6 r7 =>
    bif decide (a1 = 0) then none
    else R (r5.tmod a1) r6 r7)
  else (spec_l1Byte.g a2 a3 a4 fun r8 r9 r10 =>
  spec_l1Byte.g a2 r9 r10 fun r11 r12 r13 =>
  spec_l1Byte.g a2 r12 r13 fun r14 r15 r16 =>
  spec_l1Byte.g a2 r15 r16 fun r17 r18 r19 =>
  bif decide (a1 = 0) then none
  else R ((IntKind.i64.wrap ((IntKind.i64.wrap ((IntKind.i64.wrap ((IntKind.i64.wrap (r8 * 16777216)) + (IntKind.i64.wrap (r11 * 65536)))) + (IntKind.i64.wrap (r14 * 256)))) + r17)).tmod a1) r18 r19)
theorem gx : ∃ x : Int → List Int → Int → Int → (Int → Int → Int → Option Res) → Option Res, x = b := ⟨_, rfl⟩
noncomputable def g : Int → List Int → Int → Int → (Int → Int → Int → Option Res) → Option Res := Classical.choose gx
theorem e : g = b := Classical.choose_spec gx
noncomputable def run : List Lf → (Res → Option Res) → Option Res
  | [.i a1, .q (.ints a2), .i a3, .i a4], K => g a1 a2 a3 a4 (fun r1 r3 r4 => K (m a2 r1 r3 r4))
  | _, _ => none
noncomputable def a (a1 : Int) (a2 : List Int) (a3 a4 : Int) : St := argSt [one (.bp 0 0), one (.int .i64 a1)] [] [[.tr 2 2 [.int .u8] (.ints a2), .int .i64 a3, .int .i64 a4]]
noncomputable def con : FuncId × St × (List Lf → (Res → Option Res) → Option Res) := (98, a 0 [] 0 0, run)
theorem cx (K : Res → Option Res) : CtxOk Go.Proofs.Try.prog Γ0 byt0 eqs0 (X K) os := ⟨rfl, rfl, rfl, (fun p hp => by
  rcases List.mem_cons.1 hp with rfl | hp
  · exact spec_l1Byte.ok
  cases hp), rfl, rfl, rfl, rfl⟩
theorem tie (K : Res → Option Res) (a1 : Int) (a2 : List Int) (a3 a4 : Int) : exec (X K) c (entry 37 [one (.bp 0 0), one (.int .i64 a1)] [] [[.tr 2 2 [.int .u8] (.ints a2), .int .i64 a3, .int .i64 a4]]) (endK (X K)) = g a1 a2 a3 a4 (fun r1 r3 r4 => K (m a2 r1 r3 r4)) := Eq.trans (b := b a1 a2 a3 a4 (fun r1 r3 r4 => K (m a2 r1 r3 r4))) (by kernel_rfl) (by rw [e])
theorem runv {l : List Lf} {K : Res → Option Res} {r : Res} (h : run l K = some r) : ∃ a1 a2 a3 a4, l = [.i a1, .q (.ints a2), .i a3, .i a4] ∧ g a1 a2 a3 a4 (fun r1 r3 r4 => K (m a2 r1 r3 r4)) = some r := by
  unfold run at h; split at h
  · exact ⟨_, _, _, _, rfl, h⟩
  · cases h
theorem ok : Con Go.Proofs.Try.prog con := con_of (fn := Go.Proofs.Try.f98) (c := c) (Fi := fi) (X := X) (fun_of laid (by kernel_rfl) (by kernel_rfl) (by kernel_rfl) rfl (by kernel_rfl) (by kernel_rfl) cx (fun _ => rfl) (fun _ => rfl) (fun K => by
    rw [show loopsOf c = [] from by kernel_rfl]; intro p hp
    cases hp)) fun xs rows boxes K r hl hr => by
  obtain ⟨a1, a2, a3, a4, e, h⟩ := runv hr
  have := St.like_eq (y := a a1 a2 a3 a4) hl (by kernel_rfl) e
  obtain ⟨rfl, rfl, rfl⟩ := argSt_inj this
  exact (tie K a1 a2 a3 a4).trans h
end spec_l1Below
namespace spec_l2DrawRight
noncomputable def c : Code := bodyOf Go.Proofs.Try.f135
noncomputable def fi : Fin := ⟨Γ0, [(.tmp 2, 23)], [[1]], [], [([.sl [.int .u8] 1, .int .i64, .int .i64], [0, 1, 1])], []⟩
noncomputable def m (a1 r1 : List Int) (r3 r4 : Int) : Res := ⟨[⟨false, [.ow 1000]⟩], [], [⟨[.int .i64], .ints r1, true, 0⟩], [[.tr 2 2 [.int .u8] (.ints a1), .int .i64 r3, .int .i64 r4]], []⟩
noncomputable def os : List (FuncId × St × (List Lf → (Res → Option Res) → Option Res)) := [spec_l1Below.con]
noncomputable def X (K : Res → Option Res) : Ctx := { Γ := Γ0, orc := orcOf os, io := [], share := [], mvl := [], bun := [], cut := [], own := [], cin := [], cout := [], lp := lpOf [], kl := [], nk := true, eqs := eqs0, byt := byt0, fin := finK fi K }
noncomputable def b (a1 : List Int) (a2 a3 : Int) (R : List Int → Int → Int → Option Res) : Option Res :=
  spec_l1Below.g 5 a1 a2 a3 fun r4 r5 r6 =>
  bif (r4 == 0) then R ([] : List Int) r5 r6
  else bif (r4 == 1) then (spec_l1Below.g 6 a1 r5 r6 fun r7 r8 r9 =>
    R ([r7] : List Int) r8 r9)
  else bif (r4 == 2) then (spec_l1Below.g 6 a1 r5 r6 fun r10 r11 r12 =>
    R ([r10] : List Int) r11 r12)
  else bif (r4 == 3) then (spec_l1Below.g 4 a1 r5 r6 fun r13 r14 r15 =>
    spec_l1Below.g 3 a1 r14 r15 fun r16 r17 r18 =>
    R ([r13, IntKind.i64.wrap (1 + r16)] : List Int) r17 r18)
  else (spec_l1Below.g 3 a1 r5 r6 fun r19 r20 r21 =>
  spec_l1Below.g 2 a1 r20 r21 fun r22 r23 r24 =>
  spec_l1Below.g 4 a1 r23 r24 fun r25 r26 r27 =>
  R ([IntKind.i64.wrap (1 + r19), IntKind.i64.wrap (1 + r22), r25] : List Int) r26 r27)
theorem gx : ∃ x : List Int → Int → Int → (List Int → Int → Int → Option Res) → Option Res, x = b := ⟨_, rfl⟩
noncomputable def g : List Int → Int → Int → (List Int → Int → Int → Option Res) → Option Res := Classical.choose gx
theorem e : g = b := Classical.choose_spec gx
noncomputable def run : List Lf → (Res → Option Res) → Option Res
  | [.q (.ints a1), .i a2, .i a3], K => g a1 a2 a3 (fun r1 r3 r4 => K (m a1 r1 r3 r4))
  | _, _ => none
noncomputable def a (a1 : List Int) (a2 a3 : Int) : St := argSt [one (.bp 0 0)] [] [[.tr 2 2 [.int .u8] (.ints a1), .int .i64 a2, .int .i64 a3]]
noncomputable def con : FuncId × St × (List Lf → (Res → Option Res) → Option Res) := (135, a [] 0 0, run)
theorem cx (K : Res → Option Res) : CtxOk Go.Proofs.Try.prog Γ0 byt0 eqs0 (X K) os := ⟨rfl, rfl, rfl, (fun p hp => by
  rcases List.mem_cons.1 hp with rfl | hp
  · exact spec_l1Below.ok
  cases hp), rfl, rfl, rfl, rfl⟩
theorem tie (K : Res → Option Res) (a1 : List Int) (a2 a3 : Int) : exec (X K) c (entry 31 [one (.bp 0 0)] [] [[.tr 2 2 [.int .u8] (.ints a1), .int .i64 a2, .int .i64 a3]]) (endK (X K)) = g a1 a2 a3 (fun r1 r3 r4 => K (m a1 r1 r3 r4)) := Eq.trans (b := b a1 a2 a3 (fun r1 r3 r4 => K (m a1 r1 r3 r4))) (by kernel_rfl) (by rw [e])
theorem runv {l : List Lf} {K : Res → Option Res} {r : Res} (h : run l K = some r) : ∃ a1 a2 a3, l = [.q (.ints a1), .i a2, .i a3] ∧ g a1 a2 a3 (fun r1 r3 r4 => K (m a1 r1 r3 r4)) = some r := by
  unfold run at h; split at h
  · exact ⟨_, _, _, rfl, h⟩
  · cases h
theorem ok : Con Go.Proofs.Try.prog con := con_of (fn := Go.Proofs.Try.f135) (c := c) (Fi := fi) (X := X) (fun_of laid (by kernel_rfl) (by kernel_rfl) (by kernel_rfl) rfl (by kernel_rfl) (by kernel_rfl) cx (fun _ => rfl) (fun _ => rfl) (fun K => by
    rw [show loopsOf c = [] from by kernel_rfl]; intro p hp
    cases hp)) fun xs rows boxes K r hl hr => by
  obtain ⟨a1, a2, a3, e, h⟩ := runv hr
  have := St.like_eq (y := a a1 a2 a3) hl (by kernel_rfl) e
  obtain ⟨rfl, rfl, rfl⟩ := argSt_inj this
  exact (tie K a1 a2 a3).trans h
end spec_l2DrawRight
namespace spec_l1Once
noncomputable def c : Code := bodyOf Go.Proofs.Try.f138
noncomputable def fi : Fin := ⟨Γ0, [(.tmp 4, 4)], [[1]], [], [([.sl [.int .u8] 1, .int .i64, .int .i64], [0, 1, 1])], []⟩
noncomputable def m (a2 : List Int) (r1 : Bool) (r3 r4 : Int) : Res := ⟨[⟨false, [.bool r1]⟩], [], [], [[.tr 2 2 [.int .u8] (.ints a2), .int .i64 r3, .int .i64 r4]], []⟩
noncomputable def os : List (FuncId × St × (List Lf → (Res → Option Res) → Option Res)) := [spec_l1Below.con]
noncomputable def X (K : Res → Option Res) : Ctx := { Γ := Γ0, orc := orcOf os, io := [], share := [], mvl := [], bun := [], cut := [], own := [], cin := [], cout := [], lp := lpOf [], kl := [], nk := true, eqs := eqs0, byt := byt0, fin := finK fi K }
noncomputable def b (a1 : Int) (a2 : List Int) (a3 a4 : Int) (R : Bool → Int → Int → Option Res) : Option Res :=
  spec_l1Below.g a1 a2 a3 a4 fun r5 r6 r7 =>
  R (r5 == 0) r6 r7
theorem gx : ∃ x : Int → List Int → Int → Int → (Bool → Int → Int → Option Res) → Option Res, x = b := ⟨_, rfl⟩
noncomputable def g : Int → List Int → Int → Int → (Bool → Int → Int → Option Res) → Option Res := Classical.choose gx
theorem e : g = b := Classical.choose_spec gx
noncomputable def run : List Lf → (Res → Option Res) → Option Res
  | [.i a1, .q (.ints a2), .i a3, .i a4], K => g a1 a2 a3 a4 (fun r1 r3 r4 => K (m a2 r1 r3 r4))
  | _, _ => none
noncomputable def a (a1 : Int) (a2 : List Int) (a3 a4 : Int) : St := argSt [one (.bp 0 0), one (.int .i64 a1)] [] [[.tr 2 2 [.int .u8] (.ints a2), .int .i64 a3, .int .i64 a4]]
noncomputable def con : FuncId × St × (List Lf → (Res → Option Res) → Option Res) := (138, a 0 [] 0 0, run)
theorem cx (K : Res → Option Res) : CtxOk Go.Proofs.Try.prog Γ0 byt0 eqs0 (X K) os := ⟨rfl, rfl, rfl, (fun p hp => by
  rcases List.mem_cons.1 hp with rfl | hp
  · exact spec_l1Below.ok
  cases hp), rfl, rfl, rfl, rfl⟩
theorem tie (K : Res → Option Res) (a1 : Int) (a2 : List Int) (a3 a4 : Int) : exec (X K) c (entry 9 [one (.bp 0 0), one (.int .i64 a1)] [] [[.tr 2 2 [.int .u8] (.ints a2), .int .i64 a3, .int .i64 a4]]) (endK (X K)) = g a1 a2 a3 a4 (fun r1 r3 r4 => K (m a2 r1 r3 r4)) := Eq.trans (b := b a1 a2 a3 a4 (fun r1 r3 r4 => K (m a2 r1 r3 r4))) (by kernel_rfl) (by rw [e])
theorem runv {l : List Lf} {K : Res → Option Res} {r : Res} (h : run l K = some r) : ∃ a1 a2 a3 a4, l = [.i a1, .q (.ints a2), .i a3, .i a4] ∧ g a1 a2 a3 a4 (fun r1 r3 r4 => K (m a2 r1 r3 r4)) = some r := by
  unfold run at h; split at h
  · exact ⟨_, _, _, _, rfl, h⟩
  · cases h
theorem ok : Con Go.Proofs.Try.prog con := con_of (fn := Go.Proofs.Try.f138) (c := c) (Fi := fi) (X := X) (fun_of laid (by kernel_rfl) (by kernel_rfl) (by kernel_rfl) rfl (by kernel_rfl) (by kernel_rfl) cx (fun _ => rfl) (fun _ => rfl) (fun K => by
    rw [show loopsOf c = [] from by kernel_rfl]; intro p hp
    cases hp)) fun xs rows boxes K r hl hr => by
  obtain ⟨a1, a2, a3, a4, e, h⟩ := runv hr
  have := St.like_eq (y := a a1 a2 a3 a4) hl (by kernel_rfl) e
  obtain ⟨rfl, rfl, rfl⟩ := argSt_inj this
  exact (tie K a1 a2 a3 a4).trans h
end spec_l1Once
namespace spec_l1PickInt
noncomputable def c : Code := bodyOf Go.Proofs.Try.f99
noncomputable def fi : Fin := ⟨Γ0, [(.tmp 4, 3)], [[1]], [], [([.sl [.int .u8] 1, .int .i64, .int .i64], [0, 1, 1])], []⟩
noncomputable def m (a2 : List Int) (r1 r3 r4 : Int) : Res := ⟨[⟨false, [.int .i64 r1]⟩], [], [], [[.tr 2 2 [.int .u8] (.ints a2), .int .i64 r3, .int .i64 r4]], []⟩
noncomputable def os : List (FuncId × St × (List Lf → (Res → Option Res) → Option Res)) := [spec_l1Below.con]
noncomputable def X (K : Res → Option Res) : Ctx := { Γ := Γ0, orc := orcOf os, io := [], share := [], mvl := [], bun := [], cut := [], own := [], cin := [], cout := [], lp := lpOf [], kl := [], nk := true, eqs := eqs0, byt := byt0, fin := finK fi K }
noncomputable def b (a1 a2 : List Int) (a3 a4 : Int) (R : Int → Int → Int → Option Res) : Option Res :=
  spec_l1Below.g (a1.length : Int) a2 a3 a4 fun r5 r6 r7 =>
  bif decide (0 ≤ r5) && decide (r5 < (a1.length : Int)) then R (a1.getD r5.toNat 0) r6 r7
  else none
theorem gx : ∃ x : List Int → List Int → Int → Int → (Int → Int → Int → Option Res) → Option Res, x = b := ⟨_, rfl⟩
noncomputable def g : List Int → List Int → Int → Int → (Int → Int → Int → Option Res) → Option Res := Classical.choose gx
theorem e : g = b := Classical.choose_spec gx
noncomputable def run : List Lf → (Res → Option Res) → Option Res
  | [.q (.ints a1), .q (.ints a2), .i a3, .i a4], K => g a1 a2 a3 a4 (fun r1 r3 r4 => K (m a2 r1 r3 r4))
  | _, _ => none
noncomputable def a (a1 a2 : List Int) (a3 a4 : Int) : St := argSt [one (.bp 0 0), one (.tr 0 1 [.int .i64] (.ints a1))] [] [[.tr 2 2 [.int .u8] (.ints a2), .int .i64 a3, .int .i64 a4]]
noncomputable def con : FuncId × St × (List Lf → (Res → Option Res) → Option Res) := (99, a [] [] 0 0, run)
theorem cx (K : Res → Option Res) : CtxOk Go.Proofs.Try.prog Γ0 byt0 eqs0 (X K) os := ⟨rfl, rfl, rfl, (fun p hp => by
  rcases List.mem_cons.1 hp with rfl | hp
  · exact spec_l1Below.ok
  cases hp), rfl, rfl, rfl, rfl⟩
theorem tie (K : Res → Option Res) (a1 a2 : List Int) (a3 a4 : Int) : exec (X K) c (entry 12 [one (.bp 0 0), one (.tr 0 1 [.int .i64] (.ints a1))] [] [[.tr 2 2 [.int .u8] (.ints a2), .int .i64 a3, .int .i64 a4]]) (endK (X K)) = g a1 a2 a3 a4 (fun r1 r3 r4 => K (m a2 r1 r3 r4)) := Eq.trans (b := b a1 a2 a3 a4 (fun r1 r3 r4 => K (m a2 r1 r3 r4))) (by kernel_rfl) (by rw [e])
theorem runv {l : List Lf} {K : Res → Option Res} {r : Res} (h : run l K = some r) : ∃ a1 a2 a3 a4, l = [.q (.ints a1), .q (.ints a2), .i a3, .i a4] ∧ g a1 a2 a3 a4 (fun r1 r3 r4 => K (m a2 r1 r3 r4)) = some r := by
  unfold run at h; split at h
  · exact ⟨_, _, _, _, rfl, h⟩
  · cases h
theorem ok : Con Go.Proofs.Try.prog con := con_of (fn := Go.Proofs.Try.f99) (c := c) (Fi := fi) (X := X) (fun_of laid (by kernel_rfl) (by kernel_rfl) (by kernel_rfl) rfl (by kernel_rfl) (by kernel_rfl) cx (fun _ => rfl) (fun _ => rfl) (fun K => by
    rw [show loopsOf c = [] from by kernel_rfl]; intro p hp
    cases hp)) fun xs rows boxes K r hl hr => by
  obtain ⟨a1, a2, a3, a4, e, h⟩ := runv hr
  have := St.like_eq (y := a a1 a2 a3 a4) hl (by kernel_rfl) e
  obtain ⟨rfl, rfl, rfl⟩ := argSt_inj this
  exact (tie K a1 a2 a3 a4).trans h
end spec_l1PickInt
namespace spec_l1DrawNum
noncomputable def c : Code := bodyOf Go.Proofs.Try.f179
noncomputable def fi : Fin := ⟨Γ0, [(.tmp 2, 3)], [[1]], [], [([.sl [.int .u8] 1, .int .i64, .int .i64], [0, 1, 1])], []⟩
noncomputable def m (a1 : List Int) (r1 r3 r4 : Int) : Res := ⟨[⟨false, [.int .i64 r1]⟩], [], [], [[.tr 2 2 [.int .u8] (.ints a1), .int .i64 r3, .int .i64 r4]], []⟩
noncomputable def os : List (FuncId × St × (List Lf → (Res → Option Res) → Option Res)) := [spec_l1Once.con, spec_l1PickInt.con, spec_l1Below.con]
noncomputable def X (K : Res → Option Res) : Ctx := { Γ := Γ0, orc := orcOf os, io := [], share := [], mvl := [], bun := [], cut := [], own := [], cin := [], cout := [], lp := lpOf [], kl := [], nk := true, eqs := eqs0, byt := byt0, fin := finK fi K }
noncomputable def b (a1 : List Int) (a2 a3 : Int) (R : Int → Int → Int → Option Res) : Option Res :=
  spec_l1Once.g 12 a1 a2 a3 fun r4 r5 r6 =>
  bif r4 then (spec_l1PickInt.g ([1000000000000, (-1000000000000), 999999999999, 1000000, (-1000000), 1000001, 999999999999] : List Int) a1 r5 r6 fun r7 r8 r9 =>
    R r7 r8 r9)
  else (spec_l1Below.g 20 a1 r5 r6 fun r10 r11 r12 =>
  R (IntKind.i64.wrap (r10 - 6)) r11 r12)
theorem gx : ∃ x : List Int → Int → Int → (Int → Int → Int → Option Res) → Option Res, x = b := ⟨_, rfl⟩
noncomputable def g : List Int → Int → Int → (Int → Int → Int → Option Res) → Option Res := Classical.choose gx
theorem e : g = b := Classical.choose_spec gx
noncomputable def run : List Lf → (Res → Option Res) → Option Res
  | [.q (.ints a1), .i a2, .i a3], K => g a1 a2 a3 (fun r1 r3 r4 => K (m a1 r1 r3 r4))
  | _, _ => none
noncomputable def a (a1 : List Int) (a2 a3 : Int) : St := argSt [one (.bp 0 0)] [] [[.tr 2 2 [.int .u8] (.ints a1), .int .i64 a2, .int .i64 a3]]
noncomputable def con : FuncId × St × (List Lf → (Res → Option Res) → Option Res) := (179, a [] 0 0, run)
theorem cx (K : Res → Option Res) : CtxOk Go.Proofs.Try.prog Γ0 byt0 eqs0 (X K) os := ⟨rfl, rfl, rfl, (fun p hp => by
  rcases List.mem_cons.1 hp with rfl | hp
  · exact spec_l1Once.ok
  rcases List.mem_cons.1 hp with rfl | hp
  · exact spec_l1PickInt.ok
  rcases List.mem_cons.1 hp with rfl | hp
  · exact spec_l1Below.ok
  cases hp), rfl, rfl, rfl, rfl⟩
theorem tie (K : Res → Option Res) (a1 : List Int) (a2 a3 : Int) : exec (X K) c (entry 11 [one (.bp 0 0)] [] [[.tr 2 2 [.int .u8] (.ints a1), .int .i64 a2, .int .i64 a3]]) (endK (X K)) = g a1 a2 a3 (fun r1 r3 r4 => K (m a1 r1 r3 r4)) := Eq.trans (b := b a1 a2 a3 (fun r1 r3 r4 => K (m a1 r1 r3 r4))) (by kernel_rfl) (by rw [e])
theorem runv {l : List Lf} {K : Res → Option Res} {r : Res} (h : run l K = some r) : ∃ a1 a2 a3, l = [.q (.ints a1), .i a2, .i a3] ∧ g a1 a2 a3 (fun r1 r3 r4 => K (m a1 r1 r3 r4)) = some r := by
  unfold run at h; split at h
  · exact ⟨_, _, _, rfl, h⟩
  · cases h
theorem ok : Con Go.Proofs.Try.prog con := con_of (fn := Go.Proofs.Try.f179) (c := c) (Fi := fi) (X := X) (fun_of laid (by kernel_rfl) (by kernel_rfl) (by kernel_rfl) rfl (by kernel_rfl) (by kernel_rfl) cx (fun _ => rfl) (fun _ => rfl) (fun K => by
    rw [show loopsOf c = [] from by kernel_rfl]; intro p hp
    cases hp)) fun xs rows boxes K r hl hr => by
  obtain ⟨a1, a2, a3, e, h⟩ := runv hr
  have := St.like_eq (y := a a1 a2 a3) hl (by kernel_rfl) e
  obtain ⟨rfl, rfl, rfl⟩ := argSt_inj this
  exact (tie K a1 a2 a3).trans h
end spec_l1DrawNum
namespace spec_l3Fill
noncomputable def c : Code := bodyOf Go.Proofs.Try.f134
noncomputable def fi : Fin := ⟨Γ0, [(.cell 4 25, 25)], [[1, 1]], [], [([.sl [.int .u8] 1, .int .i64, .int .i64], [0, 1, 1])], []⟩
noncomputable def m (r1 r2 r3 : List Int) (r4 r5 : Int) : Res := ⟨[⟨true, [.ow 1000, .ow 1001]⟩], [], [⟨[.int .i64], .ints r1, true, 0⟩, ⟨[.int .i64], .ints r2, true, 0⟩], [[.tr 2 2 [.int .u8] (.ints r3), .int .i64 r4, .int .i64 r5]], []⟩
noncomputable def b0 : Code := codeAt c [1, 1, 0, 1, 0, 0]
noncomputable def s0 (x5 : List Int) (x6 : Int) (x7 x8 x9 : List Int) (x10 x11 : Int) : St := ⟨mkT 25 [(0, one (.bp 0 0)), (1, one (.tr 0 1 [.int .i64] (.ints x5))), (4, one (.bp 1000 0)), (5, one (.bp 3112 0)), (6, one (.int .i64 x6))], [(3080, ⟨[.int .i64], .ints x7, true, 0⟩), (3105, ⟨[.int .i64], .ints x8, true, 0⟩)], [(0, [.tr 2 2 [.int .u8] (.ints x9), .int .i64 x10, .int .i64 x11]), (1000, [.nil, .nil]), (3112, [.ow 3080, .ow 3105])]⟩
noncomputable def l0s (x5 x7 x9 : List Int) (rec : Int → List Int → Int → Int → Option Res) (k : List Int → Int → Int → Option Res) (x6 : Int) (x8 : List Int) (x10 x11 : Int) : Option Res :=
  spec_SizeOf.g x5 fun r12 =>
  bif decide (x6 < r12) then (spec_l1DrawNum.g x9 x10 x11 fun r13 r14 r15 =>
    bif decide ((x8.length + 1) * 8 ≤ 140737488355328) then rec (IntKind.i64.wrap (x6 + 1)) (x8 ++ ([r13] : List Int)) r14 r15
    else none)
  else k x8 x10 x11
noncomputable def l0 (x5 x7 x9 : List Int) (k : List Int → Int → Int → Option Res) : Nat → Int → List Int → Int → Int → Option Res
  | 0, _, _, _, _ => none
  | n + 1, x6, x8, x10, x11 => l0s x5 x7 x9 (fun x6 x8 x10 x11 => l0 x5 x7 x9 k n x6 x8 x10 x11) k x6 x8 x10 x11
noncomputable def o0 (x5 x7 x9 y2 : List Int) (y4 y5 : Int) : St := ⟨mkT 25 [(4, one (.bp 1000 0)), (5, one (.bp 3112 0))], [(3080, ⟨[.int .i64], .ints x7, true, 0⟩), (3105, ⟨[.int .i64], .ints y2, true, 0⟩)], [(1000, [.nil, .nil]), (3112, [.ow 3080, .ow 3105]), (0, [.tr 2 2 [.int .u8] (.ints x9), .int .i64 y4, .int .i64 y5])]⟩
noncomputable def p0 (K : Res → Option Res) : List Lf → (St → Option Res) → Option Res
  | [.q (.ints x5), .i x6, .q (.ints x7), .q (.ints x8), .q (.ints x9), .i x10, .i x11], k => l0 x5 x7 x9 (fun y2 y4 y5 => k (o0 x5 x7 x9 y2 y4 y5)) fuel x6 x8 x10 x11
  | _, _ => none
noncomputable def os : List (FuncId × St × (List Lf → (Res → Option Res) → Option Res)) := [spec_SizeOf.con, spec_l1DrawNum.con]
noncomputable def X (K : Res → Option Res) : Ctx := { Γ := Γ0, orc := orcOf os, io := [], share := [], mvl := [], bun := [], cut := [], own := [(1, 3, 1, [.int .i64])], cin := [(0, ⟨[0, 1, 4, 5, 6], [(3080, 3080), (3105, 3105), (11320, 3105)], [0, 1000, 3112], [], [], []⟩)], cout := [(0, ⟨[4, 5], [(3080, 3080), (3105, 3105)], [1000, 3112, 0], [], [], []⟩)], lp := lpOf [(0, s0 [] 0 [] [] [] 0 0, p0 K)], kl := [], nk := true, eqs := eqs0, byt := byt0, fin := finK fi K }
noncomputable def b (a1 a2 : List Int) (a3 a4 : Int) (R : List Int → List Int → List Int → Int → Int → Option Res) : Option Res :=
  bif decide ((0 + a1.length) * 8 ≤ 140737488355328) then (l0 a1 (([] : List Int) ++ a1) a2 (fun y16 y17 y18 => 
    R (([] : List Int) ++ a1) y16 a2 y17 y18) fuel 0 ([] : List Int) a3 a4)
  else none
theorem gx : ∃ x : List Int → List Int → Int → Int → (List Int → List Int → List Int → Int → Int → Option Res) → Option Res, x = b := ⟨_, rfl⟩
noncomputable def g : List Int → List Int → Int → Int → (List Int → List Int → List Int → Int → Int → Option Res) → Option Res := Classical.choose gx
theorem e : g = b := Classical.choose_spec gx
noncomputable def run : List Lf → (Res → Option Res) → Option Res
  | [.q (.ints a1), .q (.ints a2), .i a3, .i a4], K => g a1 a2 a3 a4 (fun r1 r2 r3 r4 r5 => K (m r1 r2 r3 r4 r5))
  | _, _ => none
noncomputable def a (a1 a2 : List Int) (a3 a4 : Int) : St := argSt [one (.bp 0 0), one (.tr 0 1 [.int .i64] (.ints a1))] [] [[.tr 2 2 [.int .u8] (.ints a2), .int .i64 a3, .int .i64 a4]]
noncomputable def con : FuncId × St × (List Lf → (Res → Option Res) → Option Res) := (134, a [] [] 0 0, run)
theorem cx (K : Res → Option Res) : CtxOk Go.Proofs.Try.prog Γ0 byt0 eqs0 (X K) os := ⟨rfl, rfl, rfl, (fun p hp => by
  rcases List.mem_cons.1 hp with rfl | hp
  · exact spec_SizeOf.ok
  rcases List.mem_cons.1 hp with rfl | hp
  · exact spec_l1DrawNum.ok
  cases hp), rfl, rfl, rfl, rfl⟩
theorem t0 (K : Res → Option Res) (k : St → Option Res) (it : St → (St → Option Res) → Option Res) (x5 : List Int) (x6 : Int) (x7 x8 x9 : List Int) (x10 x11 : Int) : iterS (X K) 0 b0 it (s0 x5 x6 x7 x8 x9 x10 x11) k = l0s x5 x7 x9 (fun x6 x8 x10 x11 => it (s0 x5 x6 x7 x8 x9 x10 x11) k) (fun y2 y4 y5 => k (o0 x5 x7 x9 y2 y4 y5)) x6 x8 x10 x11 := by kernel_rfl
theorem i0 (K : Res → Option Res) (k : St → Option Res) (x5 x7 x9 : List Int) : ∀ (n : Nat) (x6 : Int) (x8 : List Int) (x10 x11 : Int), iter (X K) 0 b0 n (s0 x5 x6 x7 x8 x9 x10 x11) k = l0 x5 x7 x9 (fun y2 y4 y5 => k (o0 x5 x7 x9 y2 y4 y5)) n x6 x8 x10 x11
  | 0, _, _, _, _ => rfl
  | n + 1, x6, x8, x10, x11 => by
    rw [iter_succ, t0, show (fun x6 x8 x10 x11 => iter (X K) 0 b0 n (s0 x5 x6 x7 x8 x9 x10 x11) k) = (fun x6 x8 x10 x11 => l0 x5 x7 x9 (fun y2 y4 y5 => k (o0 x5 x7 x9 y2 y4 y5)) n x6 x8 x10 x11) from funext fun x6 => funext fun x8 => funext fun x10 => funext fun x11 => i0 K k x5 x7 x9 n x6 x8 x10 x11]; rfl
theorem v0 {K : Res → Option Res} {l : List Lf} {k : St → Option Res} {r : Res} (h : p0 K l k = some r) : ∃ x5 x6 x7 x8 x9 x10 x11, l = [.q (.ints x5), .i x6, .q (.ints x7), .q (.ints x8), .q (.ints x9), .i x10, .i x11] ∧ l0 x5 x7 x9 (fun y2 y4 y5 => k (o0 x5 x7 x9 y2 y4 y5)) fuel x6 x8 x10 x11 = some r := by
  unfold p0 at h; split at h
  · exact ⟨_, _, _, _, _, _, _, rfl, h⟩
  · cases h
theorem w0 (K : Res → Option Res) : LpSound Go.Proofs.Try.prog (X K) 0 b0 := lp_ok ((cx K).ok laid) (by rw [show loopsOf b0 = [] from by kernel_rfl]; intro p hp; cases hp) rfl fun p hp hid => by
  rcases List.mem_cons.1 hp with rfl | hp
  · intro st k r h1 h2; obtain ⟨x5, x6, x7, x8, x9, x10, x11, e, h⟩ := v0 (K := K) h2; have := St.like_eq (y := s0 x5 x6 x7 x8 x9 x10 x11) h1 (by kernel_rfl) e; subst this; exact ⟨fuel, (i0 K k x5 x7 x9 fuel x6 x8 x10 x11).trans h⟩
  cases hp
theorem tie (K : Res → Option Res) (a1 a2 : List Int) (a3 a4 : Int) : exec (X K) c (entry 25 [one (.bp 0 0), one (.tr 0 1 [.int .i64] (.ints a1))] [] [[.tr 2 2 [.int .u8] (.ints a2), .int .i64 a3, .int .i64 a4]]) (endK (X K)) = g a1 a2 a3 a4 (fun r1 r2 r3 r4 r5 => K (m r1 r2 r3 r4 r5)) := Eq.trans (b := b a1 a2 a3 a4 (fun r1 r2 r3 r4 r5 => K (m r1 r2 r3 r4 r5))) (by kernel_rfl) (by rw [e])
theorem runv {l : List Lf} {K : Res → Option Res} {r : Res} (h : run l K = some r) : ∃ a1 a2 a3 a4, l = [.q (.ints a1), .q (.ints a2), .i a3, .i a4] ∧ g a1 a2 a3 a4 (fun r1 r2 r3 r4 r5 => K (m r1 r2 r3 r4 r5)) = some r := by
  unfold run at h; split at h
  · exact ⟨_, _, _, _, rfl, h⟩
  · cases h
theorem ok : Con Go.Proofs.Try.prog con := con_of (fn := Go.Proofs.Try.f134) (c := c) (Fi := fi) (X := X) (fun_of laid (by kernel_rfl) (by kernel_rfl) (by kernel_rfl) rfl (by kernel_rfl) (by kernel_rfl) cx (fun _ => rfl) (fun _ => rfl) (fun K => by
    rw [show loopsOf c = [(0, b0)] from by kernel_rfl]; intro p hp
    rcases List.mem_cons.1 hp with rfl | hp
    · exact w0 K
    cases hp)) fun xs rows boxes K r hl hr => by
  obtain ⟨a1, a2, a3, a4, e, h⟩ := runv hr
  have := St.like_eq (y := a a1 a2 a3 a4) hl (by kernel_rfl) e
  obtain ⟨rfl, rfl, rfl⟩ := argSt_inj this
  exact (tie K a1 a2 a3 a4).trans h
end spec_l3Fill
namespace spec_l3DrawRight
noncomputable def c : Code := bodyOf Go.Proofs.Try.f97
noncomputable def fi : Fin := ⟨Γ0, [(.cell 2 25, 25)], [[1, 1]], [], [([.sl [.int .u8] 1, .int .i64, .int .i64], [0, 1, 1])], []⟩
noncomputable def m (r1 r2 r3 : List Int) (r4 r5 : Int) : Res := ⟨[⟨true, [.ow 1000, .ow 1001]⟩], [], [⟨[.int .i64], .ints r1, true, 0⟩, ⟨[.int .i64], .ints r2, true, 0⟩], [[.tr 2 2 [.int .u8] (.ints r3), .int .i64 r4, .int .i64 r5]], []⟩
noncomputable def os : List (FuncId × St × (List Lf → (Res → Option Res) → Option Res)) := [spec_l2DrawRight.con, spec_l3Fill.con]
noncomputable def X (K : Res → Option Res) : Ctx := { Γ := Γ0, orc := orcOf os, io := [], share := [], mvl := [], bun := [], cut := [], own := [], cin := [], cout := [], lp := lpOf [], kl := [], nk := true, eqs := eqs0, byt := byt0, fin := finK fi K }
noncomputable def b (a1 : List Int) (a2 a3 : Int) (R : List Int → List Int → List Int → Int → Int → Option Res) : Option Res :=
  spec_l2DrawRight.g a1 a2 a3 fun r4 r5 r6 =>
  spec_l3Fill.g r4 a1 r5 r6 fun r7 r8 r9 r10 r11 =>
  R r7 r8 r9 r10 r11
theorem gx : ∃ x : List Int → Int → Int → (List Int → List Int → List Int → Int → Int → Option Res) → Option Res, x = b := ⟨_, rfl⟩
noncomputable def g : List Int → Int → Int → (List Int → List Int → List Int → Int → Int → Option Res) → Option Res := Classical.choose gx
theorem e : g = b := Classical.choose_spec gx
noncomputable def run : List Lf → (Res → Option Res) → Option Res
  | [.q (.ints a1), .i a2, .i a3], K => g a1 a2 a3 (fun r1 r2 r3 r4 r5 => K (m r1 r2 r3 r4 r5))
  | _, _ => none
noncomputable def a (a1 : List Int) (a2 a3 : Int) : St := argSt [one (.bp 0 0)] [] [[.tr 2 2 [.int .u8] (.ints a1), .int .i64 a2, .int .i64 a3]]
noncomputable def con : FuncId × St × (List Lf → (Res → Option Res) → Option Res) := (97, a [] 0 0, run)
theorem cx (K : Res → Option Res) : CtxOk Go.Proofs.Try.prog Γ0 byt0 eqs0 (X K) os := ⟨rfl, rfl, rfl, (fun p hp => by
  rcases List.mem_cons.1 hp with rfl | hp
  · exact spec_l2DrawRight.ok
  rcases List.mem_cons.1 hp with rfl | hp
  · exact spec_l3Fill.ok
  cases hp), rfl, rfl, rfl, rfl⟩
theorem tie (K : Res → Option Res) (a1 : List Int) (a2 a3 : Int) : exec (X K) c (entry 7 [one (.bp 0 0)] [] [[.tr 2 2 [.int .u8] (.ints a1), .int .i64 a2, .int .i64 a3]]) (endK (X K)) = g a1 a2 a3 (fun r1 r2 r3 r4 r5 => K (m r1 r2 r3 r4 r5)) := Eq.trans (b := b a1 a2 a3 (fun r1 r2 r3 r4 r5 => K (m r1 r2 r3 r4 r5))) (by kernel_rfl) (by rw [e])
theorem runv {l : List Lf} {K : Res → Option Res} {r : Res} (h : run l K = some r) : ∃ a1 a2 a3, l = [.q (.ints a1), .i a2, .i a3] ∧ g a1 a2 a3 (fun r1 r2 r3 r4 r5 => K (m r1 r2 r3 r4 r5)) = some r := by
  unfold run at h; split at h
  · exact ⟨_, _, _, rfl, h⟩
  · cases h
theorem ok : Con Go.Proofs.Try.prog con := con_of (fn := Go.Proofs.Try.f97) (c := c) (Fi := fi) (X := X) (fun_of laid (by kernel_rfl) (by kernel_rfl) (by kernel_rfl) rfl (by kernel_rfl) (by kernel_rfl) cx (fun _ => rfl) (fun _ => rfl) (fun K => by
    rw [show loopsOf c = [] from by kernel_rfl]; intro p hp
    cases hp)) fun xs rows boxes K r hl hr => by
  obtain ⟨a1, a2, a3, e, h⟩ := runv hr
  have := St.like_eq (y := a a1 a2 a3) hl (by kernel_rfl) e
  obtain ⟨rfl, rfl, rfl⟩ := argSt_inj this
  exact (tie K a1 a2 a3).trans h
end spec_l3DrawRight
namespace spec_l2Draw
noncomputable def c : Code := bodyOf Go.Proofs.Try.f131
noncomputable def fi : Fin := ⟨Γ0, [(.tmp 2, 23)], [[1]], [], [([.sl [.int .u8] 1, .int .i64, .int .i64], [0, 1, 1])], []⟩
noncomputable def m (a1 r1 : List Int) (r3 r4 : Int) : Res := ⟨[⟨false, [.ow 1000]⟩], [], [⟨[.int .i64], .ints r1, true, 0⟩], [[.tr 2 2 [.int .u8] (.ints a1), .int .i64 r3, .int .i64 r4]], []⟩
noncomputable def os : List (FuncId × St × (List Lf → (Res → Option Res) → Option Res)) := [spec_l2DrawRight.con, spec_l1Below.con, spec_l1PickInt.con]
noncomputable def X (K : Res → Option Res) : Ctx := { Γ := Γ0, orc := orcOf os, io := [], share := [], mvl := [], bun := [], cut := [], own := [], cin := [], cout := [], lp := lpOf [], kl := [], nk := true, eqs := eqs0, byt := byt0, fin := finK fi K }
noncomputable def b (a1 : List Int) (a2 a3 : Int) (R : List Int → Int → Int → Option Res) : Option Res :=
  spec_l2DrawRight.g a1 a2 a3 fun r4 r5 r6 =>
  spec_l1Below.g 20 a1 r5 r6 fun r7 r8 r9 =>
  bif (r7 == 0) then (spec_l1PickInt.g ([(-1), 0, 300, 301] : List Int) a1 r8 r9 fun r10 r11 r12 =>
    bif decide ((r4.length + 1) * 8 ≤ 140737488355328) then R (r4 ++ ([r10] : List Int)) r11 r12
    else none)
  else bif (r7 == 1) then R ([1, 1, 1, 1] : List Int) r8 r9
  else bif (r7 == 2) then (spec_l1PickInt.g ([17, 20, 15, 300] : List Int) a1 r8 r9 fun r13 r14 r15 =>
    spec_l1PickInt.g ([15, 20, 16, 0] : List Int) a1 r14 r15 fun r16 r17 r18 =>
    R ([r13, r16] : List Int) r17 r18)
  else R r4 r8 r9
theorem gx : ∃ x : List Int → Int → Int → (List Int → Int → Int → Option Res) → Option Res, x = b := ⟨_, rfl⟩
noncomputable def g : List Int → Int → Int → (List Int → Int → Int → Option Res) → Option Res := Classical.choose gx
theorem e : g = b := Classical.choose_spec gx
noncomputable def run : List Lf → (Res → Option Res) → Option Res
  | [.q (.ints a1), .i a2, .i a3], K => g a1 a2 a3 (fun r1 r3 r4 => K (m a1 r1 r3 r4))
  | _, _ => none
noncomputable def a (a1 : List Int) (a2 a3 : Int) : St := argSt [one (.bp 0 0)] [] [[.tr 2 2 [.int .u8] (.ints a1), .int .i64 a2, .int .i64 a3]]
noncomputable def con : FuncId × St × (List Lf → (Res → Option Res) → Option Res) := (131, a [] 0 0, run)
theorem cx (K : Res → Option Res) : CtxOk Go.Proofs.Try.prog Γ0 byt0 eqs0 (X K) os := ⟨rfl, rfl, rfl, (fun p hp => by
  rcases List.mem_cons.1 hp with rfl | hp
  · exact spec_l2DrawRight.ok
  rcases List.mem_cons.1 hp with rfl | hp
  · exact spec_l1Below.ok
  rcases List.mem_cons.1 hp with rfl | hp
  · exact spec_l1PickInt.ok
  cases hp), rfl, rfl, rfl, rfl⟩
theorem tie (K : Res → Option Res) (a1 : List Int) (a2 a3 : Int) : exec (X K) c (entry 29 [one (.bp 0 0)] [] [[.tr 2 2 [.int .u8] (.ints a1), .int .i64 a2, .int .i64 a3]]) (endK (X K)) = g a1 a2 a3 (fun r1 r3 r4 => K (m a1 r1 r3 r4)) := Eq.trans (b := b a1 a2 a3 (fun r1 r3 r4 => K (m a1 r1 r3 r4))) (by kernel_rfl) (by rw [e])
theorem runv {l : List Lf} {K : Res → Option Res} {r : Res} (h : run l K = some r) : ∃ a1 a2 a3, l = [.q (.ints a1), .i a2, .i a3] ∧ g a1 a2 a3 (fun r1 r3 r4 => K (m a1 r1 r3 r4)) = some r := by
  unfold run at h; split at h
  · exact ⟨_, _, _, rfl, h⟩
  · cases h
theorem ok : Con Go.Proofs.Try.prog con := con_of (fn := Go.Proofs.Try.f131) (c := c) (Fi := fi) (X := X) (fun_of laid (by kernel_rfl) (by kernel_rfl) (by kernel_rfl) rfl (by kernel_rfl) (by kernel_rfl) cx (fun _ => rfl) (fun _ => rfl) (fun K => by
    rw [show loopsOf c = [] from by kernel_rfl]; intro p hp
    cases hp)) fun xs rows boxes K r hl hr => by
  obtain ⟨a1, a2, a3, e, h⟩ := runv hr
  have := St.like_eq (y := a a1 a2 a3) hl (by kernel_rfl) e
  obtain ⟨rfl, rfl, rfl⟩ := argSt_inj this
  exact (tie K a1 a2 a3).trans h
end spec_l2Draw
namespace spec_l1DrawRaw
noncomputable def c : Code := bodyOf Go.Proofs.Try.f132
noncomputable def fi : Fin := ⟨Γ0, [(.tmp 2, 3)], [[1]], [], [([.sl [.int .u8] 1, .int .i64, .int .i64], [0, 1, 1])], []⟩
noncomputable def m (a1 : List Int) (r1 r3 r4 : Int) : Res := ⟨[⟨false, [.int .i64 r1]⟩], [], [], [[.tr 2 2 [.int .u8] (.ints a1), .int .i64 r3, .int .i64 r4]], []⟩
noncomputable def os : List (FuncId × St × (List Lf → (Res → Option Res) → Option Res)) := [spec_l1Once.con, spec_l1PickInt.con, spec_l1DrawNum.con]
noncomputable def X (K : Res → Option Res) : Ctx := { Γ := Γ0, orc := orcOf os, io := [], share := [], mvl := [], bun := [], cut := [], own := [], cin := [], cout := [], lp := lpOf [], kl := [], nk := true, eqs := eqs0, byt := byt0, fin := finK fi K }
noncomputable def b (a1 : List Int) (a2 a3 : Int) (R : Int → Int → Int → Option Res) : Option Res :=
  spec_l1Once.g 15 a1 a2 a3 fun r4 r5 r6 =>
  bif r4 then (spec_l1PickInt.g ([1000000000001, (-1000000000001), 9223372036854775807, (-9223372036854775808)] : List Int) a1 r5 r6 fun r7 r8 r9 =>
    R r7 r8 r9)
  else (spec_l1DrawNum.g a1 r5 r6 fun r10 r11 r12 =>
  R r10 r11 r12)
theorem gx : ∃ x : List Int → Int → Int → (Int → Int → Int → Option Res) → Option Res, x = b := ⟨_, rfl⟩
noncomputable def g : List Int → Int → Int → (Int → Int → Int → Option Res) → Option Res := Classical.choose gx
theorem e : g = b := Classical.choose_spec gx
noncomputable def run : List Lf → (Res → Option Res) → Option Res
  | [.q (.ints a1), .i a2, .i a3], K => g a1 a2 a3 (fun r1 r3 r4 => K (m a1 r1 r3 r4))
  | _, _ => none
noncomputable def a (a1 : List Int) (a2 a3 : Int) : St := argSt [one (.bp 0 0)] [] [[.tr 2 2 [.int .u8] (.ints a1), .int .i64 a2, .int .i64 a3]]
noncomputable def con : FuncId × St × (List Lf → (Res → Option Res) → Option Res) := (132, a [] 0 0, run)
theorem cx (K : Res → Option Res) : CtxOk Go.Proofs.Try.prog Γ0 byt0 eqs0 (X K) os := ⟨rfl, rfl, rfl, (fun p hp => by
  rcases List.mem_cons.1 hp with rfl | hp
  · exact spec_l1Once.ok
  rcases List.mem_cons.1 hp with rfl | hp
  · exact spec_l1PickInt.ok
  rcases List.mem_cons.1 hp with rfl | hp
  · exact spec_l1DrawNum.ok
  cases hp), rfl, rfl, rfl, rfl⟩
theorem tie (K : Res → Option Res) (a1 : List Int) (a2 a3 : Int) : exec (X K) c (entry 10 [one (.bp 0 0)] [] [[.tr 2 2 [.int .u8] (.ints a1), .int .i64 a2, .int .i64 a3]]) (endK (X K)) = g a1 a2 a3 (fun r1 r3 r4 => K (m a1 r1 r3 r4)) := Eq.trans (b := b a1 a2 a3 (fun r1 r3 r4 => K (m a1 r1 r3 r4))) (by kernel_rfl) (by rw [e])
theorem runv {l : List Lf} {K : Res → Option Res} {r : Res} (h : run l K = some r) : ∃ a1 a2 a3, l = [.q (.ints a1), .i a2, .i a3] ∧ g a1 a2 a3 (fun r1 r3 r4 => K (m a1 r1 r3 r4)) = some r := by
  unfold run at h; split at h
  · exact ⟨_, _, _, rfl, h⟩
  · cases h
theorem ok : Con Go.Proofs.Try.prog con := con_of (fn := Go.Proofs.Try.f132) (c := c) (Fi := fi) (X := X) (fun_of laid (by kernel_rfl) (by kernel_rfl) (by kernel_rfl) rfl (by kernel_rfl) (by kernel_rfl) cx (fun _ => rfl) (fun _ => rfl) (fun K => by
    rw [show loopsOf c = [] from by kernel_rfl]; intro p hp
    cases hp)) fun xs rows boxes K r hl hr => by
  obtain ⟨a1, a2, a3, e, h⟩ := runv hr
  have := St.like_eq (y := a a1 a2 a3) hl (by kernel_rfl) e
  obtain ⟨rfl, rfl, rfl⟩ := argSt_inj this
  exact (tie K a1 a2 a3).trans h
end spec_l1DrawRaw
namespace spec_l3Draw
noncomputable def c : Code := bodyOf Go.Proofs.Try.f88
noncomputable def fi : Fin := ⟨Γ0, [(.cell 2 25, 25)], [[1, 1]], [], [([.sl [.int .u8] 1, .int .i64, .int .i64], [0, 1, 1])], []⟩
noncomputable def m (r1 r2 r3 : List Int) (r4 r5 : Int) : Res := ⟨[⟨true, [.ow 1000, .ow 1001]⟩], [], [⟨[.int .i64], .ints r1, true, 0⟩, ⟨[.int .i64], .ints r2, true, 0⟩], [[.tr 2 2 [.int .u8] (.ints r3), .int .i64 r4, .int .i64 r5]], []⟩
noncomputable def os : List (FuncId × St × (List Lf → (Res → Option Res) → Option Res)) := [spec_l3DrawRight.con, spec_l1Below.con, spec_l2Draw.con, spec_l1DrawRaw.con]
noncomputable def X (K : Res → Option Res) : Ctx := { Γ := Γ0, orc := orcOf os, io := [], share := [], mvl := [], bun := [], cut := [], own := [], cin := [], cout := [], lp := lpOf [], kl := [], nk := true, eqs := eqs0, byt := byt0, fin := finK fi K }
noncomputable def b (a1 : List Int) (a2 a3 : Int) (R : List Int → List Int → List Int → Int → Int → Option Res) : Option Res :=
  spec_l3DrawRight.g a1 a2 a3 fun r4 r5 r6 r7 r8 =>
  spec_l1Below.g 20 r6 r7 r8 fun r9 r10 r11 =>
  bif (r9 == 0) then (bif decide ((r5.length + 1) * 8 ≤ 140737488355328) then R r4 (r5 ++ ([1] : List Int)) r6 r10 r11
    else none)
  else bif (r9 == 1) then (spec_l2Draw.g r6 r10 r11 fun r12 r13 r14 =>
    R r12 r5 r6 r13 r14)
  else bif (r9 == 2) then (bif decide (0 < (r5.length : Int)) then (spec_l1Below.g (r5.length : Int) r6 r10 r11 fun r15 r16 r17 =>
      spec_l1DrawRaw.g r6 r16 r17 fun r18 r19 r20 =>
      bif decide (0 ≤ r15) && decide (r15 < (r5.length : Int)) then R r4 (r5.set r15.toNat r18) r6 r19 r20
      else none)
    else R r4 r5 r6 r10 r11)
  else bif (r9 == 3) then (spec_l1Below.g 2 r6 r10 r11 fun r21 r22 r23 =>
    bif decide (IntKind.i64.wrap (300 + r21) = IntKind.i64.wrap (300 + r21)) && decide (0 ≤ IntKind.i64.wrap (300 + r21)) && decide (IntKind.i64.wrap (300 + r21) * 8 ≤ 140737488355328) then R ([300] : List Int) (List.replicate ((IntKind.i64.wrap (300 + r21)).toNat) 0) r6 r22 r23
    else none)
  else R r4 r5 r6 r10 r11
theorem gx : ∃ x : List Int → Int → Int → (List Int → List Int → List Int → Int → Int → Option Res) → Option Res, x = b := ⟨_, rfl⟩
noncomputable def g : List Int → Int → Int → (List Int → List Int → List Int → Int → Int → Option Res) → Option Res := Classical.choose gx
theorem e : g = b := Classical.choose_spec gx
noncomputable def run : List Lf → (Res → Option Res) → Option Res
  | [.q (.ints a1), .i a2, .i a3], K => g a1 a2 a3 (fun r1 r2 r3 r4 r5 => K (m r1 r2 r3 r4 r5))
  | _, _ => none
noncomputable def a (a1 : List Int) (a2 a3 : Int) : St := argSt [one (.bp 0 0)] [] [[.tr 2 2 [.int .u8] (.ints a1), .int .i64 a2, .int .i64 a3]]
noncomputable def con : FuncId × St × (List Lf → (Res → Option Res) → Option Res) := (88, a [] 0 0, run)
theorem cx (K : Res → Option Res) : CtxOk Go.Proofs.Try.prog Γ0 byt0 eqs0 (X K) os := ⟨rfl, rfl, rfl, (fun p hp => by
  rcases List.mem_cons.1 hp with rfl | hp
  · exact spec_l3DrawRight.ok
  rcases List.mem_cons.1 hp with rfl | hp
  · exact spec_l1Below.ok
  rcases List.mem_cons.1 hp with rfl | hp
  · exact spec_l2Draw.ok
  rcases List.mem_cons.1 hp with rfl | hp
  · exact spec_l1DrawRaw.ok
  cases hp), rfl, rfl, rfl, rfl⟩
theorem tie (K : Res → Option Res) (a1 : List Int) (a2 a3 : Int) : exec (X K) c (entry 45 [one (.bp 0 0)] [] [[.tr 2 2 [.int .u8] (.ints a1), .int .i64 a2, .int .i64 a3]]) (endK (X K)) = g a1 a2 a3 (fun r1 r2 r3 r4 r5 => K (m r1 r2 r3 r4 r5)) := Eq.trans (b := b a1 a2 a3 (fun r1 r2 r3 r4 r5 => K (m r1 r2 r3 r4 r5))) (by kernel_rfl) (by rw [e])
theorem runv {l : List Lf} {K : Res → Option Res} {r : Res} (h : run l K = some r) : ∃ a1 a2 a3, l = [.q (.ints a1), .i a2, .i a3] ∧ g a1 a2 a3 (fun r1 r2 r3 r4 r5 => K (m r1 r2 r3 r4 r5)) = some r := by
  unfold run at h; split at h
  · exact ⟨_, _, _, rfl, h⟩
  · cases h
theorem ok : Con Go.Proofs.Try.prog con := con_of (fn := Go.Proofs.Try.f88) (c := c) (Fi := fi) (X := X) (fun_of laid (by kernel_rfl) (by kernel_rfl) (by kernel_rfl) rfl (by kernel_rfl) (by kernel_rfl) cx (fun _ => rfl) (fun _ => rfl) (fun K => by
    rw [show loopsOf c = [] from by kernel_rfl]; intro p hp
    cases hp)) fun xs rows boxes K r hl hr => by
  obtain ⟨a1, a2, a3, e, h⟩ := runv hr
  have := St.like_eq (y := a a1 a2 a3) hl (by kernel_rfl) e
  obtain ⟨rfl, rfl, rfl⟩ := argSt_inj this
  exact (tie K a1 a2 a3).trans h
end spec_l3Draw
namespace spec_DrawArrayPack
noncomputable def c : Code := bodyOf Go.Proofs.Try.f29
noncomputable def fi : Fin := ⟨Γ0, [(.cell 2 25, 25)], [[1, 1]], [], [], []⟩
noncomputable def m (r1 r2 : List Int) : Res := ⟨[⟨true, [.ow 1000, .ow 1001]⟩], [], [⟨[.int .i64], .ints r1, true, 0⟩, ⟨[.int .i64], .ints r2, true, 0⟩], [], []⟩
noncomputable def os : List (FuncId × St × (List Lf → (Res → Option Res) → Option Res)) := [spec_l1New.con, spec_l3Draw.con]
noncomputable def X (K : Res → Option Res) : Ctx := { Γ := Γ0, orc := orcOf os, io := [(89, [⟨false, 2, 1⟩])], share := [], mvl := [], bun := [], cut := [], own := [], cin := [], cout := [], lp := lpOf [], kl := [], nk := true, eqs := eqs0, byt := byt0, fin := finK fi K }
noncomputable def b (a1 : List Int) (R : List Int → List Int → Option Res) : Option Res :=
  spec_l1New.g a1 fun r2 r3 r4 =>
  spec_l3Draw.g r2 r3 r4 fun r5 r6 r7 r8 r9 =>
  R r5 r6
theorem gx : ∃ x : List Int → (List Int → List Int → Option Res) → Option Res, x = b := ⟨_, rfl⟩
noncomputable def g : List Int → (List Int → List Int → Option Res) → Option Res := Classical.choose gx
theorem e : g = b := Classical.choose_spec gx
noncomputable def run : List Lf → (Res → Option Res) → Option Res
  | [.q (.ints a1)], K => g a1 (fun r1 r2 => K (m r1 r2))
  | _, _ => none
noncomputable def a (a1 : List Int) : St := argSt [one (.tr 2 1 [.int .u8] (.ints a1))] [] []
noncomputable def con : FuncId × St × (List Lf → (Res → Option Res) → Option Res) := (29, a [], run)
theorem cx (K : Res → Option Res) : CtxOk Go.Proofs.Try.prog Γ0 byt0 eqs0 (X K) os := ⟨rfl, rfl, rfl, (fun p hp => by
  rcases List.mem_cons.1 hp with rfl | hp
  · exact spec_l1New.ok
  rcases List.mem_cons.1 hp with rfl | hp
  · exact spec_l3Draw.ok
  cases hp), rfl, rfl, rfl, rfl⟩
theorem tie (K : Res → Option Res) (a1 : List Int) : exec (X K) c (entry 6 [one (.tr 2 1 [.int .u8] (.ints a1))] [] []) (endK (X K)) = g a1 (fun r1 r2 => K (m r1 r2)) := Eq.trans (b := b a1 (fun r1 r2 => K (m r1 r2))) (by kernel_rfl) (by rw [e])
theorem runv {l : List Lf} {K : Res → Option Res} {r : Res} (h : run l K = some r) : ∃ a1, l = [.q (.ints a1)] ∧ g a1 (fun r1 r2 => K (m r1 r2)) = some r := by
  unfold run at h; split at h
  · exact ⟨_, rfl, h⟩
  · cases h
theorem ok : Con Go.Proofs.Try.prog con := con_of (fn := Go.Proofs.Try.f29) (c := c) (Fi := fi) (X := X) (fun_of laid (by kernel_rfl) (by kernel_rfl) (by kernel_rfl) rfl (by kernel_rfl) (by kernel_rfl) cx (fun _ => rfl) (fun _ => rfl) (fun K => by
    rw [show loopsOf c = [] from by kernel_rfl]; intro p hp
    cases hp)) fun xs rows boxes K r hl hr => by
  obtain ⟨a1, e, h⟩ := runv hr
  have := St.like_eq (y := a a1) hl (by kernel_rfl) e
  obtain ⟨rfl, rfl, rfl⟩ := argSt_inj this
  exact (tie K a1).trans h
end spec_DrawArrayPack
namespace impl_putNum
noncomputable def c : Code := bodyOf Go.Proofs.Try.f90
noncomputable def fi : Fin := ⟨Γ0, [(.tmp 4, 22)], [[1]], [true], [], []⟩
noncomputable def m (r1 : List Int) : Res := ⟨[⟨false, [.ow 1000]⟩], [none], [⟨[.int .u8], .ints r1, true, 0⟩], [], []⟩
noncomputable def b0 : Code := codeAt c [1, 1, 0, 1, 0, 0]
noncomputable def s0 (x3 x4 : Int) (x5 : List Int) : St := ⟨mkT 22 [(0, one (.ow 102401000)), (5, one (.int .i64 x3)), (6, one (.int .i64 x4))], [(102401000, ⟨[.int .u8], .ints x5, true, 0⟩)], []⟩
noncomputable def l0s (x3 : Int) (rec : Int → List Int → Option Res) (k : List Int → Option Res) (x4 : Int) (x5 : List Int) : Option Res :=
  bif decide (x4 < 8) then (bif decide (IntKind.i64.wrap (8 * x4) < 0) then none
    else bif decide ((x5.length + 1) * 1 ≤ 140737488355328) then rec (IntKind.i64.wrap (x4 + 1)) (x5 ++ ([IntKind.u8.wrap (x3.fdiv (2 ^ (min (IntKind.i64.wrap (8 * x4)).toNat 64)))] : List Int))
    else none)
  else k x5
noncomputable def l0 (x3 : Int) (k : List Int → Option Res) : Nat → Int → List Int → Option Res
  | 0, _, _ => none
  | n + 1, x4, x5 => l0s x3 (fun x4 x5 => l0 x3 k n x4 x5) k x4 x5
noncomputable def o0 (x3 : Int) (y1 : List Int) : St := ⟨mkT 22 [(0, one (.ow 102401000))], [(102401000, ⟨[.int .u8], .ints y1, true, 0⟩)], []⟩
noncomputable def p0 (K : Res → Option Res) : List Lf → (St → Option Res) → Option Res
  | [.i x3, .i x4, .q (.ints x5)], k => l0 x3 (fun y1 => k (o0 x3 y1)) fuel x4 x5
  | _, _ => none
noncomputable def os : List (FuncId × St × (List Lf → (Res → Option Res) → Option Res)) := []
noncomputable def X (K : Res → Option Res) : Ctx := { Γ := Γ0, orc := orcOf os, io := [], share := [], mvl := [], bun := [], cut := [], own := [], cin := [(0, ⟨[0, 5, 6], [(0, 102401000), (11352, 102401000)], [], [], [], []⟩)], cout := [(0, ⟨[0], [(102401000, 102401000)], [], [], [], []⟩)], lp := lpOf [(0, s0 0 0 [], p0 K)], kl := [], nk := true, eqs := eqs0, byt := byt0, fin := finK fi K }
noncomputable def b (a1 : Int) (a2 : List Int) (R : List Int → Option Res) : Option Res :=
  l0 (IntKind.i64.wrap (a1 + 1000000000000)) (fun y6 => 
  R y6) fuel 0 a2
theorem gx : ∃ x : Int → List Int → (List Int → Option Res) → Option Res, x = b := ⟨_, rfl⟩
noncomputable def g : Int → List Int → (List Int → Option Res) → Option Res := Classical.choose gx
theorem e : g = b := Classical.choose_spec gx
noncomputable def run : List Lf → (Res → Option Res) → Option Res
  | [.i a1, .q (.ints a2)], K => g a1 a2 (fun r1 => K (m r1))
  | _, _ => none
noncomputable def a (a1 : Int) (a2 : List Int) : St := argSt [one (.ow 0), one (.int .i64 a1)] [⟨[.int .u8], .ints a2, true, 0⟩] []
noncomputable def con : FuncId × St × (List Lf → (Res → Option Res) → Option Res) := (90, a 0 [], run)
theorem cx (K : Res → Option Res) : CtxOk Go.Proofs.Try.prog Γ0 byt0 eqs0 (X K) os := ⟨rfl, rfl, rfl, (fun p hp => by
  cases hp), rfl, rfl, rfl, rfl⟩
theorem t0 (K : Res → Option Res) (k : St → Option Res) (it : St → (St → Option Res) → Option Res) (x3 x4 : Int) (x5 : List Int) : iterS (X K) 0 b0 it (s0 x3 x4 x5) k = l0s x3 (fun x4 x5 => it (s0 x3 x4 x5) k) (fun y1 => k (o0 x3 y1)) x4 x5 := by kernel_rfl
theorem i0 (K : Res → Option Res) (k : St → Option Res) (x3 : Int) : ∀ (n : Nat) (x4 : Int) (x5 : List Int), iter (X K) 0 b0 n (s0 x3 x4 x5) k = l0 x3 (fun y1 => k (o0 x3 y1)) n x4 x5
  | 0, _, _ => rfl
  | n + 1, x4, x5 => by
    rw [iter_succ, t0, show (fun x4 x5 => iter (X K) 0 b0 n (s0 x3 x4 x5) k) = (fun x4 x5 => l0 x3 (fun y1 => k (o0 x3 y1)) n x4 x5) from funext fun x4 => funext fun x5 => i0 K k x3 n x4 x5]; rfl
theorem v0 {K : Res → Option Res} {l : List Lf} {k : St → Option Res} {r : Res} (h : p0 K l k = some r) : ∃ x3 x4 x5, l = [.i x3, .i x4, .q (.ints x5)] ∧ l0 x3 (fun y1 => k (o0 x3 y1)) fuel x4 x5 = some r := by
  unfold p0 at h; split at h
  · exact ⟨_, _, _, rfl, h⟩
  · cases h
theorem w0 (K : Res → Option Res) : LpSound Go.Proofs.Try.prog (X K) 0 b0 := lp_ok ((cx K).ok laid) (by rw [show loopsOf b0 = [] from by kernel_rfl]; intro p hp; cases hp) rfl fun p hp hid => by
  rcases List.mem_cons.1 hp with rfl | hp
  · intro st k r h1 h2; obtain ⟨x3, x4, x5, e, h⟩ := v0 (K := K) h2; have := St.like_eq (y := s0 x3 x4 x5) h1 (by kernel_rfl) e; subst this; exact ⟨fuel, (i0 K k x3 fuel x4 x5).trans h⟩
  cases hp
theorem tie (K : Res → Option Res) (a1 : Int) (a2 : List Int) : exec (X K) c (entry 22 [one (.ow 0), one (.int .i64 a1)] [⟨[.int .u8], .ints a2, true, 0⟩] []) (endK (X K)) = g a1 a2 (fun r1 => K (m r1)) := Eq.trans (b := b a1 a2 (fun r1 => K (m r1))) (by kernel_rfl) (by rw [e])
theorem runv {l : List Lf} {K : Res → Option Res} {r : Res} (h : run l K = some r) : ∃ a1 a2, l = [.i a1, .q (.ints a2)] ∧ g a1 a2 (fun r1 => K (m r1)) = some r := by
  unfold run at h; split at h
  · exact ⟨_, _, rfl, h⟩
  · cases h
theorem ok : Con Go.Proofs.Try.prog con := con_of (fn := Go.Proofs.Try.f90) (c := c) (Fi := fi) (X := X) (fun_of laid (by kernel_rfl) (by kernel_rfl) (by kernel_rfl) rfl (by kernel_rfl) (by kernel_rfl) cx (fun _ => rfl) (fun _ => rfl) (fun K => by
    rw [show loopsOf c = [(0, b0)] from by kernel_rfl]; intro p hp
    rcases List.mem_cons.1 hp with rfl | hp
    · exact w0 K
    cases hp)) fun xs rows boxes K r hl hr => by
  obtain ⟨a1, a2, e, h⟩ := runv hr
  have := St.like_eq (y := a a1 a2) hl (by kernel_rfl) e
  obtain ⟨rfl, rfl, rfl⟩ := argSt_inj this
  exact (tie K a1 a2).trans h
end impl_putNum
namespace impl_ArrayPack
noncomputable def c : Code := bodyOf Go.Proofs.Try.f30
noncomputable def fi : Fin := ⟨Γ0, [(.tmp 2, 22), (.tmp 3, 4)], [[1], [1]], [], [], []⟩
noncomputable def m (r1 : List Int) (r2 : Bool) : Res := ⟨[⟨false, [.ow 1000]⟩, ⟨false, [.bool r2]⟩], [], [⟨[.int .u8], .ints r1, true, 0⟩], [], []⟩
noncomputable def b0 : Code := codeAt c [1, 1, 1, 0, 1, 0, 0]
noncomputable def b2 : Code := codeAt c [1, 1, 1, 1, 0, 1, 0, 0]
noncomputable def s0 (x4 : List Int) (x5 x6 : Int) (x7 x8 x9 : List Int) : St := ⟨mkT 45 [(1, one (.bp 1000 0)), (4, one (.ow 7208)), (18, one (.tr 0 1 [.int .i64] (.ints x4))), (19, one (.int .i64 x5)), (20, one (.int .i64 x6))], [(7208, ⟨[.int .u8], .ints x7, true, 0⟩)], [(1000, [.tr 0 1 [.int .i64] (.ints x8), .tr 0 1 [.int .i64] (.ints x9)])]⟩
noncomputable def l0s (x4 : List Int) (x5 : Int) (x8 x9 : List Int) (rec : Int → List Int → Option Res) (k : List Int → Option Res) (x6 : Int) (x7 : List Int) : Option Res :=
  bif decide (x6 < x5) then (bif decide (0 ≤ x6) && decide (x6 < (x4.length : Int)) then (bif decide ((x7.length + 2) * 1 ≤ 140737488355328) then rec (IntKind.i64.wrap (x6 + 1)) (x7 ++ ([IntKind.u8.wrap (x4.getD x6.toNat 0), IntKind.u8.wrap ((x4.getD x6.toNat 0).fdiv (2 ^ 8))] : List Int))
      else none)
    else none)
  else k x7
noncomputable def l0 (x4 : List Int) (x5 : Int) (x8 x9 : List Int) (k : List Int → Option Res) : Nat → Int → List Int → Option Res
  | 0, _, _ => none
  | n + 1, x6, x7 => l0s x4 x5 x8 x9 (fun x6 x7 => l0 x4 x5 x8 x9 k n x6 x7) k x6 x7
noncomputable def o0 (x4 : List Int) (x5 : Int) (x8 x9 y1 : List Int) : St := ⟨mkT 45 [(1, one (.bp 1000 0)), (4, one (.ow 7208))], [(7208, ⟨[.int .u8], .ints y1, true, 0⟩)], [(1000, [.tr 0 1 [.int .i64] (.ints x8), .tr 0 1 [.int .i64] (.ints x9)])]⟩
noncomputable def p0 (K : Res → Option Res) : List Lf → (St → Option Res) → Option Res
  | [.q (.ints x4), .i x5, .i x6, .q (.ints x7), .q (.ints x8), .q (.ints x9)], k => l0 x4 x5 x8 x9 (fun y1 => k (o0 x4 x5 x8 x9 y1)) fuel x6 x7
  | _, _ => none
noncomputable def s2 (x11 : List Int) (x12 x13 : Int) (x14 : List Int) : St := ⟨mkT 45 [(4, one (.ow 7208)), (34, one (.tr 0 1 [.int .i64] (.ints x11))), (35, one (.int .i64 x12)), (36, one (.int .i64 x13))], [(7208, ⟨[.int .u8], .ints x14, true, 0⟩)], []⟩
noncomputable def l2s (x11 : List Int) (x12 : Int) (rec : Int → List Int → Option Res) (k : List Int → Option Res) (x13 : Int) (x14 : List Int) : Option Res :=
  bif decide (x13 < x12) then (bif decide (0 ≤ x13) && decide (x13 < (x11.length : Int)) then (impl_putNum.g (x11.getD x13.toNat 0) x14 fun r15 =>
      rec (IntKind.i64.wrap (x13 + 1)) r15)
    else none)
  else k x14
noncomputable def l2 (x11 : List Int) (x12 : Int) (k : List Int → Option Res) : Nat → Int → List Int → Option Res
  | 0, _, _ => none
  | n + 1, x13, x14 => l2s x11 x12 (fun x13 x14 => l2 x11 x12 k n x13 x14) k x13 x14
noncomputable def o2 (x11 : List Int) (x12 : Int) (y1 : List Int) : St := ⟨mkT 45 [(4, one (.ow 7208))], [(7208, ⟨[.int .u8], .ints y1, true, 0⟩)], []⟩
noncomputable def p2 (K : Res → Option Res) : List Lf → (St → Option Res) → Option Res
  | [.q (.ints x11), .i x12, .i x13, .q (.ints x14)], k => l2 x11 x12 (fun y1 => k (o2 x11 x12 y1)) fuel x13 x14
  | _, _ => none
noncomputable def os : List (FuncId × St × (List Lf → (Res → Option Res) → Option Res)) := [impl_ArrayOk.con, impl_putNum.con]
noncomputable def X (K : Res → Option Res) : Ctx := { Γ := Γ0, orc := orcOf os, io := [(90, [⟨true, 0, 1⟩, ⟨false, 0, 1⟩])], share := [], mvl := [], bun := [], cut := [], own := [], cin := [(0, ⟨[1, 4, 18, 19, 20], [(7208, 7208), (15448, 7208)], [1000], [], [], []⟩), (2, ⟨[4, 34, 35, 36], [(7208, 7208), (25609, 7208)], [], [], [], []⟩)], cout := [(0, ⟨[1, 4], [(7208, 7208)], [1000], [], [], []⟩), (2, ⟨[4], [(7208, 7208)], [], [], [], []⟩)], lp := lpOf [(0, s0 [] 0 0 [] [] [], p0 K), (2, s2 [] 0 0 [], p2 K)], kl := [], nk := true, eqs := eqs0, byt := byt0, fin := finK fi K }
noncomputable def b (a1 a2 : List Int) (R : List Int → Bool → Option Res) : Option Res :=
  impl_ArrayOk.g a1 a2 fun r3 =>
  bif !r3 then R ([] : List Int) false
  else (l0 a1 (a1.length : Int) a1 a2 (fun y10 => 
  l2 a2 (a2.length : Int) (fun y16 => 
  R y16 true) fuel 0 y10) fuel 0 ([IntKind.u8.wrap (a1.length : Int)] : List Int))
theorem gx : ∃ x : List Int → List Int → (List Int → Bool → Option Res) → Option Res, x = b := ⟨_, rfl⟩
noncomputable def g : List Int → List Int → (List Int → Bool → Option Res) → Option Res := Classical.choose gx
theorem e : g = b := Classical.choose_spec gx
noncomputable def run : List Lf → (Res → Option Res) → Option Res
  | [.q (.ints a1), .q (.ints a2)], K => g a1 a2 (fun r1 r2 => K (m r1 r2))
  | _, _ => none
noncomputable def a (a1 a2 : List Int) : St := argSt [.v ⟨true, [.tr 0 1 [.int .i64] (.ints a1), .tr 0 1 [.int .i64] (.ints a2)]⟩] [] []
noncomputable def con : FuncId × St × (List Lf → (Res → Option Res) → Option Res) := (30, a [] [], run)
theorem cx (K : Res → Option Res) : CtxOk Go.Proofs.Try.prog Γ0 byt0 eqs0 (X K) os := ⟨rfl, rfl, rfl, (fun p hp => by
  rcases List.mem_cons.1 hp with rfl | hp
  · exact impl_ArrayOk.ok
  rcases List.mem_cons.1 hp with rfl | hp
  · exact impl_putNum.ok
  cases hp), rfl, rfl, rfl, rfl⟩
theorem t0 (K : Res → Option Res) (k : St → Option Res) (it : St → (St → Option Res) → Option Res) (x4 : List Int) (x5 x6 : Int) (x7 x8 x9 : List Int) : iterS (X K) 0 b0 it (s0 x4 x5 x6 x7 x8 x9) k = l0s x4 x5 x8 x9 (fun x6 x7 => it (s0 x4 x5 x6 x7 x8 x9) k) (fun y1 => k (o0 x4 x5 x8 x9 y1)) x6 x7 := by kernel_rfl
theorem i0 (K : Res → Option Res) (k : St → Option Res) (x4 : List Int) (x5 : Int) (x8 x9 : List Int) : ∀ (n : Nat) (x6 : Int) (x7 : List Int), iter (X K) 0 b0 n (s0 x4 x5 x6 x7 x8 x9) k = l0 x4 x5 x8 x9 (fun y1 => k (o0 x4 x5 x8 x9 y1)) n x6 x7
  | 0, _, _ => rfl
  | n + 1, x6, x7 => by
    rw [iter_succ, t0, show (fun x6 x7 => iter (X K) 0 b0 n (s0 x4 x5 x6 x7 x8 x9) k) = (fun x6 x7 => l0 x4 x5 x8 x9 (fun y1 => k (o0 x4 x5 x8 x9 y1)) n x6 x7) from funext fun x6 => funext fun x7 => i0 K k x4 x5 x8 x9 n x6 x7]; rfl
theorem v0 {K : Res → Option Res} {l : List Lf} {k : St → Option Res} {r : Res} (h : p0 K l k = some r) : ∃ x4 x5 x6 x7 x8 x9, l = [.q (.ints x4), .i x5, .i x6, .q (.ints x7), .q (.ints x8), .q (.ints x9)] ∧ l0 x4 x5 x8 x9 (fun y1 => k (o0 x4 x5 x8 x9 y1)) fuel x6 x7 = some r := by
  unfold p0 at h; split at h
  · exact ⟨_, _, _, _, _, _, rfl, h⟩
  · cases h
theorem t2 (K : Res → Option Res) (k : St → Option Res) (it : St → (St → Option Res) → Option Res) (x11 : List Int) (x12 x13 : Int) (x14 : List Int) : iterS (X K) 2 b2 it (s2 x11 x12 x13 x14) k = l2s x11 x12 (fun x13 x14 => it (s2 x11 x12 x13 x14) k) (fun y1 => k (o2 x11 x12 y1)) x13 x14 := by kernel_rfl
theorem i2 (K : Res → Option Res) (k : St → Option Res) (x11 : List Int) (x12 : Int) : ∀ (n : Nat) (x13 : Int) (x14 : List Int), iter (X K) 2 b2 n (s2 x11 x12 x13 x14) k = l2 x11 x12 (fun y1 => k (o2 x11 x12 y1)) n x13 x14
  | 0, _, _ => rfl
  | n + 1, x13, x14 => by
    rw [iter_succ, t2, show (fun x13 x14 => iter (X K) 2 b2 n (s2 x11 x12 x13 x14) k) = (fun x13 x14 => l2 x11 x12 (fun y1 => k (o2 x11 x12 y1)) n x13 x14) from funext fun x13 => funext fun x14 => i2 K k x11 x12 n x13 x14]; rfl
theorem v2 {K : Res → Option Res} {l : List Lf} {k : St → Option Res} {r : Res} (h : p2 K l k = some r) : ∃ x11 x12 x13 x14, l = [.q (.ints x11), .i x12, .i x13, .q (.ints x14)] ∧ l2 x11 x12 (fun y1 => k (o2 x11 x12 y1)) fuel x13 x14 = some r := by
  unfold p2 at h; split at h
  · exact ⟨_, _, _, _, rfl, h⟩
  · cases h
theorem w2 (K : Res → Option Res) : LpSound Go.Proofs.Try.prog (X K) 2 b2 := lp_ok ((cx K).ok laid) (by rw [show loopsOf b2 = [] from by kernel_rfl]; intro p hp; cases hp) rfl fun p hp hid => by
  rcases List.mem_cons.1 hp with rfl | hp
  · exact absurd hid (by simp)
  rcases List.mem_cons.1 hp with rfl | hp
  · intro st k r h1 h2; obtain ⟨x11, x12, x13, x14, e, h⟩ := v2 (K := K) h2; have := St.like_eq (y := s2 x11 x12 x13 x14) h1 (by kernel_rfl) e; subst this; exact ⟨fuel, (i2 K k x11 x12 fuel x13 x14).trans h⟩
  cases hp
theorem w0 (K : Res → Option Res) : LpSound Go.Proofs.Try.prog (X K) 0 b0 := lp_ok ((cx K).ok laid) (by rw [show loopsOf b0 = [] from by kernel_rfl]; intro p hp; cases hp) rfl fun p hp hid => by
  rcases List.mem_cons.1 hp with rfl | hp
  · intro st k r h1 h2; obtain ⟨x4, x5, x6, x7, x8, x9, e, h⟩ := v0 (K := K) h2; have := St.like_eq (y := s0 x4 x5 x6 x7 x8 x9) h1 (by kernel_rfl) e; subst this; exact ⟨fuel, (i0 K k x4 x5 x8 x9 fuel x6 x7).trans h⟩
  rcases List.mem_cons.1 hp with rfl | hp
  · exact absurd hid (by simp)
  cases hp
theorem tie (K : Res → Option Res) (a1 a2 : List Int) : exec (X K) c (entry 45 [.v ⟨true, [.tr 0 1 [.int .i64] (.ints a1), .tr 0 1 [.int .i64] (.ints a2)]⟩] [] []) (endK (X K)) = g a1 a2 (fun r1 r2 => K (m r1 r2)) := Eq.trans (b := b a1 a2 (fun r1 r2 => K (m r1 r2))) (by kernel_rfl) (by rw [e])
theorem runv {l : List Lf} {K : Res → Option Res} {r : Res} (h : run l K = some r) : ∃ a1 a2, l = [.q (.ints a1), .q (.ints a2)] ∧ g a1 a2 (fun r1 r2 => K (m r1 r2)) = some r := by
  unfold run at h; split at h
  · exact ⟨_, _, rfl, h⟩
  · cases h
theorem ok : Con Go.Proofs.Try.prog con := con_of (fn := Go.Proofs.Try.f30) (c := c) (Fi := fi) (X := X) (fun_of laid (by kernel_rfl) (by kernel_rfl) (by kernel_rfl) rfl (by kernel_rfl) (by kernel_rfl) cx (fun _ => rfl) (fun _ => rfl) (fun K => by
    rw [show loopsOf c = [(0, b0), (2, b2)] from by kernel_rfl]; intro p hp
    rcases List.mem_cons.1 hp with rfl | hp
    · exact w0 K
    rcases List.mem_cons.1 hp with rfl | hp
    · exact w2 K
    cases hp)) fun xs rows boxes K r hl hr => by
  obtain ⟨a1, a2, e, h⟩ := runv hr
  have := St.like_eq (y := a a1 a2) hl (by kernel_rfl) e
  obtain ⟨rfl, rfl, rfl⟩ := argSt_inj this
  exact (tie K a1 a2).trans h
end impl_ArrayPack
namespace laws_sameInts
noncomputable def c : Code := bodyOf Go.Proofs.Try.f95
noncomputable def fi : Fin := ⟨Γ0, [(.tmp 4, 4)], [[1]], [], [], []⟩
noncomputable def m (r1 : Bool) : Res := ⟨[⟨false, [.bool r1]⟩], [], [], [], []⟩
noncomputable def b0 : Code := codeAt c [1, 1, 0, 1, 0, 0]
noncomputable def s0 (x3 x4 : List Int) (x5 : Int) : St := ⟨mkT 26 [(0, one (.tr 0 1 [.int .i64] (.ints x3))), (1, one (.tr 0 1 [.int .i64] (.ints x4))), (5, one (.int .i64 x5))], [], []⟩
noncomputable def l0s (x3 x4 : List Int) (rec : Int → Option Res) (k : Option Res) (R : Bool → Option Res) (x5 : Int) : Option Res :=
  bif decide (x5 < (x3.length : Int)) then (bif decide (0 ≤ x5) && decide (x5 < (x3.length : Int)) then (bif decide (0 ≤ x5) && decide (x5 < (x4.length : Int)) then (bif (x3.getD x5.toNat 0 != x4.getD x5.toNat 0) then R false
        else rec (IntKind.i64.wrap (x5 + 1)))
      else none)
    else none)
  else k
noncomputable def l0 (x3 x4 : List Int) (k : Option Res) (R : Bool → Option Res) : Nat → Int → Option Res
  | 0, _ => none
  | n + 1, x5 => l0s x3 x4 (fun x5 => l0 x3 x4 k R n x5) k R x5
noncomputable def o0 (x3 x4 : List Int) : St := ⟨mkT 26 [], [], []⟩
noncomputable def p0 (K : Res → Option Res) : List Lf → (St → Option Res) → Option Res
  | [.q (.ints x3), .q (.ints x4), .i x5], k => l0 x3 x4 (k (o0 x3 x4)) (fun r1 => K (m r1)) fuel x5
  | _, _ => none
noncomputable def os : List (FuncId × St × (List Lf → (Res → Option Res) → Option Res)) := []
noncomputable def X (K : Res → Option Res) : Ctx := { Γ := Γ0, orc := orcOf os, io := [], share := [], mvl := [], bun := [], cut := [], own := [], cin := [(0, ⟨[0, 1, 5], [], [], [], [], []⟩)], cout := [(0, ⟨[], [], [], [], [], []⟩)], lp := lpOf [(0, s0 [] [] 0, p0 K)], kl := [], nk := true, eqs := eqs0, byt := byt0, fin := finK fi K }
noncomputable def b (a1 a2 : List Int) (R : Bool → Option Res) : Option Res :=
  bif ((a1.length : Int) != (a2.length : Int)) then R false
  else (l0 a1 a2 (
  R true) R fuel 0)
theorem gx : ∃ x : List Int → List Int → (Bool → Option Res) → Option Res, x = b := ⟨_, rfl⟩
noncomputable def g : List Int → List Int → (Bool → Option Res) → Option Res := Classical.choose gx
theorem e : g = b := Classical.choose_spec gx
noncomputable def run : List Lf → (Res → Option Res) → Option Res
  | [.q (.ints a1), .q (.ints a2)], K => g a1 a2 (fun r1 => K (m r1))
  | _, _ => none
noncomputable def a (a1 a2 : List Int) : St := argSt [one (.tr 0 1 [.int .i64] (.ints a1)), one (.tr 0 1 [.int .i64] (.ints a2))] [] []
noncomputable def con : FuncId × St × (List Lf → (Res → Option Res) → Option Res) := (95, a [] [], run)
theorem cx (K : Res → Option Res) : CtxOk Go.Proofs.Try.prog Γ0 byt0 eqs0 (X K) os := ⟨rfl, rfl, rfl, (fun p hp => by
  cases hp), rfl, rfl, rfl, rfl⟩
theorem t0 (K : Res → Option Res) (k : St → Option Res) (it : St → (St → Option Res) → Option Res) (x3 x4 : List Int) (x5 : Int) : iterS (X K) 0 b0 it (s0 x3 x4 x5) k = l0s x3 x4 (fun x5 => it (s0 x3 x4 x5) k) (k (o0 x3 x4)) (fun r1 => K (m r1)) x5 := by kernel_rfl
theorem i0 (K : Res → Option Res) (k : St → Option Res) (x3 x4 : List Int) : ∀ (n : Nat) (x5 : Int), iter (X K) 0 b0 n (s0 x3 x4 x5) k = l0 x3 x4 (k (o0 x3 x4)) (fun r1 => K (m r1)) n x5
  | 0, _ => rfl
  | n + 1, x5 => by
    rw [iter_succ, t0, show (fun x5 => iter (X K) 0 b0 n (s0 x3 x4 x5) k) = (fun x5 => l0 x3 x4 (k (o0 x3 x4)) (fun r1 => K (m r1)) n x5) from funext fun x5 => i0 K k x3 x4 n x5]; rfl
theorem v0 {K : Res → Option Res} {l : List Lf} {k : St → Option Res} {r : Res} (h : p0 K l k = some r) : ∃ x3 x4 x5, l = [.q (.ints x3), .q (.ints x4), .i x5] ∧ l0 x3 x4 (k (o0 x3 x4)) (fun r1 => K (m r1)) fuel x5 = some r := by
  unfold p0 at h; split at h
  · exact ⟨_, _, _, rfl, h⟩
  · cases h
theorem w0 (K : Res → Option Res) : LpSound Go.Proofs.Try.prog (X K) 0 b0 := lp_ok ((cx K).ok laid) (by rw [show loopsOf b0 = [] from by kernel_rfl]; intro p hp; cases hp) rfl fun p hp hid => by
  rcases List.mem_cons.1 hp with rfl | hp
  · intro st k r h1 h2; obtain ⟨x3, x4, x5, e, h⟩ := v0 (K := K) h2; have := St.like_eq (y := s0 x3 x4 x5) h1 (by kernel_rfl) e; subst this; exact ⟨fuel, (i0 K k x3 x4 fuel x5).trans h⟩
  cases hp
theorem tie (K : Res → Option Res) (a1 a2 : List Int) : exec (X K) c (entry 26 [one (.tr 0 1 [.int .i64] (.ints a1)), one (.tr 0 1 [.int .i64] (.ints a2))] [] []) (endK (X K)) = g a1 a2 (fun r1 => K (m r1)) := Eq.trans (b := b a1 a2 (fun r1 => K (m r1))) (by kernel_rfl) (by rw [e])
theorem runv {l : List Lf} {K : Res → Option Res} {r : Res} (h : run l K = some r) : ∃ a1 a2, l = [.q (.ints a1), .q (.ints a2)] ∧ g a1 a2 (fun r1 => K (m r1)) = some r := by
  unfold run at h; split at h
  · exact ⟨_, _, rfl, h⟩
  · cases h
theorem ok : Con Go.Proofs.Try.prog con := con_of (fn := Go.Proofs.Try.f95) (c := c) (Fi := fi) (X := X) (fun_of laid (by kernel_rfl) (by kernel_rfl) (by kernel_rfl) rfl (by kernel_rfl) (by kernel_rfl) cx (fun _ => rfl) (fun _ => rfl) (fun K => by
    rw [show loopsOf c = [(0, b0)] from by kernel_rfl]; intro p hp
    rcases List.mem_cons.1 hp with rfl | hp
    · exact w0 K
    cases hp)) fun xs rows boxes K r hl hr => by
  obtain ⟨a1, a2, e, h⟩ := runv hr
  have := St.like_eq (y := a a1 a2) hl (by kernel_rfl) e
  obtain ⟨rfl, rfl, rfl⟩ := argSt_inj this
  exact (tie K a1 a2).trans h
end laws_sameInts
namespace laws_sameArray
noncomputable def c : Code := bodyOf Go.Proofs.Try.f33
noncomputable def fi : Fin := ⟨Γ0, [(.tmp 4, 4)], [[1]], [], [], []⟩
noncomputable def m (r1 : Bool) : Res := ⟨[⟨false, [.bool r1]⟩], [], [], [], []⟩
noncomputable def os : List (FuncId × St × (List Lf → (Res → Option Res) → Option Res)) := [laws_sameInts.con]
noncomputable def X (K : Res → Option Res) : Ctx := { Γ := Γ0, orc := orcOf os, io := [], share := [], mvl := [], bun := [], cut := [], own := [], cin := [], cout := [], lp := lpOf [], kl := [], nk := true, eqs := eqs0, byt := byt0, fin := finK fi K }
noncomputable def b (a1 a2 a3 a4 : List Int) (R : Bool → Option Res) : Option Res :=
  laws_sameInts.g a1 a3 fun r5 =>
  bif r5 then (laws_sameInts.g a2 a4 fun r6 =>
    R r6)
  else R false
theorem gx : ∃ x : List Int → List Int → List Int → List Int → (Bool → Option Res) → Option Res, x = b := ⟨_, rfl⟩
noncomputable def g : List Int → List Int → List Int → List Int → (Bool → Option Res) → Option Res := Classical.choose gx
theorem e : g = b := Classical.choose_spec gx
noncomputable def run : List Lf → (Res → Option Res) → Option Res
  | [.q (.ints a1), .q (.ints a2), .q (.ints a3), .q (.ints a4)], K => g a1 a2 a3 a4 (fun r1 => K (m r1))
  | _, _ => none
noncomputable def a (a1 a2 a3 a4 : List Int) : St := argSt [.v ⟨true, [.tr 0 1 [.int .i64] (.ints a1), .tr 0 1 [.int .i64] (.ints a2)]⟩, .v ⟨true, [.tr 0 1 [.int .i64] (.ints a3), .tr 0 1 [.int .i64] (.ints a4)]⟩] [] []
noncomputable def con : FuncId × St × (List Lf → (Res → Option Res) → Option Res) := (33, a [] [] [] [], run)
theorem cx (K : Res → Option Res) : CtxOk Go.Proofs.Try.prog Γ0 byt0 eqs0 (X K) os := ⟨rfl, rfl, rfl, (fun p hp => by
  rcases List.mem_cons.1 hp with rfl | hp
  · exact laws_sameInts.ok
  cases hp), rfl, rfl, rfl, rfl⟩
theorem tie (K : Res → Option Res) (a1 a2 a3 a4 : List Int) : exec (X K) c (entry 17 [.v ⟨true, [.tr 0 1 [.int .i64] (.ints a1), .tr 0 1 [.int .i64] (.ints a2)]⟩, .v ⟨true, [.tr 0 1 [.int .i64] (.ints a3), .tr 0 1 [.int .i64] (.ints a4)]⟩] [] []) (endK (X K)) = g a1 a2 a3 a4 (fun r1 => K (m r1)) := Eq.trans (b := b a1 a2 a3 a4 (fun r1 => K (m r1))) (by kernel_rfl) (by rw [e])
theorem runv {l : List Lf} {K : Res → Option Res} {r : Res} (h : run l K = some r) : ∃ a1 a2 a3 a4, l = [.q (.ints a1), .q (.ints a2), .q (.ints a3), .q (.ints a4)] ∧ g a1 a2 a3 a4 (fun r1 => K (m r1)) = some r := by
  unfold run at h; split at h
  · exact ⟨_, _, _, _, rfl, h⟩
  · cases h
theorem ok : Con Go.Proofs.Try.prog con := con_of (fn := Go.Proofs.Try.f33) (c := c) (Fi := fi) (X := X) (fun_of laid (by kernel_rfl) (by kernel_rfl) (by kernel_rfl) rfl (by kernel_rfl) (by kernel_rfl) cx (fun _ => rfl) (fun _ => rfl) (fun K => by
    rw [show loopsOf c = [] from by kernel_rfl]; intro p hp
    cases hp)) fun xs rows boxes K r hl hr => by
  obtain ⟨a1, a2, a3, a4, e, h⟩ := runv hr
  have := St.like_eq (y := a a1 a2 a3 a4) hl (by kernel_rfl) e
  obtain ⟨rfl, rfl, rfl⟩ := argSt_inj this
  exact (tie K a1 a2 a3 a4).trans h
end laws_sameArray
namespace spec_ArrayPack
noncomputable def c : Code := bodyOf Go.Proofs.Try.f96
noncomputable def fi : Fin := ⟨Γ0, [(.tmp 2, 22), (.tmp 3, 4)], [[1], [1]], [], [], []⟩
noncomputable def m (r1 : List Int) (r2 : Bool) : Res := ⟨[⟨false, [.ow 1000]⟩, ⟨false, [.bool r2]⟩], [], [⟨[.int .u8], .ints r1, true, 0⟩], [], []⟩
noncomputable def b0 : Code := codeAt c [1, 1, 1, 0, 1, 0, 0]
noncomputable def b2 : Code := codeAt c [1, 1, 1, 1, 0, 1, 0, 0]
noncomputable def b4 : Code := codeAt c [1, 1, 1, 1, 0, 1, 0, 0, 1, 0, 0, 1, 1, 0, 0]
noncomputable def s0 (x4 : Int) (x5 x6 x7 : List Int) : St := ⟨mkT 68 [(1, one (.bp 1000 0)), (4, one (.ow 7208)), (5, one (.int .i64 x4))], [(7208, ⟨[.int .u8], .ints x5, true, 0⟩)], [(1000, [.tr 0 1 [.int .i64] (.ints x6), .tr 0 1 [.int .i64] (.ints x7)])]⟩
noncomputable def l0s (x6 x7 : List Int) (rec : Int → List Int → Option Res) (k : List Int → Option Res) (x4 : Int) (x5 : List Int) : Option Res :=
  bif decide (x4 < (x6.length : Int)) then (bif decide (0 ≤ x4) && decide (x4 < (x6.length : Int)) then (bif decide (0 ≤ x4) && decide (x4 < (x6.length : Int)) then (bif decide ((x5.length + 2) * 1 ≤ 140737488355328) then rec (IntKind.i64.wrap (x4 + 1)) (x5 ++ ([IntKind.u8.wrap ((x6.getD x4.toNat 0).tmod 256), IntKind.u8.wrap (IntKind.i64.wrap ((x6.getD x4.toNat 0).tdiv 256))] : List Int))
        else none)
      else none)
    else none)
  else k x5
noncomputable def l0 (x6 x7 : List Int) (k : List Int → Option Res) : Nat → Int → List Int → Option Res
  | 0, _, _ => none
  | n + 1, x4, x5 => l0s x6 x7 (fun x4 x5 => l0 x6 x7 k n x4 x5) k x4 x5
noncomputable def o0 (x6 x7 y1 : List Int) : St := ⟨mkT 68 [(1, one (.bp 1000 0)), (4, one (.ow 7208))], [(7208, ⟨[.int .u8], .ints y1, true, 0⟩)], [(1000, [.tr 0 1 [.int .i64] (.ints x6), .tr 0 1 [.int .i64] (.ints x7)])]⟩
noncomputable def p0 (K : Res → Option Res) : List Lf → (St → Option Res) → Option Res
  | [.i x4, .q (.ints x5), .q (.ints x6), .q (.ints x7)], k => l0 x6 x7 (fun y1 => k (o0 x6 x7 y1)) fuel x4 x5
  | _, _ => none
noncomputable def s4 (x13 x14 x15 : Int) (x16 x17 x18 : List Int) : St := ⟨mkT 68 [(1, one (.bp 1000 0)), (4, one (.ow 7208)), (6, one (.int .i64 x13)), (7, one (.int .i64 x14)), (8, one (.int .i64 x15))], [(7208, ⟨[.int .u8], .ints x16, true, 0⟩)], [(1000, [.tr 0 1 [.int .i64] (.ints x17), .tr 0 1 [.int .i64] (.ints x18)])]⟩
noncomputable def l4s (x13 x14 : Int) (x17 x18 : List Int) (rec : Int → List Int → Option Res) (k : List Int → Option Res) (x15 : Int) (x16 : List Int) : Option Res :=
  bif decide (x15 < 8) then (bif decide (IntKind.i64.wrap (8 * x15) < 0) then none
    else bif decide ((x16.length + 1) * 1 ≤ 140737488355328) then rec (IntKind.i64.wrap (x15 + 1)) (x16 ++ ([IntKind.u8.wrap (x14.fdiv (2 ^ (min (IntKind.i64.wrap (8 * x15)).toNat 64)))] : List Int))
    else none)
  else k x16
noncomputable def l4 (x13 x14 : Int) (x17 x18 : List Int) (k : List Int → Option Res) : Nat → Int → List Int → Option Res
  | 0, _, _ => none
  | n + 1, x15, x16 => l4s x13 x14 x17 x18 (fun x15 x16 => l4 x13 x14 x17 x18 k n x15 x16) k x15 x16
noncomputable def o4 (x13 x14 : Int) (x17 x18 y2 : List Int) : St := ⟨mkT 68 [(1, one (.bp 1000 0)), (4, one (.ow 7208)), (6, one (.int .i64 x13))], [(7208, ⟨[.int .u8], .ints y2, true, 0⟩)], [(1000, [.tr 0 1 [.int .i64] (.ints x17), .tr 0 1 [.int .i64] (.ints x18)])]⟩
noncomputable def p4 (K : Res → Option Res) : List Lf → (St → Option Res) → Option Res
  | [.i x13, .i x14, .i x15, .q (.ints x16), .q (.ints x17), .q (.ints x18)], k => l4 x13 x14 x17 x18 (fun y2 => k (o4 x13 x14 x17 x18 y2)) fuel x15 x16
  | _, _ => none
noncomputable def s2 (x9 : Int) (x10 x11 x12 : List Int) : St := ⟨mkT 68 [(1, one (.bp 1000 0)), (4, one (.ow 7208)), (6, one (.int .i64 x9))], [(7208, ⟨[.int .u8], .ints x10, true, 0⟩)], [(1000, [.tr 0 1 [.int .i64] (.ints x11), .tr 0 1 [.int .i64] (.ints x12)])]⟩
noncomputable def l2s (x11 x12 : List Int) (rec : Int → List Int → Option Res) (k : List Int → Option Res) (x9 : Int) (x10 : List Int) : Option Res :=
  bif decide (x9 < (x12.length : Int)) then (bif decide (0 ≤ x9) && decide (x9 < (x12.length : Int)) then (l4 x9 (IntKind.i64.wrap ((x12.getD x9.toNat 0) + 1000000000000)) x11 x12 (fun y19 => 
      rec (IntKind.i64.wrap (x9 + 1)) y19) fuel 0 x10)
    else none)
  else k x10
noncomputable def l2 (x11 x12 : List Int) (k : List Int → Option Res) : Nat → Int → List Int → Option Res
  | 0, _, _ => none
  | n + 1, x9, x10 => l2s x11 x12 (fun x9 x10 => l2 x11 x12 k n x9 x10) k x9 x10
noncomputable def o2 (x11 x12 y1 : List Int) : St := ⟨mkT 68 [(4, one (.ow 7208))], [(7208, ⟨[.int .u8], .ints y1, true, 0⟩)], []⟩
noncomputable def p2 (K : Res → Option Res) : List Lf → (St → Option Res) → Option Res
  | [.i x9, .q (.ints x10), .q (.ints x11), .q (.ints x12)], k => l2 x11 x12 (fun y1 => k (o2 x11 x12 y1)) fuel x9 x10
  | _, _ => none
noncomputable def os : List (FuncId × St × (List Lf → (Res → Option Res) → Option Res)) := [spec_ArrayOk.con]
noncomputable def X (K : Res → Option Res) : Ctx := { Γ := Γ0, orc := orcOf os, io := [], share := [], mvl := [], bun := [], cut := [], own := [], cin := [(0, ⟨[1, 4, 5], [(7208, 7208), (15592, 7208)], [1000], [], [], []⟩), (4, ⟨[1, 4, 6, 7, 8], [(7208, 7208), (31832, 7208)], [1000], [], [], []⟩), (2, ⟨[1, 4, 6], [(7208, 7208)], [1000], [], [], []⟩)], cout := [(0, ⟨[1, 4], [(7208, 7208)], [1000], [], [], []⟩), (4, ⟨[1, 4, 6], [(7208, 7208)], [1000], [], [], []⟩), (2, ⟨[4], [(7208, 7208)], [], [], [], []⟩)], lp := lpOf [(0, s0 0 [] [] [], p0 K), (4, s4 0 0 0 [] [] [], p4 K), (2, s2 0 [] [] [], p2 K)], kl := [], nk := true, eqs := eqs0, byt := byt0, fin := finK fi K }
noncomputable def b (a1 a2 : List Int) (R : List Int → Bool → Option Res) : Option Res :=
  spec_ArrayOk.g a1 a2 fun r3 =>
  bif !r3 then R ([] : List Int) false
  else (l0 a1 a2 (fun y8 => 
  l2 a1 a2 (fun y20 => 
  R y20 true) fuel 0 y8) fuel 0 ([IntKind.u8.wrap (a1.length : Int)] : List Int))
theorem gx : ∃ x : List Int → List Int → (List Int → Bool → Option Res) → Option Res, x = b := ⟨_, rfl⟩
noncomputable def g : List Int → List Int → (List Int → Bool → Option Res) → Option Res := Classical.choose gx
theorem e : g = b := Classical.choose_spec gx
noncomputable def run : List Lf → (Res → Option Res) → Option Res
  | [.q (.ints a1), .q (.ints a2)], K => g a1 a2 (fun r1 r2 => K (m r1 r2))
  | _, _ => none
noncomputable def a (a1 a2 : List Int) : St := argSt [.v ⟨true, [.tr 0 1 [.int .i64] (.ints a1), .tr 0 1 [.int .i64] (.ints a2)]⟩] [] []
noncomputable def con : FuncId × St × (List Lf → (Res → Option Res) → Option Res) := (96, a [] [], run)
theorem cx (K : Res → Option Res) : CtxOk Go.Proofs.Try.prog Γ0 byt0 eqs0 (X K) os := ⟨rfl, rfl, rfl, (fun p hp => by
  rcases List.mem_cons.1 hp with rfl | hp
  · exact spec_ArrayOk.ok
  cases hp), rfl, rfl, rfl, rfl⟩
theorem t0 (K : Res → Option Res) (k : St → Option Res) (it : St → (St → Option Res) → Option Res) (x4 : Int) (x5 x6 x7 : List Int) : iterS (X K) 0 b0 it (s0 x4 x5 x6 x7) k = l0s x6 x7 (fun x4 x5 => it (s0 x4 x5 x6 x7) k) (fun y1 => k (o0 x6 x7 y1)) x4 x5 := by kernel_rfl
theorem i0 (K : Res → Option Res) (k : St → Option Res) (x6 x7 : List Int) : ∀ (n : Nat) (x4 : Int) (x5 : List Int), iter (X K) 0 b0 n (s0 x4 x5 x6 x7) k = l0 x6 x7 (fun y1 => k (o0 x6 x7 y1)) n x4 x5
  | 0, _, _ => rfl
  | n + 1, x4, x5 => by
    rw [iter_succ, t0, show (fun x4 x5 => iter (X K) 0 b0 n (s0 x4 x5 x6 x7) k) = (fun x4 x5 => l0 x6 x7 (fun y1 => k (o0 x6 x7 y1)) n x4 x5) from funext fun x4 => funext fun x5 => i0 K k x6 x7 n x4 x5]; rfl
theorem v0 {K : Res → Option Res} {l : List Lf} {k : St → Option Res} {r : Res} (h : p0 K l k = some r) : ∃ x4 x5 x6 x7, l = [.i x4, .q (.ints x5), .q (.ints x6), .q (.ints x7)] ∧ l0 x6 x7 (fun y1 => k (o0 x6 x7 y1)) fuel x4 x5 = some r := by
  unfold p0 at h; split at h
  · exact ⟨_, _, _, _, rfl, h⟩
  · cases h
theorem t4 (K : Res → Option Res) (k : St → Option Res) (it : St → (St → Option Res) → Option Res) (x13 x14 x15 : Int) (x16 x17 x18 : List Int) : iterS (X K) 4 b4 it (s4 x13 x14 x15 x16 x17 x18) k = l4s x13 x14 x17 x18 (fun x15 x16 => it (s4 x13 x14 x15 x16 x17 x18) k) (fun y2 => k (o4 x13 x14 x17 x18 y2)) x15 x16 := by kernel_rfl
theorem i4 (K : Res → Option Res) (k : St → Option Res) (x13 x14 : Int) (x17 x18 : List Int) : ∀ (n : Nat) (x15 : Int) (x16 : List Int), iter (X K) 4 b4 n (s4 x13 x14 x15 x16 x17 x18) k = l4 x13 x14 x17 x18 (fun y2 => k (o4 x13 x14 x17 x18 y2)) n x15 x16
  | 0, _, _ => rfl
  | n + 1, x15, x16 => by
    rw [iter_succ, t4, show (fun x15 x16 => iter (X K) 4 b4 n (s4 x13 x14 x15 x16 x17 x18) k) = (fun x15 x16 => l4 x13 x14 x17 x18 (fun y2 => k (o4 x13 x14 x17 x18 y2)) n x15 x16) from funext fun x15 => funext fun x16 => i4 K k x13 x14 x17 x18 n x15 x16]; rfl
theorem v4 {K : Res → Option Res} {l : List Lf} {k : St → Option Res} {r : Res} (h : p4 K l k = some r) : ∃ x13 x14 x15 x16 x17 x18, l = [.i x13, .i x14, .i x15, .q (.ints x16), .q (.ints x17), .q (.ints x18)] ∧ l4 x13 x14 x17 x18 (fun y2 => k (o4 x13 x14 x17 x18 y2)) fuel x15 x16 = some r := by
  unfold p4 at h; split at h
  · exact ⟨_, _, _, _, _, _, rfl, h⟩
  · cases h
theorem t2 (K : Res → Option Res) (k : St → Option Res) (it : St → (St → Option Res) → Option Res) (x9 : Int) (x10 x11 x12 : List Int) : iterS (X K) 2 b2 it (s2 x9 x10 x11 x12) k = l2s x11 x12 (fun x9 x10 => it (s2 x9 x10 x11 x12) k) (fun y1 => k (o2 x11 x12 y1)) x9 x10 := by kernel_rfl
theorem i2 (K : Res → Option Res) (k : St → Option Res) (x11 x12 : List Int) : ∀ (n : Nat) (x9 : Int) (x10 : List Int), iter (X K) 2 b2 n (s2 x9 x10 x11 x12) k = l2 x11 x12 (fun y1 => k (o2 x11 x12 y1)) n x9 x10
  | 0, _, _ => rfl
  | n + 1, x9, x10 => by
    rw [iter_succ, t2, show (fun x9 x10 => iter (X K) 2 b2 n (s2 x9 x10 x11 x12) k) = (fun x9 x10 => l2 x11 x12 (fun y1 => k (o2 x11 x12 y1)) n x9 x10) from funext fun x9 => funext fun x10 => i2 K k x11 x12 n x9 x10]; rfl
theorem v2 {K : Res → Option Res} {l : List Lf} {k : St → Option Res} {r : Res} (h : p2 K l k = some r) : ∃ x9 x10 x11 x12, l = [.i x9, .q (.ints x10), .q (.ints x11), .q (.ints x12)] ∧ l2 x11 x12 (fun y1 => k (o2 x11 x12 y1)) fuel x9 x10 = some r := by
  unfold p2 at h; split at h
  · exact ⟨_, _, _, _, rfl, h⟩
  · cases h
theorem w4 (K : Res → Option Res) : LpSound Go.Proofs.Try.prog (X K) 4 b4 := lp_ok ((cx K).ok laid) (by rw [show loopsOf b4 = [] from by kernel_rfl]; intro p hp; cases hp) rfl fun p hp hid => by
  rcases List.mem_cons.1 hp with rfl | hp
  · exact absurd hid (by simp)
  rcases List.mem_cons.1 hp with rfl | hp
  · intro st k r h1 h2; obtain ⟨x13, x14, x15, x16, x17, x18, e, h⟩ := v4 (K := K) h2; have := St.like_eq (y := s4 x13 x14 x15 x16 x17 x18) h1 (by kernel_rfl) e; subst this; exact ⟨fuel, (i4 K k x13 x14 x17 x18 fuel x15 x16).trans h⟩
  rcases List.mem_cons.1 hp with rfl | hp
  · exact absurd hid (by simp)
  cases hp
theorem w2 (K : Res → Option Res) : LpSound Go.Proofs.Try.prog (X K) 2 b2 := lp_ok ((cx K).ok laid) (by
    rw [show loopsOf b2 = [(4, b4)] from by kernel_rfl]; intro p hp
    rcases List.mem_cons.1 hp with rfl | hp
    · exact w4 K
    cases hp) rfl fun p hp hid => by
  rcases List.mem_cons.1 hp with rfl | hp
  · exact absurd hid (by simp)
  rcases List.mem_cons.1 hp with rfl | hp
  · exact absurd hid (by simp)
  rcases List.mem_cons.1 hp with rfl | hp
  · intro st k r h1 h2; obtain ⟨x9, x10, x11, x12, e, h⟩ := v2 (K := K) h2; have := St.like_eq (y := s2 x9 x10 x11 x12) h1 (by kernel_rfl) e; subst this; exact ⟨fuel, (i2 K k x11 x12 fuel x9 x10).trans h⟩
  cases hp
theorem w0 (K : Res → Option Res) : LpSound Go.Proofs.Try.prog (X K) 0 b0 := lp_ok ((cx K).ok laid) (by rw [show loopsOf b0 = [] from by kernel_rfl]; intro p hp; cases hp) rfl fun p hp hid => by
  rcases List.mem_cons.1 hp with rfl | hp
  · intro st k r h1 h2; obtain ⟨x4, x5, x6, x7, e, h⟩ := v0 (K := K) h2; have := St.like_eq (y := s0 x4 x5 x6 x7) h1 (by kernel_rfl) e; subst this; exact ⟨fuel, (i0 K k x6 x7 fuel x4 x5).trans h⟩
  rcases List.mem_cons.1 hp with rfl | hp
  · exact absurd hid (by simp)
  rcases List.mem_cons.1 hp with rfl | hp
  · exact absurd hid (by simp)
  cases hp
theorem tie (K : Res → Option Res) (a1 a2 : List Int) : exec (X K) c (entry 68 [.v ⟨true, [.tr 0 1 [.int .i64] (.ints a1), .tr 0 1 [.int .i64] (.ints a2)]⟩] [] []) (endK (X K)) = g a1 a2 (fun r1 r2 => K (m r1 r2)) := Eq.trans (b := b a1 a2 (fun r1 r2 => K (m r1 r2))) (by kernel_rfl) (by rw [e])
theorem runv {l : List Lf} {K : Res → Option Res} {r : Res} (h : run l K = some r) : ∃ a1 a2, l = [.q (.ints a1), .q (.ints a2)] ∧ g a1 a2 (fun r1 r2 => K (m r1 r2)) = some r := by
  unfold run at h; split at h
  · exact ⟨_, _, rfl, h⟩
  · cases h
theorem ok : Con Go.Proofs.Try.prog con := con_of (fn := Go.Proofs.Try.f96) (c := c) (Fi := fi) (X := X) (fun_of laid (by kernel_rfl) (by kernel_rfl) (by kernel_rfl) rfl (by kernel_rfl) (by kernel_rfl) cx (fun _ => rfl) (fun _ => rfl) (fun K => by
    rw [show loopsOf c = [(0, b0), (2, b2), (4, b4)] from by kernel_rfl]; intro p hp
    rcases List.mem_cons.1 hp with rfl | hp
    · exact w0 K
    rcases List.mem_cons.1 hp with rfl | hp
    · exact w2 K
    rcases List.mem_cons.1 hp with rfl | hp
    · exact w4 K
    cases hp)) fun xs rows boxes K r hl hr => by
  obtain ⟨a1, a2, e, h⟩ := runv hr
  have := St.like_eq (y := a a1 a2) hl (by kernel_rfl) e
  obtain ⟨rfl, rfl, rfl⟩ := argSt_inj this
  exact (tie K a1 a2).trans h
end spec_ArrayPack
namespace spec_DrawArrayRead
noncomputable def c : Code := bodyOf Go.Proofs.Try.f34
noncomputable def fi : Fin := ⟨Γ0, [(.tmp 2, 22)], [[0]], [], [], []⟩
noncomputable def m (r1 : List Int) : Res := ⟨[⟨false, [.tr 2 2 [.int .u8] (.ints r1)]⟩], [], [], [], []⟩
noncomputable def os : List (FuncId × St × (List Lf → (Res → Option Res) → Option Res)) := [spec_l1New.con, spec_l3DrawRight.con, spec_ArrayPack.con, spec_l1Below.con, spec_l1PickInt.con]
noncomputable def X (K : Res → Option Res) : Ctx := { Γ := Γ0, orc := orcOf os, io := [(89, [⟨false, 2, 1⟩])], share := [], mvl := [], bun := [], cut := [], own := [], cin := [], cout := [], lp := lpOf [], kl := [], nk := true, eqs := eqs0, byt := byt0, fin := finK fi K }
noncomputable def b (a1 : List Int) (R : List Int → Option Res) : Option Res :=
  spec_l1New.g a1 fun r2 r3 r4 =>
  spec_l3DrawRight.g r2 r3 r4 fun r5 r6 r7 r8 r9 =>
  spec_ArrayPack.g r5 r6 fun r10 r11 =>
  bif ((r10.length : Int) == 0) then R r10
  else (spec_l1Below.g 5 r7 r8 r9 fun r12 r13 r14 =>
  bif (r12 == 0) then (spec_l1Below.g (r10.length : Int) r7 r13 r14 fun r15 r16 r17 =>
    spec_l1PickInt.g ([0, 1, 2, 3, 4, 255] : List Int) r7 r16 r17 fun r18 r19 r20 =>
    bif decide (0 ≤ r15) && decide (r15 < (r10.length : Int)) then R (r10.set r15.toNat (IntKind.u8.wrap r18))
    else none)
  else bif (r12 == 1) then (spec_l1Below.g (IntKind.i64.wrap ((r10.length : Int) + 1)) r7 r13 r14 fun r21 r22 r23 =>
    bif decide (0 ≤ r21) && decide (r21 ≤ (r10.length : Int)) then R (r10.take r21.toNat)
    else none)
  else bif (r12 == 2) then (bif decide ((r10.length + 1) * 1 ≤ 140737488355328) then R (r10 ++ ([0] : List Int))
    else none)
  else R r10)
theorem gx : ∃ x : List Int → (List Int → Option Res) → Option Res, x = b := ⟨_, rfl⟩
noncomputable def g : List Int → (List Int → Option Res) → Option Res := Classical.choose gx
theorem e : g = b := Classical.choose_spec gx
noncomputable def run : List Lf → (Res → Option Res) → Option Res
  | [.q (.ints a1)], K => g a1 (fun r1 => K (m r1))
  | _, _ => none
noncomputable def a (a1 : List Int) : St := argSt [one (.tr 2 1 [.int .u8] (.ints a1))] [] []
noncomputable def con : FuncId × St × (List Lf → (Res → Option Res) → Option Res) := (34, a [], run)
theorem cx (K : Res → Option Res) : CtxOk Go.Proofs.Try.prog Γ0 byt0 eqs0 (X K) os := ⟨rfl, rfl, rfl, (fun p hp => by
  rcases List.mem_cons.1 hp with rfl | hp
  · exact spec_l1New.ok
  rcases List.mem_cons.1 hp with rfl | hp
  · exact spec_l3DrawRight.ok
  rcases List.mem_cons.1 hp with rfl | hp
  · exact spec_ArrayPack.ok
  rcases List.mem_cons.1 hp with rfl | hp
  · exact spec_l1Below.ok
  rcases List.mem_cons.1 hp with rfl | hp
  · exact spec_l1PickInt.ok
  cases hp), rfl, rfl, rfl, rfl⟩
theorem tie (K : Res → Option Res) (a1 : List Int) : exec (X K) c (entry 47 [one (.tr 2 1 [.int .u8] (.ints a1))] [] []) (endK (X K)) = g a1 (fun r1 => K (m r1)) := Eq.trans (b := b a1 (fun r1 => K (m r1))) (by kernel_rfl) (by rw [e])
theorem runv {l : List Lf} {K : Res → Option Res} {r : Res} (h : run l K = some r) : ∃ a1, l = [.q (.ints a1)] ∧ g a1 (fun r1 => K (m r1)) = some r := by
  unfold run at h; split at h
  · exact ⟨_, rfl, h⟩
  · cases h
theorem ok : Con Go.Proofs.Try.prog con := con_of (fn := Go.Proofs.Try.f34) (c := c) (Fi := fi) (X := X) (fun_of laid (by kernel_rfl) (by kernel_rfl) (by kernel_rfl) rfl (by kernel_rfl) (by kernel_rfl) cx (fun _ => rfl) (fun _ => rfl) (fun K => by
    rw [show loopsOf c = [] from by kernel_rfl]; intro p hp
    cases hp)) fun xs rows boxes K r hl hr => by
  obtain ⟨a1, e, h⟩ := runv hr
  have := St.like_eq (y := a a1) hl (by kernel_rfl) e
  obtain ⟨rfl, rfl, rfl⟩ := argSt_inj this
  exact (tie K a1).trans h
end spec_DrawArrayRead
namespace laws_FnArrayBytes
noncomputable def c : Code := bodyOf Go.Proofs.Try.f5
noncomputable def fi : Fin := ⟨Γ0, [(.tmp 2, 4)], [[1]], [], [], []⟩
noncomputable def m (r1 : Bool) : Res := ⟨[⟨false, [.bool r1]⟩], [], [], [], []⟩
noncomputable def os : List (FuncId × St × (List Lf → (Res → Option Res) → Option Res)) := [laws_big.con, spec_DrawArrayPack.con, impl_ArrayPack.con, spec_ArrayOk.con, impl_ArrayOk.con, impl_ArrayRead.con, laws_sameArray.con, spec_DrawArrayRead.con, spec_ArrayRead.con]
noncomputable def X (K : Res → Option Res) : Ctx := { Γ := Γ0, orc := orcOf os, io := [(29, [⟨false, 2, 1⟩]), (15, [⟨false, 2, 2⟩]), (34, [⟨false, 2, 1⟩])], share := [], mvl := [], bun := [], cut := [], own := [], cin := [], cout := [], lp := lpOf [], kl := [], nk := true, eqs := eqs0, byt := byt0, fin := finK fi K }
noncomputable def b (a1 : List Int) (R : Bool → Option Res) : Option Res :=
  laws_big.g a1 fun r2 =>
  bif r2 then R true
  else (spec_DrawArrayPack.g a1 fun r3 r4 =>
  impl_ArrayPack.g r3 r4 fun r5 r6 =>
  spec_ArrayOk.g r3 r4 fun r7 =>
  bif (r6 != r7) then R false
  else (impl_ArrayOk.g r3 r4 fun r8 =>
  bif (r8 != r6) then R false
  else bif r6 then (impl_ArrayRead.g r5 fun r9 r10 r11 =>
    bif !r11 then R false
    else (laws_sameArray.g r9 r10 r3 r4 fun r12 =>
    bif !r12 then R false
    else (spec_DrawArrayRead.g a1 fun r13 =>
    impl_ArrayRead.g r13 fun r14 r15 r16 =>
    spec_ArrayRead.g r13 fun r17 r18 r19 =>
    bif (r16 != r19) then R false
    else (impl_ArrayPack.g r14 r15 fun r20 r21 =>
    bif !r16 then (bif ((r15.length : Int) == 0) then R true
      else bif r16 then (bif r21 then R ((strOf r20).toList == (strOf r13).toList)
        else R false)
      else R false)
    else bif r16 then (bif r21 then R ((strOf r20).toList == (strOf r13).toList)
      else R false)
    else R false))))
  else (spec_DrawArrayRead.g a1 fun r22 =>
  impl_ArrayRead.g r22 fun r23 r24 r25 =>
  spec_ArrayRead.g r22 fun r26 r27 r28 =>
  bif (r25 != r28) then R false
  else (impl_ArrayPack.g r23 r24 fun r29 r30 =>
  bif !r25 then (bif ((r24.length : Int) == 0) then R true
    else bif r25 then (bif r30 then R ((strOf r29).toList == (strOf r22).toList)
      else R false)
    else R false)
  else bif r25 then (bif r30 then R ((strOf r29).toList == (strOf r22).toList)
    else R false)
  else R false))))
theorem gx : ∃ x : List Int → (Bool → Option Res) → Option Res, x = b := ⟨_, rfl⟩
noncomputable def g : List Int → (Bool → Option Res) → Option Res := Classical.choose gx
theorem e : g = b := Classical.choose_spec gx
noncomputable def run : List Lf → (Res → Option Res) → Option Res
  | [.q (.ints a1)], K => g a1 (fun r1 => K (m r1))
  | _, _ => none
noncomputable def a (a1 : List Int) : St := argSt [one (.tr 2 1 [.int .u8] (.ints a1))] [] []
noncomputable def con : FuncId × St × (List Lf → (Res → Option Res) → Option Res) := (5, a [], run)
theorem cx (K : Res → Option Res) : CtxOk Go.Proofs.Try.prog Γ0 byt0 eqs0 (X K) os := ⟨rfl, rfl, rfl, (fun p hp => by
  rcases List.mem_cons.1 hp with rfl | hp
  · exact laws_big.ok
  rcases List.mem_cons.1 hp with rfl | hp
  · exact spec_DrawArrayPack.ok
  rcases List.mem_cons.1 hp with rfl | hp
  · exact impl_ArrayPack.ok
  rcases List.mem_cons.1 hp with rfl | hp
  · exact spec_ArrayOk.ok
  rcases List.mem_cons.1 hp with rfl | hp
  · exact impl_ArrayOk.ok
  rcases List.mem_cons.1 hp with rfl | hp
  · exact impl_ArrayRead.ok
  rcases List.mem_cons.1 hp with rfl | hp
  · exact laws_sameArray.ok
  rcases List.mem_cons.1 hp with rfl | hp
  · exact spec_DrawArrayRead.ok
  rcases List.mem_cons.1 hp with rfl | hp
  · exact spec_ArrayRead.ok
  cases hp), rfl, rfl, rfl, rfl⟩
theorem tie (K : Res → Option Res) (a1 : List Int) : exec (X K) c (entry 89 [one (.tr 2 1 [.int .u8] (.ints a1))] [] []) (endK (X K)) = g a1 (fun r1 => K (m r1)) := Eq.trans (b := b a1 (fun r1 => K (m r1))) (by kernel_rfl) (by rw [e])
theorem runv {l : List Lf} {K : Res → Option Res} {r : Res} (h : run l K = some r) : ∃ a1, l = [.q (.ints a1)] ∧ g a1 (fun r1 => K (m r1)) = some r := by
  unfold run at h; split at h
  · exact ⟨_, rfl, h⟩
  · cases h
theorem ok : Con Go.Proofs.Try.prog con := con_of (fn := Go.Proofs.Try.f5) (c := c) (Fi := fi) (X := X) (fun_of laid (by kernel_rfl) (by kernel_rfl) (by kernel_rfl) rfl (by kernel_rfl) (by kernel_rfl) cx (fun _ => rfl) (fun _ => rfl) (fun K => by
    rw [show loopsOf c = [] from by kernel_rfl]; intro p hp
    cases hp)) fun xs rows boxes K r hl hr => by
  obtain ⟨a1, e, h⟩ := runv hr
  have := St.like_eq (y := a a1) hl (by kernel_rfl) e
  obtain ⟨rfl, rfl, rfl⟩ := argSt_inj this
  exact (tie K a1).trans h
end laws_FnArrayBytes
end Go.Tv.F
