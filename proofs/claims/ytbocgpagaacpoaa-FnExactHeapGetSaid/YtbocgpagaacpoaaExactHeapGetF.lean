/- The law's functions, printed by a program of ours, each with its contract. They hold without condition. -/
import Derived.Test.YtbocgpagaacpoaaProg
import Derived.Test.YtbocgpagaacpoaaTvC
set_option linter.unusedVariables false
set_option linter.unusedSimpArgs false
set_option linter.unnecessarySimpa false
set_option maxRecDepth 100000
set_option autoImplicit false
namespace Go.Tv.F
open Go Go.Tv
noncomputable def Γ0 : List (Nat × TI) := [(3, ⟨false, [.int .i64], []⟩),
  (4, ⟨false, [.bool], []⟩),
  (5, ⟨false, [.int .u8], []⟩),
  (9, ⟨false, [.str], []⟩),
  (22, ⟨false, [.sl [.int .u8] 1], []⟩),
  (23, ⟨false, [.sl [.int .i64] 8], []⟩),
  (25, ⟨true, [.sl [.int .i64] 8, .sl [.int .i64] 8], [(0, 1, false), (1, 1, false)]⟩),
  (34, ⟨false, [.sl [.int .i64, .int .i64, .bool] 24], []⟩),
  (36, ⟨true, [.sl [.int .i64] 8, .int .i64, .sl [.int .i64, .int .i64, .bool] 24], [(0, 1, false), (1, 1, false), (2, 1, false)]⟩),
  (38, ⟨false, [.sl [.int .i64, .int .i64, .bool] 24], []⟩),
  (40, ⟨true, [.sl [.int .i64] 8, .int .i64, .sl [.int .i64, .int .i64, .bool] 24], [(0, 1, false), (1, 1, false), (2, 1, false)]⟩),
  (57, ⟨true, [.int .i64, .int .i64, .bool], [(0, 1, false), (1, 1, false), (2, 1, false)]⟩),
  (76, ⟨false, [.sl [.int .i64, .int .i64, .int .i64, .int .i64, .int .i64, .int .i64, .ints .i64] 72], []⟩),
  (78, ⟨true, [.sl [.int .i64, .int .i64, .int .i64, .int .i64, .int .i64, .int .i64, .ints .i64] 72], [(0, 1, false)]⟩),
  (81, ⟨false, [.sl [.int .i64, .int .i64] 16], []⟩),
  (90, ⟨true, [.int .i64, .int .i64], [(0, 1, false), (1, 1, false)]⟩),
  (94, ⟨false, [.int .u64], []⟩),
  (95, ⟨false, [.ptr], []⟩),
  (97, ⟨true, [.sl [.int .u8] 1, .bool], [(0, 1, false), (1, 1, false)]⟩),
  (110, ⟨false, [.ptr], []⟩),
  (113, ⟨false, [.fn], []⟩),
  (121, ⟨false, [.sl [.bool] 1], []⟩),
  (130, ⟨true, [.int .i64, .int .i64, .int .i64], [(0, 1, false), (1, 1, false), (2, 1, false)]⟩),
  (138, ⟨false, [.fn], []⟩),
  (140, ⟨false, [.ptr], []⟩),
  (142, ⟨true, [.sl [.int .i64, .int .i64] 16, .int .i64, .sl [.int .i64, .int .i64, .int .i64, .int .i64, .int .i64, .int .i64, .ints .i64] 72], [(0, 1, false), (1, 1, false), (2, 1, false)]⟩),
  (146, ⟨false, [.ptr], []⟩),
  (148, ⟨true, [.sl [.int .i64, .int .i64] 16, .int .i64, .sl [.int .i64, .int .i64, .int .i64, .int .i64, .int .i64, .int .i64, .ints .i64] 72, .bool], [(0, 1, false), (1, 1, false), (2, 1, false), (3, 1, false)]⟩),
  (156, ⟨true, [.int .i64, .int .i64, .int .i64, .int .i64, .int .i64, .int .i64, .sl [.int .i64] 8], [(0, 1, false), (1, 1, false), (2, 1, false), (3, 3, true), (6, 1, false)]⟩),
  (157, ⟨false, [.int .u64], []⟩),
  (159, ⟨true, [.int .i64, .int .i64, .bool], [(0, 1, false), (1, 1, false), (2, 1, false)]⟩),
  (164, ⟨true, [.sl [.int .u8] 1, .int .i64, .int .i64], [(0, 1, false), (1, 1, false), (2, 1, false)]⟩),
  (179, ⟨false, [.fn], []⟩),
  (180, ⟨false, [.fn], []⟩),
  (198, ⟨false, [.sl [.str] 16], []⟩),
  (201, ⟨false, [.sl [.ints .i64] 24], []⟩),
  (209, ⟨false, [.int .i64], []⟩),
  (219, ⟨false, [.int .u64], []⟩),
  (223, ⟨false, [.ptr], []⟩)]
noncomputable def byt0 : List TypeId := [22]
noncomputable def eqs0 : List TypeId := [57, 90, 130, 159]
theorem laid : Laid Go.Proofs.Try.prog Γ0 byt0 eqs0 := ⟨by kernel_rfl, by kernel_rfl, by kernel_rfl, by kernel_rfl⟩
namespace spec_l1In
noncomputable def c : Code := bodyOf Go.Proofs.Try.f100
noncomputable def fi : Fin := ⟨Γ0, [(.tmp 6, 4)], [[1]], [], [], []⟩
noncomputable def m (r1 : Bool) : Res := ⟨[⟨false, [.bool r1]⟩], [], [], [], []⟩
noncomputable def os : List (FuncId × St × (List Lf → (Res → Option Res) → Option Res)) := []
noncomputable def X (K : Res → Option Res) : Ctx := { Γ := Γ0, orc := orcOf os, io := [], share := [], mvl := [], bun := [], cut := [], own := [], cin := [], cout := [], lp := lpOf [], kl := [], nk := true, eqs := eqs0, byt := byt0, fin := finK fi K }
noncomputable def b (a1 a2 a3 : Int) (R : Bool → Option Res) : Option Res :=
  bif decide (a2 ≤ a1) then R (decide (a1 ≤ a3))
  else R false
theorem gx : ∃ x : Int → Int → Int → (Bool → Option Res) → Option Res, x = b := ⟨_, rfl⟩
noncomputable def g : Int → Int → Int → (Bool → Option Res) → Option Res := Classical.choose gx
theorem e : g = b := Classical.choose_spec gx
noncomputable def run : List Lf → (Res → Option Res) → Option Res
  | [.i a1, .i a2, .i a3], K => g a1 a2 a3 (fun r1 => K (m r1))
  | _, _ => none
noncomputable def a (a1 a2 a3 : Int) : St := argSt [one (.int .i64 a1), one (.int .i64 a2), one (.int .i64 a3)] [] []
noncomputable def con : FuncId × St × (List Lf → (Res → Option Res) → Option Res) := (100, a 0 0 0, run)
theorem cx (K : Res → Option Res) : CtxOk Go.Proofs.Try.prog Γ0 byt0 eqs0 (X K) os := ⟨rfl, rfl, rfl, (fun p hp => by
  cases hp), rfl, rfl, rfl, rfl⟩
theorem tie (K : Res → Option Res) (a1 a2 a3 : Int) : exec (X K) c (entry 15 [one (.int .i64 a1), one (.int .i64 a2), one (.int .i64 a3)] [] []) (endK (X K)) = g a1 a2 a3 (fun r1 => K (m r1)) := Eq.trans (b := b a1 a2 a3 (fun r1 => K (m r1))) (by kernel_rfl) (by rw [e])
theorem runv {l : List Lf} {K : Res → Option Res} {r : Res} (h : run l K = some r) : ∃ a1 a2 a3, l = [.i a1, .i a2, .i a3] ∧ g a1 a2 a3 (fun r1 => K (m r1)) = some r := by
  unfold run at h; split at h
  · exact ⟨_, _, _, rfl, h⟩
  · cases h
theorem ok : Con Go.Proofs.Try.prog con := con_of (fn := Go.Proofs.Try.f100) (c := c) (Fi := fi) (X := X) (fun_of laid (by kernel_rfl) (by kernel_rfl) (by kernel_rfl) rfl (by kernel_rfl) (by kernel_rfl) cx (fun _ => rfl) (fun _ => rfl) (fun K => by
    rw [show loopsOf c = [] from by kernel_rfl]; intro p hp
    cases hp)) fun xs rows boxes K r hl hr => by
  obtain ⟨a1, a2, a3, e, h⟩ := runv hr
  have := St.like_eq (y := a a1 a2 a3) hl (by kernel_rfl) e
  obtain ⟨rfl, rfl, rfl⟩ := argSt_inj this
  exact (tie K a1 a2 a3).trans h
end spec_l1In
namespace spec_SizeOf
noncomputable def c : Code := bodyOf Go.Proofs.Try.f67
noncomputable def fi : Fin := ⟨Γ0, [(.tmp 2, 3)], [[1]], [], [], []⟩
noncomputable def m (r1 : Int) : Res := ⟨[⟨false, [.int .i64 r1]⟩], [], [], [], []⟩
noncomputable def b0 : Code := codeAt c [1, 1, 1, 0, 1, 0, 0]
noncomputable def b2 : Code := codeAt c [1, 1, 1, 1, 1, 0, 1, 0, 0]
noncomputable def s0 (x2 : List Int) (x3 : Bool) (x4 : Int) : St := ⟨mkT 49 [(0, one (.tr 0 1 [.int .i64] (.ints x2))), (3, one (.bool x3)), (4, one (.int .i64 x4))], [], []⟩
noncomputable def l0s (x2 : List Int) (rec : Bool → Int → Option Res) (k : Bool → Option Res) (R : Int → Option Res) (x3 : Bool) (x4 : Int) : Option Res :=
  bif decide (x4 < (x2.length : Int)) then (bif decide (0 ≤ x4) && decide (x4 < (x2.length : Int)) then (spec_l1In.g (x2.getD x4.toNat 0) 0 300 fun r5 =>
      bif !r5 then R (-1)
      else bif x3 then rec true (IntKind.i64.wrap (x4 + 1))
      else bif decide (0 ≤ x4) && decide (x4 < (x2.length : Int)) then rec (x2.getD x4.toNat 0 == 0) (IntKind.i64.wrap (x4 + 1))
      else none)
    else none)
  else k x3
noncomputable def l0 (x2 : List Int) (k : Bool → Option Res) (R : Int → Option Res) : Nat → Bool → Int → Option Res
  | 0, _, _ => none
  | n + 1, x3, x4 => l0s x2 (fun x3 x4 => l0 x2 k R n x3 x4) k R x3 x4
noncomputable def o0 (x2 : List Int) (y2 : Bool) : St := ⟨mkT 49 [(0, one (.tr 0 1 [.int .i64] (.ints x2))), (3, one (.bool y2))], [], []⟩
noncomputable def p0 (K : Res → Option Res) : List Lf → (St → Option Res) → Option Res
  | [.q (.ints x2), .b x3, .i x4], k => l0 x2 (fun y2 => k (o0 x2 y2)) (fun r1 => K (m r1)) fuel x3 x4
  | _, _ => none
noncomputable def s2 (x7 : List Int) (x8 : Bool) (x9 x10 : Int) : St := ⟨mkT 49 [(0, one (.tr 0 1 [.int .i64] (.ints x7))), (3, one (.bool x8)), (5, one (.int .i64 x9)), (6, one (.int .i64 x10))], [], []⟩
noncomputable def l2s (x7 : List Int) (x8 : Bool) (rec : Int → Int → Option Res) (k : Int → Option Res) (x9 x10 : Int) : Option Res :=
  bif decide (x10 < (x7.length : Int)) then (bif decide (0 ≤ x10) && decide (x10 < (x7.length : Int)) then rec (IntKind.i64.wrap (x9 * (x7.getD x10.toNat 0))) (IntKind.i64.wrap (x10 + 1))
    else none)
  else k x9
noncomputable def l2 (x7 : List Int) (x8 : Bool) (k : Int → Option Res) : Nat → Int → Int → Option Res
  | 0, _, _ => none
  | n + 1, x9, x10 => l2s x7 x8 (fun x9 x10 => l2 x7 x8 k n x9 x10) k x9 x10
noncomputable def o2 (x7 : List Int) (x8 : Bool) (y2 : Int) : St := ⟨mkT 49 [(3, one (.bool x8)), (5, one (.int .i64 y2))], [], []⟩
noncomputable def p2 (K : Res → Option Res) : List Lf → (St → Option Res) → Option Res
  | [.q (.ints x7), .b x8, .i x9, .i x10], k => l2 x7 x8 (fun y2 => k (o2 x7 x8 y2)) fuel x9 x10
  | _, _ => none
noncomputable def os : List (FuncId × St × (List Lf → (Res → Option Res) → Option Res)) := [spec_l1In.con]
noncomputable def X (K : Res → Option Res) : Ctx := { Γ := Γ0, orc := orcOf os, io := [], share := [], mvl := [], bun := [], cut := [], own := [], cin := [(0, ⟨[0, 3, 4], [], [], [], [], []⟩), (2, ⟨[0, 3, 5, 6], [], [], [], [], []⟩)], cout := [(0, ⟨[0, 3], [], [], [], [], []⟩), (2, ⟨[3, 5], [], [], [], [], []⟩)], lp := lpOf [(0, s0 [] false 0, p0 K), (2, s2 [] false 0 0, p2 K)], kl := [], nk := true, eqs := eqs0, byt := byt0, fin := finK fi K }
noncomputable def b (a1 : List Int) (R : Int → Option Res) : Option Res :=
  bif decide (3 < (a1.length : Int)) then R (-1)
  else (l0 a1 (fun y6 => 
  l2 a1 y6 (fun y11 => 
  bif decide (300 < y11) then (bif !y6 then R (-1)
    else R y11)
  else R y11) fuel 1 0) R fuel false 0)
theorem gx : ∃ x : List Int → (Int → Option Res) → Option Res, x = b := ⟨_, rfl⟩
noncomputable def g : List Int → (Int → Option Res) → Option Res := Classical.choose gx
theorem e : g = b := Classical.choose_spec gx
noncomputable def run : List Lf → (Res → Option Res) → Option Res
  | [.q (.ints a1)], K => g a1 (fun r1 => K (m r1))
  | _, _ => none
noncomputable def a (a1 : List Int) : St := argSt [one (.tr 0 1 [.int .i64] (.ints a1))] [] []
noncomputable def con : FuncId × St × (List Lf → (Res → Option Res) → Option Res) := (67, a [], run)
theorem cx (K : Res → Option Res) : CtxOk Go.Proofs.Try.prog Γ0 byt0 eqs0 (X K) os := ⟨rfl, rfl, rfl, (fun p hp => by
  rcases List.mem_cons.1 hp with rfl | hp
  · exact spec_l1In.ok
  cases hp), rfl, rfl, rfl, rfl⟩
theorem t0 (K : Res → Option Res) (k : St → Option Res) (it : St → (St → Option Res) → Option Res) (x2 : List Int) (x3 : Bool) (x4 : Int) : iterS (X K) 0 b0 it (s0 x2 x3 x4) k = l0s x2 (fun x3 x4 => it (s0 x2 x3 x4) k) (fun y2 => k (o0 x2 y2)) (fun r1 => K (m r1)) x3 x4 := by kernel_rfl
theorem i0 (K : Res → Option Res) (k : St → Option Res) (x2 : List Int) : ∀ (n : Nat) (x3 : Bool) (x4 : Int), iter (X K) 0 b0 n (s0 x2 x3 x4) k = l0 x2 (fun y2 => k (o0 x2 y2)) (fun r1 => K (m r1)) n x3 x4
  | 0, _, _ => rfl
  | n + 1, x3, x4 => by
    rw [iter_succ, t0, show (fun x3 x4 => iter (X K) 0 b0 n (s0 x2 x3 x4) k) = (fun x3 x4 => l0 x2 (fun y2 => k (o0 x2 y2)) (fun r1 => K (m r1)) n x3 x4) from funext fun x3 => funext fun x4 => i0 K k x2 n x3 x4]; rfl
theorem v0 {K : Res → Option Res} {l : List Lf} {k : St → Option Res} {r : Res} (h : p0 K l k = some r) : ∃ x2 x3 x4, l = [.q (.ints x2), .b x3, .i x4] ∧ l0 x2 (fun y2 => k (o0 x2 y2)) (fun r1 => K (m r1)) fuel x3 x4 = some r := by
  unfold p0 at h; split at h
  · exact ⟨_, _, _, rfl, h⟩
  · cases h
theorem t2 (K : Res → Option Res) (k : St → Option Res) (it : St → (St → Option Res) → Option Res) (x7 : List Int) (x8 : Bool) (x9 x10 : Int) : iterS (X K) 2 b2 it (s2 x7 x8 x9 x10) k = l2s x7 x8 (fun x9 x10 => it (s2 x7 x8 x9 x10) k) (fun y2 => k (o2 x7 x8 y2)) x9 x10 := by kernel_rfl
theorem i2 (K : Res → Option Res) (k : St → Option Res) (x7 : List Int) (x8 : Bool) : ∀ (n : Nat) (x9 x10 : Int), iter (X K) 2 b2 n (s2 x7 x8 x9 x10) k = l2 x7 x8 (fun y2 => k (o2 x7 x8 y2)) n x9 x10
  | 0, _, _ => rfl
  | n + 1, x9, x10 => by
    rw [iter_succ, t2, show (fun x9 x10 => iter (X K) 2 b2 n (s2 x7 x8 x9 x10) k) = (fun x9 x10 => l2 x7 x8 (fun y2 => k (o2 x7 x8 y2)) n x9 x10) from funext fun x9 => funext fun x10 => i2 K k x7 x8 n x9 x10]; rfl
theorem v2 {K : Res → Option Res} {l : List Lf} {k : St → Option Res} {r : Res} (h : p2 K l k = some r) : ∃ x7 x8 x9 x10, l = [.q (.ints x7), .b x8, .i x9, .i x10] ∧ l2 x7 x8 (fun y2 => k (o2 x7 x8 y2)) fuel x9 x10 = some r := by
  unfold p2 at h; split at h
  · exact ⟨_, _, _, _, rfl, h⟩
  · cases h
theorem w2 (K : Res → Option Res) : LpSound Go.Proofs.Try.prog (X K) 2 b2 := lp_ok ((cx K).ok laid) (by rw [show loopsOf b2 = [] from by kernel_rfl]; intro p hp; cases hp) rfl fun p hp hid => by
  rcases List.mem_cons.1 hp with rfl | hp
  · exact absurd hid (by simp)
  rcases List.mem_cons.1 hp with rfl | hp
  · intro st k r h1 h2; obtain ⟨x7, x8, x9, x10, e, h⟩ := v2 (K := K) h2; have := St.like_eq (y := s2 x7 x8 x9 x10) h1 (by kernel_rfl) e; subst this; exact ⟨fuel, (i2 K k x7 x8 fuel x9 x10).trans h⟩
  cases hp
theorem w0 (K : Res → Option Res) : LpSound Go.Proofs.Try.prog (X K) 0 b0 := lp_ok ((cx K).ok laid) (by rw [show loopsOf b0 = [] from by kernel_rfl]; intro p hp; cases hp) rfl fun p hp hid => by
  rcases List.mem_cons.1 hp with rfl | hp
  · intro st k r h1 h2; obtain ⟨x2, x3, x4, e, h⟩ := v0 (K := K) h2; have := St.like_eq (y := s0 x2 x3 x4) h1 (by kernel_rfl) e; subst this; exact ⟨fuel, (i0 K k x2 fuel x3 x4).trans h⟩
  rcases List.mem_cons.1 hp with rfl | hp
  · exact absurd hid (by simp)
  cases hp
theorem tie (K : Res → Option Res) (a1 : List Int) : exec (X K) c (entry 49 [one (.tr 0 1 [.int .i64] (.ints a1))] [] []) (endK (X K)) = g a1 (fun r1 => K (m r1)) := Eq.trans (b := b a1 (fun r1 => K (m r1))) (by kernel_rfl) (by rw [e])
theorem runv {l : List Lf} {K : Res → Option Res} {r : Res} (h : run l K = some r) : ∃ a1, l = [.q (.ints a1)] ∧ g a1 (fun r1 => K (m r1)) = some r := by
  unfold run at h; split at h
  · exact ⟨_, rfl, h⟩
  · cases h
theorem ok : Con Go.Proofs.Try.prog con := con_of (fn := Go.Proofs.Try.f67) (c := c) (Fi := fi) (X := X) (fun_of laid (by kernel_rfl) (by kernel_rfl) (by kernel_rfl) rfl (by kernel_rfl) (by kernel_rfl) cx (fun _ => rfl) (fun _ => rfl) (fun K => by
    rw [show loopsOf c = [(0, b0), (2, b2)] from by kernel_rfl]; intro p hp
    rcases List.mem_cons.1 hp with rfl | hp
    · exact w0 K
    rcases List.mem_cons.1 hp with rfl | hp
    · exact w2 K
    cases hp)) fun xs rows boxes K r hl hr => by
  obtain ⟨a1, e, h⟩ := runv hr
  have := St.like_eq (y := a a1) hl (by kernel_rfl) e
  obtain ⟨rfl, rfl, rfl⟩ := argSt_inj this
  exact (tie K a1).trans h
end spec_SizeOf
namespace spec_NumOk
noncomputable def c : Code := bodyOf Go.Proofs.Try.f91
noncomputable def fi : Fin := ⟨Γ0, [(.tmp 2, 4)], [[1]], [], [], []⟩
noncomputable def m (r1 : Bool) : Res := ⟨[⟨false, [.bool r1]⟩], [], [], [], []⟩
noncomputable def os : List (FuncId × St × (List Lf → (Res → Option Res) → Option Res)) := [spec_l1In.con]
noncomputable def X (K : Res → Option Res) : Ctx := { Γ := Γ0, orc := orcOf os, io := [], share := [], mvl := [], bun := [], cut := [], own := [], cin := [], cout := [], lp := lpOf [], kl := [], nk := true, eqs := eqs0, byt := byt0, fin := finK fi K }
noncomputable def b (a1 : Int) (R : Bool → Option Res) : Option Res :=
  spec_l1In.g a1 (-1000000000000) 1000000000000 fun r2 =>
  R r2
theorem gx : ∃ x : Int → (Bool → Option Res) → Option Res, x = b := ⟨_, rfl⟩
noncomputable def g : Int → (Bool → Option Res) → Option Res := Classical.choose gx
theorem e : g = b := Classical.choose_spec gx
noncomputable def run : List Lf → (Res → Option Res) → Option Res
  | [.i a1], K => g a1 (fun r1 => K (m r1))
  | _, _ => none
noncomputable def a (a1 : Int) : St := argSt [one (.int .i64 a1)] [] []
noncomputable def con : FuncId × St × (List Lf → (Res → Option Res) → Option Res) := (91, a 0, run)
theorem cx (K : Res → Option Res) : CtxOk Go.Proofs.Try.prog Γ0 byt0 eqs0 (X K) os := ⟨rfl, rfl, rfl, (fun p hp => by
  rcases List.mem_cons.1 hp with rfl | hp
  · exact spec_l1In.ok
  cases hp), rfl, rfl, rfl, rfl⟩
theorem tie (K : Res → Option Res) (a1 : Int) : exec (X K) c (entry 5 [one (.int .i64 a1)] [] []) (endK (X K)) = g a1 (fun r1 => K (m r1)) := Eq.trans (b := b a1 (fun r1 => K (m r1))) (by kernel_rfl) (by rw [e])
theorem runv {l : List Lf} {K : Res → Option Res} {r : Res} (h : run l K = some r) : ∃ a1, l = [.i a1] ∧ g a1 (fun r1 => K (m r1)) = some r := by
  unfold run at h; split at h
  · exact ⟨_, rfl, h⟩
  · cases h
theorem ok : Con Go.Proofs.Try.prog con := con_of (fn := Go.Proofs.Try.f91) (c := c) (Fi := fi) (X := X) (fun_of laid (by kernel_rfl) (by kernel_rfl) (by kernel_rfl) rfl (by kernel_rfl) (by kernel_rfl) cx (fun _ => rfl) (fun _ => rfl) (fun K => by
    rw [show loopsOf c = [] from by kernel_rfl]; intro p hp
    cases hp)) fun xs rows boxes K r hl hr => by
  obtain ⟨a1, e, h⟩ := runv hr
  have := St.like_eq (y := a a1) hl (by kernel_rfl) e
  obtain ⟨rfl, rfl, rfl⟩ := argSt_inj this
  exact (tie K a1).trans h
end spec_NumOk
namespace spec_ArrayOk
noncomputable def c : Code := bodyOf Go.Proofs.Try.f31
noncomputable def fi : Fin := ⟨Γ0, [(.tmp 2, 4)], [[1]], [], [], []⟩
noncomputable def m (r1 : Bool) : Res := ⟨[⟨false, [.bool r1]⟩], [], [], [], []⟩
noncomputable def b0 : Code := codeAt c [1, 1, 0, 1, 0, 0]
noncomputable def s0 (x4 : Int) (x5 x6 : List Int) : St := ⟨mkT 25 [(1, one (.bp 1000 0)), (3, one (.int .i64 x4))], [], [(1000, [.tr 0 1 [.int .i64] (.ints x5), .tr 0 1 [.int .i64] (.ints x6)])]⟩
noncomputable def l0s (x5 x6 : List Int) (rec : Int → Option Res) (k : Option Res) (R : Bool → Option Res) (x4 : Int) : Option Res :=
  bif decide (x4 < (x6.length : Int)) then (bif decide (0 ≤ x4) && decide (x4 < (x6.length : Int)) then (spec_NumOk.g (x6.getD x4.toNat 0) fun r7 =>
      bif !r7 then R false
      else rec (IntKind.i64.wrap (x4 + 1)))
    else none)
  else k
noncomputable def l0 (x5 x6 : List Int) (k : Option Res) (R : Bool → Option Res) : Nat → Int → Option Res
  | 0, _ => none
  | n + 1, x4 => l0s x5 x6 (fun x4 => l0 x5 x6 k R n x4) k R x4
noncomputable def o0 (x5 x6 : List Int) : St := ⟨mkT 25 [], [], []⟩
noncomputable def p0 (K : Res → Option Res) : List Lf → (St → Option Res) → Option Res
  | [.i x4, .q (.ints x5), .q (.ints x6)], k => l0 x5 x6 (k (o0 x5 x6)) (fun r1 => K (m r1)) fuel x4
  | _, _ => none
noncomputable def os : List (FuncId × St × (List Lf → (Res → Option Res) → Option Res)) := [spec_SizeOf.con, spec_NumOk.con]
noncomputable def X (K : Res → Option Res) : Ctx := { Γ := Γ0, orc := orcOf os, io := [], share := [], mvl := [], bun := [], cut := [], own := [], cin := [(0, ⟨[1, 3], [], [1000], [], [], []⟩)], cout := [(0, ⟨[], [], [], [], [], []⟩)], lp := lpOf [(0, s0 0 [] [], p0 K)], kl := [], nk := true, eqs := eqs0, byt := byt0, fin := finK fi K }
noncomputable def b (a1 a2 : List Int) (R : Bool → Option Res) : Option Res :=
  spec_SizeOf.g a1 fun r3 =>
  bif (r3 != (a2.length : Int)) then R false
  else (l0 a1 a2 (
  R true) R fuel 0)
theorem gx : ∃ x : List Int → List Int → (Bool → Option Res) → Option Res, x = b := ⟨_, rfl⟩
noncomputable def g : List Int → List Int → (Bool → Option Res) → Option Res := Classical.choose gx
theorem e : g = b := Classical.choose_spec gx
noncomputable def run : List Lf → (Res → Option Res) → Option Res
  | [.q (.ints a1), .q (.ints a2)], K => g a1 a2 (fun r1 => K (m r1))
  | _, _ => none
noncomputable def a (a1 a2 : List Int) : St := argSt [.v ⟨true, [.tr 0 1 [.int .i64] (.ints a1), .tr 0 1 [.int .i64] (.ints a2)]⟩] [] []
noncomputable def con : FuncId × St × (List Lf → (Res → Option Res) → Option Res) := (31, a [] [], run)
theorem cx (K : Res → Option Res) : CtxOk Go.Proofs.Try.prog Γ0 byt0 eqs0 (X K) os := ⟨rfl, rfl, rfl, (fun p hp => by
  rcases List.mem_cons.1 hp with rfl | hp
  · exact spec_SizeOf.ok
  rcases List.mem_cons.1 hp with rfl | hp
  · exact spec_NumOk.ok
  cases hp), rfl, rfl, rfl, rfl⟩
theorem t0 (K : Res → Option Res) (k : St → Option Res) (it : St → (St → Option Res) → Option Res) (x4 : Int) (x5 x6 : List Int) : iterS (X K) 0 b0 it (s0 x4 x5 x6) k = l0s x5 x6 (fun x4 => it (s0 x4 x5 x6) k) (k (o0 x5 x6)) (fun r1 => K (m r1)) x4 := by kernel_rfl
theorem i0 (K : Res → Option Res) (k : St → Option Res) (x5 x6 : List Int) : ∀ (n : Nat) (x4 : Int), iter (X K) 0 b0 n (s0 x4 x5 x6) k = l0 x5 x6 (k (o0 x5 x6)) (fun r1 => K (m r1)) n x4
  | 0, _ => rfl
  | n + 1, x4 => by
    rw [iter_succ, t0, show (fun x4 => iter (X K) 0 b0 n (s0 x4 x5 x6) k) = (fun x4 => l0 x5 x6 (k (o0 x5 x6)) (fun r1 => K (m r1)) n x4) from funext fun x4 => i0 K k x5 x6 n x4]; rfl
theorem v0 {K : Res → Option Res} {l : List Lf} {k : St → Option Res} {r : Res} (h : p0 K l k = some r) : ∃ x4 x5 x6, l = [.i x4, .q (.ints x5), .q (.ints x6)] ∧ l0 x5 x6 (k (o0 x5 x6)) (fun r1 => K (m r1)) fuel x4 = some r := by
  unfold p0 at h; split at h
  · exact ⟨_, _, _, rfl, h⟩
  · cases h
theorem w0 (K : Res → Option Res) : LpSound Go.Proofs.Try.prog (X K) 0 b0 := lp_ok ((cx K).ok laid) (by rw [show loopsOf b0 = [] from by kernel_rfl]; intro p hp; cases hp) rfl fun p hp hid => by
  rcases List.mem_cons.1 hp with rfl | hp
  · intro st k r h1 h2; obtain ⟨x4, x5, x6, e, h⟩ := v0 (K := K) h2; have := St.like_eq (y := s0 x4 x5 x6) h1 (by kernel_rfl) e; subst this; exact ⟨fuel, (i0 K k x5 x6 fuel x4).trans h⟩
  cases hp
theorem tie (K : Res → Option Res) (a1 a2 : List Int) : exec (X K) c (entry 25 [.v ⟨true, [.tr 0 1 [.int .i64] (.ints a1), .tr 0 1 [.int .i64] (.ints a2)]⟩] [] []) (endK (X K)) = g a1 a2 (fun r1 => K (m r1)) := Eq.trans (b := b a1 a2 (fun r1 => K (m r1))) (by kernel_rfl) (by rw [e])
theorem runv {l : List Lf} {K : Res → Option Res} {r : Res} (h : run l K = some r) : ∃ a1 a2, l = [.q (.ints a1), .q (.ints a2)] ∧ g a1 a2 (fun r1 => K (m r1)) = some r := by
  unfold run at h; split at h
  · exact ⟨_, _, rfl, h⟩
  · cases h
theorem ok : Con Go.Proofs.Try.prog con := con_of (fn := Go.Proofs.Try.f31) (c := c) (Fi := fi) (X := X) (fun_of laid (by kernel_rfl) (by kernel_rfl) (by kernel_rfl) rfl (by kernel_rfl) (by kernel_rfl) cx (fun _ => rfl) (fun _ => rfl) (fun K => by
    rw [show loopsOf c = [(0, b0)] from by kernel_rfl]; intro p hp
    rcases List.mem_cons.1 hp with rfl | hp
    · exact w0 K
    cases hp)) fun xs rows boxes K r hl hr => by
  obtain ⟨a1, a2, e, h⟩ := runv hr
  have := St.like_eq (y := a a1 a2) hl (by kernel_rfl) e
  obtain ⟨rfl, rfl, rfl⟩ := argSt_inj this
  exact (tie K a1 a2).trans h
end spec_ArrayOk
namespace impl_within
noncomputable def c : Code := bodyOf Go.Proofs.Try.f101
noncomputable def fi : Fin := ⟨Γ0, [(.tmp 6, 4)], [[1]], [], [], []⟩
noncomputable def m (r1 : Bool) : Res := ⟨[⟨false, [.bool r1]⟩], [], [], [], []⟩
noncomputable def os : List (FuncId × St × (List Lf → (Res → Option Res) → Option Res)) := []
noncomputable def X (K : Res → Option Res) : Ctx := { Γ := Γ0, orc := orcOf os, io := [], share := [], mvl := [], bun := [], cut := [], own := [], cin := [], cout := [], lp := lpOf [], kl := [], nk := true, eqs := eqs0, byt := byt0, fin := finK fi K }
noncomputable def b (a1 a2 a3 : Int) (R : Bool → Option Res) : Option Res :=
  bif decide (a2 ≤ a1) then R (decide (a1 ≤ a3))
  else R false
theorem gx : ∃ x : Int → Int → Int → (Bool → Option Res) → Option Res, x = b := ⟨_, rfl⟩
noncomputable def g : Int → Int → Int → (Bool → Option Res) → Option Res := Classical.choose gx
theorem e : g = b := Classical.choose_spec gx
noncomputable def run : List Lf → (Res → Option Res) → Option Res
  | [.i a1, .i a2, .i a3], K => g a1 a2 a3 (fun r1 => K (m r1))
  | _, _ => none
noncomputable def a (a1 a2 a3 : Int) : St := argSt [one (.int .i64 a1), one (.int .i64 a2), one (.int .i64 a3)] [] []
noncomputable def con : FuncId × St × (List Lf → (Res → Option Res) → Option Res) := (101, a 0 0 0, run)
theorem cx (K : Res → Option Res) : CtxOk Go.Proofs.Try.prog Γ0 byt0 eqs0 (X K) os := ⟨rfl, rfl, rfl, (fun p hp => by
  cases hp), rfl, rfl, rfl, rfl⟩
theorem tie (K : Res → Option Res) (a1 a2 a3 : Int) : exec (X K) c (entry 15 [one (.int .i64 a1), one (.int .i64 a2), one (.int .i64 a3)] [] []) (endK (X K)) = g a1 a2 a3 (fun r1 => K (m r1)) := Eq.trans (b := b a1 a2 a3 (fun r1 => K (m r1))) (by kernel_rfl) (by rw [e])
theorem runv {l : List Lf} {K : Res → Option Res} {r : Res} (h : run l K = some r) : ∃ a1 a2 a3, l = [.i a1, .i a2, .i a3] ∧ g a1 a2 a3 (fun r1 => K (m r1)) = some r := by
  unfold run at h; split at h
  · exact ⟨_, _, _, rfl, h⟩
  · cases h
theorem ok : Con Go.Proofs.Try.prog con := con_of (fn := Go.Proofs.Try.f101) (c := c) (Fi := fi) (X := X) (fun_of laid (by kernel_rfl) (by kernel_rfl) (by kernel_rfl) rfl (by kernel_rfl) (by kernel_rfl) cx (fun _ => rfl) (fun _ => rfl) (fun K => by
    rw [show loopsOf c = [] from by kernel_rfl]; intro p hp
    cases hp)) fun xs rows boxes K r hl hr => by
  obtain ⟨a1, a2, a3, e, h⟩ := runv hr
  have := St.like_eq (y := a a1 a2 a3) hl (by kernel_rfl) e
  obtain ⟨rfl, rfl, rfl⟩ := argSt_inj this
  exact (tie K a1 a2 a3).trans h
end impl_within
namespace impl_SizeOf
noncomputable def c : Code := bodyOf Go.Proofs.Try.f70
noncomputable def fi : Fin := ⟨Γ0, [(.tmp 2, 3)], [[1]], [], [], []⟩
noncomputable def m (r1 : Int) : Res := ⟨[⟨false, [.int .i64 r1]⟩], [], [], [], []⟩
noncomputable def b0 : Code := codeAt c [1, 1, 1, 0, 1, 0, 0]
noncomputable def s0 (x2 : Int) (x3 : List Int) (x4 x5 : Int) : St := ⟨mkT 25 [(3, one (.int .i64 x2)), (9, one (.tr 0 1 [.int .i64] (.ints x3))), (10, one (.int .i64 x4)), (11, one (.int .i64 x5))], [], []⟩
noncomputable def l0s (x3 : List Int) (x4 : Int) (rec : Int → Int → Option Res) (k : Int → Option Res) (R : Int → Option Res) (x2 x5 : Int) : Option Res :=
  bif decide (x5 < x4) then (bif decide (0 ≤ x5) && decide (x5 < (x3.length : Int)) then (impl_within.g (x3.getD x5.toNat 0) 0 300 fun r6 =>
      bif !r6 then R (-1)
      else rec (IntKind.i64.wrap (x2 * (x3.getD x5.toNat 0))) (IntKind.i64.wrap (x5 + 1)))
    else none)
  else k x2
noncomputable def l0 (x3 : List Int) (x4 : Int) (k : Int → Option Res) (R : Int → Option Res) : Nat → Int → Int → Option Res
  | 0, _, _ => none
  | n + 1, x2, x5 => l0s x3 x4 (fun x2 x5 => l0 x3 x4 k R n x2 x5) k R x2 x5
noncomputable def o0 (x3 : List Int) (x4 y1 : Int) : St := ⟨mkT 25 [(3, one (.int .i64 y1))], [], []⟩
noncomputable def p0 (K : Res → Option Res) : List Lf → (St → Option Res) → Option Res
  | [.i x2, .q (.ints x3), .i x4, .i x5], k => l0 x3 x4 (fun y1 => k (o0 x3 x4 y1)) (fun r1 => K (m r1)) fuel x2 x5
  | _, _ => none
noncomputable def os : List (FuncId × St × (List Lf → (Res → Option Res) → Option Res)) := [impl_within.con]
noncomputable def X (K : Res → Option Res) : Ctx := { Γ := Γ0, orc := orcOf os, io := [], share := [], mvl := [], bun := [], cut := [], own := [], cin := [(0, ⟨[3, 9, 10, 11], [], [], [], [], []⟩)], cout := [(0, ⟨[3], [], [], [], [], []⟩)], lp := lpOf [(0, s0 0 [] 0 0, p0 K)], kl := [], nk := true, eqs := eqs0, byt := byt0, fin := finK fi K }
noncomputable def b (a1 : List Int) (R : Int → Option Res) : Option Res :=
  bif decide (3 < (a1.length : Int)) then R (-1)
  else (l0 a1 (a1.length : Int) (fun y7 => 
  bif decide (300 < y7) then R (-1)
  else R y7) R fuel 1 0)
theorem gx : ∃ x : List Int → (Int → Option Res) → Option Res, x = b := ⟨_, rfl⟩
noncomputable def g : List Int → (Int → Option Res) → Option Res := Classical.choose gx
theorem e : g = b := Classical.choose_spec gx
noncomputable def run : List Lf → (Res → Option Res) → Option Res
  | [.q (.ints a1)], K => g a1 (fun r1 => K (m r1))
  | _, _ => none
noncomputable def a (a1 : List Int) : St := argSt [one (.tr 0 1 [.int .i64] (.ints a1))] [] []
noncomputable def con : FuncId × St × (List Lf → (Res → Option Res) → Option Res) := (70, a [], run)
theorem cx (K : Res → Option Res) : CtxOk Go.Proofs.Try.prog Γ0 byt0 eqs0 (X K) os := ⟨rfl, rfl, rfl, (fun p hp => by
  rcases List.mem_cons.1 hp with rfl | hp
  · exact impl_within.ok
  cases hp), rfl, rfl, rfl, rfl⟩
theorem t0 (K : Res → Option Res) (k : St → Option Res) (it : St → (St → Option Res) → Option Res) (x2 : Int) (x3 : List Int) (x4 x5 : Int) : iterS (X K) 0 b0 it (s0 x2 x3 x4 x5) k = l0s x3 x4 (fun x2 x5 => it (s0 x2 x3 x4 x5) k) (fun y1 => k (o0 x3 x4 y1)) (fun r1 => K (m r1)) x2 x5 := by kernel_rfl
theorem i0 (K : Res → Option Res) (k : St → Option Res) (x3 : List Int) (x4 : Int) : ∀ (n : Nat) (x2 x5 : Int), iter (X K) 0 b0 n (s0 x2 x3 x4 x5) k = l0 x3 x4 (fun y1 => k (o0 x3 x4 y1)) (fun r1 => K (m r1)) n x2 x5
  | 0, _, _ => rfl
  | n + 1, x2, x5 => by
    rw [iter_succ, t0, show (fun x2 x5 => iter (X K) 0 b0 n (s0 x2 x3 x4 x5) k) = (fun x2 x5 => l0 x3 x4 (fun y1 => k (o0 x3 x4 y1)) (fun r1 => K (m r1)) n x2 x5) from funext fun x2 => funext fun x5 => i0 K k x3 x4 n x2 x5]; rfl
theorem v0 {K : Res → Option Res} {l : List Lf} {k : St → Option Res} {r : Res} (h : p0 K l k = some r) : ∃ x2 x3 x4 x5, l = [.i x2, .q (.ints x3), .i x4, .i x5] ∧ l0 x3 x4 (fun y1 => k (o0 x3 x4 y1)) (fun r1 => K (m r1)) fuel x2 x5 = some r := by
  unfold p0 at h; split at h
  · exact ⟨_, _, _, _, rfl, h⟩
  · cases h
theorem w0 (K : Res → Option Res) : LpSound Go.Proofs.Try.prog (X K) 0 b0 := lp_ok ((cx K).ok laid) (by rw [show loopsOf b0 = [] from by kernel_rfl]; intro p hp; cases hp) rfl fun p hp hid => by
  rcases List.mem_cons.1 hp with rfl | hp
  · intro st k r h1 h2; obtain ⟨x2, x3, x4, x5, e, h⟩ := v0 (K := K) h2; have := St.like_eq (y := s0 x2 x3 x4 x5) h1 (by kernel_rfl) e; subst this; exact ⟨fuel, (i0 K k x3 x4 fuel x2 x5).trans h⟩
  cases hp
theorem tie (K : Res → Option Res) (a1 : List Int) : exec (X K) c (entry 25 [one (.tr 0 1 [.int .i64] (.ints a1))] [] []) (endK (X K)) = g a1 (fun r1 => K (m r1)) := Eq.trans (b := b a1 (fun r1 => K (m r1))) (by kernel_rfl) (by rw [e])
theorem runv {l : List Lf} {K : Res → Option Res} {r : Res} (h : run l K = some r) : ∃ a1, l = [.q (.ints a1)] ∧ g a1 (fun r1 => K (m r1)) = some r := by
  unfold run at h; split at h
  · exact ⟨_, rfl, h⟩
  · cases h
theorem ok : Con Go.Proofs.Try.prog con := con_of (fn := Go.Proofs.Try.f70) (c := c) (Fi := fi) (X := X) (fun_of laid (by kernel_rfl) (by kernel_rfl) (by kernel_rfl) rfl (by kernel_rfl) (by kernel_rfl) cx (fun _ => rfl) (fun _ => rfl) (fun K => by
    rw [show loopsOf c = [(0, b0)] from by kernel_rfl]; intro p hp
    rcases List.mem_cons.1 hp with rfl | hp
    · exact w0 K
    cases hp)) fun xs rows boxes K r hl hr => by
  obtain ⟨a1, e, h⟩ := runv hr
  have := St.like_eq (y := a a1) hl (by kernel_rfl) e
  obtain ⟨rfl, rfl, rfl⟩ := argSt_inj this
  exact (tie K a1).trans h
end impl_SizeOf
namespace impl_NumOk
noncomputable def c : Code := bodyOf Go.Proofs.Try.f94
noncomputable def fi : Fin := ⟨Γ0, [(.tmp 2, 4)], [[1]], [], [], []⟩
noncomputable def m (r1 : Bool) : Res := ⟨[⟨false, [.bool r1]⟩], [], [], [], []⟩
noncomputable def os : List (FuncId × St × (List Lf → (Res → Option Res) → Option Res)) := [impl_within.con]
noncomputable def X (K : Res → Option Res) : Ctx := { Γ := Γ0, orc := orcOf os, io := [], share := [], mvl := [], bun := [], cut := [], own := [], cin := [], cout := [], lp := lpOf [], kl := [], nk := true, eqs := eqs0, byt := byt0, fin := finK fi K }
noncomputable def b (a1 : Int) (R : Bool → Option Res) : Option Res :=
  impl_within.g a1 (-1000000000000) 1000000000000 fun r2 =>
  R r2
theorem gx : ∃ x : Int → (Bool → Option Res) → Option Res, x = b := ⟨_, rfl⟩
noncomputable def g : Int → (Bool → Option Res) → Option Res := Classical.choose gx
theorem e : g = b := Classical.choose_spec gx
noncomputable def run : List Lf → (Res → Option Res) → Option Res
  | [.i a1], K => g a1 (fun r1 => K (m r1))
  | _, _ => none
noncomputable def a (a1 : Int) : St := argSt [one (.int .i64 a1)] [] []
noncomputable def con : FuncId × St × (List Lf → (Res → Option Res) → Option Res) := (94, a 0, run)
theorem cx (K : Res → Option Res) : CtxOk Go.Proofs.Try.prog Γ0 byt0 eqs0 (X K) os := ⟨rfl, rfl, rfl, (fun p hp => by
  rcases List.mem_cons.1 hp with rfl | hp
  · exact impl_within.ok
  cases hp), rfl, rfl, rfl, rfl⟩
theorem tie (K : Res → Option Res) (a1 : Int) : exec (X K) c (entry 5 [one (.int .i64 a1)] [] []) (endK (X K)) = g a1 (fun r1 => K (m r1)) := Eq.trans (b := b a1 (fun r1 => K (m r1))) (by kernel_rfl) (by rw [e])
theorem runv {l : List Lf} {K : Res → Option Res} {r : Res} (h : run l K = some r) : ∃ a1, l = [.i a1] ∧ g a1 (fun r1 => K (m r1)) = some r := by
  unfold run at h; split at h
  · exact ⟨_, rfl, h⟩
  · cases h
theorem ok : Con Go.Proofs.Try.prog con := con_of (fn := Go.Proofs.Try.f94) (c := c) (Fi := fi) (X := X) (fun_of laid (by kernel_rfl) (by kernel_rfl) (by kernel_rfl) rfl (by kernel_rfl) (by kernel_rfl) cx (fun _ => rfl) (fun _ => rfl) (fun K => by
    rw [show loopsOf c = [] from by kernel_rfl]; intro p hp
    cases hp)) fun xs rows boxes K r hl hr => by
  obtain ⟨a1, e, h⟩ := runv hr
  have := St.like_eq (y := a a1) hl (by kernel_rfl) e
  obtain ⟨rfl, rfl, rfl⟩ := argSt_inj this
  exact (tie K a1).trans h
end impl_NumOk
namespace impl_ArrayOk_1
noncomputable def c : Code := bodyOf Go.Proofs.Try.f93
noncomputable def fi : Fin := ⟨Γ0, [(.tmp 2, 4)], [[1]], [], [], []⟩
noncomputable def m (r1 : Bool) : Res := ⟨[⟨false, [.bool r1]⟩], [], [], [], []⟩
noncomputable def os : List (FuncId × St × (List Lf → (Res → Option Res) → Option Res)) := [impl_NumOk.con]
noncomputable def X (K : Res → Option Res) : Ctx := { Γ := Γ0, orc := orcOf os, io := [], share := [], mvl := [], bun := [], cut := [], own := [], cin := [], cout := [], lp := lpOf [], kl := [], nk := true, eqs := eqs0, byt := byt0, fin := finK fi K }
noncomputable def b (a1 : Int) (R : Bool → Option Res) : Option Res :=
  impl_NumOk.g a1 fun r2 =>
  R (!r2)
theorem gx : ∃ x : Int → (Bool → Option Res) → Option Res, x = b := ⟨_, rfl⟩
noncomputable def g : Int → (Bool → Option Res) → Option Res := Classical.choose gx
theorem e : g = b := Classical.choose_spec gx
noncomputable def run : List Lf → (Res → Option Res) → Option Res
  | [.i a1], K => g a1 (fun r1 => K (m r1))
  | _, _ => none
noncomputable def a (a1 : Int) : St := argSt [one (.int .i64 a1)] [] []
noncomputable def con : FuncId × St × (List Lf → (Res → Option Res) → Option Res) := (93, a 0, run)
theorem cx (K : Res → Option Res) : CtxOk Go.Proofs.Try.prog Γ0 byt0 eqs0 (X K) os := ⟨rfl, rfl, rfl, (fun p hp => by
  rcases List.mem_cons.1 hp with rfl | hp
  · exact impl_NumOk.ok
  cases hp), rfl, rfl, rfl, rfl⟩
theorem tie (K : Res → Option Res) (a1 : Int) : exec (X K) c (entry 6 [one (.int .i64 a1)] [] []) (endK (X K)) = g a1 (fun r1 => K (m r1)) := Eq.trans (b := b a1 (fun r1 => K (m r1))) (by kernel_rfl) (by rw [e])
theorem runv {l : List Lf} {K : Res → Option Res} {r : Res} (h : run l K = some r) : ∃ a1, l = [.i a1] ∧ g a1 (fun r1 => K (m r1)) = some r := by
  unfold run at h; split at h
  · exact ⟨_, rfl, h⟩
  · cases h
theorem ok : Con Go.Proofs.Try.prog con := con_of (fn := Go.Proofs.Try.f93) (c := c) (Fi := fi) (X := X) (fun_of laid (by kernel_rfl) (by kernel_rfl) (by kernel_rfl) rfl (by kernel_rfl) (by kernel_rfl) cx (fun _ => rfl) (fun _ => rfl) (fun K => by
    rw [show loopsOf c = [] from by kernel_rfl]; intro p hp
    cases hp)) fun xs rows boxes K r hl hr => by
  obtain ⟨a1, e, h⟩ := runv hr
  have := St.like_eq (y := a a1) hl (by kernel_rfl) e
  obtain ⟨rfl, rfl, rfl⟩ := argSt_inj this
  exact (tie K a1).trans h
end impl_ArrayOk_1
namespace slices_IndexFunc_int_int
noncomputable def c : Code := bodyOf Go.Proofs.Try.f133
noncomputable def fi : Fin := ⟨Γ0, [(.tmp 4, 3)], [[1]], [], [], []⟩
noncomputable def m (r1 : Int) : Res := ⟨[⟨false, [.int .i64 r1]⟩], [], [], [], []⟩
noncomputable def b0 : Code := codeAt c [1, 0, 1, 0, 0]
noncomputable def s0 (x2 : List Int) (x3 x4 : Int) : St := ⟨mkT 19 [(0, one (.tr 0 1 [.int .i64] (.ints x2))), (1, one (.fn 93 [])), (7, one (.int .i64 x3)), (8, one (.int .i64 x4))], [], []⟩
noncomputable def l0s (x2 : List Int) (x3 : Int) (rec : Int → Option Res) (k : Option Res) (R : Int → Option Res) (x4 : Int) : Option Res :=
  bif decide (x4 < x3) then (bif decide (0 ≤ x4) && decide (x4 < (x2.length : Int)) then (impl_ArrayOk_1.g (x2.getD x4.toNat 0) fun r5 =>
      bif r5 then R x4
      else rec (IntKind.i64.wrap (x4 + 1)))
    else none)
  else k
noncomputable def l0 (x2 : List Int) (x3 : Int) (k : Option Res) (R : Int → Option Res) : Nat → Int → Option Res
  | 0, _ => none
  | n + 1, x4 => l0s x2 x3 (fun x4 => l0 x2 x3 k R n x4) k R x4
noncomputable def o0 (x2 : List Int) (x3 : Int) : St := ⟨mkT 19 [], [], []⟩
noncomputable def p0 (K : Res → Option Res) : List Lf → (St → Option Res) → Option Res
  | [.q (.ints x2), .i x3, .i x4], k => l0 x2 x3 (k (o0 x2 x3)) (fun r1 => K (m r1)) fuel x4
  | _, _ => none
noncomputable def os : List (FuncId × St × (List Lf → (Res → Option Res) → Option Res)) := [impl_ArrayOk_1.con]
noncomputable def X (K : Res → Option Res) : Ctx := { Γ := Γ0, orc := orcOf os, io := [], share := [], mvl := [], bun := [], cut := [], own := [], cin := [(0, ⟨[0, 1, 7, 8], [], [], [], [], []⟩)], cout := [(0, ⟨[], [], [], [], [], []⟩)], lp := lpOf [(0, s0 [] 0 0, p0 K)], kl := [], nk := true, eqs := eqs0, byt := byt0, fin := finK fi K }
noncomputable def b (a1 : List Int) (R : Int → Option Res) : Option Res :=
  l0 a1 (a1.length : Int) (
  R (-1)) R fuel 0
theorem gx : ∃ x : List Int → (Int → Option Res) → Option Res, x = b := ⟨_, rfl⟩
noncomputable def g : List Int → (Int → Option Res) → Option Res := Classical.choose gx
theorem e : g = b := Classical.choose_spec gx
noncomputable def run : List Lf → (Res → Option Res) → Option Res
  | [.q (.ints a1)], K => g a1 (fun r1 => K (m r1))
  | _, _ => none
noncomputable def a (a1 : List Int) : St := argSt [one (.tr 0 1 [.int .i64] (.ints a1)), one (.fn 93 [])] [] []
noncomputable def con : FuncId × St × (List Lf → (Res → Option Res) → Option Res) := (133, a [], run)
theorem cx (K : Res → Option Res) : CtxOk Go.Proofs.Try.prog Γ0 byt0 eqs0 (X K) os := ⟨rfl, rfl, rfl, (fun p hp => by
  rcases List.mem_cons.1 hp with rfl | hp
  · exact impl_ArrayOk_1.ok
  cases hp), rfl, rfl, rfl, rfl⟩
theorem t0 (K : Res → Option Res) (k : St → Option Res) (it : St → (St → Option Res) → Option Res) (x2 : List Int) (x3 x4 : Int) : iterS (X K) 0 b0 it (s0 x2 x3 x4) k = l0s x2 x3 (fun x4 => it (s0 x2 x3 x4) k) (k (o0 x2 x3)) (fun r1 => K (m r1)) x4 := by kernel_rfl
theorem i0 (K : Res → Option Res) (k : St → Option Res) (x2 : List Int) (x3 : Int) : ∀ (n : Nat) (x4 : Int), iter (X K) 0 b0 n (s0 x2 x3 x4) k = l0 x2 x3 (k (o0 x2 x3)) (fun r1 => K (m r1)) n x4
  | 0, _ => rfl
  | n + 1, x4 => by
    rw [iter_succ, t0, show (fun x4 => iter (X K) 0 b0 n (s0 x2 x3 x4) k) = (fun x4 => l0 x2 x3 (k (o0 x2 x3)) (fun r1 => K (m r1)) n x4) from funext fun x4 => i0 K k x2 x3 n x4]; rfl
theorem v0 {K : Res → Option Res} {l : List Lf} {k : St → Option Res} {r : Res} (h : p0 K l k = some r) : ∃ x2 x3 x4, l = [.q (.ints x2), .i x3, .i x4] ∧ l0 x2 x3 (k (o0 x2 x3)) (fun r1 => K (m r1)) fuel x4 = some r := by
  unfold p0 at h; split at h
  · exact ⟨_, _, _, rfl, h⟩
  · cases h
theorem w0 (K : Res → Option Res) : LpSound Go.Proofs.Try.prog (X K) 0 b0 := lp_ok ((cx K).ok laid) (by rw [show loopsOf b0 = [] from by kernel_rfl]; intro p hp; cases hp) rfl fun p hp hid => by
  rcases List.mem_cons.1 hp with rfl | hp
  · intro st k r h1 h2; obtain ⟨x2, x3, x4, e, h⟩ := v0 (K := K) h2; have := St.like_eq (y := s0 x2 x3 x4) h1 (by kernel_rfl) e; subst this; exact ⟨fuel, (i0 K k x2 x3 fuel x4).trans h⟩
  cases hp
theorem tie (K : Res → Option Res) (a1 : List Int) : exec (X K) c (entry 19 [one (.tr 0 1 [.int .i64] (.ints a1)), one (.fn 93 [])] [] []) (endK (X K)) = g a1 (fun r1 => K (m r1)) := Eq.trans (b := b a1 (fun r1 => K (m r1))) (by kernel_rfl) (by rw [e])
theorem runv {l : List Lf} {K : Res → Option Res} {r : Res} (h : run l K = some r) : ∃ a1, l = [.q (.ints a1)] ∧ g a1 (fun r1 => K (m r1)) = some r := by
  unfold run at h; split at h
  · exact ⟨_, rfl, h⟩
  · cases h
theorem ok : Con Go.Proofs.Try.prog con := con_of (fn := Go.Proofs.Try.f133) (c := c) (Fi := fi) (X := X) (fun_of laid (by kernel_rfl) (by kernel_rfl) (by kernel_rfl) rfl (by kernel_rfl) (by kernel_rfl) cx (fun _ => rfl) (fun _ => rfl) (fun K => by
    rw [show loopsOf c = [(0, b0)] from by kernel_rfl]; intro p hp
    rcases List.mem_cons.1 hp with rfl | hp
    · exact w0 K
    cases hp)) fun xs rows boxes K r hl hr => by
  obtain ⟨a1, e, h⟩ := runv hr
  have := St.like_eq (y := a a1) hl (by kernel_rfl) e
  obtain ⟨rfl, rfl, rfl⟩ := argSt_inj this
  exact (tie K a1).trans h
end slices_IndexFunc_int_int
namespace slices_ContainsFunc_int_int
noncomputable def c : Code := bodyOf Go.Proofs.Try.f92
noncomputable def fi : Fin := ⟨Γ0, [(.tmp 4, 4)], [[1]], [], [], []⟩
noncomputable def m (r1 : Bool) : Res := ⟨[⟨false, [.bool r1]⟩], [], [], [], []⟩
noncomputable def os : List (FuncId × St × (List Lf → (Res → Option Res) → Option Res)) := [slices_IndexFunc_int_int.con]
noncomputable def X (K : Res → Option Res) : Ctx := { Γ := Γ0, orc := orcOf os, io := [], share := [], mvl := [], bun := [], cut := [], own := [], cin := [], cout := [], lp := lpOf [], kl := [], nk := true, eqs := eqs0, byt := byt0, fin := finK fi K }
noncomputable def b (a1 : List Int) (R : Bool → Option Res) : Option Res :=
  slices_IndexFunc_int_int.g a1 fun r2 =>
  R (decide (0 ≤ r2))
theorem gx : ∃ x : List Int → (Bool → Option Res) → Option Res, x = b := ⟨_, rfl⟩
noncomputable def g : List Int → (Bool → Option Res) → Option Res := Classical.choose gx
theorem e : g = b := Classical.choose_spec gx
noncomputable def run : List Lf → (Res → Option Res) → Option Res
  | [.q (.ints a1)], K => g a1 (fun r1 => K (m r1))
  | _, _ => none
noncomputable def a (a1 : List Int) : St := argSt [one (.tr 0 1 [.int .i64] (.ints a1)), one (.fn 93 [])] [] []
noncomputable def con : FuncId × St × (List Lf → (Res → Option Res) → Option Res) := (92, a [], run)
theorem cx (K : Res → Option Res) : CtxOk Go.Proofs.Try.prog Γ0 byt0 eqs0 (X K) os := ⟨rfl, rfl, rfl, (fun p hp => by
  rcases List.mem_cons.1 hp with rfl | hp
  · exact slices_IndexFunc_int_int.ok
  cases hp), rfl, rfl, rfl, rfl⟩
theorem tie (K : Res → Option Res) (a1 : List Int) : exec (X K) c (entry 9 [one (.tr 0 1 [.int .i64] (.ints a1)), one (.fn 93 [])] [] []) (endK (X K)) = g a1 (fun r1 => K (m r1)) := Eq.trans (b := b a1 (fun r1 => K (m r1))) (by kernel_rfl) (by rw [e])
theorem runv {l : List Lf} {K : Res → Option Res} {r : Res} (h : run l K = some r) : ∃ a1, l = [.q (.ints a1)] ∧ g a1 (fun r1 => K (m r1)) = some r := by
  unfold run at h; split at h
  · exact ⟨_, rfl, h⟩
  · cases h
theorem ok : Con Go.Proofs.Try.prog con := con_of (fn := Go.Proofs.Try.f92) (c := c) (Fi := fi) (X := X) (fun_of laid (by kernel_rfl) (by kernel_rfl) (by kernel_rfl) rfl (by kernel_rfl) (by kernel_rfl) cx (fun _ => rfl) (fun _ => rfl) (fun K => by
    rw [show loopsOf c = [] from by kernel_rfl]; intro p hp
    cases hp)) fun xs rows boxes K r hl hr => by
  obtain ⟨a1, e, h⟩ := runv hr
  have := St.like_eq (y := a a1) hl (by kernel_rfl) e
  obtain ⟨rfl, rfl, rfl⟩ := argSt_inj this
  exact (tie K a1).trans h
end slices_ContainsFunc_int_int
namespace impl_ArrayOk
noncomputable def c : Code := bodyOf Go.Proofs.Try.f32
noncomputable def fi : Fin := ⟨Γ0, [(.tmp 2, 4)], [[1]], [], [], []⟩
noncomputable def m (r1 : Bool) : Res := ⟨[⟨false, [.bool r1]⟩], [], [], [], []⟩
noncomputable def os : List (FuncId × St × (List Lf → (Res → Option Res) → Option Res)) := [impl_SizeOf.con, slices_ContainsFunc_int_int.con]
noncomputable def X (K : Res → Option Res) : Ctx := { Γ := Γ0, orc := orcOf os, io := [], share := [], mvl := [], bun := [], cut := [], own := [], cin := [], cout := [], lp := lpOf [], kl := [], nk := true, eqs := eqs0, byt := byt0, fin := finK fi K }
noncomputable def b (a1 a2 : List Int) (R : Bool → Option Res) : Option Res :=
  impl_SizeOf.g a1 fun r3 =>
  bif ((a2.length : Int) == r3) then (slices_ContainsFunc_int_int.g a2 fun r4 =>
    R (!r4))
  else R false
theorem gx : ∃ x : List Int → List Int → (Bool → Option Res) → Option Res, x = b := ⟨_, rfl⟩
noncomputable def g : List Int → List Int → (Bool → Option Res) → Option Res := Classical.choose gx
theorem e : g = b := Classical.choose_spec gx
noncomputable def run : List Lf → (Res → Option Res) → Option Res
  | [.q (.ints a1), .q (.ints a2)], K => g a1 a2 (fun r1 => K (m r1))
  | _, _ => none
noncomputable def a (a1 a2 : List Int) : St := argSt [.v ⟨true, [.tr 0 1 [.int .i64] (.ints a1), .tr 0 1 [.int .i64] (.ints a2)]⟩] [] []
noncomputable def con : FuncId × St × (List Lf → (Res → Option Res) → Option Res) := (32, a [] [], run)
theorem cx (K : Res → Option Res) : CtxOk Go.Proofs.Try.prog Γ0 byt0 eqs0 (X K) os := ⟨rfl, rfl, rfl, (fun p hp => by
  rcases List.mem_cons.1 hp with rfl | hp
  · exact impl_SizeOf.ok
  rcases List.mem_cons.1 hp with rfl | hp
  · exact slices_ContainsFunc_int_int.ok
  cases hp), rfl, rfl, rfl, rfl⟩
theorem tie (K : Res → Option Res) (a1 a2 : List Int) : exec (X K) c (entry 16 [.v ⟨true, [.tr 0 1 [.int .i64] (.ints a1), .tr 0 1 [.int .i64] (.ints a2)]⟩] [] []) (endK (X K)) = g a1 a2 (fun r1 => K (m r1)) := Eq.trans (b := b a1 a2 (fun r1 => K (m r1))) (by kernel_rfl) (by rw [e])
theorem runv {l : List Lf} {K : Res → Option Res} {r : Res} (h : run l K = some r) : ∃ a1 a2, l = [.q (.ints a1), .q (.ints a2)] ∧ g a1 a2 (fun r1 => K (m r1)) = some r := by
  unfold run at h; split at h
  · exact ⟨_, _, rfl, h⟩
  · cases h
theorem ok : Con Go.Proofs.Try.prog con := con_of (fn := Go.Proofs.Try.f32) (c := c) (Fi := fi) (X := X) (fun_of laid (by kernel_rfl) (by kernel_rfl) (by kernel_rfl) rfl (by kernel_rfl) (by kernel_rfl) cx (fun _ => rfl) (fun _ => rfl) (fun K => by
    rw [show loopsOf c = [] from by kernel_rfl]; intro p hp
    cases hp)) fun xs rows boxes K r hl hr => by
  obtain ⟨a1, a2, e, h⟩ := runv hr
  have := St.like_eq (y := a a1 a2) hl (by kernel_rfl) e
  obtain ⟨rfl, rfl, rfl⟩ := argSt_inj this
  exact (tie K a1 a2).trans h
end impl_ArrayOk
namespace laws_eqIntS
noncomputable def c : Code := bodyOf Go.Proofs.Try.f72
noncomputable def fi : Fin := ⟨Γ0, [(.tmp 4, 4)], [[1]], [], [], []⟩
noncomputable def m (r1 : Bool) : Res := ⟨[⟨false, [.bool r1]⟩], [], [], [], []⟩
noncomputable def b0 : Code := codeAt c [1, 1, 0, 1, 0, 0]
noncomputable def s0 (x3 x4 : List Int) (x5 : Int) : St := ⟨mkT 26 [(0, one (.tr 0 1 [.int .i64] (.ints x3))), (1, one (.tr 0 1 [.int .i64] (.ints x4))), (5, one (.int .i64 x5))], [], []⟩
noncomputable def l0s (x3 x4 : List Int) (rec : Int → Option Res) (k : Option Res) (R : Bool → Option Res) (x5 : Int) : Option Res :=
  bif decide (x5 < (x3.length : Int)) then (bif decide (0 ≤ x5) && decide (x5 < (x3.length : Int)) then (bif decide (0 ≤ x5) && decide (x5 < (x4.length : Int)) then (bif (x3.getD x5.toNat 0 != x4.getD x5.toNat 0) then R false
        else rec (IntKind.i64.wrap (x5 + 1)))
      else none)
    else none)
  else k
noncomputable def l0 (x3 x4 : List Int) (k : Option Res) (R : Bool → Option Res) : Nat → Int → Option Res
  | 0, _ => none
  | n + 1, x5 => l0s x3 x4 (fun x5 => l0 x3 x4 k R n x5) k R x5
noncomputable def o0 (x3 x4 : List Int) : St := ⟨mkT 26 [], [], []⟩
noncomputable def p0 (K : Res → Option Res) : List Lf → (St → Option Res) → Option Res
  | [.q (.ints x3), .q (.ints x4), .i x5], k => l0 x3 x4 (k (o0 x3 x4)) (fun r1 => K (m r1)) fuel x5
  | _, _ => none
noncomputable def os : List (FuncId × St × (List Lf → (Res → Option Res) → Option Res)) := []
noncomputable def X (K : Res → Option Res) : Ctx := { Γ := Γ0, orc := orcOf os, io := [], share := [], mvl := [], bun := [], cut := [], own := [], cin := [(0, ⟨[0, 1, 5], [], [], [], [], []⟩)], cout := [(0, ⟨[], [], [], [], [], []⟩)], lp := lpOf [(0, s0 [] [] 0, p0 K)], kl := [], nk := true, eqs := eqs0, byt := byt0, fin := finK fi K }
noncomputable def b (a1 a2 : List Int) (R : Bool → Option Res) : Option Res :=
  bif ((a1.length : Int) != (a2.length : Int)) then R false
  else (l0 a1 a2 (
  R true) R fuel 0)
theorem gx : ∃ x : List Int → List Int → (Bool → Option Res) → Option Res, x = b := ⟨_, rfl⟩
noncomputable def g : List Int → List Int → (Bool → Option Res) → Option Res := Classical.choose gx
theorem e : g = b := Classical.choose_spec gx
noncomputable def run : List Lf → (Res → Option Res) → Option Res
  | [.q (.ints a1), .q (.ints a2)], K => g a1 a2 (fun r1 => K (m r1))
  | _, _ => none
noncomputable def a (a1 a2 : List Int) : St := argSt [one (.tr 0 1 [.int .i64] (.ints a1)), one (.tr 0 1 [.int .i64] (.ints a2))] [] []
noncomputable def con : FuncId × St × (List Lf → (Res → Option Res) → Option Res) := (72, a [] [], run)
theorem cx (K : Res → Option Res) : CtxOk Go.Proofs.Try.prog Γ0 byt0 eqs0 (X K) os := ⟨rfl, rfl, rfl, (fun p hp => by
  cases hp), rfl, rfl, rfl, rfl⟩
theorem t0 (K : Res → Option Res) (k : St → Option Res) (it : St → (St → Option Res) → Option Res) (x3 x4 : List Int) (x5 : Int) : iterS (X K) 0 b0 it (s0 x3 x4 x5) k = l0s x3 x4 (fun x5 => it (s0 x3 x4 x5) k) (k (o0 x3 x4)) (fun r1 => K (m r1)) x5 := by kernel_rfl
theorem i0 (K : Res → Option Res) (k : St → Option Res) (x3 x4 : List Int) : ∀ (n : Nat) (x5 : Int), iter (X K) 0 b0 n (s0 x3 x4 x5) k = l0 x3 x4 (k (o0 x3 x4)) (fun r1 => K (m r1)) n x5
  | 0, _ => rfl
  | n + 1, x5 => by
    rw [iter_succ, t0, show (fun x5 => iter (X K) 0 b0 n (s0 x3 x4 x5) k) = (fun x5 => l0 x3 x4 (k (o0 x3 x4)) (fun r1 => K (m r1)) n x5) from funext fun x5 => i0 K k x3 x4 n x5]; rfl
theorem v0 {K : Res → Option Res} {l : List Lf} {k : St → Option Res} {r : Res} (h : p0 K l k = some r) : ∃ x3 x4 x5, l = [.q (.ints x3), .q (.ints x4), .i x5] ∧ l0 x3 x4 (k (o0 x3 x4)) (fun r1 => K (m r1)) fuel x5 = some r := by
  unfold p0 at h; split at h
  · exact ⟨_, _, _, rfl, h⟩
  · cases h
theorem w0 (K : Res → Option Res) : LpSound Go.Proofs.Try.prog (X K) 0 b0 := lp_ok ((cx K).ok laid) (by rw [show loopsOf b0 = [] from by kernel_rfl]; intro p hp; cases hp) rfl fun p hp hid => by
  rcases List.mem_cons.1 hp with rfl | hp
  · intro st k r h1 h2; obtain ⟨x3, x4, x5, e, h⟩ := v0 (K := K) h2; have := St.like_eq (y := s0 x3 x4 x5) h1 (by kernel_rfl) e; subst this; exact ⟨fuel, (i0 K k x3 x4 fuel x5).trans h⟩
  cases hp
theorem tie (K : Res → Option Res) (a1 a2 : List Int) : exec (X K) c (entry 26 [one (.tr 0 1 [.int .i64] (.ints a1)), one (.tr 0 1 [.int .i64] (.ints a2))] [] []) (endK (X K)) = g a1 a2 (fun r1 => K (m r1)) := Eq.trans (b := b a1 a2 (fun r1 => K (m r1))) (by kernel_rfl) (by rw [e])
theorem runv {l : List Lf} {K : Res → Option Res} {r : Res} (h : run l K = some r) : ∃ a1 a2, l = [.q (.ints a1), .q (.ints a2)] ∧ g a1 a2 (fun r1 => K (m r1)) = some r := by
  unfold run at h; split at h
  · exact ⟨_, _, rfl, h⟩
  · cases h
theorem ok : Con Go.Proofs.Try.prog con := con_of (fn := Go.Proofs.Try.f72) (c := c) (Fi := fi) (X := X) (fun_of laid (by kernel_rfl) (by kernel_rfl) (by kernel_rfl) rfl (by kernel_rfl) (by kernel_rfl) cx (fun _ => rfl) (fun _ => rfl) (fun K => by
    rw [show loopsOf c = [(0, b0)] from by kernel_rfl]; intro p hp
    rcases List.mem_cons.1 hp with rfl | hp
    · exact w0 K
    cases hp)) fun xs rows boxes K r hl hr => by
  obtain ⟨a1, a2, e, h⟩ := runv hr
  have := St.like_eq (y := a a1 a2) hl (by kernel_rfl) e
  obtain ⟨rfl, rfl, rfl⟩ := argSt_inj this
  exact (tie K a1 a2).trans h
end laws_eqIntS
namespace laws_eqArray
noncomputable def c : Code := bodyOf Go.Proofs.Try.f16
noncomputable def fi : Fin := ⟨Γ0, [(.tmp 4, 4)], [[1]], [], [], []⟩
noncomputable def m (r1 : Bool) : Res := ⟨[⟨false, [.bool r1]⟩], [], [], [], []⟩
noncomputable def os : List (FuncId × St × (List Lf → (Res → Option Res) → Option Res)) := [laws_eqIntS.con]
noncomputable def X (K : Res → Option Res) : Ctx := { Γ := Γ0, orc := orcOf os, io := [], share := [], mvl := [], bun := [], cut := [], own := [], cin := [], cout := [], lp := lpOf [], kl := [], nk := true, eqs := eqs0, byt := byt0, fin := finK fi K }
noncomputable def b (a1 a2 a3 a4 : List Int) (R : Bool → Option Res) : Option Res :=
  laws_eqIntS.g a1 a3 fun r5 =>
  bif !r5 then R false
  else (laws_eqIntS.g a2 a4 fun r6 =>
  bif !r6 then R false
  else R true)
theorem gx : ∃ x : List Int → List Int → List Int → List Int → (Bool → Option Res) → Option Res, x = b := ⟨_, rfl⟩
noncomputable def g : List Int → List Int → List Int → List Int → (Bool → Option Res) → Option Res := Classical.choose gx
theorem e : g = b := Classical.choose_spec gx
noncomputable def run : List Lf → (Res → Option Res) → Option Res
  | [.q (.ints a1), .q (.ints a2), .q (.ints a3), .q (.ints a4)], K => g a1 a2 a3 a4 (fun r1 => K (m r1))
  | _, _ => none
noncomputable def a (a1 a2 a3 a4 : List Int) : St := argSt [.v ⟨true, [.tr 0 1 [.int .i64] (.ints a1), .tr 0 1 [.int .i64] (.ints a2)]⟩, .v ⟨true, [.tr 0 1 [.int .i64] (.ints a3), .tr 0 1 [.int .i64] (.ints a4)]⟩] [] []
noncomputable def con : FuncId × St × (List Lf → (Res → Option Res) → Option Res) := (16, a [] [] [] [], run)
theorem cx (K : Res → Option Res) : CtxOk Go.Proofs.Try.prog Γ0 byt0 eqs0 (X K) os := ⟨rfl, rfl, rfl, (fun p hp => by
  rcases List.mem_cons.1 hp with rfl | hp
  · exact laws_eqIntS.ok
  cases hp), rfl, rfl, rfl, rfl⟩
theorem tie (K : Res → Option Res) (a1 a2 a3 a4 : List Int) : exec (X K) c (entry 17 [.v ⟨true, [.tr 0 1 [.int .i64] (.ints a1), .tr 0 1 [.int .i64] (.ints a2)]⟩, .v ⟨true, [.tr 0 1 [.int .i64] (.ints a3), .tr 0 1 [.int .i64] (.ints a4)]⟩] [] []) (endK (X K)) = g a1 a2 a3 a4 (fun r1 => K (m r1)) := Eq.trans (b := b a1 a2 a3 a4 (fun r1 => K (m r1))) (by kernel_rfl) (by rw [e])
theorem runv {l : List Lf} {K : Res → Option Res} {r : Res} (h : run l K = some r) : ∃ a1 a2 a3 a4, l = [.q (.ints a1), .q (.ints a2), .q (.ints a3), .q (.ints a4)] ∧ g a1 a2 a3 a4 (fun r1 => K (m r1)) = some r := by
  unfold run at h; split at h
  · exact ⟨_, _, _, _, rfl, h⟩
  · cases h
theorem ok : Con Go.Proofs.Try.prog con := con_of (fn := Go.Proofs.Try.f16) (c := c) (Fi := fi) (X := X) (fun_of laid (by kernel_rfl) (by kernel_rfl) (by kernel_rfl) rfl (by kernel_rfl) (by kernel_rfl) cx (fun _ => rfl) (fun _ => rfl) (fun K => by
    rw [show loopsOf c = [] from by kernel_rfl]; intro p hp
    cases hp)) fun xs rows boxes K r hl hr => by
  obtain ⟨a1, a2, a3, a4, e, h⟩ := runv hr
  have := St.like_eq (y := a a1 a2 a3 a4) hl (by kernel_rfl) e
  obtain ⟨rfl, rfl, rfl⟩ := argSt_inj this
  exact (tie K a1 a2 a3 a4).trans h
end laws_eqArray
namespace laws_markIntS
noncomputable def c : Code := bodyOf Go.Proofs.Try.f73
noncomputable def fi : Fin := ⟨Γ0, [(.tmp 4, 3)], [[1]], [true], [], []⟩
noncomputable def m (r1 : Int) (r2 : List Int) : Res := ⟨[⟨false, [.int .i64 r1]⟩], [some ⟨[.int .i64], .ints r2, true, 0⟩], [], [], []⟩
noncomputable def b0 : Code := codeAt c [1, 0, 1, 0, 0]
noncomputable def s0 (x3 x4 : Int) (x5 : List Int) : St := ⟨mkT 19 [(0, one (.ow 0)), (1, one (.int .i64 x3)), (5, one (.int .i64 x4))], [(0, ⟨[.int .i64], .ints x5, true, 0⟩)], []⟩
noncomputable def l0s  (rec : Int → Int → List Int → Option Res) (k : Int → List Int → Option Res) (x3 x4 : Int) (x5 : List Int) : Option Res :=
  bif decide (x4 < (x5.length : Int)) then (bif decide (0 ≤ x4) && decide (x4 < (x5.length : Int)) then rec (IntKind.i64.wrap (x3 + 1)) (IntKind.i64.wrap (x4 + 1)) (x5.set x4.toNat x3)
    else none)
  else k x3 x5
noncomputable def l0  (k : Int → List Int → Option Res) : Nat → Int → Int → List Int → Option Res
  | 0, _, _, _ => none
  | n + 1, x3, x4, x5 => l0s (fun x3 x4 x5 => l0 k n x3 x4 x5) k x3 x4 x5
noncomputable def o0 (y1 : Int) (y2 : List Int) : St := ⟨mkT 19 [(1, one (.int .i64 y1))], [(0, ⟨[.int .i64], .ints y2, true, 0⟩)], []⟩
noncomputable def p0 (K : Res → Option Res) : List Lf → (St → Option Res) → Option Res
  | [.i x3, .i x4, .q (.ints x5)], k => l0 (fun y1 y2 => k (o0 y1 y2)) fuel x3 x4 x5
  | _, _ => none
noncomputable def os : List (FuncId × St × (List Lf → (Res → Option Res) → Option Res)) := []
noncomputable def X (K : Res → Option Res) : Ctx := { Γ := Γ0, orc := orcOf os, io := [], share := [], mvl := [], bun := [], cut := [], own := [], cin := [(0, ⟨[0, 1, 5], [(0, 0)], [], [], [], []⟩)], cout := [(0, ⟨[1], [(0, 0)], [], [], [], []⟩)], lp := lpOf [(0, s0 0 0 [], p0 K)], kl := [], nk := true, eqs := eqs0, byt := byt0, fin := finK fi K }
noncomputable def b (a1 : Int) (a2 : List Int) (R : Int → List Int → Option Res) : Option Res :=
  l0 (fun y6 y7 => 
  R y6 y7) fuel a1 0 a2
theorem gx : ∃ x : Int → List Int → (Int → List Int → Option Res) → Option Res, x = b := ⟨_, rfl⟩
noncomputable def g : Int → List Int → (Int → List Int → Option Res) → Option Res := Classical.choose gx
theorem e : g = b := Classical.choose_spec gx
noncomputable def run : List Lf → (Res → Option Res) → Option Res
  | [.i a1, .q (.ints a2)], K => g a1 a2 (fun r1 r2 => K (m r1 r2))
  | _, _ => none
noncomputable def a (a1 : Int) (a2 : List Int) : St := argSt [one (.ow 0), one (.int .i64 a1)] [⟨[.int .i64], .ints a2, true, 0⟩] []
noncomputable def con : FuncId × St × (List Lf → (Res → Option Res) → Option Res) := (73, a 0 [], run)
theorem cx (K : Res → Option Res) : CtxOk Go.Proofs.Try.prog Γ0 byt0 eqs0 (X K) os := ⟨rfl, rfl, rfl, (fun p hp => by
  cases hp), rfl, rfl, rfl, rfl⟩
theorem t0 (K : Res → Option Res) (k : St → Option Res) (it : St → (St → Option Res) → Option Res) (x3 x4 : Int) (x5 : List Int) : iterS (X K) 0 b0 it (s0 x3 x4 x5) k = l0s (fun x3 x4 x5 => it (s0 x3 x4 x5) k) (fun y1 y2 => k (o0 y1 y2)) x3 x4 x5 := by kernel_rfl
theorem i0 (K : Res → Option Res) (k : St → Option Res)  : ∀ (n : Nat) (x3 x4 : Int) (x5 : List Int), iter (X K) 0 b0 n (s0 x3 x4 x5) k = l0 (fun y1 y2 => k (o0 y1 y2)) n x3 x4 x5
  | 0, _, _, _ => rfl
  | n + 1, x3, x4, x5 => by
    rw [iter_succ, t0, show (fun x3 x4 x5 => iter (X K) 0 b0 n (s0 x3 x4 x5) k) = (fun x3 x4 x5 => l0 (fun y1 y2 => k (o0 y1 y2)) n x3 x4 x5) from funext fun x3 => funext fun x4 => funext fun x5 => i0 K k n x3 x4 x5]; rfl
theorem v0 {K : Res → Option Res} {l : List Lf} {k : St → Option Res} {r : Res} (h : p0 K l k = some r) : ∃ x3 x4 x5, l = [.i x3, .i x4, .q (.ints x5)] ∧ l0 (fun y1 y2 => k (o0 y1 y2)) fuel x3 x4 x5 = some r := by
  unfold p0 at h; split at h
  · exact ⟨_, _, _, rfl, h⟩
  · cases h
theorem w0 (K : Res → Option Res) : LpSound Go.Proofs.Try.prog (X K) 0 b0 := lp_ok ((cx K).ok laid) (by rw [show loopsOf b0 = [] from by kernel_rfl]; intro p hp; cases hp) rfl fun p hp hid => by
  rcases List.mem_cons.1 hp with rfl | hp
  · intro st k r h1 h2; obtain ⟨x3, x4, x5, e, h⟩ := v0 (K := K) h2; have := St.like_eq (y := s0 x3 x4 x5) h1 (by kernel_rfl) e; subst this; exact ⟨fuel, (i0 K k fuel x3 x4 x5).trans h⟩
  cases hp
theorem tie (K : Res → Option Res) (a1 : Int) (a2 : List Int) : exec (X K) c (entry 19 [one (.ow 0), one (.int .i64 a1)] [⟨[.int .i64], .ints a2, true, 0⟩] []) (endK (X K)) = g a1 a2 (fun r1 r2 => K (m r1 r2)) := Eq.trans (b := b a1 a2 (fun r1 r2 => K (m r1 r2))) (by kernel_rfl) (by rw [e])
theorem runv {l : List Lf} {K : Res → Option Res} {r : Res} (h : run l K = some r) : ∃ a1 a2, l = [.i a1, .q (.ints a2)] ∧ g a1 a2 (fun r1 r2 => K (m r1 r2)) = some r := by
  unfold run at h; split at h
  · exact ⟨_, _, rfl, h⟩
  · cases h
theorem ok : Con Go.Proofs.Try.prog con := con_of (fn := Go.Proofs.Try.f73) (c := c) (Fi := fi) (X := X) (fun_of laid (by kernel_rfl) (by kernel_rfl) (by kernel_rfl) rfl (by kernel_rfl) (by kernel_rfl) cx (fun _ => rfl) (fun _ => rfl) (fun K => by
    rw [show loopsOf c = [(0, b0)] from by kernel_rfl]; intro p hp
    rcases List.mem_cons.1 hp with rfl | hp
    · exact w0 K
    cases hp)) fun xs rows boxes K r hl hr => by
  obtain ⟨a1, a2, e, h⟩ := runv hr
  have := St.like_eq (y := a a1 a2) hl (by kernel_rfl) e
  obtain ⟨rfl, rfl, rfl⟩ := argSt_inj this
  exact (tie K a1 a2).trans h
end laws_markIntS
namespace laws_markArray
noncomputable def c : Code := bodyOf Go.Proofs.Try.f19
noncomputable def fi : Fin := ⟨Γ0, [(.tmp 4, 3)], [[1]], [true, true], [], []⟩
noncomputable def m (r1 : Int) (r2 r3 : List Int) : Res := ⟨[⟨false, [.int .i64 r1]⟩], [some ⟨[.int .i64], .ints r2, true, 0⟩, some ⟨[.int .i64], .ints r3, true, 0⟩], [], [], []⟩
noncomputable def os : List (FuncId × St × (List Lf → (Res → Option Res) → Option Res)) := [laws_markIntS.con]
noncomputable def X (K : Res → Option Res) : Ctx := { Γ := Γ0, orc := orcOf os, io := [(73, [⟨true, 0, 1⟩, ⟨false, 0, 1⟩])], share := [], mvl := [], bun := [], cut := [], own := [], cin := [], cout := [], lp := lpOf [], kl := [], nk := true, eqs := eqs0, byt := byt0, fin := finK fi K }
noncomputable def b (a1 : Int) (a2 a3 : List Int) (R : Int → List Int → List Int → Option Res) : Option Res :=
  laws_markIntS.g a1 a2 fun r4 r5 =>
  laws_markIntS.g r4 a3 fun r6 r7 =>
  R r6 r5 r7
theorem gx : ∃ x : Int → List Int → List Int → (Int → List Int → List Int → Option Res) → Option Res, x = b := ⟨_, rfl⟩
noncomputable def g : Int → List Int → List Int → (Int → List Int → List Int → Option Res) → Option Res := Classical.choose gx
theorem e : g = b := Classical.choose_spec gx
noncomputable def run : List Lf → (Res → Option Res) → Option Res
  | [.i a1, .q (.ints a2), .q (.ints a3)], K => g a1 a2 a3 (fun r1 r2 r3 => K (m r1 r2 r3))
  | _, _ => none
noncomputable def a (a1 : Int) (a2 a3 : List Int) : St := argSt [.v ⟨true, [.ow 0, .ow 1]⟩, one (.int .i64 a1)] [⟨[.int .i64], .ints a2, true, 0⟩, ⟨[.int .i64], .ints a3, true, 0⟩] []
noncomputable def con : FuncId × St × (List Lf → (Res → Option Res) → Option Res) := (19, a 0 [] [], run)
theorem cx (K : Res → Option Res) : CtxOk Go.Proofs.Try.prog Γ0 byt0 eqs0 (X K) os := ⟨rfl, rfl, rfl, (fun p hp => by
  rcases List.mem_cons.1 hp with rfl | hp
  · exact laws_markIntS.ok
  cases hp), rfl, rfl, rfl, rfl⟩
theorem tie (K : Res → Option Res) (a1 : Int) (a2 a3 : List Int) : exec (X K) c (entry 14 [.v ⟨true, [.ow 0, .ow 1]⟩, one (.int .i64 a1)] [⟨[.int .i64], .ints a2, true, 0⟩, ⟨[.int .i64], .ints a3, true, 0⟩] []) (endK (X K)) = g a1 a2 a3 (fun r1 r2 r3 => K (m r1 r2 r3)) := Eq.trans (b := b a1 a2 a3 (fun r1 r2 r3 => K (m r1 r2 r3))) (by kernel_rfl) (by rw [e])
theorem runv {l : List Lf} {K : Res → Option Res} {r : Res} (h : run l K = some r) : ∃ a1 a2 a3, l = [.i a1, .q (.ints a2), .q (.ints a3)] ∧ g a1 a2 a3 (fun r1 r2 r3 => K (m r1 r2 r3)) = some r := by
  unfold run at h; split at h
  · exact ⟨_, _, _, rfl, h⟩
  · cases h
theorem ok : Con Go.Proofs.Try.prog con := con_of (fn := Go.Proofs.Try.f19) (c := c) (Fi := fi) (X := X) (fun_of laid (by kernel_rfl) (by kernel_rfl) (by kernel_rfl) rfl (by kernel_rfl) (by kernel_rfl) cx (fun _ => rfl) (fun _ => rfl) (fun K => by
    rw [show loopsOf c = [] from by kernel_rfl]; intro p hp
    cases hp)) fun xs rows boxes K r hl hr => by
  obtain ⟨a1, a2, a3, e, h⟩ := runv hr
  have := St.like_eq (y := a a1 a2 a3) hl (by kernel_rfl) e
  obtain ⟨rfl, rfl, rfl⟩ := argSt_inj this
  exact (tie K a1 a2 a3).trans h
end laws_markArray
namespace laws_heldIntS
noncomputable def c : Code := bodyOf Go.Proofs.Try.f74
noncomputable def fi : Fin := ⟨Γ0, [(.tmp 4, 3)], [[1]], [], [], []⟩
noncomputable def m (r1 : Int) : Res := ⟨[⟨false, [.int .i64 r1]⟩], [], [], [], []⟩
noncomputable def b0 : Code := codeAt c [1, 0, 1, 0, 0]
noncomputable def s0 (x3 : List Int) (x4 x5 : Int) : St := ⟨mkT 21 [(0, one (.tr 0 1 [.int .i64] (.ints x3))), (1, one (.int .i64 x4)), (5, one (.int .i64 x5))], [], []⟩
noncomputable def l0s (x3 : List Int) (rec : Int → Int → Option Res) (k : Int → Option Res) (R : Int → Option Res) (x4 x5 : Int) : Option Res :=
  bif decide (x5 < (x3.length : Int)) then (bif decide (0 ≤ x5) && decide (x5 < (x3.length : Int)) then (bif (x3.getD x5.toNat 0 != x4) then R (-1)
      else rec (IntKind.i64.wrap (x4 + 1)) (IntKind.i64.wrap (x5 + 1)))
    else none)
  else k x4
noncomputable def l0 (x3 : List Int) (k : Int → Option Res) (R : Int → Option Res) : Nat → Int → Int → Option Res
  | 0, _, _ => none
  | n + 1, x4, x5 => l0s x3 (fun x4 x5 => l0 x3 k R n x4 x5) k R x4 x5
noncomputable def o0 (x3 : List Int) (y1 : Int) : St := ⟨mkT 21 [(1, one (.int .i64 y1))], [], []⟩
noncomputable def p0 (K : Res → Option Res) : List Lf → (St → Option Res) → Option Res
  | [.q (.ints x3), .i x4, .i x5], k => l0 x3 (fun y1 => k (o0 x3 y1)) (fun r1 => K (m r1)) fuel x4 x5
  | _, _ => none
noncomputable def os : List (FuncId × St × (List Lf → (Res → Option Res) → Option Res)) := []
noncomputable def X (K : Res → Option Res) : Ctx := { Γ := Γ0, orc := orcOf os, io := [], share := [], mvl := [], bun := [], cut := [], own := [], cin := [(0, ⟨[0, 1, 5], [], [], [], [], []⟩)], cout := [(0, ⟨[1], [], [], [], [], []⟩)], lp := lpOf [(0, s0 [] 0 0, p0 K)], kl := [], nk := true, eqs := eqs0, byt := byt0, fin := finK fi K }
noncomputable def b (a1 : List Int) (a2 : Int) (R : Int → Option Res) : Option Res :=
  l0 a1 (fun y6 => 
  R y6) R fuel a2 0
theorem gx : ∃ x : List Int → Int → (Int → Option Res) → Option Res, x = b := ⟨_, rfl⟩
noncomputable def g : List Int → Int → (Int → Option Res) → Option Res := Classical.choose gx
theorem e : g = b := Classical.choose_spec gx
noncomputable def run : List Lf → (Res → Option Res) → Option Res
  | [.q (.ints a1), .i a2], K => g a1 a2 (fun r1 => K (m r1))
  | _, _ => none
noncomputable def a (a1 : List Int) (a2 : Int) : St := argSt [one (.tr 0 1 [.int .i64] (.ints a1)), one (.int .i64 a2)] [] []
noncomputable def con : FuncId × St × (List Lf → (Res → Option Res) → Option Res) := (74, a [] 0, run)
theorem cx (K : Res → Option Res) : CtxOk Go.Proofs.Try.prog Γ0 byt0 eqs0 (X K) os := ⟨rfl, rfl, rfl, (fun p hp => by
  cases hp), rfl, rfl, rfl, rfl⟩
theorem t0 (K : Res → Option Res) (k : St → Option Res) (it : St → (St → Option Res) → Option Res) (x3 : List Int) (x4 x5 : Int) : iterS (X K) 0 b0 it (s0 x3 x4 x5) k = l0s x3 (fun x4 x5 => it (s0 x3 x4 x5) k) (fun y1 => k (o0 x3 y1)) (fun r1 => K (m r1)) x4 x5 := by kernel_rfl
theorem i0 (K : Res → Option Res) (k : St → Option Res) (x3 : List Int) : ∀ (n : Nat) (x4 x5 : Int), iter (X K) 0 b0 n (s0 x3 x4 x5) k = l0 x3 (fun y1 => k (o0 x3 y1)) (fun r1 => K (m r1)) n x4 x5
  | 0, _, _ => rfl
  | n + 1, x4, x5 => by
    rw [iter_succ, t0, show (fun x4 x5 => iter (X K) 0 b0 n (s0 x3 x4 x5) k) = (fun x4 x5 => l0 x3 (fun y1 => k (o0 x3 y1)) (fun r1 => K (m r1)) n x4 x5) from funext fun x4 => funext fun x5 => i0 K k x3 n x4 x5]; rfl
theorem v0 {K : Res → Option Res} {l : List Lf} {k : St → Option Res} {r : Res} (h : p0 K l k = some r) : ∃ x3 x4 x5, l = [.q (.ints x3), .i x4, .i x5] ∧ l0 x3 (fun y1 => k (o0 x3 y1)) (fun r1 => K (m r1)) fuel x4 x5 = some r := by
  unfold p0 at h; split at h
  · exact ⟨_, _, _, rfl, h⟩
  · cases h
theorem w0 (K : Res → Option Res) : LpSound Go.Proofs.Try.prog (X K) 0 b0 := lp_ok ((cx K).ok laid) (by rw [show loopsOf b0 = [] from by kernel_rfl]; intro p hp; cases hp) rfl fun p hp hid => by
  rcases List.mem_cons.1 hp with rfl | hp
  · intro st k r h1 h2; obtain ⟨x3, x4, x5, e, h⟩ := v0 (K := K) h2; have := St.like_eq (y := s0 x3 x4 x5) h1 (by kernel_rfl) e; subst this; exact ⟨fuel, (i0 K k x3 fuel x4 x5).trans h⟩
  cases hp
theorem tie (K : Res → Option Res) (a1 : List Int) (a2 : Int) : exec (X K) c (entry 21 [one (.tr 0 1 [.int .i64] (.ints a1)), one (.int .i64 a2)] [] []) (endK (X K)) = g a1 a2 (fun r1 => K (m r1)) := Eq.trans (b := b a1 a2 (fun r1 => K (m r1))) (by kernel_rfl) (by rw [e])
theorem runv {l : List Lf} {K : Res → Option Res} {r : Res} (h : run l K = some r) : ∃ a1 a2, l = [.q (.ints a1), .i a2] ∧ g a1 a2 (fun r1 => K (m r1)) = some r := by
  unfold run at h; split at h
  · exact ⟨_, _, rfl, h⟩
  · cases h
theorem ok : Con Go.Proofs.Try.prog con := con_of (fn := Go.Proofs.Try.f74) (c := c) (Fi := fi) (X := X) (fun_of laid (by kernel_rfl) (by kernel_rfl) (by kernel_rfl) rfl (by kernel_rfl) (by kernel_rfl) cx (fun _ => rfl) (fun _ => rfl) (fun K => by
    rw [show loopsOf c = [(0, b0)] from by kernel_rfl]; intro p hp
    rcases List.mem_cons.1 hp with rfl | hp
    · exact w0 K
    cases hp)) fun xs rows boxes K r hl hr => by
  obtain ⟨a1, a2, e, h⟩ := runv hr
  have := St.like_eq (y := a a1 a2) hl (by kernel_rfl) e
  obtain ⟨rfl, rfl, rfl⟩ := argSt_inj this
  exact (tie K a1 a2).trans h
end laws_heldIntS
namespace laws_heldArray
noncomputable def c : Code := bodyOf Go.Proofs.Try.f20
noncomputable def fi : Fin := ⟨Γ0, [(.tmp 4, 3)], [[1]], [], [], []⟩
noncomputable def m (r1 : Int) : Res := ⟨[⟨false, [.int .i64 r1]⟩], [], [], [], []⟩
noncomputable def os : List (FuncId × St × (List Lf → (Res → Option Res) → Option Res)) := [laws_heldIntS.con]
noncomputable def X (K : Res → Option Res) : Ctx := { Γ := Γ0, orc := orcOf os, io := [], share := [], mvl := [], bun := [], cut := [], own := [], cin := [], cout := [], lp := lpOf [], kl := [], nk := true, eqs := eqs0, byt := byt0, fin := finK fi K }
noncomputable def b (a1 a2 : List Int) (a3 : Int) (R : Int → Option Res) : Option Res :=
  laws_heldIntS.g a1 a3 fun r4 =>
  bif decide (r4 < 0) then R (-1)
  else (laws_heldIntS.g a2 r4 fun r5 =>
  bif decide (r5 < 0) then R (-1)
  else R r5)
theorem gx : ∃ x : List Int → List Int → Int → (Int → Option Res) → Option Res, x = b := ⟨_, rfl⟩
noncomputable def g : List Int → List Int → Int → (Int → Option Res) → Option Res := Classical.choose gx
theorem e : g = b := Classical.choose_spec gx
noncomputable def run : List Lf → (Res → Option Res) → Option Res
  | [.q (.ints a1), .q (.ints a2), .i a3], K => g a1 a2 a3 (fun r1 => K (m r1))
  | _, _ => none
noncomputable def a (a1 a2 : List Int) (a3 : Int) : St := argSt [.v ⟨true, [.tr 0 1 [.int .i64] (.ints a1), .tr 0 1 [.int .i64] (.ints a2)]⟩, one (.int .i64 a3)] [] []
noncomputable def con : FuncId × St × (List Lf → (Res → Option Res) → Option Res) := (20, a [] [] 0, run)
theorem cx (K : Res → Option Res) : CtxOk Go.Proofs.Try.prog Γ0 byt0 eqs0 (X K) os := ⟨rfl, rfl, rfl, (fun p hp => by
  rcases List.mem_cons.1 hp with rfl | hp
  · exact laws_heldIntS.ok
  cases hp), rfl, rfl, rfl, rfl⟩
theorem tie (K : Res → Option Res) (a1 a2 : List Int) (a3 : Int) : exec (X K) c (entry 18 [.v ⟨true, [.tr 0 1 [.int .i64] (.ints a1), .tr 0 1 [.int .i64] (.ints a2)]⟩, one (.int .i64 a3)] [] []) (endK (X K)) = g a1 a2 a3 (fun r1 => K (m r1)) := Eq.trans (b := b a1 a2 a3 (fun r1 => K (m r1))) (by kernel_rfl) (by rw [e])
theorem runv {l : List Lf} {K : Res → Option Res} {r : Res} (h : run l K = some r) : ∃ a1 a2 a3, l = [.q (.ints a1), .q (.ints a2), .i a3] ∧ g a1 a2 a3 (fun r1 => K (m r1)) = some r := by
  unfold run at h; split at h
  · exact ⟨_, _, _, rfl, h⟩
  · cases h
theorem ok : Con Go.Proofs.Try.prog con := con_of (fn := Go.Proofs.Try.f20) (c := c) (Fi := fi) (X := X) (fun_of laid (by kernel_rfl) (by kernel_rfl) (by kernel_rfl) rfl (by kernel_rfl) (by kernel_rfl) cx (fun _ => rfl) (fun _ => rfl) (fun K => by
    rw [show loopsOf c = [] from by kernel_rfl]; intro p hp
    cases hp)) fun xs rows boxes K r hl hr => by
  obtain ⟨a1, a2, a3, e, h⟩ := runv hr
  have := St.like_eq (y := a a1 a2 a3) hl (by kernel_rfl) e
  obtain ⟨rfl, rfl, rfl⟩ := argSt_inj this
  exact (tie K a1 a2 a3).trans h
end laws_heldArray
namespace laws_szIntS
noncomputable def c : Code := bodyOf Go.Proofs.Try.f75
noncomputable def fi : Fin := ⟨Γ0, [(.tmp 4, 3)], [[1]], [], [], []⟩
noncomputable def m (r1 : Int) : Res := ⟨[⟨false, [.int .i64 r1]⟩], [], [], [], []⟩
noncomputable def os : List (FuncId × St × (List Lf → (Res → Option Res) → Option Res)) := []
noncomputable def X (K : Res → Option Res) : Ctx := { Γ := Γ0, orc := orcOf os, io := [], share := [], mvl := [], bun := [], cut := [], own := [], cin := [], cout := [], lp := lpOf [], kl := [], nk := true, eqs := eqs0, byt := byt0, fin := finK fi K }
noncomputable def b (a1 : List Int) (a2 : Int) (R : Int → Option Res) : Option Res :=
  bif decide (IntKind.i64.wrap (a2 - (a1.length : Int)) < 0) then R (-1)
  else R (IntKind.i64.wrap (a2 - (a1.length : Int)))
theorem gx : ∃ x : List Int → Int → (Int → Option Res) → Option Res, x = b := ⟨_, rfl⟩
noncomputable def g : List Int → Int → (Int → Option Res) → Option Res := Classical.choose gx
theorem e : g = b := Classical.choose_spec gx
noncomputable def run : List Lf → (Res → Option Res) → Option Res
  | [.q (.ints a1), .i a2], K => g a1 a2 (fun r1 => K (m r1))
  | _, _ => none
noncomputable def a (a1 : List Int) (a2 : Int) : St := argSt [one (.tr 0 1 [.int .i64] (.ints a1)), one (.int .i64 a2)] [] []
noncomputable def con : FuncId × St × (List Lf → (Res → Option Res) → Option Res) := (75, a [] 0, run)
theorem cx (K : Res → Option Res) : CtxOk Go.Proofs.Try.prog Γ0 byt0 eqs0 (X K) os := ⟨rfl, rfl, rfl, (fun p hp => by
  cases hp), rfl, rfl, rfl, rfl⟩
theorem tie (K : Res → Option Res) (a1 : List Int) (a2 : Int) : exec (X K) c (entry 12 [one (.tr 0 1 [.int .i64] (.ints a1)), one (.int .i64 a2)] [] []) (endK (X K)) = g a1 a2 (fun r1 => K (m r1)) := Eq.trans (b := b a1 a2 (fun r1 => K (m r1))) (by kernel_rfl) (by rw [e])
theorem runv {l : List Lf} {K : Res → Option Res} {r : Res} (h : run l K = some r) : ∃ a1 a2, l = [.q (.ints a1), .i a2] ∧ g a1 a2 (fun r1 => K (m r1)) = some r := by
  unfold run at h; split at h
  · exact ⟨_, _, rfl, h⟩
  · cases h
theorem ok : Con Go.Proofs.Try.prog con := con_of (fn := Go.Proofs.Try.f75) (c := c) (Fi := fi) (X := X) (fun_of laid (by kernel_rfl) (by kernel_rfl) (by kernel_rfl) rfl (by kernel_rfl) (by kernel_rfl) cx (fun _ => rfl) (fun _ => rfl) (fun K => by
    rw [show loopsOf c = [] from by kernel_rfl]; intro p hp
    cases hp)) fun xs rows boxes K r hl hr => by
  obtain ⟨a1, a2, e, h⟩ := runv hr
  have := St.like_eq (y := a a1 a2) hl (by kernel_rfl) e
  obtain ⟨rfl, rfl, rfl⟩ := argSt_inj this
  exact (tie K a1 a2).trans h
end laws_szIntS
namespace laws_szCellS
noncomputable def c : Code := bodyOf Go.Proofs.Try.f76
noncomputable def fi : Fin := ⟨Γ0, [(.tmp 4, 3)], [[1]], [], [], []⟩
noncomputable def m (r1 : Int) : Res := ⟨[⟨false, [.int .i64 r1]⟩], [], [], [], []⟩
noncomputable def os : List (FuncId × St × (List Lf → (Res → Option Res) → Option Res)) := []
noncomputable def X (K : Res → Option Res) : Ctx := { Γ := Γ0, orc := orcOf os, io := [], share := [], mvl := [], bun := [], cut := [], own := [], cin := [], cout := [], lp := lpOf [], kl := [], nk := true, eqs := eqs0, byt := byt0, fin := finK fi K }
noncomputable def b (a1 : List (List Cl)) (a2 : Int) (R : Int → Option Res) : Option Res :=
  bif decide (IntKind.i64.wrap (a2 - (a1.length : Int)) < 0) then R (-1)
  else R (IntKind.i64.wrap (a2 - (a1.length : Int)))
theorem gx : ∃ x : List (List Cl) → Int → (Int → Option Res) → Option Res, x = b := ⟨_, rfl⟩
noncomputable def g : List (List Cl) → Int → (Int → Option Res) → Option Res := Classical.choose gx
theorem e : g = b := Classical.choose_spec gx
noncomputable def run : List Lf → (Res → Option Res) → Option Res
  | [.q (.cells a1), .i a2], K => g a1 a2 (fun r1 => K (m r1))
  | _, _ => none
noncomputable def a (a1 : List (List Cl)) (a2 : Int) : St := argSt [one (.tr 0 1 [.int .i64, .int .i64, .bool] (.cells a1)), one (.int .i64 a2)] [] []
noncomputable def con : FuncId × St × (List Lf → (Res → Option Res) → Option Res) := (76, a [] 0, run)
theorem cx (K : Res → Option Res) : CtxOk Go.Proofs.Try.prog Γ0 byt0 eqs0 (X K) os := ⟨rfl, rfl, rfl, (fun p hp => by
  cases hp), rfl, rfl, rfl, rfl⟩
theorem tie (K : Res → Option Res) (a1 : List (List Cl)) (a2 : Int) : exec (X K) c (entry 12 [one (.tr 0 1 [.int .i64, .int .i64, .bool] (.cells a1)), one (.int .i64 a2)] [] []) (endK (X K)) = g a1 a2 (fun r1 => K (m r1)) := Eq.trans (b := b a1 a2 (fun r1 => K (m r1))) (by kernel_rfl) (by rw [e])
theorem runv {l : List Lf} {K : Res → Option Res} {r : Res} (h : run l K = some r) : ∃ a1 a2, l = [.q (.cells a1), .i a2] ∧ g a1 a2 (fun r1 => K (m r1)) = some r := by
  unfold run at h; split at h
  · exact ⟨_, _, rfl, h⟩
  · cases h
theorem ok : Con Go.Proofs.Try.prog con := con_of (fn := Go.Proofs.Try.f76) (c := c) (Fi := fi) (X := X) (fun_of laid (by kernel_rfl) (by kernel_rfl) (by kernel_rfl) rfl (by kernel_rfl) (by kernel_rfl) cx (fun _ => rfl) (fun _ => rfl) (fun K => by
    rw [show loopsOf c = [] from by kernel_rfl]; intro p hp
    cases hp)) fun xs rows boxes K r hl hr => by
  obtain ⟨a1, a2, e, h⟩ := runv hr
  have := St.like_eq (y := a a1 a2) hl (by kernel_rfl) e
  obtain ⟨rfl, rfl, rfl⟩ := argSt_inj this
  exact (tie K a1 a2).trans h
end laws_szCellS
namespace laws_szHeap
noncomputable def c : Code := bodyOf Go.Proofs.Try.f21
noncomputable def fi : Fin := ⟨Γ0, [(.tmp 4, 3)], [[1]], [], [], []⟩
noncomputable def m (r1 : Int) : Res := ⟨[⟨false, [.int .i64 r1]⟩], [], [], [], []⟩
noncomputable def os : List (FuncId × St × (List Lf → (Res → Option Res) → Option Res)) := [laws_szIntS.con, laws_szCellS.con]
noncomputable def X (K : Res → Option Res) : Ctx := { Γ := Γ0, orc := orcOf os, io := [], share := [], mvl := [], bun := [], cut := [], own := [], cin := [], cout := [], lp := lpOf [], kl := [], nk := true, eqs := eqs0, byt := byt0, fin := finK fi K }
noncomputable def b (a1 : List Int) (a2 : Int) (a3 : List (List Cl)) (a4 : Int) (R : Int → Option Res) : Option Res :=
  laws_szIntS.g a1 a4 fun r5 =>
  bif decide (r5 < 0) then R (-1)
  else (laws_szCellS.g a3 r5 fun r6 =>
  bif decide (r6 < 0) then R (-1)
  else R r6)
theorem gx : ∃ x : List Int → Int → List (List Cl) → Int → (Int → Option Res) → Option Res, x = b := ⟨_, rfl⟩
noncomputable def g : List Int → Int → List (List Cl) → Int → (Int → Option Res) → Option Res := Classical.choose gx
theorem e : g = b := Classical.choose_spec gx
noncomputable def run : List Lf → (Res → Option Res) → Option Res
  | [.q (.ints a1), .i a2, .q (.cells a3), .i a4], K => g a1 a2 a3 a4 (fun r1 => K (m r1))
  | _, _ => none
noncomputable def a (a1 : List Int) (a2 : Int) (a3 : List (List Cl)) (a4 : Int) : St := argSt [.v ⟨true, [.tr 0 1 [.int .i64] (.ints a1), .int .i64 a2, .tr 0 1 [.int .i64, .int .i64, .bool] (.cells a3)]⟩, one (.int .i64 a4)] [] []
noncomputable def con : FuncId × St × (List Lf → (Res → Option Res) → Option Res) := (21, a [] 0 [] 0, run)
theorem cx (K : Res → Option Res) : CtxOk Go.Proofs.Try.prog Γ0 byt0 eqs0 (X K) os := ⟨rfl, rfl, rfl, (fun p hp => by
  rcases List.mem_cons.1 hp with rfl | hp
  · exact laws_szIntS.ok
  rcases List.mem_cons.1 hp with rfl | hp
  · exact laws_szCellS.ok
  cases hp), rfl, rfl, rfl, rfl⟩
theorem tie (K : Res → Option Res) (a1 : List Int) (a2 : Int) (a3 : List (List Cl)) (a4 : Int) : exec (X K) c (entry 18 [.v ⟨true, [.tr 0 1 [.int .i64] (.ints a1), .int .i64 a2, .tr 0 1 [.int .i64, .int .i64, .bool] (.cells a3)]⟩, one (.int .i64 a4)] [] []) (endK (X K)) = g a1 a2 a3 a4 (fun r1 => K (m r1)) := Eq.trans (b := b a1 a2 a3 a4 (fun r1 => K (m r1))) (by kernel_rfl) (by rw [e])
theorem runv {l : List Lf} {K : Res → Option Res} {r : Res} (h : run l K = some r) : ∃ a1 a2 a3 a4, l = [.q (.ints a1), .i a2, .q (.cells a3), .i a4] ∧ g a1 a2 a3 a4 (fun r1 => K (m r1)) = some r := by
  unfold run at h; split at h
  · exact ⟨_, _, _, _, rfl, h⟩
  · cases h
theorem ok : Con Go.Proofs.Try.prog con := con_of (fn := Go.Proofs.Try.f21) (c := c) (Fi := fi) (X := X) (fun_of laid (by kernel_rfl) (by kernel_rfl) (by kernel_rfl) rfl (by kernel_rfl) (by kernel_rfl) cx (fun _ => rfl) (fun _ => rfl) (fun K => by
    rw [show loopsOf c = [] from by kernel_rfl]; intro p hp
    cases hp)) fun xs rows boxes K r hl hr => by
  obtain ⟨a1, a2, a3, a4, e, h⟩ := runv hr
  have := St.like_eq (y := a a1 a2 a3 a4) hl (by kernel_rfl) e
  obtain ⟨rfl, rfl, rfl⟩ := argSt_inj this
  exact (tie K a1 a2 a3 a4).trans h
end laws_szHeap
namespace laws_toIntS
noncomputable def c : Code := bodyOf Go.Proofs.Try.f81
noncomputable def fi : Fin := ⟨Γ0, [(.tmp 2, 23)], [[1]], [], [], []⟩
noncomputable def m (r1 : List Int) : Res := ⟨[⟨false, [.ow 1000]⟩], [], [⟨[.int .i64], .ints r1, true, 0⟩], [], []⟩
noncomputable def b0 : Code := codeAt c [1, 1, 0, 1, 0, 0]
noncomputable def s0 (x2 : List Int) (x3 : Int) (x4 : List Int) : St := ⟨mkT 22 [(0, one (.tr 0 1 [.int .i64] (.ints x2))), (3, one (.ow 3080)), (4, one (.int .i64 x3))], [(3080, ⟨[.int .i64], .ints x4, true, 0⟩)], []⟩
noncomputable def l0s (x2 : List Int) (rec : Int → List Int → Option Res) (k : List Int → Option Res) (x3 : Int) (x4 : List Int) : Option Res :=
  bif decide (x3 < (x2.length : Int)) then (bif decide (0 ≤ x3) && decide (x3 < (x2.length : Int)) then (bif decide (0 ≤ x3) && decide (x3 < (x4.length : Int)) then rec (IntKind.i64.wrap (x3 + 1)) (x4.set x3.toNat (x2.getD x3.toNat 0))
      else none)
    else none)
  else k x4
noncomputable def l0 (x2 : List Int) (k : List Int → Option Res) : Nat → Int → List Int → Option Res
  | 0, _, _ => none
  | n + 1, x3, x4 => l0s x2 (fun x3 x4 => l0 x2 k n x3 x4) k x3 x4
noncomputable def o0 (x2 y1 : List Int) : St := ⟨mkT 22 [(3, one (.ow 3080))], [(3080, ⟨[.int .i64], .ints y1, true, 0⟩)], []⟩
noncomputable def p0 (K : Res → Option Res) : List Lf → (St → Option Res) → Option Res
  | [.q (.ints x2), .i x3, .q (.ints x4)], k => l0 x2 (fun y1 => k (o0 x2 y1)) fuel x3 x4
  | _, _ => none
noncomputable def os : List (FuncId × St × (List Lf → (Res → Option Res) → Option Res)) := []
noncomputable def X (K : Res → Option Res) : Ctx := { Γ := Γ0, orc := orcOf os, io := [], share := [], mvl := [], bun := [], cut := [], own := [], cin := [(0, ⟨[0, 3, 4], [(3080, 3080)], [], [], [], []⟩)], cout := [(0, ⟨[3], [(3080, 3080)], [], [], [], []⟩)], lp := lpOf [(0, s0 [] 0 [], p0 K)], kl := [], nk := true, eqs := eqs0, byt := byt0, fin := finK fi K }
noncomputable def b (a1 : List Int) (R : List Int → Option Res) : Option Res :=
  bif decide ((a1.length : Int) = (a1.length : Int)) && decide (0 ≤ (a1.length : Int)) && decide ((a1.length : Int) * 8 ≤ 140737488355328) then (l0 a1 (fun y5 => 
    R y5) fuel 0 (List.replicate ((a1.length : Int).toNat) 0))
  else none
theorem gx : ∃ x : List Int → (List Int → Option Res) → Option Res, x = b := ⟨_, rfl⟩
noncomputable def g : List Int → (List Int → Option Res) → Option Res := Classical.choose gx
theorem e : g = b := Classical.choose_spec gx
noncomputable def run : List Lf → (Res → Option Res) → Option Res
  | [.q (.ints a1)], K => g a1 (fun r1 => K (m r1))
  | _, _ => none
noncomputable def a (a1 : List Int) : St := argSt [one (.tr 0 1 [.int .i64] (.ints a1))] [] []
noncomputable def con : FuncId × St × (List Lf → (Res → Option Res) → Option Res) := (81, a [], run)
theorem cx (K : Res → Option Res) : CtxOk Go.Proofs.Try.prog Γ0 byt0 eqs0 (X K) os := ⟨rfl, rfl, rfl, (fun p hp => by
  cases hp), rfl, rfl, rfl, rfl⟩
theorem t0 (K : Res → Option Res) (k : St → Option Res) (it : St → (St → Option Res) → Option Res) (x2 : List Int) (x3 : Int) (x4 : List Int) : iterS (X K) 0 b0 it (s0 x2 x3 x4) k = l0s x2 (fun x3 x4 => it (s0 x2 x3 x4) k) (fun y1 => k (o0 x2 y1)) x3 x4 := by kernel_rfl
theorem i0 (K : Res → Option Res) (k : St → Option Res) (x2 : List Int) : ∀ (n : Nat) (x3 : Int) (x4 : List Int), iter (X K) 0 b0 n (s0 x2 x3 x4) k = l0 x2 (fun y1 => k (o0 x2 y1)) n x3 x4
  | 0, _, _ => rfl
  | n + 1, x3, x4 => by
    rw [iter_succ, t0, show (fun x3 x4 => iter (X K) 0 b0 n (s0 x2 x3 x4) k) = (fun x3 x4 => l0 x2 (fun y1 => k (o0 x2 y1)) n x3 x4) from funext fun x3 => funext fun x4 => i0 K k x2 n x3 x4]; rfl
theorem v0 {K : Res → Option Res} {l : List Lf} {k : St → Option Res} {r : Res} (h : p0 K l k = some r) : ∃ x2 x3 x4, l = [.q (.ints x2), .i x3, .q (.ints x4)] ∧ l0 x2 (fun y1 => k (o0 x2 y1)) fuel x3 x4 = some r := by
  unfold p0 at h; split at h
  · exact ⟨_, _, _, rfl, h⟩
  · cases h
theorem w0 (K : Res → Option Res) : LpSound Go.Proofs.Try.prog (X K) 0 b0 := lp_ok ((cx K).ok laid) (by rw [show loopsOf b0 = [] from by kernel_rfl]; intro p hp; cases hp) rfl fun p hp hid => by
  rcases List.mem_cons.1 hp with rfl | hp
  · intro st k r h1 h2; obtain ⟨x2, x3, x4, e, h⟩ := v0 (K := K) h2; have := St.like_eq (y := s0 x2 x3 x4) h1 (by kernel_rfl) e; subst this; exact ⟨fuel, (i0 K k x2 fuel x3 x4).trans h⟩
  cases hp
theorem tie (K : Res → Option Res) (a1 : List Int) : exec (X K) c (entry 22 [one (.tr 0 1 [.int .i64] (.ints a1))] [] []) (endK (X K)) = g a1 (fun r1 => K (m r1)) := Eq.trans (b := b a1 (fun r1 => K (m r1))) (by kernel_rfl) (by rw [e])
theorem runv {l : List Lf} {K : Res → Option Res} {r : Res} (h : run l K = some r) : ∃ a1, l = [.q (.ints a1)] ∧ g a1 (fun r1 => K (m r1)) = some r := by
  unfold run at h; split at h
  · exact ⟨_, rfl, h⟩
  · cases h
theorem ok : Con Go.Proofs.Try.prog con := con_of (fn := Go.Proofs.Try.f81) (c := c) (Fi := fi) (X := X) (fun_of laid (by kernel_rfl) (by kernel_rfl) (by kernel_rfl) rfl (by kernel_rfl) (by kernel_rfl) cx (fun _ => rfl) (fun _ => rfl) (fun K => by
    rw [show loopsOf c = [(0, b0)] from by kernel_rfl]; intro p hp
    rcases List.mem_cons.1 hp with rfl | hp
    · exact w0 K
    cases hp)) fun xs rows boxes K r hl hr => by
  obtain ⟨a1, e, h⟩ := runv hr
  have := St.like_eq (y := a a1) hl (by kernel_rfl) e
  obtain ⟨rfl, rfl, rfl⟩ := argSt_inj this
  exact (tie K a1).trans h
end laws_toIntS
namespace laws_toCell
noncomputable def c : Code := bodyOf Go.Proofs.Try.f129
noncomputable def fi : Fin := ⟨Γ0, [(.cell 2 57, 57)], [[1, 1, 1]], [], [], []⟩
noncomputable def m (a1 a2 : Int) (a3 : Bool) : Res := ⟨[⟨true, [.int .i64 a1, .int .i64 a2, .bool a3]⟩], [], [], [], []⟩
noncomputable def os : List (FuncId × St × (List Lf → (Res → Option Res) → Option Res)) := []
noncomputable def X (K : Res → Option Res) : Ctx := { Γ := Γ0, orc := orcOf os, io := [], share := [], mvl := [], bun := [], cut := [], own := [], cin := [], cout := [], lp := lpOf [], kl := [], nk := true, eqs := eqs0, byt := byt0, fin := finK fi K }
noncomputable def b (a1 a2 : Int) (a3 : Bool) (R : Option Res) : Option Res :=
  R
theorem gx : ∃ x : Int → Int → Bool → (Option Res) → Option Res, x = b := ⟨_, rfl⟩
noncomputable def g : Int → Int → Bool → (Option Res) → Option Res := Classical.choose gx
theorem e : g = b := Classical.choose_spec gx
noncomputable def run : List Lf → (Res → Option Res) → Option Res
  | [.i a1, .i a2, .b a3], K => g a1 a2 a3 (K (m a1 a2 a3))
  | _, _ => none
noncomputable def a (a1 a2 : Int) (a3 : Bool) : St := argSt [.v ⟨true, [.int .i64 a1, .int .i64 a2, .bool a3]⟩] [] []
noncomputable def con : FuncId × St × (List Lf → (Res → Option Res) → Option Res) := (129, a 0 0 false, run)
theorem cx (K : Res → Option Res) : CtxOk Go.Proofs.Try.prog Γ0 byt0 eqs0 (X K) os := ⟨rfl, rfl, rfl, (fun p hp => by
  cases hp), rfl, rfl, rfl, rfl⟩
theorem tie (K : Res → Option Res) (a1 a2 : Int) (a3 : Bool) : exec (X K) c (entry 14 [.v ⟨true, [.int .i64 a1, .int .i64 a2, .bool a3]⟩] [] []) (endK (X K)) = g a1 a2 a3 (K (m a1 a2 a3)) := Eq.trans (b := b a1 a2 a3 (K (m a1 a2 a3))) (by kernel_rfl) (by rw [e])
theorem runv {l : List Lf} {K : Res → Option Res} {r : Res} (h : run l K = some r) : ∃ a1 a2 a3, l = [.i a1, .i a2, .b a3] ∧ g a1 a2 a3 (K (m a1 a2 a3)) = some r := by
  unfold run at h; split at h
  · exact ⟨_, _, _, rfl, h⟩
  · cases h
theorem ok : Con Go.Proofs.Try.prog con := con_of (fn := Go.Proofs.Try.f129) (c := c) (Fi := fi) (X := X) (fun_of laid (by kernel_rfl) (by kernel_rfl) (by kernel_rfl) rfl (by kernel_rfl) (by kernel_rfl) cx (fun _ => rfl) (fun _ => rfl) (fun K => by
    rw [show loopsOf c = [] from by kernel_rfl]; intro p hp
    cases hp)) fun xs rows boxes K r hl hr => by
  obtain ⟨a1, a2, a3, e, h⟩ := runv hr
  have := St.like_eq (y := a a1 a2 a3) hl (by kernel_rfl) e
  obtain ⟨rfl, rfl, rfl⟩ := argSt_inj this
  exact (tie K a1 a2 a3).trans h
end laws_toCell
namespace laws_toCellS
noncomputable def c : Code := bodyOf Go.Proofs.Try.f82
noncomputable def fi : Fin := ⟨Γ0, [(.tmp 2, 38)], [[1]], [], [], []⟩
noncomputable def m (r1 : List (List Cl)) : Res := ⟨[⟨false, [.ow 1000]⟩], [], [⟨[.int .i64, .int .i64, .bool], .cells r1, true, 0⟩], [], []⟩
noncomputable def b0 : Code := codeAt c [1, 1, 0, 1, 0, 0]
noncomputable def s0 (x2 : List (List Cl)) (x3 : Int) (x4 : List (List Cl)) : St := ⟨mkT 23 [(0, one (.tr 0 1 [.int .i64, .int .i64, .bool] (.cells x2))), (3, one (.ow 3080)), (4, one (.int .i64 x3))], [(3080, ⟨[.int .i64, .int .i64, .bool], .cells x4, true, 0⟩)], []⟩
noncomputable def l0s (x2 : List (List Cl)) (rec : Int → List (List Cl) → Option Res) (k : List (List Cl) → Option Res) (x3 : Int) (x4 : List (List Cl)) : Option Res :=
  bif decide (x3 < (x2.length : Int)) then (bif decide (0 ≤ x3) && decide (x3 < (x2.length : Int)) then (laws_toCell.g (((x2.getD x3.toNat []).getD 0 (.i 0)).toI) (((x2.getD x3.toNat []).getD 1 (.i 0)).toI) (((x2.getD x3.toNat []).getD 2 (.i 0)).toB) (
      bif decide (0 ≤ x3) && decide (x3 < (x4.length : Int)) then rec (IntKind.i64.wrap (x3 + 1)) (x4.set x3.toNat [.i (((x2.getD x3.toNat []).getD 0 (.i 0)).toI), .i (((x2.getD x3.toNat []).getD 1 (.i 0)).toI), .b (((x2.getD x3.toNat []).getD 2 (.i 0)).toB)])
      else none))
    else none)
  else k x4
noncomputable def l0 (x2 : List (List Cl)) (k : List (List Cl) → Option Res) : Nat → Int → List (List Cl) → Option Res
  | 0, _, _ => none
  | n + 1, x3, x4 => l0s x2 (fun x3 x4 => l0 x2 k n x3 x4) k x3 x4
noncomputable def o0 (x2 y1 : List (List Cl)) : St := ⟨mkT 23 [(3, one (.ow 3080))], [(3080, ⟨[.int .i64, .int .i64, .bool], .cells y1, true, 0⟩)], []⟩
noncomputable def p0 (K : Res → Option Res) : List Lf → (St → Option Res) → Option Res
  | [.q (.cells x2), .i x3, .q (.cells x4)], k => l0 x2 (fun y1 => k (o0 x2 y1)) fuel x3 x4
  | _, _ => none
noncomputable def os : List (FuncId × St × (List Lf → (Res → Option Res) → Option Res)) := [laws_toCell.con]
noncomputable def X (K : Res → Option Res) : Ctx := { Γ := Γ0, orc := orcOf os, io := [], share := [], mvl := [], bun := [], cut := [], own := [], cin := [(0, ⟨[0, 3, 4], [(3080, 3080)], [], [], [], []⟩)], cout := [(0, ⟨[3], [(3080, 3080)], [], [], [], []⟩)], lp := lpOf [(0, s0 [] 0 [], p0 K)], kl := [], nk := true, eqs := eqs0, byt := byt0, fin := finK fi K }
noncomputable def b (a1 : List (List Cl)) (R : List (List Cl) → Option Res) : Option Res :=
  bif decide ((a1.length : Int) = (a1.length : Int)) && decide (0 ≤ (a1.length : Int)) && decide ((a1.length : Int) * 24 ≤ 140737488355328) then (l0 a1 (fun y5 => 
    R y5) fuel 0 (List.replicate ((a1.length : Int).toNat) [.i 0, .i 0, .b false]))
  else none
theorem gx : ∃ x : List (List Cl) → (List (List Cl) → Option Res) → Option Res, x = b := ⟨_, rfl⟩
noncomputable def g : List (List Cl) → (List (List Cl) → Option Res) → Option Res := Classical.choose gx
theorem e : g = b := Classical.choose_spec gx
noncomputable def run : List Lf → (Res → Option Res) → Option Res
  | [.q (.cells a1)], K => g a1 (fun r1 => K (m r1))
  | _, _ => none
noncomputable def a (a1 : List (List Cl)) : St := argSt [one (.tr 0 1 [.int .i64, .int .i64, .bool] (.cells a1))] [] []
noncomputable def con : FuncId × St × (List Lf → (Res → Option Res) → Option Res) := (82, a [], run)
theorem cx (K : Res → Option Res) : CtxOk Go.Proofs.Try.prog Γ0 byt0 eqs0 (X K) os := ⟨rfl, rfl, rfl, (fun p hp => by
  rcases List.mem_cons.1 hp with rfl | hp
  · exact laws_toCell.ok
  cases hp), rfl, rfl, rfl, rfl⟩
theorem t0 (K : Res → Option Res) (k : St → Option Res) (it : St → (St → Option Res) → Option Res) (x2 : List (List Cl)) (x3 : Int) (x4 : List (List Cl)) : iterS (X K) 0 b0 it (s0 x2 x3 x4) k = l0s x2 (fun x3 x4 => it (s0 x2 x3 x4) k) (fun y1 => k (o0 x2 y1)) x3 x4 := by kernel_rfl
theorem i0 (K : Res → Option Res) (k : St → Option Res) (x2 : List (List Cl)) : ∀ (n : Nat) (x3 : Int) (x4 : List (List Cl)), iter (X K) 0 b0 n (s0 x2 x3 x4) k = l0 x2 (fun y1 => k (o0 x2 y1)) n x3 x4
  | 0, _, _ => rfl
  | n + 1, x3, x4 => by
    rw [iter_succ, t0, show (fun x3 x4 => iter (X K) 0 b0 n (s0 x2 x3 x4) k) = (fun x3 x4 => l0 x2 (fun y1 => k (o0 x2 y1)) n x3 x4) from funext fun x3 => funext fun x4 => i0 K k x2 n x3 x4]; rfl
theorem v0 {K : Res → Option Res} {l : List Lf} {k : St → Option Res} {r : Res} (h : p0 K l k = some r) : ∃ x2 x3 x4, l = [.q (.cells x2), .i x3, .q (.cells x4)] ∧ l0 x2 (fun y1 => k (o0 x2 y1)) fuel x3 x4 = some r := by
  unfold p0 at h; split at h
  · exact ⟨_, _, _, rfl, h⟩
  · cases h
theorem w0 (K : Res → Option Res) : LpSound Go.Proofs.Try.prog (X K) 0 b0 := lp_ok ((cx K).ok laid) (by rw [show loopsOf b0 = [] from by kernel_rfl]; intro p hp; cases hp) rfl fun p hp hid => by
  rcases List.mem_cons.1 hp with rfl | hp
  · intro st k r h1 h2; obtain ⟨x2, x3, x4, e, h⟩ := v0 (K := K) h2; have := St.like_eq (y := s0 x2 x3 x4) h1 (by kernel_rfl) e; subst this; exact ⟨fuel, (i0 K k x2 fuel x3 x4).trans h⟩
  cases hp
theorem tie (K : Res → Option Res) (a1 : List (List Cl)) : exec (X K) c (entry 23 [one (.tr 0 1 [.int .i64, .int .i64, .bool] (.cells a1))] [] []) (endK (X K)) = g a1 (fun r1 => K (m r1)) := Eq.trans (b := b a1 (fun r1 => K (m r1))) (by kernel_rfl) (by rw [e])
theorem runv {l : List Lf} {K : Res → Option Res} {r : Res} (h : run l K = some r) : ∃ a1, l = [.q (.cells a1)] ∧ g a1 (fun r1 => K (m r1)) = some r := by
  unfold run at h; split at h
  · exact ⟨_, rfl, h⟩
  · cases h
theorem ok : Con Go.Proofs.Try.prog con := con_of (fn := Go.Proofs.Try.f82) (c := c) (Fi := fi) (X := X) (fun_of laid (by kernel_rfl) (by kernel_rfl) (by kernel_rfl) rfl (by kernel_rfl) (by kernel_rfl) cx (fun _ => rfl) (fun _ => rfl) (fun K => by
    rw [show loopsOf c = [(0, b0)] from by kernel_rfl]; intro p hp
    rcases List.mem_cons.1 hp with rfl | hp
    · exact w0 K
    cases hp)) fun xs rows boxes K r hl hr => by
  obtain ⟨a1, e, h⟩ := runv hr
  have := St.like_eq (y := a a1) hl (by kernel_rfl) e
  obtain ⟨rfl, rfl, rfl⟩ := argSt_inj this
  exact (tie K a1).trans h
end laws_toCellS
namespace laws_toHeap
noncomputable def c : Code := bodyOf Go.Proofs.Try.f23
noncomputable def fi : Fin := ⟨Γ0, [(.cell 2 40, 40)], [[1, 1, 1]], [], [], []⟩
noncomputable def m (a2 : Int) (r1 : List Int) (r3 : List (List Cl)) : Res := ⟨[⟨true, [.ow 1000, .int .i64 a2, .ow 1001]⟩], [], [⟨[.int .i64], .ints r1, true, 0⟩, ⟨[.int .i64, .int .i64, .bool], .cells r3, true, 0⟩], [], []⟩
noncomputable def os : List (FuncId × St × (List Lf → (Res → Option Res) → Option Res)) := [laws_toIntS.con, laws_toCellS.con]
noncomputable def X (K : Res → Option Res) : Ctx := { Γ := Γ0, orc := orcOf os, io := [], share := [], mvl := [], bun := [], cut := [], own := [], cin := [], cout := [], lp := lpOf [], kl := [], nk := true, eqs := eqs0, byt := byt0, fin := finK fi K }
noncomputable def b (a1 : List Int) (a2 : Int) (a3 : List (List Cl)) (R : List Int → List (List Cl) → Option Res) : Option Res :=
  laws_toIntS.g a1 fun r4 =>
  laws_toCellS.g a3 fun r5 =>
  R r4 r5
theorem gx : ∃ x : List Int → Int → List (List Cl) → (List Int → List (List Cl) → Option Res) → Option Res, x = b := ⟨_, rfl⟩
noncomputable def g : List Int → Int → List (List Cl) → (List Int → List (List Cl) → Option Res) → Option Res := Classical.choose gx
theorem e : g = b := Classical.choose_spec gx
noncomputable def run : List Lf → (Res → Option Res) → Option Res
  | [.q (.ints a1), .i a2, .q (.cells a3)], K => g a1 a2 a3 (fun r1 r3 => K (m a2 r1 r3))
  | _, _ => none
noncomputable def a (a1 : List Int) (a2 : Int) (a3 : List (List Cl)) : St := argSt [.v ⟨true, [.tr 0 1 [.int .i64] (.ints a1), .int .i64 a2, .tr 0 1 [.int .i64, .int .i64, .bool] (.cells a3)]⟩] [] []
noncomputable def con : FuncId × St × (List Lf → (Res → Option Res) → Option Res) := (23, a [] 0 [], run)
theorem cx (K : Res → Option Res) : CtxOk Go.Proofs.Try.prog Γ0 byt0 eqs0 (X K) os := ⟨rfl, rfl, rfl, (fun p hp => by
  rcases List.mem_cons.1 hp with rfl | hp
  · exact laws_toIntS.ok
  rcases List.mem_cons.1 hp with rfl | hp
  · exact laws_toCellS.ok
  cases hp), rfl, rfl, rfl, rfl⟩
theorem tie (K : Res → Option Res) (a1 : List Int) (a2 : Int) (a3 : List (List Cl)) : exec (X K) c (entry 16 [.v ⟨true, [.tr 0 1 [.int .i64] (.ints a1), .int .i64 a2, .tr 0 1 [.int .i64, .int .i64, .bool] (.cells a3)]⟩] [] []) (endK (X K)) = g a1 a2 a3 (fun r1 r3 => K (m a2 r1 r3)) := Eq.trans (b := b a1 a2 a3 (fun r1 r3 => K (m a2 r1 r3))) (by kernel_rfl) (by rw [e])
theorem runv {l : List Lf} {K : Res → Option Res} {r : Res} (h : run l K = some r) : ∃ a1 a2 a3, l = [.q (.ints a1), .i a2, .q (.cells a3)] ∧ g a1 a2 a3 (fun r1 r3 => K (m a2 r1 r3)) = some r := by
  unfold run at h; split at h
  · exact ⟨_, _, _, rfl, h⟩
  · cases h
theorem ok : Con Go.Proofs.Try.prog con := con_of (fn := Go.Proofs.Try.f23) (c := c) (Fi := fi) (X := X) (fun_of laid (by kernel_rfl) (by kernel_rfl) (by kernel_rfl) rfl (by kernel_rfl) (by kernel_rfl) cx (fun _ => rfl) (fun _ => rfl) (fun K => by
    rw [show loopsOf c = [] from by kernel_rfl]; intro p hp
    cases hp)) fun xs rows boxes K r hl hr => by
  obtain ⟨a1, a2, a3, e, h⟩ := runv hr
  have := St.like_eq (y := a a1 a2 a3) hl (by kernel_rfl) e
  obtain ⟨rfl, rfl, rfl⟩ := argSt_inj this
  exact (tie K a1 a2 a3).trans h
end laws_toHeap
namespace spec_HeapOk
noncomputable def c : Code := bodyOf Go.Proofs.Try.f77
noncomputable def fi : Fin := ⟨Γ0, [(.tmp 2, 4)], [[1]], [], [], []⟩
noncomputable def m (r1 : Bool) : Res := ⟨[⟨false, [.bool r1]⟩], [], [], [], []⟩
noncomputable def b0 : Code := codeAt c [1, 1, 1, 0, 1, 0, 0]
noncomputable def b2 : Code := codeAt c [1, 1, 1, 0, 1, 0, 0, 1, 0, 0, 1, 1, 1, 1, 0, 0]
noncomputable def s2 (x12 x13 : Int) (x14 : List Bool) (x15 : List Int) (x16 : Int) (x17 : List (List Cl)) (x18 x19 : Int) (x20 : Bool) : St := ⟨mkT 87 [(1, one (.bp 1000 0)), (3, one (.ow 7176)), (4, one (.int .i64 x12)), (5, one (.bp 15416 0)), (6, one (.int .i64 x13))], [(7176, ⟨[.bool], .bools x14, true, 0⟩)], [(1000, [.tr 0 1 [.int .i64] (.ints x15), .int .i64 x16, .tr 0 1 [.int .i64, .int .i64, .bool] (.cells x17)]), (15416, [.int .i64 x18, .int .i64 x19, .bool x20])]⟩
noncomputable def l2s (x12 : Int) (x15 : List Int) (x16 : Int) (x17 : List (List Cl)) (x18 x19 : Int) (x20 : Bool) (rec : Int → List Bool → Option Res) (k : List Bool → Option Res) (R : Bool → Option Res) (x13 : Int) (x14 : List Bool) : Option Res :=
  bif decide (x13 < IntKind.i64.wrap (x18 + x19)) then (bif decide (0 ≤ x13) && decide (x13 < (x14.length : Int)) then (bif x14.getD x13.toNat false then R false
      else bif decide (0 ≤ x13) && decide (x13 < (x14.length : Int)) then rec (IntKind.i64.wrap (x13 + 1)) (x14.set x13.toNat true)
      else none)
    else none)
  else k x14
noncomputable def l2 (x12 : Int) (x15 : List Int) (x16 : Int) (x17 : List (List Cl)) (x18 x19 : Int) (x20 : Bool) (k : List Bool → Option Res) (R : Bool → Option Res) : Nat → Int → List Bool → Option Res
  | 0, _, _ => none
  | n + 1, x13, x14 => l2s x12 x15 x16 x17 x18 x19 x20 (fun x13 x14 => l2 x12 x15 x16 x17 x18 x19 x20 k R n x13 x14) k R x13 x14
noncomputable def o2 (x12 : Int) (x15 : List Int) (x16 : Int) (x17 : List (List Cl)) (x18 x19 : Int) (x20 : Bool) (y2 : List Bool) : St := ⟨mkT 87 [(1, one (.bp 1000 0)), (3, one (.ow 7176)), (4, one (.int .i64 x12))], [(7176, ⟨[.bool], .bools y2, true, 0⟩)], [(1000, [.tr 0 1 [.int .i64] (.ints x15), .int .i64 x16, .tr 0 1 [.int .i64, .int .i64, .bool] (.cells x17)])]⟩
noncomputable def p2 (K : Res → Option Res) : List Lf → (St → Option Res) → Option Res
  | [.i x12, .i x13, .q (.bools x14), .q (.ints x15), .i x16, .q (.cells x17), .i x18, .i x19, .b x20], k => l2 x12 x15 x16 x17 x18 x19 x20 (fun y2 => k (o2 x12 x15 x16 x17 x18 x19 x20 y2)) (fun r1 => K (m r1)) fuel x13 x14
  | _, _ => none
noncomputable def s0 (x5 : Int) (x6 : List Bool) (x7 : List Int) (x8 : Int) (x9 : List (List Cl)) : St := ⟨mkT 87 [(1, one (.bp 1000 0)), (3, one (.ow 7176)), (4, one (.int .i64 x5))], [(7176, ⟨[.bool], .bools x6, true, 0⟩)], [(1000, [.tr 0 1 [.int .i64] (.ints x7), .int .i64 x8, .tr 0 1 [.int .i64, .int .i64, .bool] (.cells x9)])]⟩
noncomputable def l0s (x7 : List Int) (x8 : Int) (x9 : List (List Cl)) (rec : Int → List Bool → Option Res) (k : Option Res) (R : Bool → Option Res) (x5 : Int) (x6 : List Bool) : Option Res :=
  bif decide (x5 < (x9.length : Int)) then (bif decide (0 ≤ x5) && decide (x5 < (x9.length : Int)) then (bif !(((x9.getD x5.toNat []).getD 2 (.i 0)).toB) then (bif (((x9.getD x5.toNat []).getD 0 (.i 0)).toI != 0) then R false
        else bif (((x9.getD x5.toNat []).getD 1 (.i 0)).toI != 0) then R false
        else rec (IntKind.i64.wrap (x5 + 1)) x6)
      else (spec_l1In.g (((x9.getD x5.toNat []).getD 0 (.i 0)).toI) 0 x8 fun r10 =>
      bif !r10 then R false
      else (spec_l1In.g (((x9.getD x5.toNat []).getD 1 (.i 0)).toI) 1 (IntKind.i64.wrap (x8 - (((x9.getD x5.toNat []).getD 0 (.i 0)).toI))) fun r11 =>
      bif !r11 then R false
      else (l2 x5 x7 x8 x9 (((x9.getD x5.toNat []).getD 0 (.i 0)).toI) (((x9.getD x5.toNat []).getD 1 (.i 0)).toI) (((x9.getD x5.toNat []).getD 2 (.i 0)).toB) (fun y21 => 
      rec (IntKind.i64.wrap (x5 + 1)) y21) R fuel (((x9.getD x5.toNat []).getD 0 (.i 0)).toI) x6))))
    else none)
  else k
noncomputable def l0 (x7 : List Int) (x8 : Int) (x9 : List (List Cl)) (k : Option Res) (R : Bool → Option Res) : Nat → Int → List Bool → Option Res
  | 0, _, _ => none
  | n + 1, x5, x6 => l0s x7 x8 x9 (fun x5 x6 => l0 x7 x8 x9 k R n x5 x6) k R x5 x6
noncomputable def o0 (x7 : List Int) (x8 : Int) (x9 : List (List Cl)) : St := ⟨mkT 87 [], [], []⟩
noncomputable def p0 (K : Res → Option Res) : List Lf → (St → Option Res) → Option Res
  | [.i x5, .q (.bools x6), .q (.ints x7), .i x8, .q (.cells x9)], k => l0 x7 x8 x9 (k (o0 x7 x8 x9)) (fun r1 => K (m r1)) fuel x5 x6
  | _, _ => none
noncomputable def os : List (FuncId × St × (List Lf → (Res → Option Res) → Option Res)) := [spec_l1In.con]
noncomputable def X (K : Res → Option Res) : Ctx := { Γ := Γ0, orc := orcOf os, io := [], share := [], mvl := [], bun := [], cut := [], own := [], cin := [(2, ⟨[1, 3, 4, 5, 6], [(7176, 7176)], [1000, 15416], [], [], []⟩), (0, ⟨[1, 3, 4], [(7176, 7176)], [1000], [], [], []⟩)], cout := [(2, ⟨[1, 3, 4], [(7176, 7176)], [1000], [], [], []⟩), (0, ⟨[], [], [], [], [], []⟩)], lp := lpOf [(2, s2 0 0 [] [] 0 [] 0 0 false, p2 K), (0, s0 0 [] [] 0 [], p0 K)], kl := [], nk := true, eqs := eqs0, byt := byt0, fin := finK fi K }
noncomputable def b (a1 : List Int) (a2 : Int) (a3 : List (List Cl)) (R : Bool → Option Res) : Option Res :=
  bif decide (6000 < (a1.length : Int)) then R false
  else (spec_l1In.g a2 0 (a1.length : Int) fun r4 =>
  bif !r4 then R false
  else bif decide (200 < (a3.length : Int)) then R false
  else bif decide (a2 = a2) && decide (0 ≤ a2) && decide (a2 * 1 ≤ 140737488355328) then (l0 a1 a2 a3 (
    R true) R fuel 0 (List.replicate a2.toNat false))
  else none)
theorem gx : ∃ x : List Int → Int → List (List Cl) → (Bool → Option Res) → Option Res, x = b := ⟨_, rfl⟩
noncomputable def g : List Int → Int → List (List Cl) → (Bool → Option Res) → Option Res := Classical.choose gx
theorem e : g = b := Classical.choose_spec gx
noncomputable def run : List Lf → (Res → Option Res) → Option Res
  | [.q (.ints a1), .i a2, .q (.cells a3)], K => g a1 a2 a3 (fun r1 => K (m r1))
  | _, _ => none
noncomputable def a (a1 : List Int) (a2 : Int) (a3 : List (List Cl)) : St := argSt [.v ⟨true, [.tr 0 1 [.int .i64] (.ints a1), .int .i64 a2, .tr 0 1 [.int .i64, .int .i64, .bool] (.cells a3)]⟩] [] []
noncomputable def con : FuncId × St × (List Lf → (Res → Option Res) → Option Res) := (77, a [] 0 [], run)
theorem cx (K : Res → Option Res) : CtxOk Go.Proofs.Try.prog Γ0 byt0 eqs0 (X K) os := ⟨rfl, rfl, rfl, (fun p hp => by
  rcases List.mem_cons.1 hp with rfl | hp
  · exact spec_l1In.ok
  cases hp), rfl, rfl, rfl, rfl⟩
theorem t2 (K : Res → Option Res) (k : St → Option Res) (it : St → (St → Option Res) → Option Res) (x12 x13 : Int) (x14 : List Bool) (x15 : List Int) (x16 : Int) (x17 : List (List Cl)) (x18 x19 : Int) (x20 : Bool) : iterS (X K) 2 b2 it (s2 x12 x13 x14 x15 x16 x17 x18 x19 x20) k = l2s x12 x15 x16 x17 x18 x19 x20 (fun x13 x14 => it (s2 x12 x13 x14 x15 x16 x17 x18 x19 x20) k) (fun y2 => k (o2 x12 x15 x16 x17 x18 x19 x20 y2)) (fun r1 => K (m r1)) x13 x14 := by kernel_rfl
theorem i2 (K : Res → Option Res) (k : St → Option Res) (x12 : Int) (x15 : List Int) (x16 : Int) (x17 : List (List Cl)) (x18 x19 : Int) (x20 : Bool) : ∀ (n : Nat) (x13 : Int) (x14 : List Bool), iter (X K) 2 b2 n (s2 x12 x13 x14 x15 x16 x17 x18 x19 x20) k = l2 x12 x15 x16 x17 x18 x19 x20 (fun y2 => k (o2 x12 x15 x16 x17 x18 x19 x20 y2)) (fun r1 => K (m r1)) n x13 x14
  | 0, _, _ => rfl
  | n + 1, x13, x14 => by
    rw [iter_succ, t2, show (fun x13 x14 => iter (X K) 2 b2 n (s2 x12 x13 x14 x15 x16 x17 x18 x19 x20) k) = (fun x13 x14 => l2 x12 x15 x16 x17 x18 x19 x20 (fun y2 => k (o2 x12 x15 x16 x17 x18 x19 x20 y2)) (fun r1 => K (m r1)) n x13 x14) from funext fun x13 => funext fun x14 => i2 K k x12 x15 x16 x17 x18 x19 x20 n x13 x14]; rfl
theorem v2 {K : Res → Option Res} {l : List Lf} {k : St → Option Res} {r : Res} (h : p2 K l k = some r) : ∃ x12 x13 x14 x15 x16 x17 x18 x19 x20, l = [.i x12, .i x13, .q (.bools x14), .q (.ints x15), .i x16, .q (.cells x17), .i x18, .i x19, .b x20] ∧ l2 x12 x15 x16 x17 x18 x19 x20 (fun y2 => k (o2 x12 x15 x16 x17 x18 x19 x20 y2)) (fun r1 => K (m r1)) fuel x13 x14 = some r := by
  unfold p2 at h; split at h
  · exact ⟨_, _, _, _, _, _, _, _, _, rfl, h⟩
  · cases h
theorem t0 (K : Res → Option Res) (k : St → Option Res) (it : St → (St → Option Res) → Option Res) (x5 : Int) (x6 : List Bool) (x7 : List Int) (x8 : Int) (x9 : List (List Cl)) : iterS (X K) 0 b0 it (s0 x5 x6 x7 x8 x9) k = l0s x7 x8 x9 (fun x5 x6 => it (s0 x5 x6 x7 x8 x9) k) (k (o0 x7 x8 x9)) (fun r1 => K (m r1)) x5 x6 := by kernel_rfl
theorem i0 (K : Res → Option Res) (k : St → Option Res) (x7 : List Int) (x8 : Int) (x9 : List (List Cl)) : ∀ (n : Nat) (x5 : Int) (x6 : List Bool), iter (X K) 0 b0 n (s0 x5 x6 x7 x8 x9) k = l0 x7 x8 x9 (k (o0 x7 x8 x9)) (fun r1 => K (m r1)) n x5 x6
  | 0, _, _ => rfl
  | n + 1, x5, x6 => by
    rw [iter_succ, t0, show (fun x5 x6 => iter (X K) 0 b0 n (s0 x5 x6 x7 x8 x9) k) = (fun x5 x6 => l0 x7 x8 x9 (k (o0 x7 x8 x9)) (fun r1 => K (m r1)) n x5 x6) from funext fun x5 => funext fun x6 => i0 K k x7 x8 x9 n x5 x6]; rfl
theorem v0 {K : Res → Option Res} {l : List Lf} {k : St → Option Res} {r : Res} (h : p0 K l k = some r) : ∃ x5 x6 x7 x8 x9, l = [.i x5, .q (.bools x6), .q (.ints x7), .i x8, .q (.cells x9)] ∧ l0 x7 x8 x9 (k (o0 x7 x8 x9)) (fun r1 => K (m r1)) fuel x5 x6 = some r := by
  unfold p0 at h; split at h
  · exact ⟨_, _, _, _, _, rfl, h⟩
  · cases h
theorem w2 (K : Res → Option Res) : LpSound Go.Proofs.Try.prog (X K) 2 b2 := lp_ok ((cx K).ok laid) (by rw [show loopsOf b2 = [] from by kernel_rfl]; intro p hp; cases hp) rfl fun p hp hid => by
  rcases List.mem_cons.1 hp with rfl | hp
  · intro st k r h1 h2; obtain ⟨x12, x13, x14, x15, x16, x17, x18, x19, x20, e, h⟩ := v2 (K := K) h2; have := St.like_eq (y := s2 x12 x13 x14 x15 x16 x17 x18 x19 x20) h1 (by kernel_rfl) e; subst this; exact ⟨fuel, (i2 K k x12 x15 x16 x17 x18 x19 x20 fuel x13 x14).trans h⟩
  rcases List.mem_cons.1 hp with rfl | hp
  · exact absurd hid (by simp)
  cases hp
theorem w0 (K : Res → Option Res) : LpSound Go.Proofs.Try.prog (X K) 0 b0 := lp_ok ((cx K).ok laid) (by
    rw [show loopsOf b0 = [(2, b2)] from by kernel_rfl]; intro p hp
    rcases List.mem_cons.1 hp with rfl | hp
    · exact w2 K
    cases hp) rfl fun p hp hid => by
  rcases List.mem_cons.1 hp with rfl | hp
  · exact absurd hid (by simp)
  rcases List.mem_cons.1 hp with rfl | hp
  · intro st k r h1 h2; obtain ⟨x5, x6, x7, x8, x9, e, h⟩ := v0 (K := K) h2; have := St.like_eq (y := s0 x5 x6 x7 x8 x9) h1 (by kernel_rfl) e; subst this; exact ⟨fuel, (i0 K k x7 x8 x9 fuel x5 x6).trans h⟩
  cases hp
theorem tie (K : Res → Option Res) (a1 : List Int) (a2 : Int) (a3 : List (List Cl)) : exec (X K) c (entry 87 [.v ⟨true, [.tr 0 1 [.int .i64] (.ints a1), .int .i64 a2, .tr 0 1 [.int .i64, .int .i64, .bool] (.cells a3)]⟩] [] []) (endK (X K)) = g a1 a2 a3 (fun r1 => K (m r1)) := Eq.trans (b := b a1 a2 a3 (fun r1 => K (m r1))) (by kernel_rfl) (by rw [e])
theorem runv {l : List Lf} {K : Res → Option Res} {r : Res} (h : run l K = some r) : ∃ a1 a2 a3, l = [.q (.ints a1), .i a2, .q (.cells a3)] ∧ g a1 a2 a3 (fun r1 => K (m r1)) = some r := by
  unfold run at h; split at h
  · exact ⟨_, _, _, rfl, h⟩
  · cases h
theorem ok : Con Go.Proofs.Try.prog con := con_of (fn := Go.Proofs.Try.f77) (c := c) (Fi := fi) (X := X) (fun_of laid (by kernel_rfl) (by kernel_rfl) (by kernel_rfl) rfl (by kernel_rfl) (by kernel_rfl) cx (fun _ => rfl) (fun _ => rfl) (fun K => by
    rw [show loopsOf c = [(0, b0), (2, b2)] from by kernel_rfl]; intro p hp
    rcases List.mem_cons.1 hp with rfl | hp
    · exact w0 K
    rcases List.mem_cons.1 hp with rfl | hp
    · exact w2 K
    cases hp)) fun xs rows boxes K r hl hr => by
  obtain ⟨a1, a2, a3, e, h⟩ := runv hr
  have := St.like_eq (y := a a1 a2 a3) hl (by kernel_rfl) e
  obtain ⟨rfl, rfl, rfl⟩ := argSt_inj this
  exact (tie K a1 a2 a3).trans h
end spec_HeapOk
namespace spec_l13Live
noncomputable def c : Code := bodyOf Go.Proofs.Try.f78
noncomputable def fi : Fin := ⟨Γ0, [(.tmp 4, 4)], [[1]], [], [], []⟩
noncomputable def m (r1 : Bool) : Res := ⟨[⟨false, [.bool r1]⟩], [], [], [], []⟩
noncomputable def os : List (FuncId × St × (List Lf → (Res → Option Res) → Option Res)) := [spec_l1In.con]
noncomputable def X (K : Res → Option Res) : Ctx := { Γ := Γ0, orc := orcOf os, io := [], share := [], mvl := [], bun := [], cut := [], own := [], cin := [], cout := [], lp := lpOf [], kl := [], nk := true, eqs := eqs0, byt := byt0, fin := finK fi K }
noncomputable def b (a1 : List Int) (a2 : Int) (a3 : List (List Cl)) (a4 : Int) (R : Bool → Option Res) : Option Res :=
  spec_l1In.g a4 0 (IntKind.i64.wrap ((a3.length : Int) - 1)) fun r5 =>
  bif r5 then (bif decide (0 ≤ a4) && decide (a4 < (a3.length : Int)) then R (((a3.getD a4.toNat []).getD 2 (.i 0)).toB)
    else none)
  else R false
theorem gx : ∃ x : List Int → Int → List (List Cl) → Int → (Bool → Option Res) → Option Res, x = b := ⟨_, rfl⟩
noncomputable def g : List Int → Int → List (List Cl) → Int → (Bool → Option Res) → Option Res := Classical.choose gx
theorem e : g = b := Classical.choose_spec gx
noncomputable def run : List Lf → (Res → Option Res) → Option Res
  | [.q (.ints a1), .i a2, .q (.cells a3), .i a4], K => g a1 a2 a3 a4 (fun r1 => K (m r1))
  | _, _ => none
noncomputable def a (a1 : List Int) (a2 : Int) (a3 : List (List Cl)) (a4 : Int) : St := argSt [.v ⟨true, [.tr 0 1 [.int .i64] (.ints a1), .int .i64 a2, .tr 0 1 [.int .i64, .int .i64, .bool] (.cells a3)]⟩, one (.int .i64 a4)] [] []
noncomputable def con : FuncId × St × (List Lf → (Res → Option Res) → Option Res) := (78, a [] 0 [] 0, run)
theorem cx (K : Res → Option Res) : CtxOk Go.Proofs.Try.prog Γ0 byt0 eqs0 (X K) os := ⟨rfl, rfl, rfl, (fun p hp => by
  rcases List.mem_cons.1 hp with rfl | hp
  · exact spec_l1In.ok
  cases hp), rfl, rfl, rfl, rfl⟩
theorem tie (K : Res → Option Res) (a1 : List Int) (a2 : Int) (a3 : List (List Cl)) (a4 : Int) : exec (X K) c (entry 19 [.v ⟨true, [.tr 0 1 [.int .i64] (.ints a1), .int .i64 a2, .tr 0 1 [.int .i64, .int .i64, .bool] (.cells a3)]⟩, one (.int .i64 a4)] [] []) (endK (X K)) = g a1 a2 a3 a4 (fun r1 => K (m r1)) := Eq.trans (b := b a1 a2 a3 a4 (fun r1 => K (m r1))) (by kernel_rfl) (by rw [e])
theorem runv {l : List Lf} {K : Res → Option Res} {r : Res} (h : run l K = some r) : ∃ a1 a2 a3 a4, l = [.q (.ints a1), .i a2, .q (.cells a3), .i a4] ∧ g a1 a2 a3 a4 (fun r1 => K (m r1)) = some r := by
  unfold run at h; split at h
  · exact ⟨_, _, _, _, rfl, h⟩
  · cases h
theorem ok : Con Go.Proofs.Try.prog con := con_of (fn := Go.Proofs.Try.f78) (c := c) (Fi := fi) (X := X) (fun_of laid (by kernel_rfl) (by kernel_rfl) (by kernel_rfl) rfl (by kernel_rfl) (by kernel_rfl) cx (fun _ => rfl) (fun _ => rfl) (fun K => by
    rw [show loopsOf c = [] from by kernel_rfl]; intro p hp
    cases hp)) fun xs rows boxes K r hl hr => by
  obtain ⟨a1, a2, a3, a4, e, h⟩ := runv hr
  have := St.like_eq (y := a a1 a2 a3 a4) hl (by kernel_rfl) e
  obtain ⟨rfl, rfl, rfl⟩ := argSt_inj this
  exact (tie K a1 a2 a3 a4).trans h
end spec_l13Live
namespace impl_HeapOk
noncomputable def c : Code := bodyOf Go.Proofs.Try.f38
noncomputable def fi : Fin := ⟨Γ0, [(.tmp 2, 4)], [[1]], [], [], []⟩
noncomputable def m (r1 : Bool) : Res := ⟨[⟨false, [.bool r1]⟩], [], [], [], []⟩
noncomputable def b0 : Code := codeAt c [1, 1, 1, 0, 1, 0, 0]
noncomputable def b2 : Code := codeAt c [1, 1, 1, 0, 1, 0, 0, 1, 1, 0, 0, 1, 1, 1, 1, 0, 0]
noncomputable def s2 (x13 : Int) (x14 : List (List Cl)) (x15 x16 : Int) (x17 : List Bool) (x18 : List Int) (x19 : Int) (x20 : List (List Cl)) (x21 x22 : Int) (x23 : Bool) : St := ⟨mkT 83 [(1, one (.bp 1000 0)), (3, one (.ow 7176)), (5, one (.bp 13320 0)), (6, one (.int .i64 x13)), (30, one (.tr 0 1 [.int .i64, .int .i64, .bool] (.cells x14))), (31, one (.int .i64 x15)), (32, one (.int .i64 x16))], [(7176, ⟨[.bool], .bools x17, true, 0⟩)], [(1000, [.tr 0 1 [.int .i64] (.ints x18), .int .i64 x19, .tr 0 1 [.int .i64, .int .i64, .bool] (.cells x20)]), (13320, [.int .i64 x21, .int .i64 x22, .bool x23])]⟩
noncomputable def l2s (x14 : List (List Cl)) (x15 x16 : Int) (x18 : List Int) (x19 : Int) (x20 : List (List Cl)) (x21 x22 : Int) (x23 : Bool) (rec : Int → List Bool → Option Res) (k : List Bool → Option Res) (R : Bool → Option Res) (x13 : Int) (x17 : List Bool) : Option Res :=
  bif decide (x13 < IntKind.i64.wrap (x21 + x22)) then (bif decide (0 ≤ x13) && decide (x13 < (x17.length : Int)) then (bif x17.getD x13.toNat false then R false
      else bif decide (0 ≤ x13) && decide (x13 < (x17.length : Int)) then rec (IntKind.i64.wrap (x13 + 1)) (x17.set x13.toNat true)
      else none)
    else none)
  else k x17
noncomputable def l2 (x14 : List (List Cl)) (x15 x16 : Int) (x18 : List Int) (x19 : Int) (x20 : List (List Cl)) (x21 x22 : Int) (x23 : Bool) (k : List Bool → Option Res) (R : Bool → Option Res) : Nat → Int → List Bool → Option Res
  | 0, _, _ => none
  | n + 1, x13, x17 => l2s x14 x15 x16 x18 x19 x20 x21 x22 x23 (fun x13 x17 => l2 x14 x15 x16 x18 x19 x20 x21 x22 x23 k R n x13 x17) k R x13 x17
noncomputable def o2 (x14 : List (List Cl)) (x15 x16 : Int) (x18 : List Int) (x19 : Int) (x20 : List (List Cl)) (x21 x22 : Int) (x23 : Bool) (y4 : List Bool) : St := ⟨mkT 83 [(1, one (.bp 1000 0)), (3, one (.ow 7176)), (30, one (.tr 0 1 [.int .i64, .int .i64, .bool] (.cells x14))), (31, one (.int .i64 x15)), (32, one (.int .i64 x16))], [(7176, ⟨[.bool], .bools y4, true, 0⟩)], [(1000, [.tr 0 1 [.int .i64] (.ints x18), .int .i64 x19, .tr 0 1 [.int .i64, .int .i64, .bool] (.cells x20)])]⟩
noncomputable def p2 (K : Res → Option Res) : List Lf → (St → Option Res) → Option Res
  | [.i x13, .q (.cells x14), .i x15, .i x16, .q (.bools x17), .q (.ints x18), .i x19, .q (.cells x20), .i x21, .i x22, .b x23], k => l2 x14 x15 x16 x18 x19 x20 x21 x22 x23 (fun y4 => k (o2 x14 x15 x16 x18 x19 x20 x21 x22 x23 y4)) (fun r1 => K (m r1)) fuel x13 x17
  | _, _ => none
noncomputable def s0 (x5 : List (List Cl)) (x6 x7 : Int) (x8 : List Bool) (x9 : List Int) (x10 : Int) (x11 : List (List Cl)) : St := ⟨mkT 83 [(1, one (.bp 1000 0)), (3, one (.ow 7176)), (30, one (.tr 0 1 [.int .i64, .int .i64, .bool] (.cells x5))), (31, one (.int .i64 x6)), (32, one (.int .i64 x7))], [(7176, ⟨[.bool], .bools x8, true, 0⟩)], [(1000, [.tr 0 1 [.int .i64] (.ints x9), .int .i64 x10, .tr 0 1 [.int .i64, .int .i64, .bool] (.cells x11)])]⟩
noncomputable def l0s (x5 : List (List Cl)) (x6 : Int) (x9 : List Int) (x10 : Int) (x11 : List (List Cl)) (rec : Int → List Bool → Option Res) (k : Option Res) (R : Bool → Option Res) (x7 : Int) (x8 : List Bool) : Option Res :=
  bif decide (x7 < x6) then (bif decide (0 ≤ x7) && decide (x7 < (x5.length : Int)) then (bif !(((x5.getD x7.toNat []).getD 2 (.i 0)).toB) then (bif !((((x5.getD x7.toNat []).getD 0 (.i 0)).toI == 0) && ((((x5.getD x7.toNat []).getD 1 (.i 0)).toI == 0) && ((((x5.getD x7.toNat []).getD 2 (.i 0)).toB == false) && true))) then R false
        else rec (IntKind.i64.wrap (x7 + 1)) x8)
      else bif decide (((x5.getD x7.toNat []).getD 1 (.i 0)).toI < 1) then R false
      else (impl_within.g (((x5.getD x7.toNat []).getD 0 (.i 0)).toI) 0 (IntKind.i64.wrap (x10 - 1)) fun r12 =>
      bif !r12 then R false
      else bif decide (IntKind.i64.wrap (x10 - (((x5.getD x7.toNat []).getD 0 (.i 0)).toI)) < ((x5.getD x7.toNat []).getD 1 (.i 0)).toI) then R false
      else (l2 x5 x6 x7 x9 x10 x11 (((x5.getD x7.toNat []).getD 0 (.i 0)).toI) (((x5.getD x7.toNat []).getD 1 (.i 0)).toI) (((x5.getD x7.toNat []).getD 2 (.i 0)).toB) (fun y24 => 
      rec (IntKind.i64.wrap (x7 + 1)) y24) R fuel (((x5.getD x7.toNat []).getD 0 (.i 0)).toI) x8)))
    else none)
  else k
noncomputable def l0 (x5 : List (List Cl)) (x6 : Int) (x9 : List Int) (x10 : Int) (x11 : List (List Cl)) (k : Option Res) (R : Bool → Option Res) : Nat → Int → List Bool → Option Res
  | 0, _, _ => none
  | n + 1, x7, x8 => l0s x5 x6 x9 x10 x11 (fun x7 x8 => l0 x5 x6 x9 x10 x11 k R n x7 x8) k R x7 x8
noncomputable def o0 (x5 : List (List Cl)) (x6 : Int) (x9 : List Int) (x10 : Int) (x11 : List (List Cl)) : St := ⟨mkT 83 [], [], []⟩
noncomputable def p0 (K : Res → Option Res) : List Lf → (St → Option Res) → Option Res
  | [.q (.cells x5), .i x6, .i x7, .q (.bools x8), .q (.ints x9), .i x10, .q (.cells x11)], k => l0 x5 x6 x9 x10 x11 (k (o0 x5 x6 x9 x10 x11)) (fun r1 => K (m r1)) fuel x7 x8
  | _, _ => none
noncomputable def os : List (FuncId × St × (List Lf → (Res → Option Res) → Option Res)) := [impl_within.con]
noncomputable def X (K : Res → Option Res) : Ctx := { Γ := Γ0, orc := orcOf os, io := [], share := [], mvl := [], bun := [], cut := [], own := [], cin := [(2, ⟨[1, 3, 5, 6, 30, 31, 32], [(7176, 7176)], [1000, 13320], [], [], []⟩), (0, ⟨[1, 3, 30, 31, 32], [(7176, 7176)], [1000], [], [], []⟩)], cout := [(2, ⟨[1, 3, 30, 31, 32], [(7176, 7176)], [1000], [], [], []⟩), (0, ⟨[], [], [], [], [], []⟩)], lp := lpOf [(2, s2 0 [] 0 0 [] [] 0 [] 0 0 false, p2 K), (0, s0 [] 0 0 [] [] 0 [], p0 K)], kl := [], nk := true, eqs := eqs0, byt := byt0, fin := finK fi K }
noncomputable def b (a1 : List Int) (a2 : Int) (a3 : List (List Cl)) (R : Bool → Option Res) : Option Res :=
  bif decide (6000 < (a1.length : Int)) then R false
  else (impl_within.g a2 0 (a1.length : Int) fun r4 =>
  bif !r4 then R false
  else bif decide (200 < (a3.length : Int)) then R false
  else bif decide (a2 = a2) && decide (0 ≤ a2) && decide (a2 * 1 ≤ 140737488355328) then (l0 a3 (a3.length : Int) a1 a2 a3 (
    R true) R fuel 0 (List.replicate a2.toNat false))
  else none)
theorem gx : ∃ x : List Int → Int → List (List Cl) → (Bool → Option Res) → Option Res, x = b := ⟨_, rfl⟩
noncomputable def g : List Int → Int → List (List Cl) → (Bool → Option Res) → Option Res := Classical.choose gx
theorem e : g = b := Classical.choose_spec gx
noncomputable def run : List Lf → (Res → Option Res) → Option Res
  | [.q (.ints a1), .i a2, .q (.cells a3)], K => g a1 a2 a3 (fun r1 => K (m r1))
  | _, _ => none
noncomputable def a (a1 : List Int) (a2 : Int) (a3 : List (List Cl)) : St := argSt [.v ⟨true, [.tr 0 1 [.int .i64] (.ints a1), .int .i64 a2, .tr 0 1 [.int .i64, .int .i64, .bool] (.cells a3)]⟩] [] []
noncomputable def con : FuncId × St × (List Lf → (Res → Option Res) → Option Res) := (38, a [] 0 [], run)
theorem cx (K : Res → Option Res) : CtxOk Go.Proofs.Try.prog Γ0 byt0 eqs0 (X K) os := ⟨rfl, rfl, rfl, (fun p hp => by
  rcases List.mem_cons.1 hp with rfl | hp
  · exact impl_within.ok
  cases hp), rfl, rfl, rfl, rfl⟩
theorem t2 (K : Res → Option Res) (k : St → Option Res) (it : St → (St → Option Res) → Option Res) (x13 : Int) (x14 : List (List Cl)) (x15 x16 : Int) (x17 : List Bool) (x18 : List Int) (x19 : Int) (x20 : List (List Cl)) (x21 x22 : Int) (x23 : Bool) : iterS (X K) 2 b2 it (s2 x13 x14 x15 x16 x17 x18 x19 x20 x21 x22 x23) k = l2s x14 x15 x16 x18 x19 x20 x21 x22 x23 (fun x13 x17 => it (s2 x13 x14 x15 x16 x17 x18 x19 x20 x21 x22 x23) k) (fun y4 => k (o2 x14 x15 x16 x18 x19 x20 x21 x22 x23 y4)) (fun r1 => K (m r1)) x13 x17 := by kernel_rfl
theorem i2 (K : Res → Option Res) (k : St → Option Res) (x14 : List (List Cl)) (x15 x16 : Int) (x18 : List Int) (x19 : Int) (x20 : List (List Cl)) (x21 x22 : Int) (x23 : Bool) : ∀ (n : Nat) (x13 : Int) (x17 : List Bool), iter (X K) 2 b2 n (s2 x13 x14 x15 x16 x17 x18 x19 x20 x21 x22 x23) k = l2 x14 x15 x16 x18 x19 x20 x21 x22 x23 (fun y4 => k (o2 x14 x15 x16 x18 x19 x20 x21 x22 x23 y4)) (fun r1 => K (m r1)) n x13 x17
  | 0, _, _ => rfl
  | n + 1, x13, x17 => by
    rw [iter_succ, t2, show (fun x13 x17 => iter (X K) 2 b2 n (s2 x13 x14 x15 x16 x17 x18 x19 x20 x21 x22 x23) k) = (fun x13 x17 => l2 x14 x15 x16 x18 x19 x20 x21 x22 x23 (fun y4 => k (o2 x14 x15 x16 x18 x19 x20 x21 x22 x23 y4)) (fun r1 => K (m r1)) n x13 x17) from funext fun x13 => funext fun x17 => i2 K k x14 x15 x16 x18 x19 x20 x21 x22 x23 n x13 x17]; rfl
theorem v2 {K : Res → Option Res} {l : List Lf} {k : St → Option Res} {r : Res} (h : p2 K l k = some r) : ∃ x13 x14 x15 x16 x17 x18 x19 x20 x21 x22 x23, l = [.i x13, .q (.cells x14), .i x15, .i x16, .q (.bools x17), .q (.ints x18), .i x19, .q (.cells x20), .i x21, .i x22, .b x23] ∧ l2 x14 x15 x16 x18 x19 x20 x21 x22 x23 (fun y4 => k (o2 x14 x15 x16 x18 x19 x20 x21 x22 x23 y4)) (fun r1 => K (m r1)) fuel x13 x17 = some r := by
  unfold p2 at h; split at h
  · exact ⟨_, _, _, _, _, _, _, _, _, _, _, rfl, h⟩
  · cases h
theorem t0 (K : Res → Option Res) (k : St → Option Res) (it : St → (St → Option Res) → Option Res) (x5 : List (List Cl)) (x6 x7 : Int) (x8 : List Bool) (x9 : List Int) (x10 : Int) (x11 : List (List Cl)) : iterS (X K) 0 b0 it (s0 x5 x6 x7 x8 x9 x10 x11) k = l0s x5 x6 x9 x10 x11 (fun x7 x8 => it (s0 x5 x6 x7 x8 x9 x10 x11) k) (k (o0 x5 x6 x9 x10 x11)) (fun r1 => K (m r1)) x7 x8 := by kernel_rfl
theorem i0 (K : Res → Option Res) (k : St → Option Res) (x5 : List (List Cl)) (x6 : Int) (x9 : List Int) (x10 : Int) (x11 : List (List Cl)) : ∀ (n : Nat) (x7 : Int) (x8 : List Bool), iter (X K) 0 b0 n (s0 x5 x6 x7 x8 x9 x10 x11) k = l0 x5 x6 x9 x10 x11 (k (o0 x5 x6 x9 x10 x11)) (fun r1 => K (m r1)) n x7 x8
  | 0, _, _ => rfl
  | n + 1, x7, x8 => by
    rw [iter_succ, t0, show (fun x7 x8 => iter (X K) 0 b0 n (s0 x5 x6 x7 x8 x9 x10 x11) k) = (fun x7 x8 => l0 x5 x6 x9 x10 x11 (k (o0 x5 x6 x9 x10 x11)) (fun r1 => K (m r1)) n x7 x8) from funext fun x7 => funext fun x8 => i0 K k x5 x6 x9 x10 x11 n x7 x8]; rfl
theorem v0 {K : Res → Option Res} {l : List Lf} {k : St → Option Res} {r : Res} (h : p0 K l k = some r) : ∃ x5 x6 x7 x8 x9 x10 x11, l = [.q (.cells x5), .i x6, .i x7, .q (.bools x8), .q (.ints x9), .i x10, .q (.cells x11)] ∧ l0 x5 x6 x9 x10 x11 (k (o0 x5 x6 x9 x10 x11)) (fun r1 => K (m r1)) fuel x7 x8 = some r := by
  unfold p0 at h; split at h
  · exact ⟨_, _, _, _, _, _, _, rfl, h⟩
  · cases h
theorem w2 (K : Res → Option Res) : LpSound Go.Proofs.Try.prog (X K) 2 b2 := lp_ok ((cx K).ok laid) (by rw [show loopsOf b2 = [] from by kernel_rfl]; intro p hp; cases hp) rfl fun p hp hid => by
  rcases List.mem_cons.1 hp with rfl | hp
  · intro st k r h1 h2; obtain ⟨x13, x14, x15, x16, x17, x18, x19, x20, x21, x22, x23, e, h⟩ := v2 (K := K) h2; have := St.like_eq (y := s2 x13 x14 x15 x16 x17 x18 x19 x20 x21 x22 x23) h1 (by kernel_rfl) e; subst this; exact ⟨fuel, (i2 K k x14 x15 x16 x18 x19 x20 x21 x22 x23 fuel x13 x17).trans h⟩
  rcases List.mem_cons.1 hp with rfl | hp
  · exact absurd hid (by simp)
  cases hp
theorem w0 (K : Res → Option Res) : LpSound Go.Proofs.Try.prog (X K) 0 b0 := lp_ok ((cx K).ok laid) (by
    rw [show loopsOf b0 = [(2, b2)] from by kernel_rfl]; intro p hp
    rcases List.mem_cons.1 hp with rfl | hp
    · exact w2 K
    cases hp) rfl fun p hp hid => by
  rcases List.mem_cons.1 hp with rfl | hp
  · exact absurd hid (by simp)
  rcases List.mem_cons.1 hp with rfl | hp
  · intro st k r h1 h2; obtain ⟨x5, x6, x7, x8, x9, x10, x11, e, h⟩ := v0 (K := K) h2; have := St.like_eq (y := s0 x5 x6 x7 x8 x9 x10 x11) h1 (by kernel_rfl) e; subst this; exact ⟨fuel, (i0 K k x5 x6 x9 x10 x11 fuel x7 x8).trans h⟩
  cases hp
theorem tie (K : Res → Option Res) (a1 : List Int) (a2 : Int) (a3 : List (List Cl)) : exec (X K) c (entry 83 [.v ⟨true, [.tr 0 1 [.int .i64] (.ints a1), .int .i64 a2, .tr 0 1 [.int .i64, .int .i64, .bool] (.cells a3)]⟩] [] []) (endK (X K)) = g a1 a2 a3 (fun r1 => K (m r1)) := Eq.trans (b := b a1 a2 a3 (fun r1 => K (m r1))) (by kernel_rfl) (by rw [e])
theorem runv {l : List Lf} {K : Res → Option Res} {r : Res} (h : run l K = some r) : ∃ a1 a2 a3, l = [.q (.ints a1), .i a2, .q (.cells a3)] ∧ g a1 a2 a3 (fun r1 => K (m r1)) = some r := by
  unfold run at h; split at h
  · exact ⟨_, _, _, rfl, h⟩
  · cases h
theorem ok : Con Go.Proofs.Try.prog con := con_of (fn := Go.Proofs.Try.f38) (c := c) (Fi := fi) (X := X) (fun_of laid (by kernel_rfl) (by kernel_rfl) (by kernel_rfl) rfl (by kernel_rfl) (by kernel_rfl) cx (fun _ => rfl) (fun _ => rfl) (fun K => by
    rw [show loopsOf c = [(0, b0), (2, b2)] from by kernel_rfl]; intro p hp
    rcases List.mem_cons.1 hp with rfl | hp
    · exact w0 K
    rcases List.mem_cons.1 hp with rfl | hp
    · exact w2 K
    cases hp)) fun xs rows boxes K r hl hr => by
  obtain ⟨a1, a2, a3, e, h⟩ := runv hr
  have := St.like_eq (y := a a1 a2 a3) hl (by kernel_rfl) e
  obtain ⟨rfl, rfl, rfl⟩ := argSt_inj this
  exact (tie K a1 a2 a3).trans h
end impl_HeapOk
namespace impl_liveAt
noncomputable def c : Code := bodyOf Go.Proofs.Try.f84
noncomputable def fi : Fin := ⟨Γ0, [(.tmp 4, 4)], [[1]], [], [], []⟩
noncomputable def m (r1 : Bool) : Res := ⟨[⟨false, [.bool r1]⟩], [], [], [], []⟩
noncomputable def os : List (FuncId × St × (List Lf → (Res → Option Res) → Option Res)) := [impl_HeapOk.con, impl_within.con]
noncomputable def X (K : Res → Option Res) : Ctx := { Γ := Γ0, orc := orcOf os, io := [], share := [], mvl := [], bun := [], cut := [], own := [], cin := [], cout := [], lp := lpOf [], kl := [], nk := true, eqs := eqs0, byt := byt0, fin := finK fi K }
noncomputable def b (a1 : List Int) (a2 : Int) (a3 : List (List Cl)) (a4 : Int) (R : Bool → Option Res) : Option Res :=
  impl_HeapOk.g a1 a2 a3 fun r5 =>
  bif r5 then (impl_within.g a4 0 (IntKind.i64.wrap ((a3.length : Int) - 1)) fun r6 =>
    bif r6 then (bif decide (0 ≤ a4) && decide (a4 < (a3.length : Int)) then R (((a3.getD a4.toNat []).getD 2 (.i 0)).toB)
      else none)
    else R false)
  else R false
theorem gx : ∃ x : List Int → Int → List (List Cl) → Int → (Bool → Option Res) → Option Res, x = b := ⟨_, rfl⟩
noncomputable def g : List Int → Int → List (List Cl) → Int → (Bool → Option Res) → Option Res := Classical.choose gx
theorem e : g = b := Classical.choose_spec gx
noncomputable def run : List Lf → (Res → Option Res) → Option Res
  | [.q (.ints a1), .i a2, .q (.cells a3), .i a4], K => g a1 a2 a3 a4 (fun r1 => K (m r1))
  | _, _ => none
noncomputable def a (a1 : List Int) (a2 : Int) (a3 : List (List Cl)) (a4 : Int) : St := argSt [.v ⟨true, [.tr 0 1 [.int .i64] (.ints a1), .int .i64 a2, .tr 0 1 [.int .i64, .int .i64, .bool] (.cells a3)]⟩, one (.int .i64 a4)] [] []
noncomputable def con : FuncId × St × (List Lf → (Res → Option Res) → Option Res) := (84, a [] 0 [] 0, run)
theorem cx (K : Res → Option Res) : CtxOk Go.Proofs.Try.prog Γ0 byt0 eqs0 (X K) os := ⟨rfl, rfl, rfl, (fun p hp => by
  rcases List.mem_cons.1 hp with rfl | hp
  · exact impl_HeapOk.ok
  rcases List.mem_cons.1 hp with rfl | hp
  · exact impl_within.ok
  cases hp), rfl, rfl, rfl, rfl⟩
theorem tie (K : Res → Option Res) (a1 : List Int) (a2 : Int) (a3 : List (List Cl)) (a4 : Int) : exec (X K) c (entry 23 [.v ⟨true, [.tr 0 1 [.int .i64] (.ints a1), .int .i64 a2, .tr 0 1 [.int .i64, .int .i64, .bool] (.cells a3)]⟩, one (.int .i64 a4)] [] []) (endK (X K)) = g a1 a2 a3 a4 (fun r1 => K (m r1)) := Eq.trans (b := b a1 a2 a3 a4 (fun r1 => K (m r1))) (by kernel_rfl) (by rw [e])
theorem runv {l : List Lf} {K : Res → Option Res} {r : Res} (h : run l K = some r) : ∃ a1 a2 a3 a4, l = [.q (.ints a1), .i a2, .q (.cells a3), .i a4] ∧ g a1 a2 a3 a4 (fun r1 => K (m r1)) = some r := by
  unfold run at h; split at h
  · exact ⟨_, _, _, _, rfl, h⟩
  · cases h
theorem ok : Con Go.Proofs.Try.prog con := con_of (fn := Go.Proofs.Try.f84) (c := c) (Fi := fi) (X := X) (fun_of laid (by kernel_rfl) (by kernel_rfl) (by kernel_rfl) rfl (by kernel_rfl) (by kernel_rfl) cx (fun _ => rfl) (fun _ => rfl) (fun K => by
    rw [show loopsOf c = [] from by kernel_rfl]; intro p hp
    cases hp)) fun xs rows boxes K r hl hr => by
  obtain ⟨a1, a2, a3, a4, e, h⟩ := runv hr
  have := St.like_eq (y := a a1 a2 a3 a4) hl (by kernel_rfl) e
  obtain ⟨rfl, rfl, rfl⟩ := argSt_inj this
  exact (tie K a1 a2 a3 a4).trans h
end impl_liveAt
namespace laws_eqCell
noncomputable def c : Code := bodyOf Go.Proofs.Try.f130
noncomputable def fi : Fin := ⟨Γ0, [(.tmp 4, 4)], [[1]], [], [], []⟩
noncomputable def m (r1 : Bool) : Res := ⟨[⟨false, [.bool r1]⟩], [], [], [], []⟩
noncomputable def os : List (FuncId × St × (List Lf → (Res → Option Res) → Option Res)) := []
noncomputable def X (K : Res → Option Res) : Ctx := { Γ := Γ0, orc := orcOf os, io := [], share := [], mvl := [], bun := [], cut := [], own := [], cin := [], cout := [], lp := lpOf [], kl := [], nk := true, eqs := eqs0, byt := byt0, fin := finK fi K }
noncomputable def b (a1 a2 : Int) (a3 : Bool) (a4 a5 : Int) (a6 : Bool) (R : Bool → Option Res) : Option Res :=
  bif (a1 != a4) then R false
  else bif (a2 != a5) then R false
  else bif (a3 != a6) then R false
  else R true
theorem gx : ∃ x : Int → Int → Bool → Int → Int → Bool → (Bool → Option Res) → Option Res, x = b := ⟨_, rfl⟩
noncomputable def g : Int → Int → Bool → Int → Int → Bool → (Bool → Option Res) → Option Res := Classical.choose gx
theorem e : g = b := Classical.choose_spec gx
noncomputable def run : List Lf → (Res → Option Res) → Option Res
  | [.i a1, .i a2, .b a3, .i a4, .i a5, .b a6], K => g a1 a2 a3 a4 a5 a6 (fun r1 => K (m r1))
  | _, _ => none
noncomputable def a (a1 a2 : Int) (a3 : Bool) (a4 a5 : Int) (a6 : Bool) : St := argSt [.v ⟨true, [.int .i64 a1, .int .i64 a2, .bool a3]⟩, .v ⟨true, [.int .i64 a4, .int .i64 a5, .bool a6]⟩] [] []
noncomputable def con : FuncId × St × (List Lf → (Res → Option Res) → Option Res) := (130, a 0 0 false 0 0 false, run)
theorem cx (K : Res → Option Res) : CtxOk Go.Proofs.Try.prog Γ0 byt0 eqs0 (X K) os := ⟨rfl, rfl, rfl, (fun p hp => by
  cases hp), rfl, rfl, rfl, rfl⟩
theorem tie (K : Res → Option Res) (a1 a2 : Int) (a3 : Bool) (a4 a5 : Int) (a6 : Bool) : exec (X K) c (entry 20 [.v ⟨true, [.int .i64 a1, .int .i64 a2, .bool a3]⟩, .v ⟨true, [.int .i64 a4, .int .i64 a5, .bool a6]⟩] [] []) (endK (X K)) = g a1 a2 a3 a4 a5 a6 (fun r1 => K (m r1)) := Eq.trans (b := b a1 a2 a3 a4 a5 a6 (fun r1 => K (m r1))) (by kernel_rfl) (by rw [e])
theorem runv {l : List Lf} {K : Res → Option Res} {r : Res} (h : run l K = some r) : ∃ a1 a2 a3 a4 a5 a6, l = [.i a1, .i a2, .b a3, .i a4, .i a5, .b a6] ∧ g a1 a2 a3 a4 a5 a6 (fun r1 => K (m r1)) = some r := by
  unfold run at h; split at h
  · exact ⟨_, _, _, _, _, _, rfl, h⟩
  · cases h
theorem ok : Con Go.Proofs.Try.prog con := con_of (fn := Go.Proofs.Try.f130) (c := c) (Fi := fi) (X := X) (fun_of laid (by kernel_rfl) (by kernel_rfl) (by kernel_rfl) rfl (by kernel_rfl) (by kernel_rfl) cx (fun _ => rfl) (fun _ => rfl) (fun K => by
    rw [show loopsOf c = [] from by kernel_rfl]; intro p hp
    cases hp)) fun xs rows boxes K r hl hr => by
  obtain ⟨a1, a2, a3, a4, a5, a6, e, h⟩ := runv hr
  have := St.like_eq (y := a a1 a2 a3 a4 a5 a6) hl (by kernel_rfl) e
  obtain ⟨rfl, rfl, rfl⟩ := argSt_inj this
  exact (tie K a1 a2 a3 a4 a5 a6).trans h
end laws_eqCell
namespace laws_eqCellS
noncomputable def c : Code := bodyOf Go.Proofs.Try.f85
noncomputable def fi : Fin := ⟨Γ0, [(.tmp 4, 4)], [[1]], [], [], []⟩
noncomputable def m (r1 : Bool) : Res := ⟨[⟨false, [.bool r1]⟩], [], [], [], []⟩
noncomputable def b0 : Code := codeAt c [1, 1, 0, 1, 0, 0]
noncomputable def s0 (x3 x4 : List (List Cl)) (x5 : Int) : St := ⟨mkT 27 [(0, one (.tr 0 1 [.int .i64, .int .i64, .bool] (.cells x3))), (1, one (.tr 0 1 [.int .i64, .int .i64, .bool] (.cells x4))), (5, one (.int .i64 x5))], [], []⟩
noncomputable def l0s (x3 x4 : List (List Cl)) (rec : Int → Option Res) (k : Option Res) (R : Bool → Option Res) (x5 : Int) : Option Res :=
  bif decide (x5 < (x3.length : Int)) then (bif decide (0 ≤ x5) && decide (x5 < (x3.length : Int)) then (bif decide (0 ≤ x5) && decide (x5 < (x4.length : Int)) then (laws_eqCell.g (((x3.getD x5.toNat []).getD 0 (.i 0)).toI) (((x3.getD x5.toNat []).getD 1 (.i 0)).toI) (((x3.getD x5.toNat []).getD 2 (.i 0)).toB) (((x4.getD x5.toNat []).getD 0 (.i 0)).toI) (((x4.getD x5.toNat []).getD 1 (.i 0)).toI) (((x4.getD x5.toNat []).getD 2 (.i 0)).toB) fun r6 =>
        bif !r6 then R false
        else rec (IntKind.i64.wrap (x5 + 1)))
      else none)
    else none)
  else k
noncomputable def l0 (x3 x4 : List (List Cl)) (k : Option Res) (R : Bool → Option Res) : Nat → Int → Option Res
  | 0, _ => none
  | n + 1, x5 => l0s x3 x4 (fun x5 => l0 x3 x4 k R n x5) k R x5
noncomputable def o0 (x3 x4 : List (List Cl)) : St := ⟨mkT 27 [], [], []⟩
noncomputable def p0 (K : Res → Option Res) : List Lf → (St → Option Res) → Option Res
  | [.q (.cells x3), .q (.cells x4), .i x5], k => l0 x3 x4 (k (o0 x3 x4)) (fun r1 => K (m r1)) fuel x5
  | _, _ => none
noncomputable def os : List (FuncId × St × (List Lf → (Res → Option Res) → Option Res)) := [laws_eqCell.con]
noncomputable def X (K : Res → Option Res) : Ctx := { Γ := Γ0, orc := orcOf os, io := [], share := [], mvl := [], bun := [], cut := [], own := [], cin := [(0, ⟨[0, 1, 5], [], [], [], [], []⟩)], cout := [(0, ⟨[], [], [], [], [], []⟩)], lp := lpOf [(0, s0 [] [] 0, p0 K)], kl := [], nk := true, eqs := eqs0, byt := byt0, fin := finK fi K }
noncomputable def b (a1 a2 : List (List Cl)) (R : Bool → Option Res) : Option Res :=
  bif ((a1.length : Int) != (a2.length : Int)) then R false
  else (l0 a1 a2 (
  R true) R fuel 0)
theorem gx : ∃ x : List (List Cl) → List (List Cl) → (Bool → Option Res) → Option Res, x = b := ⟨_, rfl⟩
noncomputable def g : List (List Cl) → List (List Cl) → (Bool → Option Res) → Option Res := Classical.choose gx
theorem e : g = b := Classical.choose_spec gx
noncomputable def run : List Lf → (Res → Option Res) → Option Res
  | [.q (.cells a1), .q (.cells a2)], K => g a1 a2 (fun r1 => K (m r1))
  | _, _ => none
noncomputable def a (a1 a2 : List (List Cl)) : St := argSt [one (.tr 0 1 [.int .i64, .int .i64, .bool] (.cells a1)), one (.tr 0 1 [.int .i64, .int .i64, .bool] (.cells a2))] [] []
noncomputable def con : FuncId × St × (List Lf → (Res → Option Res) → Option Res) := (85, a [] [], run)
theorem cx (K : Res → Option Res) : CtxOk Go.Proofs.Try.prog Γ0 byt0 eqs0 (X K) os := ⟨rfl, rfl, rfl, (fun p hp => by
  rcases List.mem_cons.1 hp with rfl | hp
  · exact laws_eqCell.ok
  cases hp), rfl, rfl, rfl, rfl⟩
theorem t0 (K : Res → Option Res) (k : St → Option Res) (it : St → (St → Option Res) → Option Res) (x3 x4 : List (List Cl)) (x5 : Int) : iterS (X K) 0 b0 it (s0 x3 x4 x5) k = l0s x3 x4 (fun x5 => it (s0 x3 x4 x5) k) (k (o0 x3 x4)) (fun r1 => K (m r1)) x5 := by kernel_rfl
theorem i0 (K : Res → Option Res) (k : St → Option Res) (x3 x4 : List (List Cl)) : ∀ (n : Nat) (x5 : Int), iter (X K) 0 b0 n (s0 x3 x4 x5) k = l0 x3 x4 (k (o0 x3 x4)) (fun r1 => K (m r1)) n x5
  | 0, _ => rfl
  | n + 1, x5 => by
    rw [iter_succ, t0, show (fun x5 => iter (X K) 0 b0 n (s0 x3 x4 x5) k) = (fun x5 => l0 x3 x4 (k (o0 x3 x4)) (fun r1 => K (m r1)) n x5) from funext fun x5 => i0 K k x3 x4 n x5]; rfl
theorem v0 {K : Res → Option Res} {l : List Lf} {k : St → Option Res} {r : Res} (h : p0 K l k = some r) : ∃ x3 x4 x5, l = [.q (.cells x3), .q (.cells x4), .i x5] ∧ l0 x3 x4 (k (o0 x3 x4)) (fun r1 => K (m r1)) fuel x5 = some r := by
  unfold p0 at h; split at h
  · exact ⟨_, _, _, rfl, h⟩
  · cases h
theorem w0 (K : Res → Option Res) : LpSound Go.Proofs.Try.prog (X K) 0 b0 := lp_ok ((cx K).ok laid) (by rw [show loopsOf b0 = [] from by kernel_rfl]; intro p hp; cases hp) rfl fun p hp hid => by
  rcases List.mem_cons.1 hp with rfl | hp
  · intro st k r h1 h2; obtain ⟨x3, x4, x5, e, h⟩ := v0 (K := K) h2; have := St.like_eq (y := s0 x3 x4 x5) h1 (by kernel_rfl) e; subst this; exact ⟨fuel, (i0 K k x3 x4 fuel x5).trans h⟩
  cases hp
theorem tie (K : Res → Option Res) (a1 a2 : List (List Cl)) : exec (X K) c (entry 27 [one (.tr 0 1 [.int .i64, .int .i64, .bool] (.cells a1)), one (.tr 0 1 [.int .i64, .int .i64, .bool] (.cells a2))] [] []) (endK (X K)) = g a1 a2 (fun r1 => K (m r1)) := Eq.trans (b := b a1 a2 (fun r1 => K (m r1))) (by kernel_rfl) (by rw [e])
theorem runv {l : List Lf} {K : Res → Option Res} {r : Res} (h : run l K = some r) : ∃ a1 a2, l = [.q (.cells a1), .q (.cells a2)] ∧ g a1 a2 (fun r1 => K (m r1)) = some r := by
  unfold run at h; split at h
  · exact ⟨_, _, rfl, h⟩
  · cases h
theorem ok : Con Go.Proofs.Try.prog con := con_of (fn := Go.Proofs.Try.f85) (c := c) (Fi := fi) (X := X) (fun_of laid (by kernel_rfl) (by kernel_rfl) (by kernel_rfl) rfl (by kernel_rfl) (by kernel_rfl) cx (fun _ => rfl) (fun _ => rfl) (fun K => by
    rw [show loopsOf c = [(0, b0)] from by kernel_rfl]; intro p hp
    rcases List.mem_cons.1 hp with rfl | hp
    · exact w0 K
    cases hp)) fun xs rows boxes K r hl hr => by
  obtain ⟨a1, a2, e, h⟩ := runv hr
  have := St.like_eq (y := a a1 a2) hl (by kernel_rfl) e
  obtain ⟨rfl, rfl, rfl⟩ := argSt_inj this
  exact (tie K a1 a2).trans h
end laws_eqCellS
namespace laws_eqHeap
noncomputable def c : Code := bodyOf Go.Proofs.Try.f25
noncomputable def fi : Fin := ⟨Γ0, [(.tmp 4, 4)], [[1]], [], [], []⟩
noncomputable def m (r1 : Bool) : Res := ⟨[⟨false, [.bool r1]⟩], [], [], [], []⟩
noncomputable def os : List (FuncId × St × (List Lf → (Res → Option Res) → Option Res)) := [laws_eqIntS.con, laws_eqCellS.con]
noncomputable def X (K : Res → Option Res) : Ctx := { Γ := Γ0, orc := orcOf os, io := [], share := [], mvl := [], bun := [], cut := [], own := [], cin := [], cout := [], lp := lpOf [], kl := [], nk := true, eqs := eqs0, byt := byt0, fin := finK fi K }
noncomputable def b (a1 : List Int) (a2 : Int) (a3 : List (List Cl)) (a4 : List Int) (a5 : Int) (a6 : List (List Cl)) (R : Bool → Option Res) : Option Res :=
  laws_eqIntS.g a1 a4 fun r7 =>
  bif !r7 then R false
  else bif (a2 != a5) then R false
  else (laws_eqCellS.g a3 a6 fun r8 =>
  bif !r8 then R false
  else R true)
theorem gx : ∃ x : List Int → Int → List (List Cl) → List Int → Int → List (List Cl) → (Bool → Option Res) → Option Res, x = b := ⟨_, rfl⟩
noncomputable def g : List Int → Int → List (List Cl) → List Int → Int → List (List Cl) → (Bool → Option Res) → Option Res := Classical.choose gx
theorem e : g = b := Classical.choose_spec gx
noncomputable def run : List Lf → (Res → Option Res) → Option Res
  | [.q (.ints a1), .i a2, .q (.cells a3), .q (.ints a4), .i a5, .q (.cells a6)], K => g a1 a2 a3 a4 a5 a6 (fun r1 => K (m r1))
  | _, _ => none
noncomputable def a (a1 : List Int) (a2 : Int) (a3 : List (List Cl)) (a4 : List Int) (a5 : Int) (a6 : List (List Cl)) : St := argSt [.v ⟨true, [.tr 0 1 [.int .i64] (.ints a1), .int .i64 a2, .tr 0 1 [.int .i64, .int .i64, .bool] (.cells a3)]⟩, .v ⟨true, [.tr 0 1 [.int .i64] (.ints a4), .int .i64 a5, .tr 0 1 [.int .i64, .int .i64, .bool] (.cells a6)]⟩] [] []
noncomputable def con : FuncId × St × (List Lf → (Res → Option Res) → Option Res) := (25, a [] 0 [] [] 0 [], run)
theorem cx (K : Res → Option Res) : CtxOk Go.Proofs.Try.prog Γ0 byt0 eqs0 (X K) os := ⟨rfl, rfl, rfl, (fun p hp => by
  rcases List.mem_cons.1 hp with rfl | hp
  · exact laws_eqIntS.ok
  rcases List.mem_cons.1 hp with rfl | hp
  · exact laws_eqCellS.ok
  cases hp), rfl, rfl, rfl, rfl⟩
theorem tie (K : Res → Option Res) (a1 : List Int) (a2 : Int) (a3 : List (List Cl)) (a4 : List Int) (a5 : Int) (a6 : List (List Cl)) : exec (X K) c (entry 22 [.v ⟨true, [.tr 0 1 [.int .i64] (.ints a1), .int .i64 a2, .tr 0 1 [.int .i64, .int .i64, .bool] (.cells a3)]⟩, .v ⟨true, [.tr 0 1 [.int .i64] (.ints a4), .int .i64 a5, .tr 0 1 [.int .i64, .int .i64, .bool] (.cells a6)]⟩] [] []) (endK (X K)) = g a1 a2 a3 a4 a5 a6 (fun r1 => K (m r1)) := Eq.trans (b := b a1 a2 a3 a4 a5 a6 (fun r1 => K (m r1))) (by kernel_rfl) (by rw [e])
theorem runv {l : List Lf} {K : Res → Option Res} {r : Res} (h : run l K = some r) : ∃ a1 a2 a3 a4 a5 a6, l = [.q (.ints a1), .i a2, .q (.cells a3), .q (.ints a4), .i a5, .q (.cells a6)] ∧ g a1 a2 a3 a4 a5 a6 (fun r1 => K (m r1)) = some r := by
  unfold run at h; split at h
  · exact ⟨_, _, _, _, _, _, rfl, h⟩
  · cases h
theorem ok : Con Go.Proofs.Try.prog con := con_of (fn := Go.Proofs.Try.f25) (c := c) (Fi := fi) (X := X) (fun_of laid (by kernel_rfl) (by kernel_rfl) (by kernel_rfl) rfl (by kernel_rfl) (by kernel_rfl) cx (fun _ => rfl) (fun _ => rfl) (fun K => by
    rw [show loopsOf c = [] from by kernel_rfl]; intro p hp
    cases hp)) fun xs rows boxes K r hl hr => by
  obtain ⟨a1, a2, a3, a4, a5, a6, e, h⟩ := runv hr
  have := St.like_eq (y := a a1 a2 a3 a4 a5 a6) hl (by kernel_rfl) e
  obtain ⟨rfl, rfl, rfl⟩ := argSt_inj this
  exact (tie K a1 a2 a3 a4 a5 a6).trans h
end laws_eqHeap
namespace laws_markCellS
noncomputable def c : Code := bodyOf Go.Proofs.Try.f86
noncomputable def fi : Fin := ⟨Γ0, [(.tmp 4, 3)], [[1]], [true], [], []⟩
noncomputable def m (r1 : Int) (r2 : List (List Cl)) : Res := ⟨[⟨false, [.int .i64 r1]⟩], [some ⟨[.int .i64, .int .i64, .bool], .cells r2, true, 0⟩], [], [], []⟩
noncomputable def b0 : Code := codeAt c [1, 0, 1, 0, 0]
noncomputable def s0 (x3 x4 : Int) (x5 : List (List Cl)) : St := ⟨mkT 36 [(0, one (.ow 0)), (1, one (.int .i64 x3)), (5, one (.int .i64 x4))], [(0, ⟨[.int .i64, .int .i64, .bool], .cells x5, true, 0⟩)], []⟩
noncomputable def l0s  (rec : Int → Int → List (List Cl) → Option Res) (k : Int → List (List Cl) → Option Res) (x3 x4 : Int) (x5 : List (List Cl)) : Option Res :=
  bif decide (x4 < (x5.length : Int)) then (bif decide (0 ≤ x4) && decide (x4 < (x5.length : Int)) then (bif decide (0 ≤ x4) && decide (x4 < ((x5.set x4.toNat (splice (x5.getD x4.toNat []) 0 [.i x3])).length : Int)) then (bif decide (0 ≤ x4) && decide (x4 < (((x5.set x4.toNat (splice (x5.getD x4.toNat []) 0 [.i x3])).set x4.toNat (splice ((x5.set x4.toNat (splice (x5.getD x4.toNat []) 0 [.i x3])).getD x4.toNat []) 1 [.i (IntKind.i64.wrap (x3 + 1))])).length : Int)) then rec (IntKind.i64.wrap ((IntKind.i64.wrap ((IntKind.i64.wrap (x3 + 1)) + 1)) + 1)) (IntKind.i64.wrap (x4 + 1)) (((x5.set x4.toNat (splice (x5.getD x4.toNat []) 0 [.i x3])).set x4.toNat (splice ((x5.set x4.toNat (splice (x5.getD x4.toNat []) 0 [.i x3])).getD x4.toNat []) 1 [.i (IntKind.i64.wrap (x3 + 1))])).set x4.toNat (splice (((x5.set x4.toNat (splice (x5.getD x4.toNat []) 0 [.i x3])).set x4.toNat (splice ((x5.set x4.toNat (splice (x5.getD x4.toNat []) 0 [.i x3])).getD x4.toNat []) 1 [.i (IntKind.i64.wrap (x3 + 1))])).getD x4.toNat []) 2 [.b ((IntKind.i64.wrap ((IntKind.i64.wrap (x3 + 1)) + 1)).tmod 3 == 0)]))
        else none)
      else none)
    else none)
  else k x3 x5
noncomputable def l0  (k : Int → List (List Cl) → Option Res) : Nat → Int → Int → List (List Cl) → Option Res
  | 0, _, _, _ => none
  | n + 1, x3, x4, x5 => l0s (fun x3 x4 x5 => l0 k n x3 x4 x5) k x3 x4 x5
noncomputable def o0 (y1 : Int) (y2 : List (List Cl)) : St := ⟨mkT 36 [(1, one (.int .i64 y1))], [(0, ⟨[.int .i64, .int .i64, .bool], .cells y2, true, 0⟩)], []⟩
noncomputable def p0 (K : Res → Option Res) : List Lf → (St → Option Res) → Option Res
  | [.i x3, .i x4, .q (.cells x5)], k => l0 (fun y1 y2 => k (o0 y1 y2)) fuel x3 x4 x5
  | _, _ => none
noncomputable def os : List (FuncId × St × (List Lf → (Res → Option Res) → Option Res)) := []
noncomputable def X (K : Res → Option Res) : Ctx := { Γ := Γ0, orc := orcOf os, io := [], share := [], mvl := [], bun := [], cut := [], own := [], cin := [(0, ⟨[0, 1, 5], [(0, 0)], [], [], [], []⟩)], cout := [(0, ⟨[1], [(0, 0)], [], [], [], []⟩)], lp := lpOf [(0, s0 0 0 [], p0 K)], kl := [], nk := true, eqs := eqs0, byt := byt0, fin := finK fi K }
noncomputable def b (a1 : Int) (a2 : List (List Cl)) (R : Int → List (List Cl) → Option Res) : Option Res :=
  l0 (fun y6 y7 => 
  R y6 y7) fuel a1 0 a2
theorem gx : ∃ x : Int → List (List Cl) → (Int → List (List Cl) → Option Res) → Option Res, x = b := ⟨_, rfl⟩
noncomputable def g : Int → List (List Cl) → (Int → List (List Cl) → Option Res) → Option Res := Classical.choose gx
theorem e : g = b := Classical.choose_spec gx
noncomputable def run : List Lf → (Res → Option Res) → Option Res
  | [.i a1, .q (.cells a2)], K => g a1 a2 (fun r1 r2 => K (m r1 r2))
  | _, _ => none
noncomputable def a (a1 : Int) (a2 : List (List Cl)) : St := argSt [one (.ow 0), one (.int .i64 a1)] [⟨[.int .i64, .int .i64, .bool], .cells a2, true, 0⟩] []
noncomputable def con : FuncId × St × (List Lf → (Res → Option Res) → Option Res) := (86, a 0 [], run)
theorem cx (K : Res → Option Res) : CtxOk Go.Proofs.Try.prog Γ0 byt0 eqs0 (X K) os := ⟨rfl, rfl, rfl, (fun p hp => by
  cases hp), rfl, rfl, rfl, rfl⟩
theorem t0 (K : Res → Option Res) (k : St → Option Res) (it : St → (St → Option Res) → Option Res) (x3 x4 : Int) (x5 : List (List Cl)) : iterS (X K) 0 b0 it (s0 x3 x4 x5) k = l0s (fun x3 x4 x5 => it (s0 x3 x4 x5) k) (fun y1 y2 => k (o0 y1 y2)) x3 x4 x5 := by kernel_rfl
theorem i0 (K : Res → Option Res) (k : St → Option Res)  : ∀ (n : Nat) (x3 x4 : Int) (x5 : List (List Cl)), iter (X K) 0 b0 n (s0 x3 x4 x5) k = l0 (fun y1 y2 => k (o0 y1 y2)) n x3 x4 x5
  | 0, _, _, _ => rfl
  | n + 1, x3, x4, x5 => by
    rw [iter_succ, t0, show (fun x3 x4 x5 => iter (X K) 0 b0 n (s0 x3 x4 x5) k) = (fun x3 x4 x5 => l0 (fun y1 y2 => k (o0 y1 y2)) n x3 x4 x5) from funext fun x3 => funext fun x4 => funext fun x5 => i0 K k n x3 x4 x5]; rfl
theorem v0 {K : Res → Option Res} {l : List Lf} {k : St → Option Res} {r : Res} (h : p0 K l k = some r) : ∃ x3 x4 x5, l = [.i x3, .i x4, .q (.cells x5)] ∧ l0 (fun y1 y2 => k (o0 y1 y2)) fuel x3 x4 x5 = some r := by
  unfold p0 at h; split at h
  · exact ⟨_, _, _, rfl, h⟩
  · cases h
theorem w0 (K : Res → Option Res) : LpSound Go.Proofs.Try.prog (X K) 0 b0 := lp_ok ((cx K).ok laid) (by rw [show loopsOf b0 = [] from by kernel_rfl]; intro p hp; cases hp) rfl fun p hp hid => by
  rcases List.mem_cons.1 hp with rfl | hp
  · intro st k r h1 h2; obtain ⟨x3, x4, x5, e, h⟩ := v0 (K := K) h2; have := St.like_eq (y := s0 x3 x4 x5) h1 (by kernel_rfl) e; subst this; exact ⟨fuel, (i0 K k fuel x3 x4 x5).trans h⟩
  cases hp
theorem tie (K : Res → Option Res) (a1 : Int) (a2 : List (List Cl)) : exec (X K) c (entry 36 [one (.ow 0), one (.int .i64 a1)] [⟨[.int .i64, .int .i64, .bool], .cells a2, true, 0⟩] []) (endK (X K)) = g a1 a2 (fun r1 r2 => K (m r1 r2)) := Eq.trans (b := b a1 a2 (fun r1 r2 => K (m r1 r2))) (by kernel_rfl) (by rw [e])
theorem runv {l : List Lf} {K : Res → Option Res} {r : Res} (h : run l K = some r) : ∃ a1 a2, l = [.i a1, .q (.cells a2)] ∧ g a1 a2 (fun r1 r2 => K (m r1 r2)) = some r := by
  unfold run at h; split at h
  · exact ⟨_, _, rfl, h⟩
  · cases h
theorem ok : Con Go.Proofs.Try.prog con := con_of (fn := Go.Proofs.Try.f86) (c := c) (Fi := fi) (X := X) (fun_of laid (by kernel_rfl) (by kernel_rfl) (by kernel_rfl) rfl (by kernel_rfl) (by kernel_rfl) cx (fun _ => rfl) (fun _ => rfl) (fun K => by
    rw [show loopsOf c = [(0, b0)] from by kernel_rfl]; intro p hp
    rcases List.mem_cons.1 hp with rfl | hp
    · exact w0 K
    cases hp)) fun xs rows boxes K r hl hr => by
  obtain ⟨a1, a2, e, h⟩ := runv hr
  have := St.like_eq (y := a a1 a2) hl (by kernel_rfl) e
  obtain ⟨rfl, rfl, rfl⟩ := argSt_inj this
  exact (tie K a1 a2).trans h
end laws_markCellS
namespace laws_markHeap
noncomputable def c : Code := bodyOf Go.Proofs.Try.f26
noncomputable def fi : Fin := ⟨Γ0, [(.tmp 4, 3)], [[1]], [true, true], [], []⟩
noncomputable def m (r1 : Int) (r2 : List Int) (r3 : List (List Cl)) : Res := ⟨[⟨false, [.int .i64 r1]⟩], [some ⟨[.int .i64], .ints r2, true, 0⟩, some ⟨[.int .i64, .int .i64, .bool], .cells r3, true, 0⟩], [], [], []⟩
noncomputable def os : List (FuncId × St × (List Lf → (Res → Option Res) → Option Res)) := [laws_markIntS.con, laws_markCellS.con]
noncomputable def X (K : Res → Option Res) : Ctx := { Γ := Γ0, orc := orcOf os, io := [(73, [⟨true, 0, 1⟩, ⟨false, 0, 1⟩]), (86, [⟨true, 0, 1⟩, ⟨false, 0, 1⟩])], share := [], mvl := [], bun := [], cut := [], own := [], cin := [], cout := [], lp := lpOf [], kl := [], nk := true, eqs := eqs0, byt := byt0, fin := finK fi K }
noncomputable def b (a1 a2 : Int) (a3 : List Int) (a4 : List (List Cl)) (R : Int → List Int → List (List Cl) → Option Res) : Option Res :=
  laws_markIntS.g a2 a3 fun r5 r6 =>
  laws_markCellS.g r5 a4 fun r7 r8 =>
  R r7 r6 r8
theorem gx : ∃ x : Int → Int → List Int → List (List Cl) → (Int → List Int → List (List Cl) → Option Res) → Option Res, x = b := ⟨_, rfl⟩
noncomputable def g : Int → Int → List Int → List (List Cl) → (Int → List Int → List (List Cl) → Option Res) → Option Res := Classical.choose gx
theorem e : g = b := Classical.choose_spec gx
noncomputable def run : List Lf → (Res → Option Res) → Option Res
  | [.i a1, .i a2, .q (.ints a3), .q (.cells a4)], K => g a1 a2 a3 a4 (fun r1 r2 r3 => K (m r1 r2 r3))
  | _, _ => none
noncomputable def a (a1 a2 : Int) (a3 : List Int) (a4 : List (List Cl)) : St := argSt [.v ⟨true, [.ow 0, .int .i64 a1, .ow 1]⟩, one (.int .i64 a2)] [⟨[.int .i64], .ints a3, true, 0⟩, ⟨[.int .i64, .int .i64, .bool], .cells a4, true, 0⟩] []
noncomputable def con : FuncId × St × (List Lf → (Res → Option Res) → Option Res) := (26, a 0 0 [] [], run)
theorem cx (K : Res → Option Res) : CtxOk Go.Proofs.Try.prog Γ0 byt0 eqs0 (X K) os := ⟨rfl, rfl, rfl, (fun p hp => by
  rcases List.mem_cons.1 hp with rfl | hp
  · exact laws_markIntS.ok
  rcases List.mem_cons.1 hp with rfl | hp
  · exact laws_markCellS.ok
  cases hp), rfl, rfl, rfl, rfl⟩
theorem tie (K : Res → Option Res) (a1 a2 : Int) (a3 : List Int) (a4 : List (List Cl)) : exec (X K) c (entry 14 [.v ⟨true, [.ow 0, .int .i64 a1, .ow 1]⟩, one (.int .i64 a2)] [⟨[.int .i64], .ints a3, true, 0⟩, ⟨[.int .i64, .int .i64, .bool], .cells a4, true, 0⟩] []) (endK (X K)) = g a1 a2 a3 a4 (fun r1 r2 r3 => K (m r1 r2 r3)) := Eq.trans (b := b a1 a2 a3 a4 (fun r1 r2 r3 => K (m r1 r2 r3))) (by kernel_rfl) (by rw [e])
theorem runv {l : List Lf} {K : Res → Option Res} {r : Res} (h : run l K = some r) : ∃ a1 a2 a3 a4, l = [.i a1, .i a2, .q (.ints a3), .q (.cells a4)] ∧ g a1 a2 a3 a4 (fun r1 r2 r3 => K (m r1 r2 r3)) = some r := by
  unfold run at h; split at h
  · exact ⟨_, _, _, _, rfl, h⟩
  · cases h
theorem ok : Con Go.Proofs.Try.prog con := con_of (fn := Go.Proofs.Try.f26) (c := c) (Fi := fi) (X := X) (fun_of laid (by kernel_rfl) (by kernel_rfl) (by kernel_rfl) rfl (by kernel_rfl) (by kernel_rfl) cx (fun _ => rfl) (fun _ => rfl) (fun K => by
    rw [show loopsOf c = [] from by kernel_rfl]; intro p hp
    cases hp)) fun xs rows boxes K r hl hr => by
  obtain ⟨a1, a2, a3, a4, e, h⟩ := runv hr
  have := St.like_eq (y := a a1 a2 a3 a4) hl (by kernel_rfl) e
  obtain ⟨rfl, rfl, rfl⟩ := argSt_inj this
  exact (tie K a1 a2 a3 a4).trans h
end laws_markHeap
namespace spec_HeapGet
noncomputable def c : Code := bodyOf Go.Proofs.Try.f35
noncomputable def fi : Fin := ⟨Γ0, [(.cell 4 25, 25), (.tmp 5, 4)], [[1, 1], [1]], [], [], []⟩
noncomputable def m (r1 r2 : List Int) (r3 : Bool) : Res := ⟨[⟨true, [.ow 1000, .ow 1001]⟩, ⟨false, [.bool r3]⟩], [], [⟨[.int .i64], .ints r1, true, 0⟩, ⟨[.int .i64], .ints r2, true, 0⟩], [], []⟩
noncomputable def os : List (FuncId × St × (List Lf → (Res → Option Res) → Option Res)) := [spec_HeapOk.con, spec_l13Live.con, spec_l1In.con, spec_ArrayOk.con]
noncomputable def X (K : Res → Option Res) : Ctx := { Γ := Γ0, orc := orcOf os, io := [], share := [], mvl := [], bun := [], cut := [], own := [], cin := [], cout := [], lp := lpOf [], kl := [], nk := true, eqs := eqs0, byt := byt0, fin := finK fi K }
noncomputable def b (a1 : List Int) (a2 : Int) (a3 : List (List Cl)) (a4 : Int) (R : List Int → List Int → Bool → Option Res) : Option Res :=
  spec_HeapOk.g a1 a2 a3 fun r5 =>
  bif !r5 then R ([] : List Int) ([] : List Int) false
  else (spec_l13Live.g a1 a2 a3 a4 fun r6 =>
  bif !r6 then R ([] : List Int) ([] : List Int) false
  else bif decide (0 ≤ a4) && decide (a4 < (a3.length : Int)) then (bif decide (0 ≤ ((a3.getD a4.toNat []).getD 0 (.i 0)).toI) && decide (((a3.getD a4.toNat []).getD 0 (.i 0)).toI ≤ IntKind.i64.wrap ((((a3.getD a4.toNat []).getD 0 (.i 0)).toI) + (((a3.getD a4.toNat []).getD 1 (.i 0)).toI))) && decide (IntKind.i64.wrap ((((a3.getD a4.toNat []).getD 0 (.i 0)).toI) + (((a3.getD a4.toNat []).getD 1 (.i 0)).toI)) ≤ (a1.length : Int)) then (bif decide (0 < (((a1.drop ((((a3.getD a4.toNat []).getD 0 (.i 0)).toI).toNat)).take (((IntKind.i64.wrap ((((a3.getD a4.toNat []).getD 0 (.i 0)).toI) + (((a3.getD a4.toNat []).getD 1 (.i 0)).toI))).toNat) - ((((a3.getD a4.toNat []).getD 0 (.i 0)).toI).toNat))).length : Int)) then (spec_l1In.g (((a1.drop ((((a3.getD a4.toNat []).getD 0 (.i 0)).toI).toNat)).take (((IntKind.i64.wrap ((((a3.getD a4.toNat []).getD 0 (.i 0)).toI) + (((a3.getD a4.toNat []).getD 1 (.i 0)).toI))).toNat) - ((((a3.getD a4.toNat []).getD 0 (.i 0)).toI).toNat))).getD 0 0) 0 (IntKind.i64.wrap ((((a1.drop ((((a3.getD a4.toNat []).getD 0 (.i 0)).toI).toNat)).take (((IntKind.i64.wrap ((((a3.getD a4.toNat []).getD 0 (.i 0)).toI) + (((a3.getD a4.toNat []).getD 1 (.i 0)).toI))).toNat) - ((((a3.getD a4.toNat []).getD 0 (.i 0)).toI).toNat))).length : Int) - 1)) fun r7 =>
        bif !r7 then R ([] : List Int) ([] : List Int) false
        else bif decide (0 < (((a1.drop ((((a3.getD a4.toNat []).getD 0 (.i 0)).toI).toNat)).take (((IntKind.i64.wrap ((((a3.getD a4.toNat []).getD 0 (.i 0)).toI) + (((a3.getD a4.toNat []).getD 1 (.i 0)).toI))).toNat) - ((((a3.getD a4.toNat []).getD 0 (.i 0)).toI).toNat))).length : Int)) then (bif decide (1 ≤ IntKind.i64.wrap (1 + (((a1.drop ((((a3.getD a4.toNat []).getD 0 (.i 0)).toI).toNat)).take (((IntKind.i64.wrap ((((a3.getD a4.toNat []).getD 0 (.i 0)).toI) + (((a3.getD a4.toNat []).getD 1 (.i 0)).toI))).toNat) - ((((a3.getD a4.toNat []).getD 0 (.i 0)).toI).toNat))).getD 0 0))) && decide (IntKind.i64.wrap (1 + (((a1.drop ((((a3.getD a4.toNat []).getD 0 (.i 0)).toI).toNat)).take (((IntKind.i64.wrap ((((a3.getD a4.toNat []).getD 0 (.i 0)).toI) + (((a3.getD a4.toNat []).getD 1 (.i 0)).toI))).toNat) - ((((a3.getD a4.toNat []).getD 0 (.i 0)).toI).toNat))).getD 0 0)) ≤ (((a1.drop ((((a3.getD a4.toNat []).getD 0 (.i 0)).toI).toNat)).take (((IntKind.i64.wrap ((((a3.getD a4.toNat []).getD 0 (.i 0)).toI) + (((a3.getD a4.toNat []).getD 1 (.i 0)).toI))).toNat) - ((((a3.getD a4.toNat []).getD 0 (.i 0)).toI).toNat))).length : Int)) then (bif decide ((0 + ((((a1.drop ((((a3.getD a4.toNat []).getD 0 (.i 0)).toI).toNat)).take (((IntKind.i64.wrap ((((a3.getD a4.toNat []).getD 0 (.i 0)).toI) + (((a3.getD a4.toNat []).getD 1 (.i 0)).toI))).toNat) - ((((a3.getD a4.toNat []).getD 0 (.i 0)).toI).toNat))).drop 1).take (((IntKind.i64.wrap (1 + (((a1.drop ((((a3.getD a4.toNat []).getD 0 (.i 0)).toI).toNat)).take (((IntKind.i64.wrap ((((a3.getD a4.toNat []).getD 0 (.i 0)).toI) + (((a3.getD a4.toNat []).getD 1 (.i 0)).toI))).toNat) - ((((a3.getD a4.toNat []).getD 0 (.i 0)).toI).toNat))).getD 0 0))).toNat) - 1)).length) * 8 ≤ 140737488355328) then (bif decide (0 < (((a1.drop ((((a3.getD a4.toNat []).getD 0 (.i 0)).toI).toNat)).take (((IntKind.i64.wrap ((((a3.getD a4.toNat []).getD 0 (.i 0)).toI) + (((a3.getD a4.toNat []).getD 1 (.i 0)).toI))).toNat) - ((((a3.getD a4.toNat []).getD 0 (.i 0)).toI).toNat))).length : Int)) then (bif decide (0 ≤ IntKind.i64.wrap (1 + (((a1.drop ((((a3.getD a4.toNat []).getD 0 (.i 0)).toI).toNat)).take (((IntKind.i64.wrap ((((a3.getD a4.toNat []).getD 0 (.i 0)).toI) + (((a3.getD a4.toNat []).getD 1 (.i 0)).toI))).toNat) - ((((a3.getD a4.toNat []).getD 0 (.i 0)).toI).toNat))).getD 0 0))) && decide (IntKind.i64.wrap (1 + (((a1.drop ((((a3.getD a4.toNat []).getD 0 (.i 0)).toI).toNat)).take (((IntKind.i64.wrap ((((a3.getD a4.toNat []).getD 0 (.i 0)).toI) + (((a3.getD a4.toNat []).getD 1 (.i 0)).toI))).toNat) - ((((a3.getD a4.toNat []).getD 0 (.i 0)).toI).toNat))).getD 0 0)) ≤ (((a1.drop ((((a3.getD a4.toNat []).getD 0 (.i 0)).toI).toNat)).take (((IntKind.i64.wrap ((((a3.getD a4.toNat []).getD 0 (.i 0)).toI) + (((a3.getD a4.toNat []).getD 1 (.i 0)).toI))).toNat) - ((((a3.getD a4.toNat []).getD 0 (.i 0)).toI).toNat))).length : Int)) then (bif decide ((0 + (((a1.drop ((((a3.getD a4.toNat []).getD 0 (.i 0)).toI).toNat)).take (((IntKind.i64.wrap ((((a3.getD a4.toNat []).getD 0 (.i 0)).toI) + (((a3.getD a4.toNat []).getD 1 (.i 0)).toI))).toNat) - ((((a3.getD a4.toNat []).getD 0 (.i 0)).toI).toNat))).drop ((IntKind.i64.wrap (1 + (((a1.drop ((((a3.getD a4.toNat []).getD 0 (.i 0)).toI).toNat)).take (((IntKind.i64.wrap ((((a3.getD a4.toNat []).getD 0 (.i 0)).toI) + (((a3.getD a4.toNat []).getD 1 (.i 0)).toI))).toNat) - ((((a3.getD a4.toNat []).getD 0 (.i 0)).toI).toNat))).getD 0 0))).toNat)).length) * 8 ≤ 140737488355328) then (spec_ArrayOk.g (([] : List Int) ++ ((((a1.drop ((((a3.getD a4.toNat []).getD 0 (.i 0)).toI).toNat)).take (((IntKind.i64.wrap ((((a3.getD a4.toNat []).getD 0 (.i 0)).toI) + (((a3.getD a4.toNat []).getD 1 (.i 0)).toI))).toNat) - ((((a3.getD a4.toNat []).getD 0 (.i 0)).toI).toNat))).drop 1).take (((IntKind.i64.wrap (1 + (((a1.drop ((((a3.getD a4.toNat []).getD 0 (.i 0)).toI).toNat)).take (((IntKind.i64.wrap ((((a3.getD a4.toNat []).getD 0 (.i 0)).toI) + (((a3.getD a4.toNat []).getD 1 (.i 0)).toI))).toNat) - ((((a3.getD a4.toNat []).getD 0 (.i 0)).toI).toNat))).getD 0 0))).toNat) - 1))) (([] : List Int) ++ (((a1.drop ((((a3.getD a4.toNat []).getD 0 (.i 0)).toI).toNat)).take (((IntKind.i64.wrap ((((a3.getD a4.toNat []).getD 0 (.i 0)).toI) + (((a3.getD a4.toNat []).getD 1 (.i 0)).toI))).toNat) - ((((a3.getD a4.toNat []).getD 0 (.i 0)).toI).toNat))).drop ((IntKind.i64.wrap (1 + (((a1.drop ((((a3.getD a4.toNat []).getD 0 (.i 0)).toI).toNat)).take (((IntKind.i64.wrap ((((a3.getD a4.toNat []).getD 0 (.i 0)).toI) + (((a3.getD a4.toNat []).getD 1 (.i 0)).toI))).toNat) - ((((a3.getD a4.toNat []).getD 0 (.i 0)).toI).toNat))).getD 0 0))).toNat))) fun r8 =>
                    bif !r8 then R ([] : List Int) ([] : List Int) false
                    else R (([] : List Int) ++ ((((a1.drop ((((a3.getD a4.toNat []).getD 0 (.i 0)).toI).toNat)).take (((IntKind.i64.wrap ((((a3.getD a4.toNat []).getD 0 (.i 0)).toI) + (((a3.getD a4.toNat []).getD 1 (.i 0)).toI))).toNat) - ((((a3.getD a4.toNat []).getD 0 (.i 0)).toI).toNat))).drop 1).take (((IntKind.i64.wrap (1 + (((a1.drop ((((a3.getD a4.toNat []).getD 0 (.i 0)).toI).toNat)).take (((IntKind.i64.wrap ((((a3.getD a4.toNat []).getD 0 (.i 0)).toI) + (((a3.getD a4.toNat []).getD 1 (.i 0)).toI))).toNat) - ((((a3.getD a4.toNat []).getD 0 (.i 0)).toI).toNat))).getD 0 0))).toNat) - 1))) (([] : List Int) ++ (((a1.drop ((((a3.getD a4.toNat []).getD 0 (.i 0)).toI).toNat)).take (((IntKind.i64.wrap ((((a3.getD a4.toNat []).getD 0 (.i 0)).toI) + (((a3.getD a4.toNat []).getD 1 (.i 0)).toI))).toNat) - ((((a3.getD a4.toNat []).getD 0 (.i 0)).toI).toNat))).drop ((IntKind.i64.wrap (1 + (((a1.drop ((((a3.getD a4.toNat []).getD 0 (.i 0)).toI).toNat)).take (((IntKind.i64.wrap ((((a3.getD a4.toNat []).getD 0 (.i 0)).toI) + (((a3.getD a4.toNat []).getD 1 (.i 0)).toI))).toNat) - ((((a3.getD a4.toNat []).getD 0 (.i 0)).toI).toNat))).getD 0 0))).toNat))) true)
                  else none)
                else none)
              else none)
            else none)
          else none)
        else none)
      else none)
    else none)
  else none)
theorem gx : ∃ x : List Int → Int → List (List Cl) → Int → (List Int → List Int → Bool → Option Res) → Option Res, x = b := ⟨_, rfl⟩
noncomputable def g : List Int → Int → List (List Cl) → Int → (List Int → List Int → Bool → Option Res) → Option Res := Classical.choose gx
theorem e : g = b := Classical.choose_spec gx
noncomputable def run : List Lf → (Res → Option Res) → Option Res
  | [.q (.ints a1), .i a2, .q (.cells a3), .i a4], K => g a1 a2 a3 a4 (fun r1 r2 r3 => K (m r1 r2 r3))
  | _, _ => none
noncomputable def a (a1 : List Int) (a2 : Int) (a3 : List (List Cl)) (a4 : Int) : St := argSt [.v ⟨true, [.tr 0 1 [.int .i64] (.ints a1), .int .i64 a2, .tr 0 1 [.int .i64, .int .i64, .bool] (.cells a3)]⟩, one (.int .i64 a4)] [] []
noncomputable def con : FuncId × St × (List Lf → (Res → Option Res) → Option Res) := (35, a [] 0 [] 0, run)
theorem cx (K : Res → Option Res) : CtxOk Go.Proofs.Try.prog Γ0 byt0 eqs0 (X K) os := ⟨rfl, rfl, rfl, (fun p hp => by
  rcases List.mem_cons.1 hp with rfl | hp
  · exact spec_HeapOk.ok
  rcases List.mem_cons.1 hp with rfl | hp
  · exact spec_l13Live.ok
  rcases List.mem_cons.1 hp with rfl | hp
  · exact spec_l1In.ok
  rcases List.mem_cons.1 hp with rfl | hp
  · exact spec_ArrayOk.ok
  cases hp), rfl, rfl, rfl, rfl⟩
theorem tie (K : Res → Option Res) (a1 : List Int) (a2 : Int) (a3 : List (List Cl)) (a4 : Int) : exec (X K) c (entry 65 [.v ⟨true, [.tr 0 1 [.int .i64] (.ints a1), .int .i64 a2, .tr 0 1 [.int .i64, .int .i64, .bool] (.cells a3)]⟩, one (.int .i64 a4)] [] []) (endK (X K)) = g a1 a2 a3 a4 (fun r1 r2 r3 => K (m r1 r2 r3)) := Eq.trans (b := b a1 a2 a3 a4 (fun r1 r2 r3 => K (m r1 r2 r3))) (by kernel_rfl) (by rw [e])
theorem runv {l : List Lf} {K : Res → Option Res} {r : Res} (h : run l K = some r) : ∃ a1 a2 a3 a4, l = [.q (.ints a1), .i a2, .q (.cells a3), .i a4] ∧ g a1 a2 a3 a4 (fun r1 r2 r3 => K (m r1 r2 r3)) = some r := by
  unfold run at h; split at h
  · exact ⟨_, _, _, _, rfl, h⟩
  · cases h
theorem ok : Con Go.Proofs.Try.prog con := con_of (fn := Go.Proofs.Try.f35) (c := c) (Fi := fi) (X := X) (fun_of laid (by kernel_rfl) (by kernel_rfl) (by kernel_rfl) rfl (by kernel_rfl) (by kernel_rfl) cx (fun _ => rfl) (fun _ => rfl) (fun K => by
    rw [show loopsOf c = [] from by kernel_rfl]; intro p hp
    cases hp)) fun xs rows boxes K r hl hr => by
  obtain ⟨a1, a2, a3, a4, e, h⟩ := runv hr
  have := St.like_eq (y := a a1 a2 a3 a4) hl (by kernel_rfl) e
  obtain ⟨rfl, rfl, rfl⟩ := argSt_inj this
  exact (tie K a1 a2 a3 a4).trans h
end spec_HeapGet
namespace impl_copyArray
noncomputable def c : Code := bodyOf Go.Proofs.Try.f102
noncomputable def fi : Fin := ⟨Γ0, [(.cell 2 25, 25)], [[1, 1]], [], [], []⟩
noncomputable def m (a1 a2 : List Int) : Res := ⟨[⟨true, [.ow 1000, .ow 1001]⟩], [], [⟨[.int .i64], .ints a1, true, 0⟩, ⟨[.int .i64], .ints a2, true, 0⟩], [], []⟩
noncomputable def os : List (FuncId × St × (List Lf → (Res → Option Res) → Option Res)) := []
noncomputable def X (K : Res → Option Res) : Ctx := { Γ := Γ0, orc := orcOf os, io := [], share := [], mvl := [], bun := [], cut := [], own := [], cin := [], cout := [], lp := lpOf [], kl := [], nk := true, eqs := eqs0, byt := byt0, fin := finK fi K }
noncomputable def b (a1 a2 : List Int) (R : Option Res) : Option Res :=
  bif decide (a1.length * 8 ≤ 140737488355328) then (bif decide (a2.length * 8 ≤ 140737488355328) then R
    else none)
  else none
theorem gx : ∃ x : List Int → List Int → (Option Res) → Option Res, x = b := ⟨_, rfl⟩
noncomputable def g : List Int → List Int → (Option Res) → Option Res := Classical.choose gx
theorem e : g = b := Classical.choose_spec gx
noncomputable def run : List Lf → (Res → Option Res) → Option Res
  | [.q (.ints a1), .q (.ints a2)], K => g a1 a2 (K (m a1 a2))
  | _, _ => none
noncomputable def a (a1 a2 : List Int) : St := argSt [.v ⟨true, [.tr 0 1 [.int .i64] (.ints a1), .tr 0 1 [.int .i64] (.ints a2)]⟩] [] []
noncomputable def con : FuncId × St × (List Lf → (Res → Option Res) → Option Res) := (102, a [] [], run)
theorem cx (K : Res → Option Res) : CtxOk Go.Proofs.Try.prog Γ0 byt0 eqs0 (X K) os := ⟨rfl, rfl, rfl, (fun p hp => by
  cases hp), rfl, rfl, rfl, rfl⟩
theorem tie (K : Res → Option Res) (a1 a2 : List Int) : exec (X K) c (entry 10 [.v ⟨true, [.tr 0 1 [.int .i64] (.ints a1), .tr 0 1 [.int .i64] (.ints a2)]⟩] [] []) (endK (X K)) = g a1 a2 (K (m a1 a2)) := Eq.trans (b := b a1 a2 (K (m a1 a2))) (by kernel_rfl) (by rw [e])
theorem runv {l : List Lf} {K : Res → Option Res} {r : Res} (h : run l K = some r) : ∃ a1 a2, l = [.q (.ints a1), .q (.ints a2)] ∧ g a1 a2 (K (m a1 a2)) = some r := by
  unfold run at h; split at h
  · exact ⟨_, _, rfl, h⟩
  · cases h
theorem ok : Con Go.Proofs.Try.prog con := con_of (fn := Go.Proofs.Try.f102) (c := c) (Fi := fi) (X := X) (fun_of laid (by kernel_rfl) (by kernel_rfl) (by kernel_rfl) rfl (by kernel_rfl) (by kernel_rfl) cx (fun _ => rfl) (fun _ => rfl) (fun K => by
    rw [show loopsOf c = [] from by kernel_rfl]; intro p hp
    cases hp)) fun xs rows boxes K r hl hr => by
  obtain ⟨a1, a2, e, h⟩ := runv hr
  have := St.like_eq (y := a a1 a2) hl (by kernel_rfl) e
  obtain ⟨rfl, rfl, rfl⟩ := argSt_inj this
  exact (tie K a1 a2).trans h
end impl_copyArray
namespace impl_HeapGet
noncomputable def c : Code := bodyOf Go.Proofs.Try.f36
noncomputable def fi : Fin := ⟨Γ0, [(.cell 4 25, 25), (.tmp 5, 4)], [[1, 1], [1]], [], [], []⟩
noncomputable def m (r1 r2 : List Int) (r3 : Bool) : Res := ⟨[⟨true, [.ow 1000, .ow 1001]⟩, ⟨false, [.bool r3]⟩], [], [⟨[.int .i64], .ints r1, true, 0⟩, ⟨[.int .i64], .ints r2, true, 0⟩], [], []⟩
noncomputable def os : List (FuncId × St × (List Lf → (Res → Option Res) → Option Res)) := [impl_liveAt.con, impl_within.con, impl_copyArray.con, impl_ArrayOk.con]
noncomputable def X (K : Res → Option Res) : Ctx := { Γ := Γ0, orc := orcOf os, io := [], share := [], mvl := [], bun := [], cut := [], own := [], cin := [], cout := [], lp := lpOf [], kl := [], nk := true, eqs := eqs0, byt := byt0, fin := finK fi K }
noncomputable def b (a1 : List Int) (a2 : Int) (a3 : List (List Cl)) (a4 : Int) (R : List Int → List Int → Bool → Option Res) : Option Res :=
  impl_liveAt.g a1 a2 a3 a4 fun r5 =>
  bif !r5 then R ([] : List Int) ([] : List Int) false
  else bif decide (0 ≤ a4) && decide (a4 < (a3.length : Int)) then (bif decide (0 ≤ ((a3.getD a4.toNat []).getD 0 (.i 0)).toI) && decide (((a3.getD a4.toNat []).getD 0 (.i 0)).toI ≤ IntKind.i64.wrap ((((a3.getD a4.toNat []).getD 0 (.i 0)).toI) + (((a3.getD a4.toNat []).getD 1 (.i 0)).toI))) && decide (IntKind.i64.wrap ((((a3.getD a4.toNat []).getD 0 (.i 0)).toI) + (((a3.getD a4.toNat []).getD 1 (.i 0)).toI)) ≤ (a1.length : Int)) then (bif decide (0 < (((a1.drop ((((a3.getD a4.toNat []).getD 0 (.i 0)).toI).toNat)).take (((IntKind.i64.wrap ((((a3.getD a4.toNat []).getD 0 (.i 0)).toI) + (((a3.getD a4.toNat []).getD 1 (.i 0)).toI))).toNat) - ((((a3.getD a4.toNat []).getD 0 (.i 0)).toI).toNat))).length : Int)) then (impl_within.g (((a1.drop ((((a3.getD a4.toNat []).getD 0 (.i 0)).toI).toNat)).take (((IntKind.i64.wrap ((((a3.getD a4.toNat []).getD 0 (.i 0)).toI) + (((a3.getD a4.toNat []).getD 1 (.i 0)).toI))).toNat) - ((((a3.getD a4.toNat []).getD 0 (.i 0)).toI).toNat))).getD 0 0) 0 (minmax false 3 (IntKind.i64.wrap ((((a1.drop ((((a3.getD a4.toNat []).getD 0 (.i 0)).toI).toNat)).take (((IntKind.i64.wrap ((((a3.getD a4.toNat []).getD 0 (.i 0)).toI) + (((a3.getD a4.toNat []).getD 1 (.i 0)).toI))).toNat) - ((((a3.getD a4.toNat []).getD 0 (.i 0)).toI).toNat))).length : Int) - 1))) fun r6 =>
        bif !r6 then R ([] : List Int) ([] : List Int) false
        else bif decide (1 ≤ IntKind.i64.wrap (1 + (((a1.drop ((((a3.getD a4.toNat []).getD 0 (.i 0)).toI).toNat)).take (((IntKind.i64.wrap ((((a3.getD a4.toNat []).getD 0 (.i 0)).toI) + (((a3.getD a4.toNat []).getD 1 (.i 0)).toI))).toNat) - ((((a3.getD a4.toNat []).getD 0 (.i 0)).toI).toNat))).getD 0 0))) && decide (IntKind.i64.wrap (1 + (((a1.drop ((((a3.getD a4.toNat []).getD 0 (.i 0)).toI).toNat)).take (((IntKind.i64.wrap ((((a3.getD a4.toNat []).getD 0 (.i 0)).toI) + (((a3.getD a4.toNat []).getD 1 (.i 0)).toI))).toNat) - ((((a3.getD a4.toNat []).getD 0 (.i 0)).toI).toNat))).getD 0 0)) ≤ (((a1.drop ((((a3.getD a4.toNat []).getD 0 (.i 0)).toI).toNat)).take (((IntKind.i64.wrap ((((a3.getD a4.toNat []).getD 0 (.i 0)).toI) + (((a3.getD a4.toNat []).getD 1 (.i 0)).toI))).toNat) - ((((a3.getD a4.toNat []).getD 0 (.i 0)).toI).toNat))).length : Int)) then (bif decide (0 ≤ IntKind.i64.wrap (1 + (((a1.drop ((((a3.getD a4.toNat []).getD 0 (.i 0)).toI).toNat)).take (((IntKind.i64.wrap ((((a3.getD a4.toNat []).getD 0 (.i 0)).toI) + (((a3.getD a4.toNat []).getD 1 (.i 0)).toI))).toNat) - ((((a3.getD a4.toNat []).getD 0 (.i 0)).toI).toNat))).getD 0 0))) && decide (IntKind.i64.wrap (1 + (((a1.drop ((((a3.getD a4.toNat []).getD 0 (.i 0)).toI).toNat)).take (((IntKind.i64.wrap ((((a3.getD a4.toNat []).getD 0 (.i 0)).toI) + (((a3.getD a4.toNat []).getD 1 (.i 0)).toI))).toNat) - ((((a3.getD a4.toNat []).getD 0 (.i 0)).toI).toNat))).getD 0 0)) ≤ (((a1.drop ((((a3.getD a4.toNat []).getD 0 (.i 0)).toI).toNat)).take (((IntKind.i64.wrap ((((a3.getD a4.toNat []).getD 0 (.i 0)).toI) + (((a3.getD a4.toNat []).getD 1 (.i 0)).toI))).toNat) - ((((a3.getD a4.toNat []).getD 0 (.i 0)).toI).toNat))).length : Int)) then (impl_copyArray.g ((((a1.drop ((((a3.getD a4.toNat []).getD 0 (.i 0)).toI).toNat)).take (((IntKind.i64.wrap ((((a3.getD a4.toNat []).getD 0 (.i 0)).toI) + (((a3.getD a4.toNat []).getD 1 (.i 0)).toI))).toNat) - ((((a3.getD a4.toNat []).getD 0 (.i 0)).toI).toNat))).drop 1).take (((IntKind.i64.wrap (1 + (((a1.drop ((((a3.getD a4.toNat []).getD 0 (.i 0)).toI).toNat)).take (((IntKind.i64.wrap ((((a3.getD a4.toNat []).getD 0 (.i 0)).toI) + (((a3.getD a4.toNat []).getD 1 (.i 0)).toI))).toNat) - ((((a3.getD a4.toNat []).getD 0 (.i 0)).toI).toNat))).getD 0 0))).toNat) - 1)) (((a1.drop ((((a3.getD a4.toNat []).getD 0 (.i 0)).toI).toNat)).take (((IntKind.i64.wrap ((((a3.getD a4.toNat []).getD 0 (.i 0)).toI) + (((a3.getD a4.toNat []).getD 1 (.i 0)).toI))).toNat) - ((((a3.getD a4.toNat []).getD 0 (.i 0)).toI).toNat))).drop ((IntKind.i64.wrap (1 + (((a1.drop ((((a3.getD a4.toNat []).getD 0 (.i 0)).toI).toNat)).take (((IntKind.i64.wrap ((((a3.getD a4.toNat []).getD 0 (.i 0)).toI) + (((a3.getD a4.toNat []).getD 1 (.i 0)).toI))).toNat) - ((((a3.getD a4.toNat []).getD 0 (.i 0)).toI).toNat))).getD 0 0))).toNat)) (
            impl_ArrayOk.g ((((a1.drop ((((a3.getD a4.toNat []).getD 0 (.i 0)).toI).toNat)).take (((IntKind.i64.wrap ((((a3.getD a4.toNat []).getD 0 (.i 0)).toI) + (((a3.getD a4.toNat []).getD 1 (.i 0)).toI))).toNat) - ((((a3.getD a4.toNat []).getD 0 (.i 0)).toI).toNat))).drop 1).take (((IntKind.i64.wrap (1 + (((a1.drop ((((a3.getD a4.toNat []).getD 0 (.i 0)).toI).toNat)).take (((IntKind.i64.wrap ((((a3.getD a4.toNat []).getD 0 (.i 0)).toI) + (((a3.getD a4.toNat []).getD 1 (.i 0)).toI))).toNat) - ((((a3.getD a4.toNat []).getD 0 (.i 0)).toI).toNat))).getD 0 0))).toNat) - 1)) (((a1.drop ((((a3.getD a4.toNat []).getD 0 (.i 0)).toI).toNat)).take (((IntKind.i64.wrap ((((a3.getD a4.toNat []).getD 0 (.i 0)).toI) + (((a3.getD a4.toNat []).getD 1 (.i 0)).toI))).toNat) - ((((a3.getD a4.toNat []).getD 0 (.i 0)).toI).toNat))).drop ((IntKind.i64.wrap (1 + (((a1.drop ((((a3.getD a4.toNat []).getD 0 (.i 0)).toI).toNat)).take (((IntKind.i64.wrap ((((a3.getD a4.toNat []).getD 0 (.i 0)).toI) + (((a3.getD a4.toNat []).getD 1 (.i 0)).toI))).toNat) - ((((a3.getD a4.toNat []).getD 0 (.i 0)).toI).toNat))).getD 0 0))).toNat)) fun r7 =>
            bif !r7 then R ([] : List Int) ([] : List Int) false
            else R ((((a1.drop ((((a3.getD a4.toNat []).getD 0 (.i 0)).toI).toNat)).take (((IntKind.i64.wrap ((((a3.getD a4.toNat []).getD 0 (.i 0)).toI) + (((a3.getD a4.toNat []).getD 1 (.i 0)).toI))).toNat) - ((((a3.getD a4.toNat []).getD 0 (.i 0)).toI).toNat))).drop 1).take (((IntKind.i64.wrap (1 + (((a1.drop ((((a3.getD a4.toNat []).getD 0 (.i 0)).toI).toNat)).take (((IntKind.i64.wrap ((((a3.getD a4.toNat []).getD 0 (.i 0)).toI) + (((a3.getD a4.toNat []).getD 1 (.i 0)).toI))).toNat) - ((((a3.getD a4.toNat []).getD 0 (.i 0)).toI).toNat))).getD 0 0))).toNat) - 1)) (((a1.drop ((((a3.getD a4.toNat []).getD 0 (.i 0)).toI).toNat)).take (((IntKind.i64.wrap ((((a3.getD a4.toNat []).getD 0 (.i 0)).toI) + (((a3.getD a4.toNat []).getD 1 (.i 0)).toI))).toNat) - ((((a3.getD a4.toNat []).getD 0 (.i 0)).toI).toNat))).drop ((IntKind.i64.wrap (1 + (((a1.drop ((((a3.getD a4.toNat []).getD 0 (.i 0)).toI).toNat)).take (((IntKind.i64.wrap ((((a3.getD a4.toNat []).getD 0 (.i 0)).toI) + (((a3.getD a4.toNat []).getD 1 (.i 0)).toI))).toNat) - ((((a3.getD a4.toNat []).getD 0 (.i 0)).toI).toNat))).getD 0 0))).toNat)) true))
          else none)
        else none)
      else none)
    else none)
  else none
theorem gx : ∃ x : List Int → Int → List (List Cl) → Int → (List Int → List Int → Bool → Option Res) → Option Res, x = b := ⟨_, rfl⟩
noncomputable def g : List Int → Int → List (List Cl) → Int → (List Int → List Int → Bool → Option Res) → Option Res := Classical.choose gx
theorem e : g = b := Classical.choose_spec gx
noncomputable def run : List Lf → (Res → Option Res) → Option Res
  | [.q (.ints a1), .i a2, .q (.cells a3), .i a4], K => g a1 a2 a3 a4 (fun r1 r2 r3 => K (m r1 r2 r3))
  | _, _ => none
noncomputable def a (a1 : List Int) (a2 : Int) (a3 : List (List Cl)) (a4 : Int) : St := argSt [.v ⟨true, [.tr 0 1 [.int .i64] (.ints a1), .int .i64 a2, .tr 0 1 [.int .i64, .int .i64, .bool] (.cells a3)]⟩, one (.int .i64 a4)] [] []
noncomputable def con : FuncId × St × (List Lf → (Res → Option Res) → Option Res) := (36, a [] 0 [] 0, run)
theorem cx (K : Res → Option Res) : CtxOk Go.Proofs.Try.prog Γ0 byt0 eqs0 (X K) os := ⟨rfl, rfl, rfl, (fun p hp => by
  rcases List.mem_cons.1 hp with rfl | hp
  · exact impl_liveAt.ok
  rcases List.mem_cons.1 hp with rfl | hp
  · exact impl_within.ok
  rcases List.mem_cons.1 hp with rfl | hp
  · exact impl_copyArray.ok
  rcases List.mem_cons.1 hp with rfl | hp
  · exact impl_ArrayOk.ok
  cases hp), rfl, rfl, rfl, rfl⟩
theorem tie (K : Res → Option Res) (a1 : List Int) (a2 : Int) (a3 : List (List Cl)) (a4 : Int) : exec (X K) c (entry 56 [.v ⟨true, [.tr 0 1 [.int .i64] (.ints a1), .int .i64 a2, .tr 0 1 [.int .i64, .int .i64, .bool] (.cells a3)]⟩, one (.int .i64 a4)] [] []) (endK (X K)) = g a1 a2 a3 a4 (fun r1 r2 r3 => K (m r1 r2 r3)) := Eq.trans (b := b a1 a2 a3 a4 (fun r1 r2 r3 => K (m r1 r2 r3))) (by kernel_rfl) (by rw [e])
theorem runv {l : List Lf} {K : Res → Option Res} {r : Res} (h : run l K = some r) : ∃ a1 a2 a3 a4, l = [.q (.ints a1), .i a2, .q (.cells a3), .i a4] ∧ g a1 a2 a3 a4 (fun r1 r2 r3 => K (m r1 r2 r3)) = some r := by
  unfold run at h; split at h
  · exact ⟨_, _, _, _, rfl, h⟩
  · cases h
theorem ok : Con Go.Proofs.Try.prog con := con_of (fn := Go.Proofs.Try.f36) (c := c) (Fi := fi) (X := X) (fun_of laid (by kernel_rfl) (by kernel_rfl) (by kernel_rfl) rfl (by kernel_rfl) (by kernel_rfl) cx (fun _ => rfl) (fun _ => rfl) (fun K => by
    rw [show loopsOf c = [] from by kernel_rfl]; intro p hp
    cases hp)) fun xs rows boxes K r hl hr => by
  obtain ⟨a1, a2, a3, a4, e, h⟩ := runv hr
  have := St.like_eq (y := a a1 a2 a3 a4) hl (by kernel_rfl) e
  obtain ⟨rfl, rfl, rfl⟩ := argSt_inj this
  exact (tie K a1 a2 a3 a4).trans h
end impl_HeapGet
namespace laws_FnExactHeapGet
noncomputable def c : Code := bodyOf Go.Proofs.Try.f6
noncomputable def fi : Fin := ⟨Γ0, [(.tmp 4, 4)], [[1]], [], [], []⟩
noncomputable def m (r1 : Bool) : Res := ⟨[⟨false, [.bool r1]⟩], [], [], [], []⟩
noncomputable def os : List (FuncId × St × (List Lf → (Res → Option Res) → Option Res)) := [laws_szHeap.con, laws_toHeap.con, spec_HeapGet.con, impl_HeapGet.con, laws_eqArray.con, laws_eqHeap.con, laws_markHeap.con, laws_markArray.con, laws_heldArray.con]
noncomputable def X (K : Res → Option Res) : Ctx := { Γ := Γ0, orc := orcOf os, io := [(26, [⟨true, 0, 1⟩, ⟨false, 0, 1⟩]), (19, [⟨true, 0, 1⟩, ⟨false, 0, 1⟩])], share := [], mvl := [], bun := [], cut := [], own := [], cin := [], cout := [], lp := lpOf [], kl := [], nk := true, eqs := eqs0, byt := byt0, fin := finK fi K }
noncomputable def b (a1 : List Int) (a2 : Int) (a3 : List (List Cl)) (a4 : Int) (R : Bool → Option Res) : Option Res :=
  laws_szHeap.g a1 a2 a3 1048576 fun r5 =>
  bif decide (r5 < 0) then R true
  else (laws_toHeap.g a1 a2 a3 fun r6 r7 =>
  spec_HeapGet.g r6 a2 r7 a4 fun r8 r9 r10 =>
  laws_toHeap.g a1 a2 a3 fun r11 r12 =>
  impl_HeapGet.g r11 a2 r12 a4 fun r13 r14 r15 =>
  laws_eqArray.g r13 r14 r8 r9 fun r16 =>
  bif !r16 then R false
  else bif (r15 != r10) then R false
  else (laws_toHeap.g a1 a2 a3 fun r17 r18 =>
  laws_eqHeap.g r11 a2 r12 r17 a2 r18 fun r19 =>
  bif !r19 then R false
  else (laws_markHeap.g a2 1 r11 r12 fun r20 r21 r22 =>
  bif decide (r20 < 0) then R false
  else (laws_eqArray.g r13 r14 r8 r9 fun r23 =>
  bif !r23 then R false
  else bif (r15 != r10) then R false
  else (laws_markArray.g 1 r13 r14 fun r24 r25 r26 =>
  laws_heldArray.g r25 r26 1 fun r27 =>
  bif decide (r27 < 0) then R false
  else bif (r27 != r24) then R false
  else (laws_toHeap.g a1 a2 a3 fun r28 r29 =>
  impl_HeapGet.g r28 a2 r29 a4 fun r30 r31 r32 =>
  laws_eqArray.g r30 r31 r8 r9 fun r33 =>
  bif !r33 then R false
  else bif (r32 != r10) then R false
  else (laws_heldArray.g r25 r26 1 fun r34 =>
  bif decide (r34 < 0) then R false
  else bif (r34 != r24) then R false
  else R true)))))))
theorem gx : ∃ x : List Int → Int → List (List Cl) → Int → (Bool → Option Res) → Option Res, x = b := ⟨_, rfl⟩
noncomputable def g : List Int → Int → List (List Cl) → Int → (Bool → Option Res) → Option Res := Classical.choose gx
theorem e : g = b := Classical.choose_spec gx
noncomputable def run : List Lf → (Res → Option Res) → Option Res
  | [.q (.ints a1), .i a2, .q (.cells a3), .i a4], K => g a1 a2 a3 a4 (fun r1 => K (m r1))
  | _, _ => none
noncomputable def a (a1 : List Int) (a2 : Int) (a3 : List (List Cl)) (a4 : Int) : St := argSt [.v ⟨true, [.tr 0 1 [.int .i64] (.ints a1), .int .i64 a2, .tr 0 1 [.int .i64, .int .i64, .bool] (.cells a3)]⟩, one (.int .i64 a4)] [] []
noncomputable def con : FuncId × St × (List Lf → (Res → Option Res) → Option Res) := (6, a [] 0 [] 0, run)
theorem cx (K : Res → Option Res) : CtxOk Go.Proofs.Try.prog Γ0 byt0 eqs0 (X K) os := ⟨rfl, rfl, rfl, (fun p hp => by
  rcases List.mem_cons.1 hp with rfl | hp
  · exact laws_szHeap.ok
  rcases List.mem_cons.1 hp with rfl | hp
  · exact laws_toHeap.ok
  rcases List.mem_cons.1 hp with rfl | hp
  · exact spec_HeapGet.ok
  rcases List.mem_cons.1 hp with rfl | hp
  · exact impl_HeapGet.ok
  rcases List.mem_cons.1 hp with rfl | hp
  · exact laws_eqArray.ok
  rcases List.mem_cons.1 hp with rfl | hp
  · exact laws_eqHeap.ok
  rcases List.mem_cons.1 hp with rfl | hp
  · exact laws_markHeap.ok
  rcases List.mem_cons.1 hp with rfl | hp
  · exact laws_markArray.ok
  rcases List.mem_cons.1 hp with rfl | hp
  · exact laws_heldArray.ok
  cases hp), rfl, rfl, rfl, rfl⟩
theorem tie (K : Res → Option Res) (a1 : List Int) (a2 : Int) (a3 : List (List Cl)) (a4 : Int) : exec (X K) c (entry 101 [.v ⟨true, [.tr 0 1 [.int .i64] (.ints a1), .int .i64 a2, .tr 0 1 [.int .i64, .int .i64, .bool] (.cells a3)]⟩, one (.int .i64 a4)] [] []) (endK (X K)) = g a1 a2 a3 a4 (fun r1 => K (m r1)) := Eq.trans (b := b a1 a2 a3 a4 (fun r1 => K (m r1))) (by kernel_rfl) (by rw [e])
theorem runv {l : List Lf} {K : Res → Option Res} {r : Res} (h : run l K = some r) : ∃ a1 a2 a3 a4, l = [.q (.ints a1), .i a2, .q (.cells a3), .i a4] ∧ g a1 a2 a3 a4 (fun r1 => K (m r1)) = some r := by
  unfold run at h; split at h
  · exact ⟨_, _, _, _, rfl, h⟩
  · cases h
theorem ok : Con Go.Proofs.Try.prog con := con_of (fn := Go.Proofs.Try.f6) (c := c) (Fi := fi) (X := X) (fun_of laid (by kernel_rfl) (by kernel_rfl) (by kernel_rfl) rfl (by kernel_rfl) (by kernel_rfl) cx (fun _ => rfl) (fun _ => rfl) (fun K => by
    rw [show loopsOf c = [] from by kernel_rfl]; intro p hp
    cases hp)) fun xs rows boxes K r hl hr => by
  obtain ⟨a1, a2, a3, a4, e, h⟩ := runv hr
  have := St.like_eq (y := a a1 a2 a3 a4) hl (by kernel_rfl) e
  obtain ⟨rfl, rfl, rfl⟩ := argSt_inj this
  exact (tie K a1 a2 a3 a4).trans h
end laws_FnExactHeapGet
end Go.Tv.F
