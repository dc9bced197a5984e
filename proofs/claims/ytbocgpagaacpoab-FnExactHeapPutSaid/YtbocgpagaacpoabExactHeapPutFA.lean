/- The law's functions, printed by a program of ours, each with its contract. They hold without condition. -/
import Derived.Test.YtbocgpagaacpoabProg
import Derived.Test.YtbocgpagaacpoabTvC
set_option linter.unusedVariables false
set_option linter.unusedSimpArgs false
set_option linter.unnecessarySimpa false
set_option maxRecDepth 100000
set_option autoImplicit false
namespace Go.Tv.F
open Go Go.Tv
noncomputable def Γ0 : List (Nat × TI) := [(3, ⟨false, [.int .i64], []⟩),
  (4, ⟨false, [.bool], []⟩),
  (5, ⟨false, [.int .u8], []⟩),
  (9, ⟨false, [.str], []⟩),
  (22, ⟨false, [.sl [.int .u8] 1], []⟩),
  (33, ⟨false, [.sl [.int .i64] 8], []⟩),
  (36, ⟨false, [.sl [.int .i64, .int .i64, .bool] 24], []⟩),
  (38, ⟨true, [.sl [.int .i64] 8, .int .i64, .sl [.int .i64, .int .i64, .bool] 24], [(0, 1, false), (1, 1, false), (2, 1, false)]⟩),
  (44, ⟨true, [.sl [.int .i64] 8, .sl [.int .i64] 8], [(0, 1, false), (1, 1, false)]⟩),
  (49, ⟨true, [.int .i64, .int .i64, .bool], [(0, 1, false), (1, 1, false), (2, 1, false)]⟩),
  (57, ⟨false, [.sl [.int .i64, .int .i64, .bool] 24], []⟩),
  (59, ⟨true, [.sl [.int .i64] 8, .int .i64, .sl [.int .i64, .int .i64, .bool] 24], [(0, 1, false), (1, 1, false), (2, 1, false)]⟩),
  (60, ⟨true, [.sl [.int .i64] 8, .sl [.int .i64] 8], [(0, 1, false), (1, 1, false)]⟩),
  (86, ⟨false, [.ptr], []⟩),
  (98, ⟨false, [.sl [.bool] 1], []⟩),
  (106, ⟨false, [.fn], []⟩),
  (127, ⟨true, [.sl [.int .u8] 1, .int .i64, .int .i64], [(0, 1, false), (1, 1, false), (2, 1, false)]⟩),
  (136, ⟨false, [.fn], []⟩),
  (138, ⟨false, [.fn], []⟩),
  (149, ⟨true, [.int .i64, .int .i64, .bool], [(0, 1, false), (1, 1, false), (2, 1, false)]⟩),
  (172, ⟨false, [.int .u64], []⟩),
  (179, ⟨false, [.sl [.ints .i64] 24], []⟩),
  (188, ⟨false, [.int .i64], []⟩),
  (197, ⟨false, [.int .u64], []⟩),
  (199, ⟨false, [.int .u64], []⟩),
  (203, ⟨false, [.ptr], []⟩)]
noncomputable def byt0 : List TypeId := [22]
noncomputable def eqs0 : List TypeId := [49, 149]
theorem laid : Laid Go.Proofs.Try.prog Γ0 byt0 eqs0 := ⟨by kernel_rfl, by kernel_rfl, by kernel_rfl, by kernel_rfl⟩
namespace spec_l1In
noncomputable def c : Code := bodyOf Go.Proofs.Try.f57
noncomputable def fi : Fin := ⟨Γ0, [(.tmp 6, 4)], [[1]], [], [], []⟩
noncomputable def m (r1 : Bool) : Res := ⟨[⟨false, [.bool r1]⟩], [], [], [], []⟩
noncomputable def os : List (FuncId × St × (List Lf → (Res → Option Res) → Option Res)) := []
noncomputable def X (K : Res → Option Res) : Ctx := { Γ := Γ0, orc := orcOf os, io := [], share := [], mvl := [], bun := [], cut := [], own := [], cin := [], cout := [], lp := lpOf [], kl := [], nk := true, eqs := eqs0, byt := byt0, fin := finK fi K }
noncomputable def b (a1 a2 a3 : Int) (R : Bool → Option Res) : Option Res :=
  bif decide (a2 ≤ a1) then R (decide (a1 ≤ a3))
  else R false
theorem gx : ∃ x : Int → Int → Int → (Bool → Option Res) → Option Res, x = b := ⟨_, rfl⟩
noncomputable def g : Int → Int → Int → (Bool → Option Res) → Option Res := Classical.choose gx
theorem e : g = b := Classical.choose_spec gx
noncomputable def run : List Lf → (Res → Option Res) → Option Res
  | [.i a1, .i a2, .i a3], K => g a1 a2 a3 (fun r1 => K (m r1))
  | _, _ => none
noncomputable def a (a1 a2 a3 : Int) : St := argSt [one (.int .i64 a1), one (.int .i64 a2), one (.int .i64 a3)] [] []
noncomputable def con : FuncId × St × (List Lf → (Res → Option Res) → Option Res) := (57, a 0 0 0, run)
theorem cx (K : Res → Option Res) : CtxOk Go.Proofs.Try.prog Γ0 byt0 eqs0 (X K) os := ⟨rfl, rfl, rfl, (fun p hp => by
  cases hp), rfl, rfl, rfl, rfl⟩
theorem tie (K : Res → Option Res) (a1 a2 a3 : Int) : exec (X K) c (entry 15 [one (.int .i64 a1), one (.int .i64 a2), one (.int .i64 a3)] [] []) (endK (X K)) = g a1 a2 a3 (fun r1 => K (m r1)) := Eq.trans (b := b a1 a2 a3 (fun r1 => K (m r1))) (by kernel_rfl) (by rw [e])
theorem runv {l : List Lf} {K : Res → Option Res} {r : Res} (h : run l K = some r) : ∃ a1 a2 a3, l = [.i a1, .i a2, .i a3] ∧ g a1 a2 a3 (fun r1 => K (m r1)) = some r := by
  unfold run at h; split at h
  · exact ⟨_, _, _, rfl, h⟩
  · cases h
theorem ok : Con Go.Proofs.Try.prog con := con_of (fn := Go.Proofs.Try.f57) (c := c) (Fi := fi) (X := X) (fun_of laid (by kernel_rfl) (by kernel_rfl) (by kernel_rfl) rfl (by kernel_rfl) (by kernel_rfl) cx (fun _ => rfl) (fun _ => rfl) (fun K => by
    rw [show loopsOf c = [] from by kernel_rfl]; intro p hp
    cases hp)) fun xs rows boxes K r hl hr => by
  obtain ⟨a1, a2, a3, e, h⟩ := runv hr
  have := St.like_eq (y := a a1 a2 a3) hl (by kernel_rfl) e
  obtain ⟨rfl, rfl, rfl⟩ := argSt_inj this
  exact (tie K a1 a2 a3).trans h
end spec_l1In
namespace spec_SizeOf
noncomputable def c : Code := bodyOf Go.Proofs.Try.f118
noncomputable def fi : Fin := ⟨Γ0, [(.tmp 2, 3)], [[1]], [], [], []⟩
noncomputable def m (r1 : Int) : Res := ⟨[⟨false, [.int .i64 r1]⟩], [], [], [], []⟩
noncomputable def b0 : Code := codeAt c [1, 1, 1, 0, 1, 0, 0]
noncomputable def b2 : Code := codeAt c [1, 1, 1, 1, 1, 0, 1, 0, 0]
noncomputable def s0 (x2 : List Int) (x3 : Bool) (x4 : Int) : St := ⟨mkT 49 [(0, one (.tr 0 1 [.int .i64] (.ints x2))), (3, one (.bool x3)), (4, one (.int .i64 x4))], [], []⟩
noncomputable def l0s (x2 : List Int) (rec : Bool → Int → Option Res) (k : Bool → Option Res) (R : Int → Option Res) (x3 : Bool) (x4 : Int) : Option Res :=
  bif decide (x4 < (x2.length : Int)) then (bif decide (0 ≤ x4) && decide (x4 < (x2.length : Int)) then (spec_l1In.g (x2.getD x4.toNat 0) 0 300 fun r5 =>
      bif !r5 then R (-1)
      else bif x3 then rec true (IntKind.i64.wrap (x4 + 1))
      else bif decide (0 ≤ x4) && decide (x4 < (x2.length : Int)) then rec (x2.getD x4.toNat 0 == 0) (IntKind.i64.wrap (x4 + 1))
      else none)
    else none)
  else k x3
noncomputable def l0 (x2 : List Int) (k : Bool → Option Res) (R : Int → Option Res) : Nat → Bool → Int → Option Res
  | 0, _, _ => none
  | n + 1, x3, x4 => l0s x2 (fun x3 x4 => l0 x2 k R n x3 x4) k R x3 x4
noncomputable def o0 (x2 : List Int) (y2 : Bool) : St := ⟨mkT 49 [(0, one (.tr 0 1 [.int .i64] (.ints x2))), (3, one (.bool y2))], [], []⟩
noncomputable def p0 (K : Res → Option Res) : List Lf → (St → Option Res) → Option Res
  | [.q (.ints x2), .b x3, .i x4], k => l0 x2 (fun y2 => k (o0 x2 y2)) (fun r1 => K (m r1)) fuel x3 x4
  | _, _ => none
noncomputable def s2 (x7 : List Int) (x8 : Bool) (x9 x10 : Int) : St := ⟨mkT 49 [(0, one (.tr 0 1 [.int .i64] (.ints x7))), (3, one (.bool x8)), (5, one (.int .i64 x9)), (6, one (.int .i64 x10))], [], []⟩
noncomputable def l2s (x7 : List Int) (x8 : Bool) (rec : Int → Int → Option Res) (k : Int → Option Res) (x9 x10 : Int) : Option Res :=
  bif decide (x10 < (x7.length : Int)) then (bif decide (0 ≤ x10) && decide (x10 < (x7.length : Int)) then rec (IntKind.i64.wrap (x9 * (x7.getD x10.toNat 0))) (IntKind.i64.wrap (x10 + 1))
    else none)
  else k x9
noncomputable def l2 (x7 : List Int) (x8 : Bool) (k : Int → Option Res) : Nat → Int → Int → Option Res
  | 0, _, _ => none
  | n + 1, x9, x10 => l2s x7 x8 (fun x9 x10 => l2 x7 x8 k n x9 x10) k x9 x10
noncomputable def o2 (x7 : List Int) (x8 : Bool) (y2 : Int) : St := ⟨mkT 49 [(3, one (.bool x8)), (5, one (.int .i64 y2))], [], []⟩
noncomputable def p2 (K : Res → Option Res) : List Lf → (St → Option Res) → Option Res
  | [.q (.ints x7), .b x8, .i x9, .i x10], k => l2 x7 x8 (fun y2 => k (o2 x7 x8 y2)) fuel x9 x10
  | _, _ => none
noncomputable def os : List (FuncId × St × (List Lf → (Res → Option Res) → Option Res)) := [spec_l1In.con]
noncomputable def X (K : Res → Option Res) : Ctx := { Γ := Γ0, orc := orcOf os, io := [], share := [], mvl := [], bun := [], cut := [], own := [], cin := [(0, ⟨[0, 3, 4], [], [], [], [], []⟩), (2, ⟨[0, 3, 5, 6], [], [], [], [], []⟩)], cout := [(0, ⟨[0, 3], [], [], [], [], []⟩), (2, ⟨[3, 5], [], [], [], [], []⟩)], lp := lpOf [(0, s0 [] false 0, p0 K), (2, s2 [] false 0 0, p2 K)], kl := [], nk := true, eqs := eqs0, byt := byt0, fin := finK fi K }
noncomputable def b (a1 : List Int) (R : Int → Option Res) : Option Res :=
  bif decide (3 < (a1.length : Int)) then R (-1)
  else (l0 a1 (fun y6 => 
  l2 a1 y6 (fun y11 => 
  bif decide (300 < y11) then (bif !y6 then R (-1)
    else R y11)
  else R y11) fuel 1 0) R fuel false 0)
theorem gx : ∃ x : List Int → (Int → Option Res) → Option Res, x = b := ⟨_, rfl⟩
noncomputable def g : List Int → (Int → Option Res) → Option Res := Classical.choose gx
theorem e : g = b := Classical.choose_spec gx
noncomputable def run : List Lf → (Res → Option Res) → Option Res
  | [.q (.ints a1)], K => g a1 (fun r1 => K (m r1))
  | _, _ => none
noncomputable def a (a1 : List Int) : St := argSt [one (.tr 0 1 [.int .i64] (.ints a1))] [] []
noncomputable def con : FuncId × St × (List Lf → (Res → Option Res) → Option Res) := (118, a [], run)
theorem cx (K : Res → Option Res) : CtxOk Go.Proofs.Try.prog Γ0 byt0 eqs0 (X K) os := ⟨rfl, rfl, rfl, (fun p hp => by
  rcases List.mem_cons.1 hp with rfl | hp
  · exact spec_l1In.ok
  cases hp), rfl, rfl, rfl, rfl⟩
theorem t0 (K : Res → Option Res) (k : St → Option Res) (it : St → (St → Option Res) → Option Res) (x2 : List Int) (x3 : Bool) (x4 : Int) : iterS (X K) 0 b0 it (s0 x2 x3 x4) k = l0s x2 (fun x3 x4 => it (s0 x2 x3 x4) k) (fun y2 => k (o0 x2 y2)) (fun r1 => K (m r1)) x3 x4 := by kernel_rfl
theorem i0 (K : Res → Option Res) (k : St → Option Res) (x2 : List Int) : ∀ (n : Nat) (x3 : Bool) (x4 : Int), iter (X K) 0 b0 n (s0 x2 x3 x4) k = l0 x2 (fun y2 => k (o0 x2 y2)) (fun r1 => K (m r1)) n x3 x4
  | 0, _, _ => rfl
  | n + 1, x3, x4 => by
    rw [iter_succ, t0, show (fun x3 x4 => iter (X K) 0 b0 n (s0 x2 x3 x4) k) = (fun x3 x4 => l0 x2 (fun y2 => k (o0 x2 y2)) (fun r1 => K (m r1)) n x3 x4) from funext fun x3 => funext fun x4 => i0 K k x2 n x3 x4]; rfl
theorem v0 {K : Res → Option Res} {l : List Lf} {k : St → Option Res} {r : Res} (h : p0 K l k = some r) : ∃ x2 x3 x4, l = [.q (.ints x2), .b x3, .i x4] ∧ l0 x2 (fun y2 => k (o0 x2 y2)) (fun r1 => K (m r1)) fuel x3 x4 = some r := by
  unfold p0 at h; split at h
  · exact ⟨_, _, _, rfl, h⟩
  · cases h
theorem t2 (K : Res → Option Res) (k : St → Option Res) (it : St → (St → Option Res) → Option Res) (x7 : List Int) (x8 : Bool) (x9 x10 : Int) : iterS (X K) 2 b2 it (s2 x7 x8 x9 x10) k = l2s x7 x8 (fun x9 x10 => it (s2 x7 x8 x9 x10) k) (fun y2 => k (o2 x7 x8 y2)) x9 x10 := by kernel_rfl
theorem i2 (K : Res → Option Res) (k : St → Option Res) (x7 : List Int) (x8 : Bool) : ∀ (n : Nat) (x9 x10 : Int), iter (X K) 2 b2 n (s2 x7 x8 x9 x10) k = l2 x7 x8 (fun y2 => k (o2 x7 x8 y2)) n x9 x10
  | 0, _, _ => rfl
  | n + 1, x9, x10 => by
    rw [iter_succ, t2, show (fun x9 x10 => iter (X K) 2 b2 n (s2 x7 x8 x9 x10) k) = (fun x9 x10 => l2 x7 x8 (fun y2 => k (o2 x7 x8 y2)) n x9 x10) from funext fun x9 => funext fun x10 => i2 K k x7 x8 n x9 x10]; rfl
theorem v2 {K : Res → Option Res} {l : List Lf} {k : St → Option Res} {r : Res} (h : p2 K l k = some r) : ∃ x7 x8 x9 x10, l = [.q (.ints x7), .b x8, .i x9, .i x10] ∧ l2 x7 x8 (fun y2 => k (o2 x7 x8 y2)) fuel x9 x10 = some r := by
  unfold p2 at h; split at h
  · exact ⟨_, _, _, _, rfl, h⟩
  · cases h
theorem w2 (K : Res → Option Res) : LpSound Go.Proofs.Try.prog (X K) 2 b2 := lp_ok ((cx K).ok laid) (by rw [show loopsOf b2 = [] from by kernel_rfl]; intro p hp; cases hp) rfl fun p hp hid => by
  rcases List.mem_cons.1 hp with rfl | hp
  · exact absurd hid (by simp)
  rcases List.mem_cons.1 hp with rfl | hp
  · intro st k r h1 h2; obtain ⟨x7, x8, x9, x10, e, h⟩ := v2 (K := K) h2; have := St.like_eq (y := s2 x7 x8 x9 x10) h1 (by kernel_rfl) e; subst this; exact ⟨fuel, (i2 K k x7 x8 fuel x9 x10).trans h⟩
  cases hp
theorem w0 (K : Res → Option Res) : LpSound Go.Proofs.Try.prog (X K) 0 b0 := lp_ok ((cx K).ok laid) (by rw [show loopsOf b0 = [] from by kernel_rfl]; intro p hp; cases hp) rfl fun p hp hid => by
  rcases List.mem_cons.1 hp with rfl | hp
  · intro st k r h1 h2; obtain ⟨x2, x3, x4, e, h⟩ := v0 (K := K) h2; have := St.like_eq (y := s0 x2 x3 x4) h1 (by kernel_rfl) e; subst this; exact ⟨fuel, (i0 K k x2 fuel x3 x4).trans h⟩
  rcases List.mem_cons.1 hp with rfl | hp
  · exact absurd hid (by simp)
  cases hp
theorem tie (K : Res → Option Res) (a1 : List Int) : exec (X K) c (entry 49 [one (.tr 0 1 [.int .i64] (.ints a1))] [] []) (endK (X K)) = g a1 (fun r1 => K (m r1)) := Eq.trans (b := b a1 (fun r1 => K (m r1))) (by kernel_rfl) (by rw [e])
theorem runv {l : List Lf} {K : Res → Option Res} {r : Res} (h : run l K = some r) : ∃ a1, l = [.q (.ints a1)] ∧ g a1 (fun r1 => K (m r1)) = some r := by
  unfold run at h; split at h
  · exact ⟨_, rfl, h⟩
  · cases h
theorem ok : Con Go.Proofs.Try.prog con := con_of (fn := Go.Proofs.Try.f118) (c := c) (Fi := fi) (X := X) (fun_of laid (by kernel_rfl) (by kernel_rfl) (by kernel_rfl) rfl (by kernel_rfl) (by kernel_rfl) cx (fun _ => rfl) (fun _ => rfl) (fun K => by
    rw [show loopsOf c = [(0, b0), (2, b2)] from by kernel_rfl]; intro p hp
    rcases List.mem_cons.1 hp with rfl | hp
    · exact w0 K
    rcases List.mem_cons.1 hp with rfl | hp
    · exact w2 K
    cases hp)) fun xs rows boxes K r hl hr => by
  obtain ⟨a1, e, h⟩ := runv hr
  have := St.like_eq (y := a a1) hl (by kernel_rfl) e
  obtain ⟨rfl, rfl, rfl⟩ := argSt_inj this
  exact (tie K a1).trans h
end spec_SizeOf
namespace spec_HeapOk
noncomputable def c : Code := bodyOf Go.Proofs.Try.f43
noncomputable def fi : Fin := ⟨Γ0, [(.tmp 2, 4)], [[1]], [], [], []⟩
noncomputable def m (r1 : Bool) : Res := ⟨[⟨false, [.bool r1]⟩], [], [], [], []⟩
noncomputable def b0 : Code := codeAt c [1, 1, 1, 0, 1, 0, 0]
noncomputable def b2 : Code := codeAt c [1, 1, 1, 0, 1, 0, 0, 1, 0, 0, 1, 1, 1, 1, 0, 0]
noncomputable def s2 (x12 x13 : Int) (x14 : List Bool) (x15 : List Int) (x16 : Int) (x17 : List (List Cl)) (x18 x19 : Int) (x20 : Bool) : St := ⟨mkT 87 [(1, one (.bp 1000 0)), (3, one (.ow 7176)), (4, one (.int .i64 x12)), (5, one (.bp 15416 0)), (6, one (.int .i64 x13))], [(7176, ⟨[.bool], .bools x14, true, 0⟩)], [(1000, [.tr 0 1 [.int .i64] (.ints x15), .int .i64 x16, .tr 0 1 [.int .i64, .int .i64, .bool] (.cells x17)]), (15416, [.int .i64 x18, .int .i64 x19, .bool x20])]⟩
noncomputable def l2s (x12 : Int) (x15 : List Int) (x16 : Int) (x17 : List (List Cl)) (x18 x19 : Int) (x20 : Bool) (rec : Int → List Bool → Option Res) (k : List Bool → Option Res) (R : Bool → Option Res) (x13 : Int) (x14 : List Bool) : Option Res :=
  bif decide (x13 < IntKind.i64.wrap (x18 + x19)) then (bif decide (0 ≤ x13) && decide (x13 < (x14.length : Int)) then (bif x14.getD x13.toNat false then R false
      else bif decide (0 ≤ x13) && decide (x13 < (x14.length : Int)) then rec (IntKind.i64.wrap (x13 + 1)) (x14.set x13.toNat true)
      else none)
    else none)
  else k x14
noncomputable def l2 (x12 : Int) (x15 : List Int) (x16 : Int) (x17 : List (List Cl)) (x18 x19 : Int) (x20 : Bool) (k : List Bool → Option Res) (R : Bool → Option Res) : Nat → Int → List Bool → Option Res
  | 0, _, _ => none
  | n + 1, x13, x14 => l2s x12 x15 x16 x17 x18 x19 x20 (fun x13 x14 => l2 x12 x15 x16 x17 x18 x19 x20 k R n x13 x14) k R x13 x14
noncomputable def o2 (x12 : Int) (x15 : List Int) (x16 : Int) (x17 : List (List Cl)) (x18 x19 : Int) (x20 : Bool) (y2 : List Bool) : St := ⟨mkT 87 [(1, one (.bp 1000 0)), (3, one (.ow 7176)), (4, one (.int .i64 x12))], [(7176, ⟨[.bool], .bools y2, true, 0⟩)], [(1000, [.tr 0 1 [.int .i64] (.ints x15), .int .i64 x16, .tr 0 1 [.int .i64, .int .i64, .bool] (.cells x17)])]⟩
noncomputable def p2 (K : Res → Option Res) : List Lf → (St → Option Res) → Option Res
  | [.i x12, .i x13, .q (.bools x14), .q (.ints x15), .i x16, .q (.cells x17), .i x18, .i x19, .b x20], k => l2 x12 x15 x16 x17 x18 x19 x20 (fun y2 => k (o2 x12 x15 x16 x17 x18 x19 x20 y2)) (fun r1 => K (m r1)) fuel x13 x14
  | _, _ => none
noncomputable def s0 (x5 : Int) (x6 : List Bool) (x7 : List Int) (x8 : Int) (x9 : List (List Cl)) : St := ⟨mkT 87 [(1, one (.bp 1000 0)), (3, one (.ow 7176)), (4, one (.int .i64 x5))], [(7176, ⟨[.bool], .bools x6, true, 0⟩)], [(1000, [.tr 0 1 [.int .i64] (.ints x7), .int .i64 x8, .tr 0 1 [.int .i64, .int .i64, .bool] (.cells x9)])]⟩
noncomputable def l0s (x7 : List Int) (x8 : Int) (x9 : List (List Cl)) (rec : Int → List Bool → Option Res) (k : Option Res) (R : Bool → Option Res) (x5 : Int) (x6 : List Bool) : Option Res :=
  bif decide (x5 < (x9.length : Int)) then (bif decide (0 ≤ x5) && decide (x5 < (x9.length : Int)) then (bif !(((x9.getD x5.toNat []).getD 2 (.i 0)).toB) then (bif (((x9.getD x5.toNat []).getD 0 (.i 0)).toI != 0) then R false
        else bif (((x9.getD x5.toNat []).getD 1 (.i 0)).toI != 0) then R false
        else rec (IntKind.i64.wrap (x5 + 1)) x6)
      else (spec_l1In.g (((x9.getD x5.toNat []).getD 0 (.i 0)).toI) 0 x8 fun r10 =>
      bif !r10 then R false
      else (spec_l1In.g (((x9.getD x5.toNat []).getD 1 (.i 0)).toI) 1 (IntKind.i64.wrap (x8 - (((x9.getD x5.toNat []).getD 0 (.i 0)).toI))) fun r11 =>
      bif !r11 then R false
      else (l2 x5 x7 x8 x9 (((x9.getD x5.toNat []).getD 0 (.i 0)).toI) (((x9.getD x5.toNat []).getD 1 (.i 0)).toI) (((x9.getD x5.toNat []).getD 2 (.i 0)).toB) (fun y21 => 
      rec (IntKind.i64.wrap (x5 + 1)) y21) R fuel (((x9.getD x5.toNat []).getD 0 (.i 0)).toI) x6))))
    else none)
  else k
noncomputable def l0 (x7 : List Int) (x8 : Int) (x9 : List (List Cl)) (k : Option Res) (R : Bool → Option Res) : Nat → Int → List Bool → Option Res
  | 0, _, _ => none
  | n + 1, x5, x6 => l0s x7 x8 x9 (fun x5 x6 => l0 x7 x8 x9 k R n x5 x6) k R x5 x6
noncomputable def o0 (x7 : List Int) (x8 : Int) (x9 : List (List Cl)) : St := ⟨mkT 87 [], [], []⟩
noncomputable def p0 (K : Res → Option Res) : List Lf → (St → Option Res) → Option Res
  | [.i x5, .q (.bools x6), .q (.ints x7), .i x8, .q (.cells x9)], k => l0 x7 x8 x9 (k (o0 x7 x8 x9)) (fun r1 => K (m r1)) fuel x5 x6
  | _, _ => none
noncomputable def os : List (FuncId × St × (List Lf → (Res → Option Res) → Option Res)) := [spec_l1In.con]
noncomputable def X (K : Res → Option Res) : Ctx := { Γ := Γ0, orc := orcOf os, io := [], share := [], mvl := [], bun := [], cut := [], own := [], cin := [(2, ⟨[1, 3, 4, 5, 6], [(7176, 7176)], [1000, 15416], [], [], []⟩), (0, ⟨[1, 3, 4], [(7176, 7176)], [1000], [], [], []⟩)], cout := [(2, ⟨[1, 3, 4], [(7176, 7176)], [1000], [], [], []⟩), (0, ⟨[], [], [], [], [], []⟩)], lp := lpOf [(2, s2 0 0 [] [] 0 [] 0 0 false, p2 K), (0, s0 0 [] [] 0 [], p0 K)], kl := [], nk := true, eqs := eqs0, byt := byt0, fin := finK fi K }
noncomputable def b (a1 : List Int) (a2 : Int) (a3 : List (List Cl)) (R : Bool → Option Res) : Option Res :=
  bif decide (6000 < (a1.length : Int)) then R false
  else (spec_l1In.g a2 0 (a1.length : Int) fun r4 =>
  bif !r4 then R false
  else bif decide (200 < (a3.length : Int)) then R false
  else bif decide (a2 = a2) && decide (0 ≤ a2) && decide (a2 * 1 ≤ 140737488355328) then (l0 a1 a2 a3 (
    R true) R fuel 0 (List.replicate a2.toNat false))
  else none)
theorem gx : ∃ x : List Int → Int → List (List Cl) → (Bool → Option Res) → Option Res, x = b := ⟨_, rfl⟩
noncomputable def g : List Int → Int → List (List Cl) → (Bool → Option Res) → Option Res := Classical.choose gx
theorem e : g = b := Classical.choose_spec gx
noncomputable def run : List Lf → (Res → Option Res) → Option Res
  | [.q (.ints a1), .i a2, .q (.cells a3)], K => g a1 a2 a3 (fun r1 => K (m r1))
  | _, _ => none
noncomputable def a (a1 : List Int) (a2 : Int) (a3 : List (List Cl)) : St := argSt [.v ⟨true, [.tr 0 1 [.int .i64] (.ints a1), .int .i64 a2, .tr 0 1 [.int .i64, .int .i64, .bool] (.cells a3)]⟩] [] []
noncomputable def con : FuncId × St × (List Lf → (Res → Option Res) → Option Res) := (43, a [] 0 [], run)
theorem cx (K : Res → Option Res) : CtxOk Go.Proofs.Try.prog Γ0 byt0 eqs0 (X K) os := ⟨rfl, rfl, rfl, (fun p hp => by
  rcases List.mem_cons.1 hp with rfl | hp
  · exact spec_l1In.ok
  cases hp), rfl, rfl, rfl, rfl⟩
theorem t2 (K : Res → Option Res) (k : St → Option Res) (it : St → (St → Option Res) → Option Res) (x12 x13 : Int) (x14 : List Bool) (x15 : List Int) (x16 : Int) (x17 : List (List Cl)) (x18 x19 : Int) (x20 : Bool) : iterS (X K) 2 b2 it (s2 x12 x13 x14 x15 x16 x17 x18 x19 x20) k = l2s x12 x15 x16 x17 x18 x19 x20 (fun x13 x14 => it (s2 x12 x13 x14 x15 x16 x17 x18 x19 x20) k) (fun y2 => k (o2 x12 x15 x16 x17 x18 x19 x20 y2)) (fun r1 => K (m r1)) x13 x14 := by kernel_rfl
theorem i2 (K : Res → Option Res) (k : St → Option Res) (x12 : Int) (x15 : List Int) (x16 : Int) (x17 : List (List Cl)) (x18 x19 : Int) (x20 : Bool) : ∀ (n : Nat) (x13 : Int) (x14 : List Bool), iter (X K) 2 b2 n (s2 x12 x13 x14 x15 x16 x17 x18 x19 x20) k = l2 x12 x15 x16 x17 x18 x19 x20 (fun y2 => k (o2 x12 x15 x16 x17 x18 x19 x20 y2)) (fun r1 => K (m r1)) n x13 x14
  | 0, _, _ => rfl
  | n + 1, x13, x14 => by
    rw [iter_succ, t2, show (fun x13 x14 => iter (X K) 2 b2 n (s2 x12 x13 x14 x15 x16 x17 x18 x19 x20) k) = (fun x13 x14 => l2 x12 x15 x16 x17 x18 x19 x20 (fun y2 => k (o2 x12 x15 x16 x17 x18 x19 x20 y2)) (fun r1 => K (m r1)) n x13 x14) from funext fun x13 => funext fun x14 => i2 K k x12 x15 x16 x17 x18 x19 x20 n x13 x14]; rfl
theorem v2 {K : Res → Option Res} {l : List Lf} {k : St → Option Res} {r : Res} (h : p2 K l k = some r) : ∃ x12 x13 x14 x15 x16 x17 x18 x19 x20, l = [.i x12, .i x13, .q (.bools x14), .q (.ints x15), .i x16, .q (.cells x17), .i x18, .i x19, .b x20] ∧ l2 x12 x15 x16 x17 x18 x19 x20 (fun y2 => k (o2 x12 x15 x16 x17 x18 x19 x20 y2)) (fun r1 => K (m r1)) fuel x13 x14 = some r := by
  unfold p2 at h; split at h
  · exact ⟨_, _, _, _, _, _, _, _, _, rfl, h⟩
  · cases h
theorem t0 (K : Res → Option Res) (k : St → Option Res) (it : St → (St → Option Res) → Option Res) (x5 : Int) (x6 : List Bool) (x7 : List Int) (x8 : Int) (x9 : List (List Cl)) : iterS (X K) 0 b0 it (s0 x5 x6 x7 x8 x9) k = l0s x7 x8 x9 (fun x5 x6 => it (s0 x5 x6 x7 x8 x9) k) (k (o0 x7 x8 x9)) (fun r1 => K (m r1)) x5 x6 := by kernel_rfl
theorem i0 (K : Res → Option Res) (k : St → Option Res) (x7 : List Int) (x8 : Int) (x9 : List (List Cl)) : ∀ (n : Nat) (x5 : Int) (x6 : List Bool), iter (X K) 0 b0 n (s0 x5 x6 x7 x8 x9) k = l0 x7 x8 x9 (k (o0 x7 x8 x9)) (fun r1 => K (m r1)) n x5 x6
  | 0, _, _ => rfl
  | n + 1, x5, x6 => by
    rw [iter_succ, t0, show (fun x5 x6 => iter (X K) 0 b0 n (s0 x5 x6 x7 x8 x9) k) = (fun x5 x6 => l0 x7 x8 x9 (k (o0 x7 x8 x9)) (fun r1 => K (m r1)) n x5 x6) from funext fun x5 => funext fun x6 => i0 K k x7 x8 x9 n x5 x6]; rfl
theorem v0 {K : Res → Option Res} {l : List Lf} {k : St → Option Res} {r : Res} (h : p0 K l k = some r) : ∃ x5 x6 x7 x8 x9, l = [.i x5, .q (.bools x6), .q (.ints x7), .i x8, .q (.cells x9)] ∧ l0 x7 x8 x9 (k (o0 x7 x8 x9)) (fun r1 => K (m r1)) fuel x5 x6 = some r := by
  unfold p0 at h; split at h
  · exact ⟨_, _, _, _, _, rfl, h⟩
  · cases h
theorem w2 (K : Res → Option Res) : LpSound Go.Proofs.Try.prog (X K) 2 b2 := lp_ok ((cx K).ok laid) (by rw [show loopsOf b2 = [] from by kernel_rfl]; intro p hp; cases hp) rfl fun p hp hid => by
  rcases List.mem_cons.1 hp with rfl | hp
  · intro st k r h1 h2; obtain ⟨x12, x13, x14, x15, x16, x17, x18, x19, x20, e, h⟩ := v2 (K := K) h2; have := St.like_eq (y := s2 x12 x13 x14 x15 x16 x17 x18 x19 x20) h1 (by kernel_rfl) e; subst this; exact ⟨fuel, (i2 K k x12 x15 x16 x17 x18 x19 x20 fuel x13 x14).trans h⟩
  rcases List.mem_cons.1 hp with rfl | hp
  · exact absurd hid (by simp)
  cases hp
theorem w0 (K : Res → Option Res) : LpSound Go.Proofs.Try.prog (X K) 0 b0 := lp_ok ((cx K).ok laid) (by
    rw [show loopsOf b0 = [(2, b2)] from by kernel_rfl]; intro p hp
    rcases List.mem_cons.1 hp with rfl | hp
    · exact w2 K
    cases hp) rfl fun p hp hid => by
  rcases List.mem_cons.1 hp with rfl | hp
  · exact absurd hid (by simp)
  rcases List.mem_cons.1 hp with rfl | hp
  · intro st k r h1 h2; obtain ⟨x5, x6, x7, x8, x9, e, h⟩ := v0 (K := K) h2; have := St.like_eq (y := s0 x5 x6 x7 x8 x9) h1 (by kernel_rfl) e; subst this; exact ⟨fuel, (i0 K k x7 x8 x9 fuel x5 x6).trans h⟩
  cases hp
theorem tie (K : Res → Option Res) (a1 : List Int) (a2 : Int) (a3 : List (List Cl)) : exec (X K) c (entry 87 [.v ⟨true, [.tr 0 1 [.int .i64] (.ints a1), .int .i64 a2, .tr 0 1 [.int .i64, .int .i64, .bool] (.cells a3)]⟩] [] []) (endK (X K)) = g a1 a2 a3 (fun r1 => K (m r1)) := Eq.trans (b := b a1 a2 a3 (fun r1 => K (m r1))) (by kernel_rfl) (by rw [e])
theorem runv {l : List Lf} {K : Res → Option Res} {r : Res} (h : run l K = some r) : ∃ a1 a2 a3, l = [.q (.ints a1), .i a2, .q (.cells a3)] ∧ g a1 a2 a3 (fun r1 => K (m r1)) = some r := by
  unfold run at h; split at h
  · exact ⟨_, _, _, rfl, h⟩
  · cases h
theorem ok : Con Go.Proofs.Try.prog con := con_of (fn := Go.Proofs.Try.f43) (c := c) (Fi := fi) (X := X) (fun_of laid (by kernel_rfl) (by kernel_rfl) (by kernel_rfl) rfl (by kernel_rfl) (by kernel_rfl) cx (fun _ => rfl) (fun _ => rfl) (fun K => by
    rw [show loopsOf c = [(0, b0), (2, b2)] from by kernel_rfl]; intro p hp
    rcases List.mem_cons.1 hp with rfl | hp
    · exact w0 K
    rcases List.mem_cons.1 hp with rfl | hp
    · exact w2 K
    cases hp)) fun xs rows boxes K r hl hr => by
  obtain ⟨a1, a2, a3, e, h⟩ := runv hr
  have := St.like_eq (y := a a1 a2 a3) hl (by kernel_rfl) e
  obtain ⟨rfl, rfl, rfl⟩ := argSt_inj this
  exact (tie K a1 a2 a3).trans h
end spec_HeapOk
namespace spec_NumOk
noncomputable def c : Code := bodyOf Go.Proofs.Try.f119
noncomputable def fi : Fin := ⟨Γ0, [(.tmp 2, 4)], [[1]], [], [], []⟩
noncomputable def m (r1 : Bool) : Res := ⟨[⟨false, [.bool r1]⟩], [], [], [], []⟩
noncomputable def os : List (FuncId × St × (List Lf → (Res → Option Res) → Option Res)) := [spec_l1In.con]
noncomputable def X (K : Res → Option Res) : Ctx := { Γ := Γ0, orc := orcOf os, io := [], share := [], mvl := [], bun := [], cut := [], own := [], cin := [], cout := [], lp := lpOf [], kl := [], nk := true, eqs := eqs0, byt := byt0, fin := finK fi K }
noncomputable def b (a1 : Int) (R : Bool → Option Res) : Option Res :=
  spec_l1In.g a1 (-1000000000000) 1000000000000 fun r2 =>
  R r2
theorem gx : ∃ x : Int → (Bool → Option Res) → Option Res, x = b := ⟨_, rfl⟩
noncomputable def g : Int → (Bool → Option Res) → Option Res := Classical.choose gx
theorem e : g = b := Classical.choose_spec gx
noncomputable def run : List Lf → (Res → Option Res) → Option Res
  | [.i a1], K => g a1 (fun r1 => K (m r1))
  | _, _ => none
noncomputable def a (a1 : Int) : St := argSt [one (.int .i64 a1)] [] []
noncomputable def con : FuncId × St × (List Lf → (Res → Option Res) → Option Res) := (119, a 0, run)
theorem cx (K : Res → Option Res) : CtxOk Go.Proofs.Try.prog Γ0 byt0 eqs0 (X K) os := ⟨rfl, rfl, rfl, (fun p hp => by
  rcases List.mem_cons.1 hp with rfl | hp
  · exact spec_l1In.ok
  cases hp), rfl, rfl, rfl, rfl⟩
theorem tie (K : Res → Option Res) (a1 : Int) : exec (X K) c (entry 5 [one (.int .i64 a1)] [] []) (endK (X K)) = g a1 (fun r1 => K (m r1)) := Eq.trans (b := b a1 (fun r1 => K (m r1))) (by kernel_rfl) (by rw [e])
theorem runv {l : List Lf} {K : Res → Option Res} {r : Res} (h : run l K = some r) : ∃ a1, l = [.i a1] ∧ g a1 (fun r1 => K (m r1)) = some r := by
  unfold run at h; split at h
  · exact ⟨_, rfl, h⟩
  · cases h
theorem ok : Con Go.Proofs.Try.prog con := con_of (fn := Go.Proofs.Try.f119) (c := c) (Fi := fi) (X := X) (fun_of laid (by kernel_rfl) (by kernel_rfl) (by kernel_rfl) rfl (by kernel_rfl) (by kernel_rfl) cx (fun _ => rfl) (fun _ => rfl) (fun K => by
    rw [show loopsOf c = [] from by kernel_rfl]; intro p hp
    cases hp)) fun xs rows boxes K r hl hr => by
  obtain ⟨a1, e, h⟩ := runv hr
  have := St.like_eq (y := a a1) hl (by kernel_rfl) e
  obtain ⟨rfl, rfl, rfl⟩ := argSt_inj this
  exact (tie K a1).trans h
end spec_NumOk
namespace spec_ArrayOk
noncomputable def c : Code := bodyOf Go.Proofs.Try.f67
noncomputable def fi : Fin := ⟨Γ0, [(.tmp 2, 4)], [[1]], [], [], []⟩
noncomputable def m (r1 : Bool) : Res := ⟨[⟨false, [.bool r1]⟩], [], [], [], []⟩
noncomputable def b0 : Code := codeAt c [1, 1, 0, 1, 0, 0]
noncomputable def s0 (x4 : Int) (x5 x6 : List Int) : St := ⟨mkT 25 [(1, one (.bp 1000 0)), (3, one (.int .i64 x4))], [], [(1000, [.tr 0 1 [.int .i64] (.ints x5), .tr 0 1 [.int .i64] (.ints x6)])]⟩
noncomputable def l0s (x5 x6 : List Int) (rec : Int → Option Res) (k : Option Res) (R : Bool → Option Res) (x4 : Int) : Option Res :=
  bif decide (x4 < (x6.length : Int)) then (bif decide (0 ≤ x4) && decide (x4 < (x6.length : Int)) then (spec_NumOk.g (x6.getD x4.toNat 0) fun r7 =>
      bif !r7 then R false
      else rec (IntKind.i64.wrap (x4 + 1)))
    else none)
  else k
noncomputable def l0 (x5 x6 : List Int) (k : Option Res) (R : Bool → Option Res) : Nat → Int → Option Res
  | 0, _ => none
  | n + 1, x4 => l0s x5 x6 (fun x4 => l0 x5 x6 k R n x4) k R x4
noncomputable def o0 (x5 x6 : List Int) : St := ⟨mkT 25 [], [], []⟩
noncomputable def p0 (K : Res → Option Res) : List Lf → (St → Option Res) → Option Res
  | [.i x4, .q (.ints x5), .q (.ints x6)], k => l0 x5 x6 (k (o0 x5 x6)) (fun r1 => K (m r1)) fuel x4
  | _, _ => none
noncomputable def os : List (FuncId × St × (List Lf → (Res → Option Res) → Option Res)) := [spec_SizeOf.con, spec_NumOk.con]
noncomputable def X (K : Res → Option Res) : Ctx := { Γ := Γ0, orc := orcOf os, io := [], share := [], mvl := [], bun := [], cut := [], own := [], cin := [(0, ⟨[1, 3], [], [1000], [], [], []⟩)], cout := [(0, ⟨[], [], [], [], [], []⟩)], lp := lpOf [(0, s0 0 [] [], p0 K)], kl := [], nk := true, eqs := eqs0, byt := byt0, fin := finK fi K }
noncomputable def b (a1 a2 : List Int) (R : Bool → Option Res) : Option Res :=
  spec_SizeOf.g a1 fun r3 =>
  bif (r3 != (a2.length : Int)) then R false
  else (l0 a1 a2 (
  R true) R fuel 0)
theorem gx : ∃ x : List Int → List Int → (Bool → Option Res) → Option Res, x = b := ⟨_, rfl⟩
noncomputable def g : List Int → List Int → (Bool → Option Res) → Option Res := Classical.choose gx
theorem e : g = b := Classical.choose_spec gx
noncomputable def run : List Lf → (Res → Option Res) → Option Res
  | [.q (.ints a1), .q (.ints a2)], K => g a1 a2 (fun r1 => K (m r1))
  | _, _ => none
noncomputable def a (a1 a2 : List Int) : St := argSt [.v ⟨true, [.tr 0 1 [.int .i64] (.ints a1), .tr 0 1 [.int .i64] (.ints a2)]⟩] [] []
noncomputable def con : FuncId × St × (List Lf → (Res → Option Res) → Option Res) := (67, a [] [], run)
theorem cx (K : Res → Option Res) : CtxOk Go.Proofs.Try.prog Γ0 byt0 eqs0 (X K) os := ⟨rfl, rfl, rfl, (fun p hp => by
  rcases List.mem_cons.1 hp with rfl | hp
  · exact spec_SizeOf.ok
  rcases List.mem_cons.1 hp with rfl | hp
  · exact spec_NumOk.ok
  cases hp), rfl, rfl, rfl, rfl⟩
theorem t0 (K : Res → Option Res) (k : St → Option Res) (it : St → (St → Option Res) → Option Res) (x4 : Int) (x5 x6 : List Int) : iterS (X K) 0 b0 it (s0 x4 x5 x6) k = l0s x5 x6 (fun x4 => it (s0 x4 x5 x6) k) (k (o0 x5 x6)) (fun r1 => K (m r1)) x4 := by kernel_rfl
theorem i0 (K : Res → Option Res) (k : St → Option Res) (x5 x6 : List Int) : ∀ (n : Nat) (x4 : Int), iter (X K) 0 b0 n (s0 x4 x5 x6) k = l0 x5 x6 (k (o0 x5 x6)) (fun r1 => K (m r1)) n x4
  | 0, _ => rfl
  | n + 1, x4 => by
    rw [iter_succ, t0, show (fun x4 => iter (X K) 0 b0 n (s0 x4 x5 x6) k) = (fun x4 => l0 x5 x6 (k (o0 x5 x6)) (fun r1 => K (m r1)) n x4) from funext fun x4 => i0 K k x5 x6 n x4]; rfl
theorem v0 {K : Res → Option Res} {l : List Lf} {k : St → Option Res} {r : Res} (h : p0 K l k = some r) : ∃ x4 x5 x6, l = [.i x4, .q (.ints x5), .q (.ints x6)] ∧ l0 x5 x6 (k (o0 x5 x6)) (fun r1 => K (m r1)) fuel x4 = some r := by
  unfold p0 at h; split at h
  · exact ⟨_, _, _, rfl, h⟩
  · cases h
theorem w0 (K : Res → Option Res) : LpSound Go.Proofs.Try.prog (X K) 0 b0 := lp_ok ((cx K).ok laid) (by rw [show loopsOf b0 = [] from by kernel_rfl]; intro p hp; cases hp) rfl fun p hp hid => by
  rcases List.mem_cons.1 hp with rfl | hp
  · intro st k r h1 h2; obtain ⟨x4, x5, x6, e, h⟩ := v0 (K := K) h2; have := St.like_eq (y := s0 x4 x5 x6) h1 (by kernel_rfl) e; subst this; exact ⟨fuel, (i0 K k x5 x6 fuel x4).trans h⟩
  cases hp
theorem tie (K : Res → Option Res) (a1 a2 : List Int) : exec (X K) c (entry 25 [.v ⟨true, [.tr 0 1 [.int .i64] (.ints a1), .tr 0 1 [.int .i64] (.ints a2)]⟩] [] []) (endK (X K)) = g a1 a2 (fun r1 => K (m r1)) := Eq.trans (b := b a1 a2 (fun r1 => K (m r1))) (by kernel_rfl) (by rw [e])
theorem runv {l : List Lf} {K : Res → Option Res} {r : Res} (h : run l K = some r) : ∃ a1 a2, l = [.q (.ints a1), .q (.ints a2)] ∧ g a1 a2 (fun r1 => K (m r1)) = some r := by
  unfold run at h; split at h
  · exact ⟨_, _, rfl, h⟩
  · cases h
theorem ok : Con Go.Proofs.Try.prog con := con_of (fn := Go.Proofs.Try.f67) (c := c) (Fi := fi) (X := X) (fun_of laid (by kernel_rfl) (by kernel_rfl) (by kernel_rfl) rfl (by kernel_rfl) (by kernel_rfl) cx (fun _ => rfl) (fun _ => rfl) (fun K => by
    rw [show loopsOf c = [(0, b0)] from by kernel_rfl]; intro p hp
    rcases List.mem_cons.1 hp with rfl | hp
    · exact w0 K
    cases hp)) fun xs rows boxes K r hl hr => by
  obtain ⟨a1, a2, e, h⟩ := runv hr
  have := St.like_eq (y := a a1 a2) hl (by kernel_rfl) e
  obtain ⟨rfl, rfl, rfl⟩ := argSt_inj this
  exact (tie K a1 a2).trans h
end spec_ArrayOk
namespace spec_l13Copy
noncomputable def c : Code := bodyOf Go.Proofs.Try.f79
noncomputable def fi : Fin := ⟨Γ0, [(.cell 2 38, 38)], [[1, 1, 1]], [], [], []⟩
noncomputable def m (a2 : Int) (r1 : List Int) (r3 : List (List Cl)) : Res := ⟨[⟨true, [.ow 1000, .int .i64 a2, .ow 1001]⟩], [], [⟨[.int .i64], .ints r1, true, 0⟩, ⟨[.int .i64, .int .i64, .bool], .cells r3, true, 0⟩], [], []⟩
noncomputable def os : List (FuncId × St × (List Lf → (Res → Option Res) → Option Res)) := []
noncomputable def X (K : Res → Option Res) : Ctx := { Γ := Γ0, orc := orcOf os, io := [], share := [], mvl := [], bun := [], cut := [], own := [], cin := [], cout := [], lp := lpOf [], kl := [], nk := true, eqs := eqs0, byt := byt0, fin := finK fi K }
noncomputable def b (a1 : List Int) (a2 : Int) (a3 : List (List Cl)) (R : List Int → List (List Cl) → Option Res) : Option Res :=
  bif decide ((0 + a1.length) * 8 ≤ 140737488355328) then (bif decide ((0 + a3.length) * 24 ≤ 140737488355328) then R (([] : List Int) ++ a1) (([] : List (List Cl)) ++ a3)
    else none)
  else none
theorem gx : ∃ x : List Int → Int → List (List Cl) → (List Int → List (List Cl) → Option Res) → Option Res, x = b := ⟨_, rfl⟩
noncomputable def g : List Int → Int → List (List Cl) → (List Int → List (List Cl) → Option Res) → Option Res := Classical.choose gx
theorem e : g = b := Classical.choose_spec gx
noncomputable def run : List Lf → (Res → Option Res) → Option Res
  | [.q (.ints a1), .i a2, .q (.cells a3)], K => g a1 a2 a3 (fun r1 r3 => K (m a2 r1 r3))
  | _, _ => none
noncomputable def a (a1 : List Int) (a2 : Int) (a3 : List (List Cl)) : St := argSt [.v ⟨true, [.tr 0 1 [.int .i64] (.ints a1), .int .i64 a2, .tr 0 1 [.int .i64, .int .i64, .bool] (.cells a3)]⟩] [] []
noncomputable def con : FuncId × St × (List Lf → (Res → Option Res) → Option Res) := (79, a [] 0 [], run)
theorem cx (K : Res → Option Res) : CtxOk Go.Proofs.Try.prog Γ0 byt0 eqs0 (X K) os := ⟨rfl, rfl, rfl, (fun p hp => by
  cases hp), rfl, rfl, rfl, rfl⟩
theorem tie (K : Res → Option Res) (a1 : List Int) (a2 : Int) (a3 : List (List Cl)) : exec (X K) c (entry 14 [.v ⟨true, [.tr 0 1 [.int .i64] (.ints a1), .int .i64 a2, .tr 0 1 [.int .i64, .int .i64, .bool] (.cells a3)]⟩] [] []) (endK (X K)) = g a1 a2 a3 (fun r1 r3 => K (m a2 r1 r3)) := Eq.trans (b := b a1 a2 a3 (fun r1 r3 => K (m a2 r1 r3))) (by kernel_rfl) (by rw [e])
theorem runv {l : List Lf} {K : Res → Option Res} {r : Res} (h : run l K = some r) : ∃ a1 a2 a3, l = [.q (.ints a1), .i a2, .q (.cells a3)] ∧ g a1 a2 a3 (fun r1 r3 => K (m a2 r1 r3)) = some r := by
  unfold run at h; split at h
  · exact ⟨_, _, _, rfl, h⟩
  · cases h
theorem ok : Con Go.Proofs.Try.prog con := con_of (fn := Go.Proofs.Try.f79) (c := c) (Fi := fi) (X := X) (fun_of laid (by kernel_rfl) (by kernel_rfl) (by kernel_rfl) rfl (by kernel_rfl) (by kernel_rfl) cx (fun _ => rfl) (fun _ => rfl) (fun K => by
    rw [show loopsOf c = [] from by kernel_rfl]; intro p hp
    cases hp)) fun xs rows boxes K r hl hr => by
  obtain ⟨a1, a2, a3, e, h⟩ := runv hr
  have := St.like_eq (y := a a1 a2 a3) hl (by kernel_rfl) e
  obtain ⟨rfl, rfl, rfl⟩ := argSt_inj this
  exact (tie K a1 a2 a3).trans h
end spec_l13Copy
namespace spec_l13Words
noncomputable def c : Code := bodyOf Go.Proofs.Try.f131
noncomputable def fi : Fin := ⟨Γ0, [(.tmp 2, 33)], [[1]], [], [], []⟩
noncomputable def m (r1 : List Int) : Res := ⟨[⟨false, [.ow 1000]⟩], [], [⟨[.int .i64], .ints r1, true, 0⟩], [], []⟩
noncomputable def os : List (FuncId × St × (List Lf → (Res → Option Res) → Option Res)) := []
noncomputable def X (K : Res → Option Res) : Ctx := { Γ := Γ0, orc := orcOf os, io := [], share := [], mvl := [], bun := [], cut := [], own := [], cin := [], cout := [], lp := lpOf [], kl := [], nk := true, eqs := eqs0, byt := byt0, fin := finK fi K }
noncomputable def b (a1 a2 : List Int) (R : List Int → Option Res) : Option Res :=
  bif decide ((1 + a1.length) * 8 ≤ 140737488355328) then (bif decide (((([(a1.length : Int)] : List Int) ++ a1).length + a2.length) * 8 ≤ 140737488355328) then R ((([(a1.length : Int)] : List Int) ++ a1) ++ a2)
    else none)
  else none
theorem gx : ∃ x : List Int → List Int → (List Int → Option Res) → Option Res, x = b := ⟨_, rfl⟩
noncomputable def g : List Int → List Int → (List Int → Option Res) → Option Res := Classical.choose gx
theorem e : g = b := Classical.choose_spec gx
noncomputable def run : List Lf → (Res → Option Res) → Option Res
  | [.q (.ints a1), .q (.ints a2)], K => g a1 a2 (fun r1 => K (m r1))
  | _, _ => none
noncomputable def a (a1 a2 : List Int) : St := argSt [.v ⟨true, [.tr 0 1 [.int .i64] (.ints a1), .tr 0 1 [.int .i64] (.ints a2)]⟩] [] []
noncomputable def con : FuncId × St × (List Lf → (Res → Option Res) → Option Res) := (131, a [] [], run)
theorem cx (K : Res → Option Res) : CtxOk Go.Proofs.Try.prog Γ0 byt0 eqs0 (X K) os := ⟨rfl, rfl, rfl, (fun p hp => by
  cases hp), rfl, rfl, rfl, rfl⟩
theorem tie (K : Res → Option Res) (a1 a2 : List Int) : exec (X K) c (entry 15 [.v ⟨true, [.tr 0 1 [.int .i64] (.ints a1), .tr 0 1 [.int .i64] (.ints a2)]⟩] [] []) (endK (X K)) = g a1 a2 (fun r1 => K (m r1)) := Eq.trans (b := b a1 a2 (fun r1 => K (m r1))) (by kernel_rfl) (by rw [e])
theorem runv {l : List Lf} {K : Res → Option Res} {r : Res} (h : run l K = some r) : ∃ a1 a2, l = [.q (.ints a1), .q (.ints a2)] ∧ g a1 a2 (fun r1 => K (m r1)) = some r := by
  unfold run at h; split at h
  · exact ⟨_, _, rfl, h⟩
  · cases h
theorem ok : Con Go.Proofs.Try.prog con := con_of (fn := Go.Proofs.Try.f131) (c := c) (Fi := fi) (X := X) (fun_of laid (by kernel_rfl) (by kernel_rfl) (by kernel_rfl) rfl (by kernel_rfl) (by kernel_rfl) cx (fun _ => rfl) (fun _ => rfl) (fun K => by
    rw [show loopsOf c = [] from by kernel_rfl]; intro p hp
    cases hp)) fun xs rows boxes K r hl hr => by
  obtain ⟨a1, a2, e, h⟩ := runv hr
  have := St.like_eq (y := a a1 a2) hl (by kernel_rfl) e
  obtain ⟨rfl, rfl, rfl⟩ := argSt_inj this
  exact (tie K a1 a2).trans h
end spec_l13Words
namespace spec_l13Next
noncomputable def c : Code := bodyOf Go.Proofs.Try.f117
noncomputable def fi : Fin := ⟨Γ0, [(.tmp 4, 3)], [[1]], [], [], []⟩
noncomputable def m (r1 : Int) : Res := ⟨[⟨false, [.int .i64 r1]⟩], [], [], [], []⟩
noncomputable def b0 : Code := codeAt c [1, 1, 0, 1, 0, 0]
noncomputable def s0 (x5 x6 x7 : Int) (x8 : List Int) (x9 : Int) (x10 : List (List Cl)) : St := ⟨mkT 45 [(1, one (.int .i64 x5)), (2, one (.bp 1000 0)), (5, one (.int .i64 x6)), (6, one (.int .i64 x7))], [], [(1000, [.tr 0 1 [.int .i64] (.ints x8), .int .i64 x9, .tr 0 1 [.int .i64, .int .i64, .bool] (.cells x10)])]⟩
noncomputable def l0s (x5 : Int) (x8 : List Int) (x9 : Int) (x10 : List (List Cl)) (rec : Int → Int → Option Res) (k : Int → Option Res) (x6 x7 : Int) : Option Res :=
  bif decide (x7 < (x10.length : Int)) then (bif decide (0 ≤ x7) && decide (x7 < (x10.length : Int)) then (bif ((x10.getD x7.toNat []).getD 2 (.i 0)).toB then (bif decide (x5 ≤ ((x10.getD x7.toNat []).getD 0 (.i 0)).toI) then (bif decide (x6 < 0) then rec x7 (IntKind.i64.wrap (x7 + 1))
          else bif decide (0 ≤ x6) && decide (x6 < (x10.length : Int)) then (bif decide (((x10.getD x7.toNat []).getD 0 (.i 0)).toI < ((x10.getD x6.toNat []).getD 0 (.i 0)).toI) then rec x7 (IntKind.i64.wrap (x7 + 1))
            else rec x6 (IntKind.i64.wrap (x7 + 1)))
          else none)
        else rec x6 (IntKind.i64.wrap (x7 + 1)))
      else rec x6 (IntKind.i64.wrap (x7 + 1)))
    else none)
  else k x6
noncomputable def l0 (x5 : Int) (x8 : List Int) (x9 : Int) (x10 : List (List Cl)) (k : Int → Option Res) : Nat → Int → Int → Option Res
  | 0, _, _ => none
  | n + 1, x6, x7 => l0s x5 x8 x9 x10 (fun x6 x7 => l0 x5 x8 x9 x10 k n x6 x7) k x6 x7
noncomputable def o0 (x5 : Int) (x8 : List Int) (x9 : Int) (x10 : List (List Cl)) (y1 : Int) : St := ⟨mkT 45 [(5, one (.int .i64 y1))], [], []⟩
noncomputable def p0 (K : Res → Option Res) : List Lf → (St → Option Res) → Option Res
  | [.i x5, .i x6, .i x7, .q (.ints x8), .i x9, .q (.cells x10)], k => l0 x5 x8 x9 x10 (fun y1 => k (o0 x5 x8 x9 x10 y1)) fuel x6 x7
  | _, _ => none
noncomputable def os : List (FuncId × St × (List Lf → (Res → Option Res) → Option Res)) := []
noncomputable def X (K : Res → Option Res) : Ctx := { Γ := Γ0, orc := orcOf os, io := [], share := [], mvl := [], bun := [], cut := [], own := [], cin := [(0, ⟨[1, 2, 5, 6], [], [1000], [], [], []⟩)], cout := [(0, ⟨[5], [], [], [], [], []⟩)], lp := lpOf [(0, s0 0 0 0 [] 0 [], p0 K)], kl := [], nk := true, eqs := eqs0, byt := byt0, fin := finK fi K }
noncomputable def b (a1 : List Int) (a2 : Int) (a3 : List (List Cl)) (a4 : Int) (R : Int → Option Res) : Option Res :=
  l0 a4 a1 a2 a3 (fun y11 => 
  R y11) fuel (-1) 0
theorem gx : ∃ x : List Int → Int → List (List Cl) → Int → (Int → Option Res) → Option Res, x = b := ⟨_, rfl⟩
noncomputable def g : List Int → Int → List (List Cl) → Int → (Int → Option Res) → Option Res := Classical.choose gx
theorem e : g = b := Classical.choose_spec gx
noncomputable def run : List Lf → (Res → Option Res) → Option Res
  | [.q (.ints a1), .i a2, .q (.cells a3), .i a4], K => g a1 a2 a3 a4 (fun r1 => K (m r1))
  | _, _ => none
noncomputable def a (a1 : List Int) (a2 : Int) (a3 : List (List Cl)) (a4 : Int) : St := argSt [.v ⟨true, [.tr 0 1 [.int .i64] (.ints a1), .int .i64 a2, .tr 0 1 [.int .i64, .int .i64, .bool] (.cells a3)]⟩, one (.int .i64 a4)] [] []
noncomputable def con : FuncId × St × (List Lf → (Res → Option Res) → Option Res) := (117, a [] 0 [] 0, run)
theorem cx (K : Res → Option Res) : CtxOk Go.Proofs.Try.prog Γ0 byt0 eqs0 (X K) os := ⟨rfl, rfl, rfl, (fun p hp => by
  cases hp), rfl, rfl, rfl, rfl⟩
theorem t0 (K : Res → Option Res) (k : St → Option Res) (it : St → (St → Option Res) → Option Res) (x5 x6 x7 : Int) (x8 : List Int) (x9 : Int) (x10 : List (List Cl)) : iterS (X K) 0 b0 it (s0 x5 x6 x7 x8 x9 x10) k = l0s x5 x8 x9 x10 (fun x6 x7 => it (s0 x5 x6 x7 x8 x9 x10) k) (fun y1 => k (o0 x5 x8 x9 x10 y1)) x6 x7 := by kernel_rfl
theorem i0 (K : Res → Option Res) (k : St → Option Res) (x5 : Int) (x8 : List Int) (x9 : Int) (x10 : List (List Cl)) : ∀ (n : Nat) (x6 x7 : Int), iter (X K) 0 b0 n (s0 x5 x6 x7 x8 x9 x10) k = l0 x5 x8 x9 x10 (fun y1 => k (o0 x5 x8 x9 x10 y1)) n x6 x7
  | 0, _, _ => rfl
  | n + 1, x6, x7 => by
    rw [iter_succ, t0, show (fun x6 x7 => iter (X K) 0 b0 n (s0 x5 x6 x7 x8 x9 x10) k) = (fun x6 x7 => l0 x5 x8 x9 x10 (fun y1 => k (o0 x5 x8 x9 x10 y1)) n x6 x7) from funext fun x6 => funext fun x7 => i0 K k x5 x8 x9 x10 n x6 x7]; rfl
theorem v0 {K : Res → Option Res} {l : List Lf} {k : St → Option Res} {r : Res} (h : p0 K l k = some r) : ∃ x5 x6 x7 x8 x9 x10, l = [.i x5, .i x6, .i x7, .q (.ints x8), .i x9, .q (.cells x10)] ∧ l0 x5 x8 x9 x10 (fun y1 => k (o0 x5 x8 x9 x10 y1)) fuel x6 x7 = some r := by
  unfold p0 at h; split at h
  · exact ⟨_, _, _, _, _, _, rfl, h⟩
  · cases h
theorem w0 (K : Res → Option Res) : LpSound Go.Proofs.Try.prog (X K) 0 b0 := lp_ok ((cx K).ok laid) (by rw [show loopsOf b0 = [] from by kernel_rfl]; intro p hp; cases hp) rfl fun p hp hid => by
  rcases List.mem_cons.1 hp with rfl | hp
  · intro st k r h1 h2; obtain ⟨x5, x6, x7, x8, x9, x10, e, h⟩ := v0 (K := K) h2; have := St.like_eq (y := s0 x5 x6 x7 x8 x9 x10) h1 (by kernel_rfl) e; subst this; exact ⟨fuel, (i0 K k x5 x8 x9 x10 fuel x6 x7).trans h⟩
  cases hp
theorem tie (K : Res → Option Res) (a1 : List Int) (a2 : Int) (a3 : List (List Cl)) (a4 : Int) : exec (X K) c (entry 45 [.v ⟨true, [.tr 0 1 [.int .i64] (.ints a1), .int .i64 a2, .tr 0 1 [.int .i64, .int .i64, .bool] (.cells a3)]⟩, one (.int .i64 a4)] [] []) (endK (X K)) = g a1 a2 a3 a4 (fun r1 => K (m r1)) := Eq.trans (b := b a1 a2 a3 a4 (fun r1 => K (m r1))) (by kernel_rfl) (by rw [e])
theorem runv {l : List Lf} {K : Res → Option Res} {r : Res} (h : run l K = some r) : ∃ a1 a2 a3 a4, l = [.q (.ints a1), .i a2, .q (.cells a3), .i a4] ∧ g a1 a2 a3 a4 (fun r1 => K (m r1)) = some r := by
  unfold run at h; split at h
  · exact ⟨_, _, _, _, rfl, h⟩
  · cases h
theorem ok : Con Go.Proofs.Try.prog con := con_of (fn := Go.Proofs.Try.f117) (c := c) (Fi := fi) (X := X) (fun_of laid (by kernel_rfl) (by kernel_rfl) (by kernel_rfl) rfl (by kernel_rfl) (by kernel_rfl) cx (fun _ => rfl) (fun _ => rfl) (fun K => by
    rw [show loopsOf c = [(0, b0)] from by kernel_rfl]; intro p hp
    rcases List.mem_cons.1 hp with rfl | hp
    · exact w0 K
    cases hp)) fun xs rows boxes K r hl hr => by
  obtain ⟨a1, a2, a3, a4, e, h⟩ := runv hr
  have := St.like_eq (y := a a1 a2 a3 a4) hl (by kernel_rfl) e
  obtain ⟨rfl, rfl, rfl⟩ := argSt_inj this
  exact (tie K a1 a2 a3 a4).trans h
end spec_l13Next
namespace spec_l13Pack
noncomputable def c : Code := bodyOf Go.Proofs.Try.f64
noncomputable def fi : Fin := ⟨Γ0, [(.cell 2 38, 38)], [[1, 1, 1]], [], [], []⟩
noncomputable def m (r1 : List Int) (r2 : Int) (r3 : List (List Cl)) : Res := ⟨[⟨true, [.ow 1000, .int .i64 r2, .ow 1001]⟩], [], [⟨[.int .i64], .ints r1, true, 0⟩, ⟨[.int .i64, .int .i64, .bool], .cells r3, true, 0⟩], [], []⟩
noncomputable def b0 : Code := codeAt c [1, 1, 1, 0, 0, 0]
noncomputable def b2 : Code := codeAt c [1, 1, 1, 0, 0, 0, 1, 0, 1, 0, 1, 0, 0]
noncomputable def s2 (x13 x14 : Int) (x15 : List Int) (x16 : List (List Cl)) (x17 : List Int) (x18 : Int) (x19 : List (List Cl)) (x20 x21 x22 x23 : Int) (x24 : Bool) : St := ⟨mkT 67 [(1, one (.bp 1000 0)), (2, one (.bp 1016 0)), (3, one (.bp 3192 0)), (4, one (.int .i64 x13)), (5, one (.bp 9272 0)), (6, one (.int .i64 x14))], [(3096, ⟨[.int .i64], .ints x15, true, 0⟩), (3160, ⟨[.int .i64, .int .i64, .bool], .cells x16, true, 0⟩)], [(1000, [.tr 0 1 [.int .i64] (.ints x17), .int .i64 x18, .tr 0 1 [.int .i64, .int .i64, .bool] (.cells x19)]), (1016, [.nil, .int .i64 x20, .nil]), (3192, [.ow 3096, .int .i64 x21, .ow 3160]), (9272, [.int .i64 x22, .int .i64 x23, .bool x24])]⟩
noncomputable def l2s (x13 : Int) (x16 : List (List Cl)) (x17 : List Int) (x18 : Int) (x19 : List (List Cl)) (x20 x21 x22 x23 : Int) (x24 : Bool) (rec : Int → List Int → Option Res) (k : List Int → Option Res) (x14 : Int) (x15 : List Int) : Option Res :=
  bif decide (x14 < x23) then (bif decide (0 ≤ IntKind.i64.wrap (x22 + x14)) && decide (IntKind.i64.wrap (x22 + x14) < (x17.length : Int)) then (bif decide (0 ≤ IntKind.i64.wrap (x21 + x14)) && decide (IntKind.i64.wrap (x21 + x14) < (x15.length : Int)) then rec (IntKind.i64.wrap (x14 + 1)) (x15.set ((IntKind.i64.wrap (x21 + x14)).toNat) (x17.getD ((IntKind.i64.wrap (x22 + x14)).toNat) 0))
      else none)
    else none)
  else k x15
noncomputable def l2 (x13 : Int) (x16 : List (List Cl)) (x17 : List Int) (x18 : Int) (x19 : List (List Cl)) (x20 x21 x22 x23 : Int) (x24 : Bool) (k : List Int → Option Res) : Nat → Int → List Int → Option Res
  | 0, _, _ => none
  | n + 1, x14, x15 => l2s x13 x16 x17 x18 x19 x20 x21 x22 x23 x24 (fun x14 x15 => l2 x13 x16 x17 x18 x19 x20 x21 x22 x23 x24 k n x14 x15) k x14 x15
noncomputable def o2 (x13 : Int) (x16 : List (List Cl)) (x17 : List Int) (x18 : Int) (x19 : List (List Cl)) (x20 x21 x22 x23 : Int) (x24 : Bool) (y2 : List Int) : St := ⟨mkT 67 [(1, one (.bp 1000 0)), (2, one (.bp 1016 0)), (3, one (.bp 3192 0)), (4, one (.int .i64 x13)), (5, one (.bp 9272 0))], [(3096, ⟨[.int .i64], .ints y2, true, 0⟩), (3160, ⟨[.int .i64, .int .i64, .bool], .cells x16, true, 0⟩)], [(1000, [.tr 0 1 [.int .i64] (.ints x17), .int .i64 x18, .tr 0 1 [.int .i64, .int .i64, .bool] (.cells x19)]), (1016, [.nil, .int .i64 x20, .nil]), (3192, [.ow 3096, .int .i64 x21, .ow 3160]), (9272, [.int .i64 x22, .int .i64 x23, .bool x24])]⟩
noncomputable def p2 (K : Res → Option Res) : List Lf → (St → Option Res) → Option Res
  | [.i x13, .i x14, .q (.ints x15), .q (.cells x16), .q (.ints x17), .i x18, .q (.cells x19), .i x20, .i x21, .i x22, .i x23, .b x24], k => l2 x13 x16 x17 x18 x19 x20 x21 x22 x23 x24 (fun y2 => k (o2 x13 x16 x17 x18 x19 x20 x21 x22 x23 x24 y2)) fuel x14 x15
  | _, _ => none
noncomputable def s0 (x5 : Int) (x6 : List Int) (x7 : List (List Cl)) (x8 : List Int) (x9 : Int) (x10 : List (List Cl)) (x11 x12 : Int) : St := ⟨mkT 67 [(1, one (.bp 1000 0)), (2, one (.bp 1016 0)), (3, one (.bp 3192 0)), (4, one (.int .i64 x5))], [(3096, ⟨[.int .i64], .ints x6, true, 0⟩), (3160, ⟨[.int .i64, .int .i64, .bool], .cells x7, true, 0⟩)], [(1000, [.tr 0 1 [.int .i64] (.ints x8), .int .i64 x9, .tr 0 1 [.int .i64, .int .i64, .bool] (.cells x10)]), (1016, [.nil, .int .i64 x11, .nil]), (3192, [.ow 3096, .int .i64 x12, .ow 3160])]⟩
noncomputable def l0s (x8 : List Int) (x9 : Int) (x10 : List (List Cl)) (x11 : Int) (rec : Int → List Int → List (List Cl) → Int → Option Res) (k : List Int → List (List Cl) → Int → Option Res) (x5 : Int) (x6 : List Int) (x7 : List (List Cl)) (x12 : Int) : Option Res :=
  bif decide (0 ≤ x5) then (bif decide (0 ≤ x5) && decide (x5 < (x10.length : Int)) then (l2 x5 x7 x8 x9 x10 x11 x12 (((x10.getD x5.toNat []).getD 0 (.i 0)).toI) (((x10.getD x5.toNat []).getD 1 (.i 0)).toI) (((x10.getD x5.toNat []).getD 2 (.i 0)).toB) (fun y25 => 
      bif decide (0 ≤ x5) && decide (x5 < (x7.length : Int)) then (spec_l13Next.g x8 x9 x10 (IntKind.i64.wrap ((((x10.getD x5.toNat []).getD 0 (.i 0)).toI) + (((x10.getD x5.toNat []).getD 1 (.i 0)).toI))) fun r26 =>
        rec r26 y25 (x7.set x5.toNat (splice (x7.getD x5.toNat []) 0 [.i x12])) (IntKind.i64.wrap (x12 + (((x10.getD x5.toNat []).getD 1 (.i 0)).toI))))
      else none) fuel 0 x6)
    else none)
  else k x6 x7 x12
noncomputable def l0 (x8 : List Int) (x9 : Int) (x10 : List (List Cl)) (x11 : Int) (k : List Int → List (List Cl) → Int → Option Res) : Nat → Int → List Int → List (List Cl) → Int → Option Res
  | 0, _, _, _, _ => none
  | n + 1, x5, x6, x7, x12 => l0s x8 x9 x10 x11 (fun x5 x6 x7 x12 => l0 x8 x9 x10 x11 k n x5 x6 x7 x12) k x5 x6 x7 x12
noncomputable def o0 (x8 : List Int) (x9 : Int) (x10 : List (List Cl)) (x11 : Int) (y1 : List Int) (y2 : List (List Cl)) (y4 : Int) : St := ⟨mkT 67 [(2, one (.bp 1016 0)), (3, one (.bp 3192 0))], [(3096, ⟨[.int .i64], .ints y1, true, 0⟩), (3160, ⟨[.int .i64, .int .i64, .bool], .cells y2, true, 0⟩)], [(1016, [.nil, .int .i64 x11, .nil]), (3192, [.ow 3096, .int .i64 y4, .ow 3160])]⟩
noncomputable def p0 (K : Res → Option Res) : List Lf → (St → Option Res) → Option Res
  | [.i x5, .q (.ints x6), .q (.cells x7), .q (.ints x8), .i x9, .q (.cells x10), .i x11, .i x12], k => l0 x8 x9 x10 x11 (fun y1 y2 y4 => k (o0 x8 x9 x10 x11 y1 y2 y4)) fuel x5 x6 x7 x12
  | _, _ => none
noncomputable def os : List (FuncId × St × (List Lf → (Res → Option Res) → Option Res)) := [spec_l13Next.con]
noncomputable def X (K : Res → Option Res) : Ctx := { Γ := Γ0, orc := orcOf os, io := [], share := [], mvl := [], bun := [], cut := [], own := [], cin := [(2, ⟨[1, 2, 3, 4, 5, 6], [(3096, 3096), (3160, 3160)], [1000, 1016, 3192, 9272], [], [], []⟩), (0, ⟨[1, 2, 3, 4], [(3096, 3096), (3160, 3160)], [1000, 1016, 3192], [], [], []⟩)], cout := [(2, ⟨[1, 2, 3, 4, 5], [(3096, 3096), (3160, 3160)], [1000, 1016, 3192, 9272], [], [], []⟩), (0, ⟨[2, 3], [(3096, 3096), (3160, 3160)], [1016, 3192], [], [], []⟩)], lp := lpOf [(2, s2 0 0 [] [] [] 0 [] 0 0 0 0 false, p2 K), (0, s0 0 [] [] [] 0 [] 0 0, p0 K)], kl := [], nk := true, eqs := eqs0, byt := byt0, fin := finK fi K }
noncomputable def b (a1 : List Int) (a2 : Int) (a3 : List (List Cl)) (R : List Int → Int → List (List Cl) → Option Res) : Option Res :=
  bif decide ((a1.length : Int) = (a1.length : Int)) && decide (0 ≤ (a1.length : Int)) && decide ((a1.length : Int) * 8 ≤ 140737488355328) then (bif decide ((0 + a3.length) * 24 ≤ 140737488355328) then (spec_l13Next.g a1 a2 a3 0 fun r4 =>
      l0 a1 a2 a3 0 (fun y27 y28 y29 => 
      R y27 y29 y28) fuel r4 (List.replicate ((a1.length : Int).toNat) 0) (([] : List (List Cl)) ++ a3) 0)
    else none)
  else none
theorem gx : ∃ x : List Int → Int → List (List Cl) → (List Int → Int → List (List Cl) → Option Res) → Option Res, x = b := ⟨_, rfl⟩
noncomputable def g : List Int → Int → List (List Cl) → (List Int → Int → List (List Cl) → Option Res) → Option Res := Classical.choose gx
theorem e : g = b := Classical.choose_spec gx
noncomputable def run : List Lf → (Res → Option Res) → Option Res
  | [.q (.ints a1), .i a2, .q (.cells a3)], K => g a1 a2 a3 (fun r1 r2 r3 => K (m r1 r2 r3))
  | _, _ => none
noncomputable def a (a1 : List Int) (a2 : Int) (a3 : List (List Cl)) : St := argSt [.v ⟨true, [.tr 0 1 [.int .i64] (.ints a1), .int .i64 a2, .tr 0 1 [.int .i64, .int .i64, .bool] (.cells a3)]⟩] [] []
noncomputable def con : FuncId × St × (List Lf → (Res → Option Res) → Option Res) := (64, a [] 0 [], run)
theorem cx (K : Res → Option Res) : CtxOk Go.Proofs.Try.prog Γ0 byt0 eqs0 (X K) os := ⟨rfl, rfl, rfl, (fun p hp => by
  rcases List.mem_cons.1 hp with rfl | hp
  · exact spec_l13Next.ok
  cases hp), rfl, rfl, rfl, rfl⟩
theorem t2 (K : Res → Option Res) (k : St → Option Res) (it : St → (St → Option Res) → Option Res) (x13 x14 : Int) (x15 : List Int) (x16 : List (List Cl)) (x17 : List Int) (x18 : Int) (x19 : List (List Cl)) (x20 x21 x22 x23 : Int) (x24 : Bool) : iterS (X K) 2 b2 it (s2 x13 x14 x15 x16 x17 x18 x19 x20 x21 x22 x23 x24) k = l2s x13 x16 x17 x18 x19 x20 x21 x22 x23 x24 (fun x14 x15 => it (s2 x13 x14 x15 x16 x17 x18 x19 x20 x21 x22 x23 x24) k) (fun y2 => k (o2 x13 x16 x17 x18 x19 x20 x21 x22 x23 x24 y2)) x14 x15 := by kernel_rfl
theorem i2 (K : Res → Option Res) (k : St → Option Res) (x13 : Int) (x16 : List (List Cl)) (x17 : List Int) (x18 : Int) (x19 : List (List Cl)) (x20 x21 x22 x23 : Int) (x24 : Bool) : ∀ (n : Nat) (x14 : Int) (x15 : List Int), iter (X K) 2 b2 n (s2 x13 x14 x15 x16 x17 x18 x19 x20 x21 x22 x23 x24) k = l2 x13 x16 x17 x18 x19 x20 x21 x22 x23 x24 (fun y2 => k (o2 x13 x16 x17 x18 x19 x20 x21 x22 x23 x24 y2)) n x14 x15
  | 0, _, _ => rfl
  | n + 1, x14, x15 => by
    rw [iter_succ, t2, show (fun x14 x15 => iter (X K) 2 b2 n (s2 x13 x14 x15 x16 x17 x18 x19 x20 x21 x22 x23 x24) k) = (fun x14 x15 => l2 x13 x16 x17 x18 x19 x20 x21 x22 x23 x24 (fun y2 => k (o2 x13 x16 x17 x18 x19 x20 x21 x22 x23 x24 y2)) n x14 x15) from funext fun x14 => funext fun x15 => i2 K k x13 x16 x17 x18 x19 x20 x21 x22 x23 x24 n x14 x15]; rfl
theorem v2 {K : Res → Option Res} {l : List Lf} {k : St → Option Res} {r : Res} (h : p2 K l k = some r) : ∃ x13 x14 x15 x16 x17 x18 x19 x20 x21 x22 x23 x24, l = [.i x13, .i x14, .q (.ints x15), .q (.cells x16), .q (.ints x17), .i x18, .q (.cells x19), .i x20, .i x21, .i x22, .i x23, .b x24] ∧ l2 x13 x16 x17 x18 x19 x20 x21 x22 x23 x24 (fun y2 => k (o2 x13 x16 x17 x18 x19 x20 x21 x22 x23 x24 y2)) fuel x14 x15 = some r := by
  unfold p2 at h; split at h
  · exact ⟨_, _, _, _, _, _, _, _, _, _, _, _, rfl, h⟩
  · cases h
theorem t0 (K : Res → Option Res) (k : St → Option Res) (it : St → (St → Option Res) → Option Res) (x5 : Int) (x6 : List Int) (x7 : List (List Cl)) (x8 : List Int) (x9 : Int) (x10 : List (List Cl)) (x11 x12 : Int) : iterS (X K) 0 b0 it (s0 x5 x6 x7 x8 x9 x10 x11 x12) k = l0s x8 x9 x10 x11 (fun x5 x6 x7 x12 => it (s0 x5 x6 x7 x8 x9 x10 x11 x12) k) (fun y1 y2 y4 => k (o0 x8 x9 x10 x11 y1 y2 y4)) x5 x6 x7 x12 := by kernel_rfl
theorem i0 (K : Res → Option Res) (k : St → Option Res) (x8 : List Int) (x9 : Int) (x10 : List (List Cl)) (x11 : Int) : ∀ (n : Nat) (x5 : Int) (x6 : List Int) (x7 : List (List Cl)) (x12 : Int), iter (X K) 0 b0 n (s0 x5 x6 x7 x8 x9 x10 x11 x12) k = l0 x8 x9 x10 x11 (fun y1 y2 y4 => k (o0 x8 x9 x10 x11 y1 y2 y4)) n x5 x6 x7 x12
  | 0, _, _, _, _ => rfl
  | n + 1, x5, x6, x7, x12 => by
    rw [iter_succ, t0, show (fun x5 x6 x7 x12 => iter (X K) 0 b0 n (s0 x5 x6 x7 x8 x9 x10 x11 x12) k) = (fun x5 x6 x7 x12 => l0 x8 x9 x10 x11 (fun y1 y2 y4 => k (o0 x8 x9 x10 x11 y1 y2 y4)) n x5 x6 x7 x12) from funext fun x5 => funext fun x6 => funext fun x7 => funext fun x12 => i0 K k x8 x9 x10 x11 n x5 x6 x7 x12]; rfl
theorem v0 {K : Res → Option Res} {l : List Lf} {k : St → Option Res} {r : Res} (h : p0 K l k = some r) : ∃ x5 x6 x7 x8 x9 x10 x11 x12, l = [.i x5, .q (.ints x6), .q (.cells x7), .q (.ints x8), .i x9, .q (.cells x10), .i x11, .i x12] ∧ l0 x8 x9 x10 x11 (fun y1 y2 y4 => k (o0 x8 x9 x10 x11 y1 y2 y4)) fuel x5 x6 x7 x12 = some r := by
  unfold p0 at h; split at h
  · exact ⟨_, _, _, _, _, _, _, _, rfl, h⟩
  · cases h
theorem w2 (K : Res → Option Res) : LpSound Go.Proofs.Try.prog (X K) 2 b2 := lp_ok ((cx K).ok laid) (by rw [show loopsOf b2 = [] from by kernel_rfl]; intro p hp; cases hp) rfl fun p hp hid => by
  rcases List.mem_cons.1 hp with rfl | hp
  · intro st k r h1 h2; obtain ⟨x13, x14, x15, x16, x17, x18, x19, x20, x21, x22, x23, x24, e, h⟩ := v2 (K := K) h2; have := St.like_eq (y := s2 x13 x14 x15 x16 x17 x18 x19 x20 x21 x22 x23 x24) h1 (by kernel_rfl) e; subst this; exact ⟨fuel, (i2 K k x13 x16 x17 x18 x19 x20 x21 x22 x23 x24 fuel x14 x15).trans h⟩
  rcases List.mem_cons.1 hp with rfl | hp
  · exact absurd hid (by simp)
  cases hp
theorem w0 (K : Res → Option Res) : LpSound Go.Proofs.Try.prog (X K) 0 b0 := lp_ok ((cx K).ok laid) (by
    rw [show loopsOf b0 = [(2, b2)] from by kernel_rfl]; intro p hp
    rcases List.mem_cons.1 hp with rfl | hp
    · exact w2 K
    cases hp) rfl fun p hp hid => by
  rcases List.mem_cons.1 hp with rfl | hp
  · exact absurd hid (by simp)
  rcases List.mem_cons.1 hp with rfl | hp
  · intro st k r h1 h2; obtain ⟨x5, x6, x7, x8, x9, x10, x11, x12, e, h⟩ := v0 (K := K) h2; have := St.like_eq (y := s0 x5 x6 x7 x8 x9 x10 x11 x12) h1 (by kernel_rfl) e; subst this; exact ⟨fuel, (i0 K k x8 x9 x10 x11 fuel x5 x6 x7 x12).trans h⟩
  cases hp
theorem tie (K : Res → Option Res) (a1 : List Int) (a2 : Int) (a3 : List (List Cl)) : exec (X K) c (entry 67 [.v ⟨true, [.tr 0 1 [.int .i64] (.ints a1), .int .i64 a2, .tr 0 1 [.int .i64, .int .i64, .bool] (.cells a3)]⟩] [] []) (endK (X K)) = g a1 a2 a3 (fun r1 r2 r3 => K (m r1 r2 r3)) := Eq.trans (b := b a1 a2 a3 (fun r1 r2 r3 => K (m r1 r2 r3))) (by kernel_rfl) (by rw [e])
theorem runv {l : List Lf} {K : Res → Option Res} {r : Res} (h : run l K = some r) : ∃ a1 a2 a3, l = [.q (.ints a1), .i a2, .q (.cells a3)] ∧ g a1 a2 a3 (fun r1 r2 r3 => K (m r1 r2 r3)) = some r := by
  unfold run at h; split at h
  · exact ⟨_, _, _, rfl, h⟩
  · cases h
theorem ok : Con Go.Proofs.Try.prog con := con_of (fn := Go.Proofs.Try.f64) (c := c) (Fi := fi) (X := X) (fun_of laid (by kernel_rfl) (by kernel_rfl) (by kernel_rfl) rfl (by kernel_rfl) (by kernel_rfl) cx (fun _ => rfl) (fun _ => rfl) (fun K => by
    rw [show loopsOf c = [(0, b0), (2, b2)] from by kernel_rfl]; intro p hp
    rcases List.mem_cons.1 hp with rfl | hp
    · exact w0 K
    rcases List.mem_cons.1 hp with rfl | hp
    · exact w2 K
    cases hp)) fun xs rows boxes K r hl hr => by
  obtain ⟨a1, a2, a3, e, h⟩ := runv hr
  have := St.like_eq (y := a a1 a2 a3) hl (by kernel_rfl) e
  obtain ⟨rfl, rfl, rfl⟩ := argSt_inj this
  exact (tie K a1 a2 a3).trans h
end spec_l13Pack
namespace spec_l13Put
noncomputable def c : Code := bodyOf Go.Proofs.Try.f80
noncomputable def fi : Fin := ⟨Γ0, [(.cell 4 38, 38), (.tmp 5, 3), (.tmp 6, 4)], [[3, 1, 3], [1], [1]], [false, false], [], []⟩
noncomputable def m (r1 : List Int) (r2 : Int) (r3 : List (List Cl)) (r4 : Int) (r5 : Bool) : Res := ⟨[⟨true, [.ow 1000, .int .i64 r2, .ow 1001]⟩, ⟨false, [.int .i64 r4]⟩, ⟨false, [.bool r5]⟩], [none, none], [⟨[.int .i64], .ints r1, true, 0⟩, ⟨[.int .i64, .int .i64, .bool], .cells r3, true, 0⟩], [], []⟩
noncomputable def b0 : Code := codeAt c [1, 1, 1, 1, 0, 0, 0]
noncomputable def b2 : Code := codeAt c [1, 1, 1, 1, 1, 1, 1, 1, 0, 1, 0, 0]
noncomputable def s0 (x10 : Int) (x11 x12 : List Int) (x13 : List (List Cl)) (x14 : List Int) (x15 : List (List Cl)) (x16 x17 : Int) : St := ⟨mkT 97 [(2, one (.bp 1000 0)), (4, one (.bp 1032 0)), (7, one (.ow 3065)), (8, one (.int .i64 x10))], [(3065, ⟨[.int .i64], .ints x11, true, 0⟩), (0, ⟨[.int .i64], .ints x12, true, 0⟩), (1, ⟨[.int .i64, .int .i64, .bool], .cells x13, true, 0⟩), (7161, ⟨[.int .i64], .ints x14, true, 0⟩), (7162, ⟨[.int .i64, .int .i64, .bool], .cells x15, true, 0⟩)], [(1000, [.ow 7161, .int .i64 x16, .ow 7162]), (1032, [.nil, .int .i64 x17, .nil])]⟩
noncomputable def l0s (x11 x12 : List Int) (x13 : List (List Cl)) (x14 : List Int) (x15 : List (List Cl)) (x16 x17 : Int) (rec : Int → Option Res) (k : Int → Option Res) (x10 : Int) : Option Res :=
  bif decide (x10 < (x15.length : Int)) then (bif decide (0 ≤ x10) && decide (x10 < (x15.length : Int)) then (bif ((x15.getD x10.toNat []).getD 2 (.i 0)).toB then rec (IntKind.i64.wrap (x10 + 1))
      else k x10)
    else none)
  else k x10
noncomputable def l0 (x11 x12 : List Int) (x13 : List (List Cl)) (x14 : List Int) (x15 : List (List Cl)) (x16 x17 : Int) (k : Int → Option Res) : Nat → Int → Option Res
  | 0, _ => none
  | n + 1, x10 => l0s x11 x12 x13 x14 x15 x16 x17 (fun x10 => l0 x11 x12 x13 x14 x15 x16 x17 k n x10) k x10
noncomputable def o0 (x11 x12 : List Int) (x13 : List (List Cl)) (x14 : List Int) (x15 : List (List Cl)) (x16 x17 y1 : Int) : St := ⟨mkT 97 [(2, one (.bp 1000 0)), (4, one (.bp 1032 0)), (7, one (.ow 3065)), (8, one (.int .i64 y1))], [(3065, ⟨[.int .i64], .ints x11, true, 0⟩), (0, ⟨[.int .i64], .ints x12, true, 0⟩), (1, ⟨[.int .i64, .int .i64, .bool], .cells x13, true, 0⟩), (7161, ⟨[.int .i64], .ints x14, true, 0⟩), (7162, ⟨[.int .i64, .int .i64, .bool], .cells x15, true, 0⟩)], [(1000, [.ow 7161, .int .i64 x16, .ow 7162]), (1032, [.nil, .int .i64 x17, .nil])]⟩
noncomputable def p0 (K : Res → Option Res) : List Lf → (St → Option Res) → Option Res
  | [.i x10, .q (.ints x11), .q (.ints x12), .q (.cells x13), .q (.ints x14), .q (.cells x15), .i x16, .i x17], k => l0 x11 x12 x13 x14 x15 x16 x17 (fun y1 => k (o0 x11 x12 x13 x14 x15 x16 x17 y1)) fuel x10
  | _, _ => none
noncomputable def s2 (x19 x20 : Int) (x21 x22 : List Int) (x23 : List (List Cl)) (x24 : List Int) (x25 : List (List Cl)) (x26 x27 : Int) : St := ⟨mkT 97 [(2, one (.bp 1000 0)), (4, one (.bp 1032 0)), (7, one (.ow 3065)), (8, one (.int .i64 x19)), (9, one (.int .i64 x20))], [(3065, ⟨[.int .i64], .ints x21, true, 0⟩), (0, ⟨[.int .i64], .ints x22, true, 0⟩), (1, ⟨[.int .i64, .int .i64, .bool], .cells x23, true, 0⟩), (7161, ⟨[.int .i64], .ints x24, true, 0⟩), (21544, ⟨[.int .i64, .int .i64, .bool], .cells x25, true, 0⟩)], [(1000, [.ow 7161, .int .i64 x26, .ow 21544]), (1032, [.nil, .int .i64 x27, .nil])]⟩
noncomputable def l2s (x19 : Int) (x21 x22 : List Int) (x23 x25 : List (List Cl)) (x26 x27 : Int) (rec : Int → List Int → Option Res) (k : List Int → Option Res) (x20 : Int) (x24 : List Int) : Option Res :=
  bif decide (x20 < (x21.length : Int)) then (bif decide (0 ≤ x20) && decide (x20 < (x21.length : Int)) then (bif decide (0 ≤ IntKind.i64.wrap (x26 + x20)) && decide (IntKind.i64.wrap (x26 + x20) < (x24.length : Int)) then rec (IntKind.i64.wrap (x20 + 1)) (x24.set ((IntKind.i64.wrap (x26 + x20)).toNat) (x21.getD x20.toNat 0))
      else none)
    else none)
  else k x24
noncomputable def l2 (x19 : Int) (x21 x22 : List Int) (x23 x25 : List (List Cl)) (x26 x27 : Int) (k : List Int → Option Res) : Nat → Int → List Int → Option Res
  | 0, _, _ => none
  | n + 1, x20, x24 => l2s x19 x21 x22 x23 x25 x26 x27 (fun x20 x24 => l2 x19 x21 x22 x23 x25 x26 x27 k n x20 x24) k x20 x24
noncomputable def o2 (x19 : Int) (x21 x22 : List Int) (x23 x25 : List (List Cl)) (x26 x27 : Int) (y5 : List Int) : St := ⟨mkT 97 [(2, one (.bp 1000 0)), (4, one (.bp 1032 0)), (7, one (.ow 3065)), (8, one (.int .i64 x19))], [(3065, ⟨[.int .i64], .ints x21, true, 0⟩), (0, ⟨[.int .i64], .ints x22, true, 0⟩), (1, ⟨[.int .i64, .int .i64, .bool], .cells x23, true, 0⟩), (7161, ⟨[.int .i64], .ints y5, true, 0⟩), (21544, ⟨[.int .i64, .int .i64, .bool], .cells x25, true, 0⟩)], [(1000, [.ow 7161, .int .i64 x26, .ow 21544]), (1032, [.nil, .int .i64 x27, .nil])]⟩
noncomputable def p2 (K : Res → Option Res) : List Lf → (St → Option Res) → Option Res
  | [.i x19, .i x20, .q (.ints x21), .q (.ints x22), .q (.cells x23), .q (.ints x24), .q (.cells x25), .i x26, .i x27], k => l2 x19 x21 x22 x23 x25 x26 x27 (fun y5 => k (o2 x19 x21 x22 x23 x25 x26 x27 y5)) fuel x20 x24
  | _, _ => none
noncomputable def s2_2 (x29 x30 : Int) (x31 x32 : List Int) (x33 : List (List Cl)) (x34 : List Int) (x35 : List (List Cl)) (x36 x37 : Int) : St := ⟨mkT 97 [(2, one (.bp 1000 0)), (4, one (.bp 1032 0)), (7, one (.ow 3065)), (8, one (.int .i64 x29)), (9, one (.int .i64 x30))], [(3065, ⟨[.int .i64], .ints x31, true, 0⟩), (0, ⟨[.int .i64], .ints x32, true, 0⟩), (1, ⟨[.int .i64, .int .i64, .bool], .cells x33, true, 0⟩), (7161, ⟨[.int .i64], .ints x34, true, 0⟩), (7162, ⟨[.int .i64, .int .i64, .bool], .cells x35, true, 0⟩)], [(1000, [.ow 7161, .int .i64 x36, .ow 7162]), (1032, [.nil, .int .i64 x37, .nil])]⟩
noncomputable def l2_2s (x29 : Int) (x31 x32 : List Int) (x33 x35 : List (List Cl)) (x36 x37 : Int) (rec : Int → List Int → Option Res) (k : List Int → Option Res) (x30 : Int) (x34 : List Int) : Option Res :=
  bif decide (x30 < (x31.length : Int)) then (bif decide (0 ≤ x30) && decide (x30 < (x31.length : Int)) then (bif decide (0 ≤ IntKind.i64.wrap (x36 + x30)) && decide (IntKind.i64.wrap (x36 + x30) < (x34.length : Int)) then rec (IntKind.i64.wrap (x30 + 1)) (x34.set ((IntKind.i64.wrap (x36 + x30)).toNat) (x31.getD x30.toNat 0))
      else none)
    else none)
  else k x34
noncomputable def l2_2 (x29 : Int) (x31 x32 : List Int) (x33 x35 : List (List Cl)) (x36 x37 : Int) (k : List Int → Option Res) : Nat → Int → List Int → Option Res
  | 0, _, _ => none
  | n + 1, x30, x34 => l2_2s x29 x31 x32 x33 x35 x36 x37 (fun x30 x34 => l2_2 x29 x31 x32 x33 x35 x36 x37 k n x30 x34) k x30 x34
noncomputable def o2_2 (x29 : Int) (x31 x32 : List Int) (x33 x35 : List (List Cl)) (x36 x37 : Int) (y5 : List Int) : St := ⟨mkT 97 [(2, one (.bp 1000 0)), (4, one (.bp 1032 0)), (7, one (.ow 3065)), (8, one (.int .i64 x29))], [(3065, ⟨[.int .i64], .ints x31, true, 0⟩), (0, ⟨[.int .i64], .ints x32, true, 0⟩), (1, ⟨[.int .i64, .int .i64, .bool], .cells x33, true, 0⟩), (7161, ⟨[.int .i64], .ints y5, true, 0⟩), (7162, ⟨[.int .i64, .int .i64, .bool], .cells x35, true, 0⟩)], [(1000, [.ow 7161, .int .i64 x36, .ow 7162]), (1032, [.nil, .int .i64 x37, .nil])]⟩
noncomputable def p2_2 (K : Res → Option Res) : List Lf → (St → Option Res) → Option Res
  | [.i x29, .i x30, .q (.ints x31), .q (.ints x32), .q (.cells x33), .q (.ints x34), .q (.cells x35), .i x36, .i x37], k => l2_2 x29 x31 x32 x33 x35 x36 x37 (fun y5 => k (o2_2 x29 x31 x32 x33 x35 x36 x37 y5)) fuel x30 x34
  | _, _ => none
noncomputable def s0_2 (x39 : Int) (x40 x41 : List Int) (x42 : List (List Cl)) (x43 x44 : Int) : St := ⟨mkT 97 [(2, one (.bp 1000 0)), (4, one (.bp 1032 0)), (7, one (.ow 3065)), (8, one (.int .i64 x39))], [(3065, ⟨[.int .i64], .ints x40, true, 0⟩), (0, ⟨[.int .i64], .ints x41, true, 0⟩), (1, ⟨[.int .i64, .int .i64, .bool], .cells x42, true, 0⟩)], [(1000, [.ow 0, .int .i64 x43, .ow 1]), (1032, [.nil, .int .i64 x44, .nil])]⟩
noncomputable def l0_2s (x40 x41 : List Int) (x42 : List (List Cl)) (x43 x44 : Int) (rec : Int → Option Res) (k : Int → Option Res) (x39 : Int) : Option Res :=
  bif decide (x39 < (x42.length : Int)) then (bif decide (0 ≤ x39) && decide (x39 < (x42.length : Int)) then (bif ((x42.getD x39.toNat []).getD 2 (.i 0)).toB then rec (IntKind.i64.wrap (x39 + 1))
      else k x39)
    else none)
  else k x39
noncomputable def l0_2 (x40 x41 : List Int) (x42 : List (List Cl)) (x43 x44 : Int) (k : Int → Option Res) : Nat → Int → Option Res
  | 0, _ => none
  | n + 1, x39 => l0_2s x40 x41 x42 x43 x44 (fun x39 => l0_2 x40 x41 x42 x43 x44 k n x39) k x39
noncomputable def o0_2 (x40 x41 : List Int) (x42 : List (List Cl)) (x43 x44 y1 : Int) : St := ⟨mkT 97 [(2, one (.bp 1000 0)), (4, one (.bp 1032 0)), (7, one (.ow 3065)), (8, one (.int .i64 y1))], [(3065, ⟨[.int .i64], .ints x40, true, 0⟩), (0, ⟨[.int .i64], .ints x41, true, 0⟩), (1, ⟨[.int .i64, .int .i64, .bool], .cells x42, true, 0⟩)], [(1000, [.ow 0, .int .i64 x43, .ow 1]), (1032, [.nil, .int .i64 x44, .nil])]⟩
noncomputable def p0_2 (K : Res → Option Res) : List Lf → (St → Option Res) → Option Res
  | [.i x39, .q (.ints x40), .q (.ints x41), .q (.cells x42), .i x43, .i x44], k => l0_2 x40 x41 x42 x43 x44 (fun y1 => k (o0_2 x40 x41 x42 x43 x44 y1)) fuel x39
  | _, _ => none
noncomputable def s2_3 (x46 x47 : Int) (x48 x49 : List Int) (x50 : List (List Cl)) (x51 x52 : Int) : St := ⟨mkT 97 [(2, one (.bp 1000 0)), (4, one (.bp 1032 0)), (7, one (.ow 3065)), (8, one (.int .i64 x46)), (9, one (.int .i64 x47))], [(3065, ⟨[.int .i64], .ints x48, true, 0⟩), (0, ⟨[.int .i64], .ints x49, true, 0⟩), (21544, ⟨[.int .i64, .int .i64, .bool], .cells x50, true, 0⟩)], [(1000, [.ow 0, .int .i64 x51, .ow 21544]), (1032, [.nil, .int .i64 x52, .nil])]⟩
noncomputable def l2_3s (x46 : Int) (x48 : List Int) (x50 : List (List Cl)) (x51 x52 : Int) (rec : Int → List Int → Option Res) (k : List Int → Option Res) (x47 : Int) (x49 : List Int) : Option Res :=
  bif decide (x47 < (x48.length : Int)) then (bif decide (0 ≤ x47) && decide (x47 < (x48.length : Int)) then (bif decide (0 ≤ IntKind.i64.wrap (x51 + x47)) && decide (IntKind.i64.wrap (x51 + x47) < (x49.length : Int)) then rec (IntKind.i64.wrap (x47 + 1)) (x49.set ((IntKind.i64.wrap (x51 + x47)).toNat) (x48.getD x47.toNat 0))
      else none)
    else none)
  else k x49
noncomputable def l2_3 (x46 : Int) (x48 : List Int) (x50 : List (List Cl)) (x51 x52 : Int) (k : List Int → Option Res) : Nat → Int → List Int → Option Res
  | 0, _, _ => none
  | n + 1, x47, x49 => l2_3s x46 x48 x50 x51 x52 (fun x47 x49 => l2_3 x46 x48 x50 x51 x52 k n x47 x49) k x47 x49
noncomputable def o2_3 (x46 : Int) (x48 : List Int) (x50 : List (List Cl)) (x51 x52 : Int) (y3 : List Int) : St := ⟨mkT 97 [(2, one (.bp 1000 0)), (4, one (.bp 1032 0)), (7, one (.ow 3065)), (8, one (.int .i64 x46))], [(3065, ⟨[.int .i64], .ints x48, true, 0⟩), (0, ⟨[.int .i64], .ints y3, true, 0⟩), (21544, ⟨[.int .i64, .int .i64, .bool], .cells x50, true, 0⟩)], [(1000, [.ow 0, .int .i64 x51, .ow 21544]), (1032, [.nil, .int .i64 x52, .nil])]⟩
noncomputable def p2_3 (K : Res → Option Res) : List Lf → (St → Option Res) → Option Res
  | [.i x46, .i x47, .q (.ints x48), .q (.ints x49), .q (.cells x50), .i x51, .i x52], k => l2_3 x46 x48 x50 x51 x52 (fun y3 => k (o2_3 x46 x48 x50 x51 x52 y3)) fuel x47 x49
  | _, _ => none
noncomputable def s2_4 (x54 x55 : Int) (x56 x57 : List Int) (x58 : List (List Cl)) (x59 x60 : Int) : St := ⟨mkT 97 [(2, one (.bp 1000 0)), (4, one (.bp 1032 0)), (7, one (.ow 3065)), (8, one (.int .i64 x54)), (9, one (.int .i64 x55))], [(3065, ⟨[.int .i64], .ints x56, true, 0⟩), (0, ⟨[.int .i64], .ints x57, true, 0⟩), (1, ⟨[.int .i64, .int .i64, .bool], .cells x58, true, 0⟩)], [(1000, [.ow 0, .int .i64 x59, .ow 1]), (1032, [.nil, .int .i64 x60, .nil])]⟩
noncomputable def l2_4s (x54 : Int) (x56 : List Int) (x58 : List (List Cl)) (x59 x60 : Int) (rec : Int → List Int → Option Res) (k : List Int → Option Res) (x55 : Int) (x57 : List Int) : Option Res :=
  bif decide (x55 < (x56.length : Int)) then (bif decide (0 ≤ x55) && decide (x55 < (x56.length : Int)) then (bif decide (0 ≤ IntKind.i64.wrap (x59 + x55)) && decide (IntKind.i64.wrap (x59 + x55) < (x57.length : Int)) then rec (IntKind.i64.wrap (x55 + 1)) (x57.set ((IntKind.i64.wrap (x59 + x55)).toNat) (x56.getD x55.toNat 0))
      else none)
    else none)
  else k x57
noncomputable def l2_4 (x54 : Int) (x56 : List Int) (x58 : List (List Cl)) (x59 x60 : Int) (k : List Int → Option Res) : Nat → Int → List Int → Option Res
  | 0, _, _ => none
  | n + 1, x55, x57 => l2_4s x54 x56 x58 x59 x60 (fun x55 x57 => l2_4 x54 x56 x58 x59 x60 k n x55 x57) k x55 x57
noncomputable def o2_4 (x54 : Int) (x56 : List Int) (x58 : List (List Cl)) (x59 x60 : Int) (y3 : List Int) : St := ⟨mkT 97 [(2, one (.bp 1000 0)), (4, one (.bp 1032 0)), (7, one (.ow 3065)), (8, one (.int .i64 x54))], [(3065, ⟨[.int .i64], .ints x56, true, 0⟩), (0, ⟨[.int .i64], .ints y3, true, 0⟩), (1, ⟨[.int .i64, .int .i64, .bool], .cells x58, true, 0⟩)], [(1000, [.ow 0, .int .i64 x59, .ow 1]), (1032, [.nil, .int .i64 x60, .nil])]⟩
noncomputable def p2_4 (K : Res → Option Res) : List Lf → (St → Option Res) → Option Res
  | [.i x54, .i x55, .q (.ints x56), .q (.ints x57), .q (.cells x58), .i x59, .i x60], k => l2_4 x54 x56 x58 x59 x60 (fun y3 => k (o2_4 x54 x56 x58 x59 x60 y3)) fuel x55 x57
  | _, _ => none
noncomputable def os : List (FuncId × St × (List Lf → (Res → Option Res) → Option Res)) := [spec_l13Words.con, spec_l13Pack.con]
noncomputable def X (K : Res → Option Res) : Ctx := { Γ := Γ0, orc := orcOf os, io := [], share := [], mvl := [], bun := [], cut := [], own := [], cin := [(0, ⟨[2, 4, 7, 8], [(3065, 3065), (0, 0), (1, 1), (7161, 7161), (7162, 7162)], [1000, 1032], [], [], []⟩), (2, ⟨[2, 4, 7, 8, 9], [(3065, 3065), (0, 0), (1, 1), (7161, 7161), (21544, 21544), (7162, 7162)], [1000, 1032], [], [], []⟩)], cout := [(0, ⟨[2, 4, 7, 8], [(3065, 3065), (0, 0), (1, 1), (7161, 7161), (7162, 7162)], [1000, 1032], [], [], []⟩), (2, ⟨[2, 4, 7, 8], [(3065, 3065), (0, 0), (1, 1), (7161, 7161), (21544, 21544), (7162, 7162)], [1000, 1032], [], [], []⟩)], lp := lpOf [(0, s0 0 [] [] [] [] [] 0 0, p0 K), (2, s2 0 0 [] [] [] [] [] 0 0, p2 K), (2, s2_2 0 0 [] [] [] [] [] 0 0, p2_2 K), (0, s0_2 0 [] [] [] 0 0, p0_2 K), (2, s2_3 0 0 [] [] [] 0 0, p2_3 K), (2, s2_4 0 0 [] [] [] 0 0, p2_4 K)], kl := [], nk := true, eqs := eqs0, byt := byt0, fin := finK fi K }
noncomputable def b (a1 : Int) (a2 a3 a4 : List Int) (a5 : List (List Cl)) (R : List Int → Int → List (List Cl) → Int → Bool → Option Res) : Option Res :=
  spec_l13Words.g a2 a3 fun r6 =>
  bif decide (IntKind.i64.wrap ((a4.length : Int) - a1) < (r6.length : Int)) then (spec_l13Pack.g a4 a1 a5 fun r7 r8 r9 =>
    l0 r6 a4 a5 r7 r9 r8 0 (fun y18 => 
    bif decide (IntKind.i64.wrap ((r7.length : Int) - r8) < (r6.length : Int)) then R r7 r8 r9 (-1) false
    else bif (y18 == 200) then R r7 r8 r9 (-1) false
    else bif (y18 == (r9.length : Int)) then (bif decide ((r9.length + 1) * 24 ≤ 140737488355328) then (bif decide (0 ≤ y18) && decide (y18 < ((r9 ++ ([[.i 0, .i 0, .b false]] : List (List Cl))).length : Int)) then (l2 y18 r6 a4 a5 ((r9 ++ ([[.i 0, .i 0, .b false]] : List (List Cl))).set y18.toNat [.i r8, .i (r6.length : Int), .b true]) r8 0 (fun y28 => 
          R y28 (IntKind.i64.wrap (r8 + (r6.length : Int))) ((r9 ++ ([[.i 0, .i 0, .b false]] : List (List Cl))).set y18.toNat [.i r8, .i (r6.length : Int), .b true]) y18 true) fuel 0 r7)
        else none)
      else none)
    else bif decide (0 ≤ y18) && decide (y18 < (r9.length : Int)) then (l2_2 y18 r6 a4 a5 (r9.set y18.toNat [.i r8, .i (r6.length : Int), .b true]) r8 0 (fun y38 => 
      R y38 (IntKind.i64.wrap (r8 + (r6.length : Int))) (r9.set y18.toNat [.i r8, .i (r6.length : Int), .b true]) y18 true) fuel 0 r7)
    else none) fuel 0)
  else (l0_2 r6 a4 a5 a1 0 (fun y45 => 
  bif decide (IntKind.i64.wrap ((a4.length : Int) - a1) < (r6.length : Int)) then R a4 a1 a5 (-1) false
  else bif (y45 == 200) then R a4 a1 a5 (-1) false
  else bif (y45 == (a5.length : Int)) then (bif decide ((a5.length + 1) * 24 ≤ 140737488355328) then (bif decide (0 ≤ y45) && decide (y45 < ((a5 ++ ([[.i 0, .i 0, .b false]] : List (List Cl))).length : Int)) then (l2_3 y45 r6 ((a5 ++ ([[.i 0, .i 0, .b false]] : List (List Cl))).set y45.toNat [.i a1, .i (r6.length : Int), .b true]) a1 0 (fun y53 => 
        R y53 (IntKind.i64.wrap (a1 + (r6.length : Int))) ((a5 ++ ([[.i 0, .i 0, .b false]] : List (List Cl))).set y45.toNat [.i a1, .i (r6.length : Int), .b true]) y45 true) fuel 0 a4)
      else none)
    else none)
  else bif decide (0 ≤ y45) && decide (y45 < (a5.length : Int)) then (l2_4 y45 r6 (a5.set y45.toNat [.i a1, .i (r6.length : Int), .b true]) a1 0 (fun y61 => 
    R y61 (IntKind.i64.wrap (a1 + (r6.length : Int))) (a5.set y45.toNat [.i a1, .i (r6.length : Int), .b true]) y45 true) fuel 0 a4)
  else none) fuel 0)
theorem gx : ∃ x : Int → List Int → List Int → List Int → List (List Cl) → (List Int → Int → List (List Cl) → Int → Bool → Option Res) → Option Res, x = b := ⟨_, rfl⟩
noncomputable def g : Int → List Int → List Int → List Int → List (List Cl) → (List Int → Int → List (List Cl) → Int → Bool → Option Res) → Option Res := Classical.choose gx
theorem e : g = b := Classical.choose_spec gx
noncomputable def run : List Lf → (Res → Option Res) → Option Res
  | [.i a1, .q (.ints a2), .q (.ints a3), .q (.ints a4), .q (.cells a5)], K => g a1 a2 a3 a4 a5 (fun r1 r2 r3 r4 r5 => K (m r1 r2 r3 r4 r5))
  | _, _ => none
noncomputable def a (a1 : Int) (a2 a3 a4 : List Int) (a5 : List (List Cl)) : St := argSt [.v ⟨true, [.ow 0, .int .i64 a1, .ow 1]⟩, .v ⟨true, [.tr 0 1 [.int .i64] (.ints a2), .tr 0 1 [.int .i64] (.ints a3)]⟩] [⟨[.int .i64], .ints a4, true, 0⟩, ⟨[.int .i64, .int .i64, .bool], .cells a5, true, 0⟩] []
noncomputable def con : FuncId × St × (List Lf → (Res → Option Res) → Option Res) := (80, a 0 [] [] [] [], run)
theorem cx (K : Res → Option Res) : CtxOk Go.Proofs.Try.prog Γ0 byt0 eqs0 (X K) os := ⟨rfl, rfl, rfl, (fun p hp => by
  rcases List.mem_cons.1 hp with rfl | hp
  · exact spec_l13Words.ok
  rcases List.mem_cons.1 hp with rfl | hp
  · exact spec_l13Pack.ok
  cases hp), rfl, rfl, rfl, rfl⟩
theorem t0 (K : Res → Option Res) (k : St → Option Res) (it : St → (St → Option Res) → Option Res) (x10 : Int) (x11 x12 : List Int) (x13 : List (List Cl)) (x14 : List Int) (x15 : List (List Cl)) (x16 x17 : Int) : iterS (X K) 0 b0 it (s0 x10 x11 x12 x13 x14 x15 x16 x17) k = l0s x11 x12 x13 x14 x15 x16 x17 (fun x10 => it (s0 x10 x11 x12 x13 x14 x15 x16 x17) k) (fun y1 => k (o0 x11 x12 x13 x14 x15 x16 x17 y1)) x10 := by kernel_rfl
theorem i0 (K : Res → Option Res) (k : St → Option Res) (x11 x12 : List Int) (x13 : List (List Cl)) (x14 : List Int) (x15 : List (List Cl)) (x16 x17 : Int) : ∀ (n : Nat) (x10 : Int), iter (X K) 0 b0 n (s0 x10 x11 x12 x13 x14 x15 x16 x17) k = l0 x11 x12 x13 x14 x15 x16 x17 (fun y1 => k (o0 x11 x12 x13 x14 x15 x16 x17 y1)) n x10
  | 0, _ => rfl
  | n + 1, x10 => by
    rw [iter_succ, t0, show (fun x10 => iter (X K) 0 b0 n (s0 x10 x11 x12 x13 x14 x15 x16 x17) k) = (fun x10 => l0 x11 x12 x13 x14 x15 x16 x17 (fun y1 => k (o0 x11 x12 x13 x14 x15 x16 x17 y1)) n x10) from funext fun x10 => i0 K k x11 x12 x13 x14 x15 x16 x17 n x10]; rfl
theorem v0 {K : Res → Option Res} {l : List Lf} {k : St → Option Res} {r : Res} (h : p0 K l k = some r) : ∃ x10 x11 x12 x13 x14 x15 x16 x17, l = [.i x10, .q (.ints x11), .q (.ints x12), .q (.cells x13), .q (.ints x14), .q (.cells x15), .i x16, .i x17] ∧ l0 x11 x12 x13 x14 x15 x16 x17 (fun y1 => k (o0 x11 x12 x13 x14 x15 x16 x17 y1)) fuel x10 = some r := by
  unfold p0 at h; split at h
  · exact ⟨_, _, _, _, _, _, _, _, rfl, h⟩
  · cases h
theorem t2 (K : Res → Option Res) (k : St → Option Res) (it : St → (St → Option Res) → Option Res) (x19 x20 : Int) (x21 x22 : List Int) (x23 : List (List Cl)) (x24 : List Int) (x25 : List (List Cl)) (x26 x27 : Int) : iterS (X K) 2 b2 it (s2 x19 x20 x21 x22 x23 x24 x25 x26 x27) k = l2s x19 x21 x22 x23 x25 x26 x27 (fun x20 x24 => it (s2 x19 x20 x21 x22 x23 x24 x25 x26 x27) k) (fun y5 => k (o2 x19 x21 x22 x23 x25 x26 x27 y5)) x20 x24 := by kernel_rfl
theorem i2 (K : Res → Option Res) (k : St → Option Res) (x19 : Int) (x21 x22 : List Int) (x23 x25 : List (List Cl)) (x26 x27 : Int) : ∀ (n : Nat) (x20 : Int) (x24 : List Int), iter (X K) 2 b2 n (s2 x19 x20 x21 x22 x23 x24 x25 x26 x27) k = l2 x19 x21 x22 x23 x25 x26 x27 (fun y5 => k (o2 x19 x21 x22 x23 x25 x26 x27 y5)) n x20 x24
  | 0, _, _ => rfl
  | n + 1, x20, x24 => by
    rw [iter_succ, t2, show (fun x20 x24 => iter (X K) 2 b2 n (s2 x19 x20 x21 x22 x23 x24 x25 x26 x27) k) = (fun x20 x24 => l2 x19 x21 x22 x23 x25 x26 x27 (fun y5 => k (o2 x19 x21 x22 x23 x25 x26 x27 y5)) n x20 x24) from funext fun x20 => funext fun x24 => i2 K k x19 x21 x22 x23 x25 x26 x27 n x20 x24]; rfl
theorem v2 {K : Res → Option Res} {l : List Lf} {k : St → Option Res} {r : Res} (h : p2 K l k = some r) : ∃ x19 x20 x21 x22 x23 x24 x25 x26 x27, l = [.i x19, .i x20, .q (.ints x21), .q (.ints x22), .q (.cells x23), .q (.ints x24), .q (.cells x25), .i x26, .i x27] ∧ l2 x19 x21 x22 x23 x25 x26 x27 (fun y5 => k (o2 x19 x21 x22 x23 x25 x26 x27 y5)) fuel x20 x24 = some r := by
  unfold p2 at h; split at h
  · exact ⟨_, _, _, _, _, _, _, _, _, rfl, h⟩
  · cases h
theorem t2_2 (K : Res → Option Res) (k : St → Option Res) (it : St → (St → Option Res) → Option Res) (x29 x30 : Int) (x31 x32 : List Int) (x33 : List (List Cl)) (x34 : List Int) (x35 : List (List Cl)) (x36 x37 : Int) : iterS (X K) 2 b2 it (s2_2 x29 x30 x31 x32 x33 x34 x35 x36 x37) k = l2_2s x29 x31 x32 x33 x35 x36 x37 (fun x30 x34 => it (s2_2 x29 x30 x31 x32 x33 x34 x35 x36 x37) k) (fun y5 => k (o2_2 x29 x31 x32 x33 x35 x36 x37 y5)) x30 x34 := by kernel_rfl
theorem i2_2 (K : Res → Option Res) (k : St → Option Res) (x29 : Int) (x31 x32 : List Int) (x33 x35 : List (List Cl)) (x36 x37 : Int) : ∀ (n : Nat) (x30 : Int) (x34 : List Int), iter (X K) 2 b2 n (s2_2 x29 x30 x31 x32 x33 x34 x35 x36 x37) k = l2_2 x29 x31 x32 x33 x35 x36 x37 (fun y5 => k (o2_2 x29 x31 x32 x33 x35 x36 x37 y5)) n x30 x34
  | 0, _, _ => rfl
  | n + 1, x30, x34 => by
    rw [iter_succ, t2_2, show (fun x30 x34 => iter (X K) 2 b2 n (s2_2 x29 x30 x31 x32 x33 x34 x35 x36 x37) k) = (fun x30 x34 => l2_2 x29 x31 x32 x33 x35 x36 x37 (fun y5 => k (o2_2 x29 x31 x32 x33 x35 x36 x37 y5)) n x30 x34) from funext fun x30 => funext fun x34 => i2_2 K k x29 x31 x32 x33 x35 x36 x37 n x30 x34]; rfl
theorem v2_2 {K : Res → Option Res} {l : List Lf} {k : St → Option Res} {r : Res} (h : p2_2 K l k = some r) : ∃ x29 x30 x31 x32 x33 x34 x35 x36 x37, l = [.i x29, .i x30, .q (.ints x31), .q (.ints x32), .q (.cells x33), .q (.ints x34), .q (.cells x35), .i x36, .i x37] ∧ l2_2 x29 x31 x32 x33 x35 x36 x37 (fun y5 => k (o2_2 x29 x31 x32 x33 x35 x36 x37 y5)) fuel x30 x34 = some r := by
  unfold p2_2 at h; split at h
  · exact ⟨_, _, _, _, _, _, _, _, _, rfl, h⟩
  · cases h
theorem t0_2 (K : Res → Option Res) (k : St → Option Res) (it : St → (St → Option Res) → Option Res) (x39 : Int) (x40 x41 : List Int) (x42 : List (List Cl)) (x43 x44 : Int) : iterS (X K) 0 b0 it (s0_2 x39 x40 x41 x42 x43 x44) k = l0_2s x40 x41 x42 x43 x44 (fun x39 => it (s0_2 x39 x40 x41 x42 x43 x44) k) (fun y1 => k (o0_2 x40 x41 x42 x43 x44 y1)) x39 := by kernel_rfl
theorem i0_2 (K : Res → Option Res) (k : St → Option Res) (x40 x41 : List Int) (x42 : List (List Cl)) (x43 x44 : Int) : ∀ (n : Nat) (x39 : Int), iter (X K) 0 b0 n (s0_2 x39 x40 x41 x42 x43 x44) k = l0_2 x40 x41 x42 x43 x44 (fun y1 => k (o0_2 x40 x41 x42 x43 x44 y1)) n x39
  | 0, _ => rfl
  | n + 1, x39 => by
    rw [iter_succ, t0_2, show (fun x39 => iter (X K) 0 b0 n (s0_2 x39 x40 x41 x42 x43 x44) k) = (fun x39 => l0_2 x40 x41 x42 x43 x44 (fun y1 => k (o0_2 x40 x41 x42 x43 x44 y1)) n x39) from funext fun x39 => i0_2 K k x40 x41 x42 x43 x44 n x39]; rfl
theorem v0_2 {K : Res → Option Res} {l : List Lf} {k : St → Option Res} {r : Res} (h : p0_2 K l k = some r) : ∃ x39 x40 x41 x42 x43 x44, l = [.i x39, .q (.ints x40), .q (.ints x41), .q (.cells x42), .i x43, .i x44] ∧ l0_2 x40 x41 x42 x43 x44 (fun y1 => k (o0_2 x40 x41 x42 x43 x44 y1)) fuel x39 = some r := by
  unfold p0_2 at h; split at h
  · exact ⟨_, _, _, _, _, _, rfl, h⟩
  · cases h
theorem t2_3 (K : Res → Option Res) (k : St → Option Res) (it : St → (St → Option Res) → Option Res) (x46 x47 : Int) (x48 x49 : List Int) (x50 : List (List Cl)) (x51 x52 : Int) : iterS (X K) 2 b2 it (s2_3 x46 x47 x48 x49 x50 x51 x52) k = l2_3s x46 x48 x50 x51 x52 (fun x47 x49 => it (s2_3 x46 x47 x48 x49 x50 x51 x52) k) (fun y3 => k (o2_3 x46 x48 x50 x51 x52 y3)) x47 x49 := by kernel_rfl
theorem i2_3 (K : Res → Option Res) (k : St → Option Res) (x46 : Int) (x48 : List Int) (x50 : List (List Cl)) (x51 x52 : Int) : ∀ (n : Nat) (x47 : Int) (x49 : List Int), iter (X K) 2 b2 n (s2_3 x46 x47 x48 x49 x50 x51 x52) k = l2_3 x46 x48 x50 x51 x52 (fun y3 => k (o2_3 x46 x48 x50 x51 x52 y3)) n x47 x49
  | 0, _, _ => rfl
  | n + 1, x47, x49 => by
    rw [iter_succ, t2_3, show (fun x47 x49 => iter (X K) 2 b2 n (s2_3 x46 x47 x48 x49 x50 x51 x52) k) = (fun x47 x49 => l2_3 x46 x48 x50 x51 x52 (fun y3 => k (o2_3 x46 x48 x50 x51 x52 y3)) n x47 x49) from funext fun x47 => funext fun x49 => i2_3 K k x46 x48 x50 x51 x52 n x47 x49]; rfl
theorem v2_3 {K : Res → Option Res} {l : List Lf} {k : St → Option Res} {r : Res} (h : p2_3 K l k = some r) : ∃ x46 x47 x48 x49 x50 x51 x52, l = [.i x46, .i x47, .q (.ints x48), .q (.ints x49), .q (.cells x50), .i x51, .i x52] ∧ l2_3 x46 x48 x50 x51 x52 (fun y3 => k (o2_3 x46 x48 x50 x51 x52 y3)) fuel x47 x49 = some r := by
  unfold p2_3 at h; split at h
  · exact ⟨_, _, _, _, _, _, _, rfl, h⟩
  · cases h
theorem t2_4 (K : Res → Option Res) (k : St → Option Res) (it : St → (St → Option Res) → Option Res) (x54 x55 : Int) (x56 x57 : List Int) (x58 : List (List Cl)) (x59 x60 : Int) : iterS (X K) 2 b2 it (s2_4 x54 x55 x56 x57 x58 x59 x60) k = l2_4s x54 x56 x58 x59 x60 (fun x55 x57 => it (s2_4 x54 x55 x56 x57 x58 x59 x60) k) (fun y3 => k (o2_4 x54 x56 x58 x59 x60 y3)) x55 x57 := by kernel_rfl
theorem i2_4 (K : Res → Option Res) (k : St → Option Res) (x54 : Int) (x56 : List Int) (x58 : List (List Cl)) (x59 x60 : Int) : ∀ (n : Nat) (x55 : Int) (x57 : List Int), iter (X K) 2 b2 n (s2_4 x54 x55 x56 x57 x58 x59 x60) k = l2_4 x54 x56 x58 x59 x60 (fun y3 => k (o2_4 x54 x56 x58 x59 x60 y3)) n x55 x57
  | 0, _, _ => rfl
  | n + 1, x55, x57 => by
    rw [iter_succ, t2_4, show (fun x55 x57 => iter (X K) 2 b2 n (s2_4 x54 x55 x56 x57 x58 x59 x60) k) = (fun x55 x57 => l2_4 x54 x56 x58 x59 x60 (fun y3 => k (o2_4 x54 x56 x58 x59 x60 y3)) n x55 x57) from funext fun x55 => funext fun x57 => i2_4 K k x54 x56 x58 x59 x60 n x55 x57]; rfl
theorem v2_4 {K : Res → Option Res} {l : List Lf} {k : St → Option Res} {r : Res} (h : p2_4 K l k = some r) : ∃ x54 x55 x56 x57 x58 x59 x60, l = [.i x54, .i x55, .q (.ints x56), .q (.ints x57), .q (.cells x58), .i x59, .i x60] ∧ l2_4 x54 x56 x58 x59 x60 (fun y3 => k (o2_4 x54 x56 x58 x59 x60 y3)) fuel x55 x57 = some r := by
  unfold p2_4 at h; split at h
  · exact ⟨_, _, _, _, _, _, _, rfl, h⟩
  · cases h
theorem w2 (K : Res → Option Res) : LpSound Go.Proofs.Try.prog (X K) 2 b2 := lp_ok ((cx K).ok laid) (by rw [show loopsOf b2 = [] from by kernel_rfl]; intro p hp; cases hp) rfl fun p hp hid => by
  rcases List.mem_cons.1 hp with rfl | hp
  · exact absurd hid (by simp)
  rcases List.mem_cons.1 hp with rfl | hp
  · intro st k r h1 h2; obtain ⟨x19, x20, x21, x22, x23, x24, x25, x26, x27, e, h⟩ := v2 (K := K) h2; have := St.like_eq (y := s2 x19 x20 x21 x22 x23 x24 x25 x26 x27) h1 (by kernel_rfl) e; subst this; exact ⟨fuel, (i2 K k x19 x21 x22 x23 x25 x26 x27 fuel x20 x24).trans h⟩
  rcases List.mem_cons.1 hp with rfl | hp
  · intro st k r h1 h2; obtain ⟨x29, x30, x31, x32, x33, x34, x35, x36, x37, e, h⟩ := v2_2 (K := K) h2; have := St.like_eq (y := s2_2 x29 x30 x31 x32 x33 x34 x35 x36 x37) h1 (by kernel_rfl) e; subst this; exact ⟨fuel, (i2_2 K k x29 x31 x32 x33 x35 x36 x37 fuel x30 x34).trans h⟩
  rcases List.mem_cons.1 hp with rfl | hp
  · exact absurd hid (by simp)
  rcases List.mem_cons.1 hp with rfl | hp
  · intro st k r h1 h2; obtain ⟨x46, x47, x48, x49, x50, x51, x52, e, h⟩ := v2_3 (K := K) h2; have := St.like_eq (y := s2_3 x46 x47 x48 x49 x50 x51 x52) h1 (by kernel_rfl) e; subst this; exact ⟨fuel, (i2_3 K k x46 x48 x50 x51 x52 fuel x47 x49).trans h⟩
  rcases List.mem_cons.1 hp with rfl | hp
  · intro st k r h1 h2; obtain ⟨x54, x55, x56, x57, x58, x59, x60, e, h⟩ := v2_4 (K := K) h2; have := St.like_eq (y := s2_4 x54 x55 x56 x57 x58 x59 x60) h1 (by kernel_rfl) e; subst this; exact ⟨fuel, (i2_4 K k x54 x56 x58 x59 x60 fuel x55 x57).trans h⟩
  cases hp
theorem w0 (K : Res → Option Res) : LpSound Go.Proofs.Try.prog (X K) 0 b0 := lp_ok ((cx K).ok laid) (by rw [show loopsOf b0 = [] from by kernel_rfl]; intro p hp; cases hp) rfl fun p hp hid => by
  rcases List.mem_cons.1 hp with rfl | hp
  · intro st k r h1 h2; obtain ⟨x10, x11, x12, x13, x14, x15, x16, x17, e, h⟩ := v0 (K := K) h2; have := St.like_eq (y := s0 x10 x11 x12 x13 x14 x15 x16 x17) h1 (by kernel_rfl) e; subst this; exact ⟨fuel, (i0 K k x11 x12 x13 x14 x15 x16 x17 fuel x10).trans h⟩
  rcases List.mem_cons.1 hp with rfl | hp
  · exact absurd hid (by simp)
  rcases List.mem_cons.1 hp with rfl | hp
  · exact absurd hid (by simp)
  rcases List.mem_cons.1 hp with rfl | hp
  · intro st k r h1 h2; obtain ⟨x39, x40, x41, x42, x43, x44, e, h⟩ := v0_2 (K := K) h2; have := St.like_eq (y := s0_2 x39 x40 x41 x42 x43 x44) h1 (by kernel_rfl) e; subst this; exact ⟨fuel, (i0_2 K k x40 x41 x42 x43 x44 fuel x39).trans h⟩
  rcases List.mem_cons.1 hp with rfl | hp
  · exact absurd hid (by simp)
  rcases List.mem_cons.1 hp with rfl | hp
  · exact absurd hid (by simp)
  cases hp
theorem tie (K : Res → Option Res) (a1 : Int) (a2 a3 a4 : List Int) (a5 : List (List Cl)) : exec (X K) c (entry 97 [.v ⟨true, [.ow 0, .int .i64 a1, .ow 1]⟩, .v ⟨true, [.tr 0 1 [.int .i64] (.ints a2), .tr 0 1 [.int .i64] (.ints a3)]⟩] [⟨[.int .i64], .ints a4, true, 0⟩, ⟨[.int .i64, .int .i64, .bool], .cells a5, true, 0⟩] []) (endK (X K)) = g a1 a2 a3 a4 a5 (fun r1 r2 r3 r4 r5 => K (m r1 r2 r3 r4 r5)) := Eq.trans (b := b a1 a2 a3 a4 a5 (fun r1 r2 r3 r4 r5 => K (m r1 r2 r3 r4 r5))) (by kernel_rfl) (by rw [e])
theorem runv {l : List Lf} {K : Res → Option Res} {r : Res} (h : run l K = some r) : ∃ a1 a2 a3 a4 a5, l = [.i a1, .q (.ints a2), .q (.ints a3), .q (.ints a4), .q (.cells a5)] ∧ g a1 a2 a3 a4 a5 (fun r1 r2 r3 r4 r5 => K (m r1 r2 r3 r4 r5)) = some r := by
  unfold run at h; split at h
  · exact ⟨_, _, _, _, _, rfl, h⟩
  · cases h
theorem ok : Con Go.Proofs.Try.prog con := con_of (fn := Go.Proofs.Try.f80) (c := c) (Fi := fi) (X := X) (fun_of laid (by kernel_rfl) (by kernel_rfl) (by kernel_rfl) rfl (by kernel_rfl) (by kernel_rfl) cx (fun _ => rfl) (fun _ => rfl) (fun K => by
    rw [show loopsOf c = [(0, b0), (2, b2)] from by kernel_rfl]; intro p hp
    rcases List.mem_cons.1 hp with rfl | hp
    · exact w0 K
    rcases List.mem_cons.1 hp with rfl | hp
    · exact w2 K
    cases hp)) fun xs rows boxes K r hl hr => by
  obtain ⟨a1, a2, a3, a4, a5, e, h⟩ := runv hr
  have := St.like_eq (y := a a1 a2 a3 a4 a5) hl (by kernel_rfl) e
  obtain ⟨rfl, rfl, rfl⟩ := argSt_inj this
  exact (tie K a1 a2 a3 a4 a5).trans h
end spec_l13Put
namespace spec_HeapPut
noncomputable def c : Code := bodyOf Go.Proofs.Try.f33
noncomputable def fi : Fin := ⟨Γ0, [(.cell 4 38, 38), (.tmp 5, 3), (.tmp 6, 4)], [[1, 1, 1], [1], [1]], [], [], []⟩
noncomputable def m (r1 : List Int) (r2 : Int) (r3 : List (List Cl)) (r4 : Int) (r5 : Bool) : Res := ⟨[⟨true, [.ow 1000, .int .i64 r2, .ow 1001]⟩, ⟨false, [.int .i64 r4]⟩, ⟨false, [.bool r5]⟩], [], [⟨[.int .i64], .ints r1, true, 0⟩, ⟨[.int .i64, .int .i64, .bool], .cells r3, true, 0⟩], [], []⟩
noncomputable def os : List (FuncId × St × (List Lf → (Res → Option Res) → Option Res)) := [spec_HeapOk.con, spec_ArrayOk.con, spec_l13Copy.con, spec_l13Put.con]
noncomputable def X (K : Res → Option Res) : Ctx := { Γ := Γ0, orc := orcOf os, io := [(80, [⟨true, 0, 1⟩, ⟨false, 0, 1⟩])], share := [], mvl := [], bun := [], cut := [], own := [], cin := [], cout := [], lp := lpOf [], kl := [], nk := true, eqs := eqs0, byt := byt0, fin := finK fi K }
noncomputable def b (a1 : List Int) (a2 : Int) (a3 : List (List Cl)) (a4 a5 : List Int) (R : List Int → Int → List (List Cl) → Int → Bool → Option Res) : Option Res :=
  spec_HeapOk.g a1 a2 a3 fun r6 =>
  bif !r6 then R ([] : List Int) 0 ([] : List (List Cl)) (-1) false
  else (spec_ArrayOk.g a4 a5 fun r7 =>
  bif !r7 then (spec_l13Copy.g a1 a2 a3 fun r8 r9 =>
    R r8 a2 r9 (-1) false)
  else (spec_l13Copy.g a1 a2 a3 fun r10 r11 =>
  spec_l13Put.g a2 a4 a5 r10 r11 fun r12 r13 r14 r15 r16 =>
  bif !r16 then (spec_l13Copy.g a1 a2 a3 fun r17 r18 =>
    R r17 a2 r18 (-1) false)
  else R r12 r13 r14 r15 true))
theorem gx : ∃ x : List Int → Int → List (List Cl) → List Int → List Int → (List Int → Int → List (List Cl) → Int → Bool → Option Res) → Option Res, x = b := ⟨_, rfl⟩
noncomputable def g : List Int → Int → List (List Cl) → List Int → List Int → (List Int → Int → List (List Cl) → Int → Bool → Option Res) → Option Res := Classical.choose gx
theorem e : g = b := Classical.choose_spec gx
noncomputable def run : List Lf → (Res → Option Res) → Option Res
  | [.q (.ints a1), .i a2, .q (.cells a3), .q (.ints a4), .q (.ints a5)], K => g a1 a2 a3 a4 a5 (fun r1 r2 r3 r4 r5 => K (m r1 r2 r3 r4 r5))
  | _, _ => none
noncomputable def a (a1 : List Int) (a2 : Int) (a3 : List (List Cl)) (a4 a5 : List Int) : St := argSt [.v ⟨true, [.tr 0 1 [.int .i64] (.ints a1), .int .i64 a2, .tr 0 1 [.int .i64, .int .i64, .bool] (.cells a3)]⟩, .v ⟨true, [.tr 0 1 [.int .i64] (.ints a4), .tr 0 1 [.int .i64] (.ints a5)]⟩] [] []
noncomputable def con : FuncId × St × (List Lf → (Res → Option Res) → Option Res) := (33, a [] 0 [] [] [], run)
theorem cx (K : Res → Option Res) : CtxOk Go.Proofs.Try.prog Γ0 byt0 eqs0 (X K) os := ⟨rfl, rfl, rfl, (fun p hp => by
  rcases List.mem_cons.1 hp with rfl | hp
  · exact spec_HeapOk.ok
  rcases List.mem_cons.1 hp with rfl | hp
  · exact spec_ArrayOk.ok
  rcases List.mem_cons.1 hp with rfl | hp
  · exact spec_l13Copy.ok
  rcases List.mem_cons.1 hp with rfl | hp
  · exact spec_l13Put.ok
  cases hp), rfl, rfl, rfl, rfl⟩
theorem tie (K : Res → Option Res) (a1 : List Int) (a2 : Int) (a3 : List (List Cl)) (a4 a5 : List Int) : exec (X K) c (entry 33 [.v ⟨true, [.tr 0 1 [.int .i64] (.ints a1), .int .i64 a2, .tr 0 1 [.int .i64, .int .i64, .bool] (.cells a3)]⟩, .v ⟨true, [.tr 0 1 [.int .i64] (.ints a4), .tr 0 1 [.int .i64] (.ints a5)]⟩] [] []) (endK (X K)) = g a1 a2 a3 a4 a5 (fun r1 r2 r3 r4 r5 => K (m r1 r2 r3 r4 r5)) := Eq.trans (b := b a1 a2 a3 a4 a5 (fun r1 r2 r3 r4 r5 => K (m r1 r2 r3 r4 r5))) (by kernel_rfl) (by rw [e])
theorem runv {l : List Lf} {K : Res → Option Res} {r : Res} (h : run l K = some r) : ∃ a1 a2 a3 a4 a5, l = [.q (.ints a1), .i a2, .q (.cells a3), .q (.ints a4), .q (.ints a5)] ∧ g a1 a2 a3 a4 a5 (fun r1 r2 r3 r4 r5 => K (m r1 r2 r3 r4 r5)) = some r := by
  unfold run at h; split at h
  · exact ⟨_, _, _, _, _, rfl, h⟩
  · cases h
theorem ok : Con Go.Proofs.Try.prog con := con_of (fn := Go.Proofs.Try.f33) (c := c) (Fi := fi) (X := X) (fun_of laid (by kernel_rfl) (by kernel_rfl) (by kernel_rfl) rfl (by kernel_rfl) (by kernel_rfl) cx (fun _ => rfl) (fun _ => rfl) (fun K => by
    rw [show loopsOf c = [] from by kernel_rfl]; intro p hp
    cases hp)) fun xs rows boxes K r hl hr => by
  obtain ⟨a1, a2, a3, a4, a5, e, h⟩ := runv hr
  have := St.like_eq (y := a a1 a2 a3 a4 a5) hl (by kernel_rfl) e
  obtain ⟨rfl, rfl, rfl⟩ := argSt_inj this
  exact (tie K a1 a2 a3 a4 a5).trans h
end spec_HeapPut
namespace impl_within
noncomputable def c : Code := bodyOf Go.Proofs.Try.f52
noncomputable def fi : Fin := ⟨Γ0, [(.tmp 6, 4)], [[1]], [], [], []⟩
noncomputable def m (r1 : Bool) : Res := ⟨[⟨false, [.bool r1]⟩], [], [], [], []⟩
noncomputable def os : List (FuncId × St × (List Lf → (Res → Option Res) → Option Res)) := []
noncomputable def X (K : Res → Option Res) : Ctx := { Γ := Γ0, orc := orcOf os, io := [], share := [], mvl := [], bun := [], cut := [], own := [], cin := [], cout := [], lp := lpOf [], kl := [], nk := true, eqs := eqs0, byt := byt0, fin := finK fi K }
noncomputable def b (a1 a2 a3 : Int) (R : Bool → Option Res) : Option Res :=
  bif decide (a2 ≤ a1) then R (decide (a1 ≤ a3))
  else R false
theorem gx : ∃ x : Int → Int → Int → (Bool → Option Res) → Option Res, x = b := ⟨_, rfl⟩
noncomputable def g : Int → Int → Int → (Bool → Option Res) → Option Res := Classical.choose gx
theorem e : g = b := Classical.choose_spec gx
noncomputable def run : List Lf → (Res → Option Res) → Option Res
  | [.i a1, .i a2, .i a3], K => g a1 a2 a3 (fun r1 => K (m r1))
  | _, _ => none
noncomputable def a (a1 a2 a3 : Int) : St := argSt [one (.int .i64 a1), one (.int .i64 a2), one (.int .i64 a3)] [] []
noncomputable def con : FuncId × St × (List Lf → (Res → Option Res) → Option Res) := (52, a 0 0 0, run)
theorem cx (K : Res → Option Res) : CtxOk Go.Proofs.Try.prog Γ0 byt0 eqs0 (X K) os := ⟨rfl, rfl, rfl, (fun p hp => by
  cases hp), rfl, rfl, rfl, rfl⟩
theorem tie (K : Res → Option Res) (a1 a2 a3 : Int) : exec (X K) c (entry 15 [one (.int .i64 a1), one (.int .i64 a2), one (.int .i64 a3)] [] []) (endK (X K)) = g a1 a2 a3 (fun r1 => K (m r1)) := Eq.trans (b := b a1 a2 a3 (fun r1 => K (m r1))) (by kernel_rfl) (by rw [e])
theorem runv {l : List Lf} {K : Res → Option Res} {r : Res} (h : run l K = some r) : ∃ a1 a2 a3, l = [.i a1, .i a2, .i a3] ∧ g a1 a2 a3 (fun r1 => K (m r1)) = some r := by
  unfold run at h; split at h
  · exact ⟨_, _, _, rfl, h⟩
  · cases h
theorem ok : Con Go.Proofs.Try.prog con := con_of (fn := Go.Proofs.Try.f52) (c := c) (Fi := fi) (X := X) (fun_of laid (by kernel_rfl) (by kernel_rfl) (by kernel_rfl) rfl (by kernel_rfl) (by kernel_rfl) cx (fun _ => rfl) (fun _ => rfl) (fun K => by
    rw [show loopsOf c = [] from by kernel_rfl]; intro p hp
    cases hp)) fun xs rows boxes K r hl hr => by
  obtain ⟨a1, a2, a3, e, h⟩ := runv hr
  have := St.like_eq (y := a a1 a2 a3) hl (by kernel_rfl) e
  obtain ⟨rfl, rfl, rfl⟩ := argSt_inj this
  exact (tie K a1 a2 a3).trans h
end impl_within
namespace impl_HeapOk
noncomputable def c : Code := bodyOf Go.Proofs.Try.f25
noncomputable def fi : Fin := ⟨Γ0, [(.tmp 2, 4)], [[1]], [], [], []⟩
noncomputable def m (r1 : Bool) : Res := ⟨[⟨false, [.bool r1]⟩], [], [], [], []⟩
noncomputable def b0 : Code := codeAt c [1, 1, 1, 0, 1, 0, 0]
noncomputable def b2 : Code := codeAt c [1, 1, 1, 0, 1, 0, 0, 1, 1, 0, 0, 1, 1, 1, 1, 0, 0]
noncomputable def s2 (x13 : Int) (x14 : List (List Cl)) (x15 x16 : Int) (x17 : List Bool) (x18 : List Int) (x19 : Int) (x20 : List (List Cl)) (x21 x22 : Int) (x23 : Bool) : St := ⟨mkT 83 [(1, one (.bp 1000 0)), (3, one (.ow 7176)), (5, one (.bp 13320 0)), (6, one (.int .i64 x13)), (30, one (.tr 0 1 [.int .i64, .int .i64, .bool] (.cells x14))), (31, one (.int .i64 x15)), (32, one (.int .i64 x16))], [(7176, ⟨[.bool], .bools x17, true, 0⟩)], [(1000, [.tr 0 1 [.int .i64] (.ints x18), .int .i64 x19, .tr 0 1 [.int .i64, .int .i64, .bool] (.cells x20)]), (13320, [.int .i64 x21, .int .i64 x22, .bool x23])]⟩
noncomputable def l2s (x14 : List (List Cl)) (x15 x16 : Int) (x18 : List Int) (x19 : Int) (x20 : List (List Cl)) (x21 x22 : Int) (x23 : Bool) (rec : Int → List Bool → Option Res) (k : List Bool → Option Res) (R : Bool → Option Res) (x13 : Int) (x17 : List Bool) : Option Res :=
  bif decide (x13 < IntKind.i64.wrap (x21 + x22)) then (bif decide (0 ≤ x13) && decide (x13 < (x17.length : Int)) then (bif x17.getD x13.toNat false then R false
      else bif decide (0 ≤ x13) && decide (x13 < (x17.length : Int)) then rec (IntKind.i64.wrap (x13 + 1)) (x17.set x13.toNat true)
      else none)
    else none)
  else k x17
noncomputable def l2 (x14 : List (List Cl)) (x15 x16 : Int) (x18 : List Int) (x19 : Int) (x20 : List (List Cl)) (x21 x22 : Int) (x23 : Bool) (k : List Bool → Option Res) (R : Bool → Option Res) : Nat → Int → List Bool → Option Res
  | 0, _, _ => none
  | n + 1, x13, x17 => l2s x14 x15 x16 x18 x19 x20 x21 x22 x23 (fun x13 x17 => l2 x14 x15 x16 x18 x19 x20 x21 x22 x23 k R n x13 x17) k R x13 x17
noncomputable def o2 (x14 : List (List Cl)) (x15 x16 : Int) (x18 : List Int) (x19 : Int) (x20 : List (List Cl)) (x21 x22 : Int) (x23 : Bool) (y4 : List Bool) : St := ⟨mkT 83 [(1, one (.bp 1000 0)), (3, one (.ow 7176)), (30, one (.tr 0 1 [.int .i64, .int .i64, .bool] (.cells x14))), (31, one (.int .i64 x15)), (32, one (.int .i64 x16))], [(7176, ⟨[.bool], .bools y4, true, 0⟩)], [(1000, [.tr 0 1 [.int .i64] (.ints x18), .int .i64 x19, .tr 0 1 [.int .i64, .int .i64, .bool] (.cells x20)])]⟩
noncomputable def p2 (K : Res → Option Res) : List Lf → (St → Option Res) → Option Res
  | [.i x13, .q (.cells x14), .i x15, .i x16, .q (.bools x17), .q (.ints x18), .i x19, .q (.cells x20), .i x21, .i x22, .b x23], k => l2 x14 x15 x16 x18 x19 x20 x21 x22 x23 (fun y4 => k (o2 x14 x15 x16 x18 x19 x20 x21 x22 x23 y4)) (fun r1 => K (m r1)) fuel x13 x17
  | _, _ => none
noncomputable def s0 (x5 : List (List Cl)) (x6 x7 : Int) (x8 : List Bool) (x9 : List Int) (x10 : Int) (x11 : List (List Cl)) : St := ⟨mkT 83 [(1, one (.bp 1000 0)), (3, one (.ow 7176)), (30, one (.tr 0 1 [.int .i64, .int .i64, .bool] (.cells x5))), (31, one (.int .i64 x6)), (32, one (.int .i64 x7))], [(7176, ⟨[.bool], .bools x8, true, 0⟩)], [(1000, [.tr 0 1 [.int .i64] (.ints x9), .int .i64 x10, .tr 0 1 [.int .i64, .int .i64, .bool] (.cells x11)])]⟩
noncomputable def l0s (x5 : List (List Cl)) (x6 : Int) (x9 : List Int) (x10 : Int) (x11 : List (List Cl)) (rec : Int → List Bool → Option Res) (k : Option Res) (R : Bool → Option Res) (x7 : Int) (x8 : List Bool) : Option Res :=
  bif decide (x7 < x6) then (bif decide (0 ≤ x7) && decide (x7 < (x5.length : Int)) then (bif !(((x5.getD x7.toNat []).getD 2 (.i 0)).toB) then (bif !((((x5.getD x7.toNat []).getD 0 (.i 0)).toI == 0) && ((((x5.getD x7.toNat []).getD 1 (.i 0)).toI == 0) && ((((x5.getD x7.toNat []).getD 2 (.i 0)).toB == false) && true))) then R false
        else rec (IntKind.i64.wrap (x7 + 1)) x8)
      else bif decide (((x5.getD x7.toNat []).getD 1 (.i 0)).toI < 1) then R false
      else (impl_within.g (((x5.getD x7.toNat []).getD 0 (.i 0)).toI) 0 (IntKind.i64.wrap (x10 - 1)) fun r12 =>
      bif !r12 then R false
      else bif decide (IntKind.i64.wrap (x10 - (((x5.getD x7.toNat []).getD 0 (.i 0)).toI)) < ((x5.getD x7.toNat []).getD 1 (.i 0)).toI) then R false
      else (l2 x5 x6 x7 x9 x10 x11 (((x5.getD x7.toNat []).getD 0 (.i 0)).toI) (((x5.getD x7.toNat []).getD 1 (.i 0)).toI) (((x5.getD x7.toNat []).getD 2 (.i 0)).toB) (fun y24 => 
      rec (IntKind.i64.wrap (x7 + 1)) y24) R fuel (((x5.getD x7.toNat []).getD 0 (.i 0)).toI) x8)))
    else none)
  else k
noncomputable def l0 (x5 : List (List Cl)) (x6 : Int) (x9 : List Int) (x10 : Int) (x11 : List (List Cl)) (k : Option Res) (R : Bool → Option Res) : Nat → Int → List Bool → Option Res
  | 0, _, _ => none
  | n + 1, x7, x8 => l0s x5 x6 x9 x10 x11 (fun x7 x8 => l0 x5 x6 x9 x10 x11 k R n x7 x8) k R x7 x8
noncomputable def o0 (x5 : List (List Cl)) (x6 : Int) (x9 : List Int) (x10 : Int) (x11 : List (List Cl)) : St := ⟨mkT 83 [], [], []⟩
noncomputable def p0 (K : Res → Option Res) : List Lf → (St → Option Res) → Option Res
  | [.q (.cells x5), .i x6, .i x7, .q (.bools x8), .q (.ints x9), .i x10, .q (.cells x11)], k => l0 x5 x6 x9 x10 x11 (k (o0 x5 x6 x9 x10 x11)) (fun r1 => K (m r1)) fuel x7 x8
  | _, _ => none
noncomputable def os : List (FuncId × St × (List Lf → (Res → Option Res) → Option Res)) := [impl_within.con]
noncomputable def X (K : Res → Option Res) : Ctx := { Γ := Γ0, orc := orcOf os, io := [], share := [], mvl := [], bun := [], cut := [], own := [], cin := [(2, ⟨[1, 3, 5, 6, 30, 31, 32], [(7176, 7176)], [1000, 13320], [], [], []⟩), (0, ⟨[1, 3, 30, 31, 32], [(7176, 7176)], [1000], [], [], []⟩)], cout := [(2, ⟨[1, 3, 30, 31, 32], [(7176, 7176)], [1000], [], [], []⟩), (0, ⟨[], [], [], [], [], []⟩)], lp := lpOf [(2, s2 0 [] 0 0 [] [] 0 [] 0 0 false, p2 K), (0, s0 [] 0 0 [] [] 0 [], p0 K)], kl := [], nk := true, eqs := eqs0, byt := byt0, fin := finK fi K }
noncomputable def b (a1 : List Int) (a2 : Int) (a3 : List (List Cl)) (R : Bool → Option Res) : Option Res :=
  bif decide (6000 < (a1.length : Int)) then R false
  else (impl_within.g a2 0 (a1.length : Int) fun r4 =>
  bif !r4 then R false
  else bif decide (200 < (a3.length : Int)) then R false
  else bif decide (a2 = a2) && decide (0 ≤ a2) && decide (a2 * 1 ≤ 140737488355328) then (l0 a3 (a3.length : Int) a1 a2 a3 (
    R true) R fuel 0 (List.replicate a2.toNat false))
  else none)
theorem gx : ∃ x : List Int → Int → List (List Cl) → (Bool → Option Res) → Option Res, x = b := ⟨_, rfl⟩
noncomputable def g : List Int → Int → List (List Cl) → (Bool → Option Res) → Option Res := Classical.choose gx
theorem e : g = b := Classical.choose_spec gx
noncomputable def run : List Lf → (Res → Option Res) → Option Res
  | [.q (.ints a1), .i a2, .q (.cells a3)], K => g a1 a2 a3 (fun r1 => K (m r1))
  | _, _ => none
noncomputable def a (a1 : List Int) (a2 : Int) (a3 : List (List Cl)) : St := argSt [.v ⟨true, [.tr 0 1 [.int .i64] (.ints a1), .int .i64 a2, .tr 0 1 [.int .i64, .int .i64, .bool] (.cells a3)]⟩] [] []
noncomputable def con : FuncId × St × (List Lf → (Res → Option Res) → Option Res) := (25, a [] 0 [], run)
theorem cx (K : Res → Option Res) : CtxOk Go.Proofs.Try.prog Γ0 byt0 eqs0 (X K) os := ⟨rfl, rfl, rfl, (fun p hp => by
  rcases List.mem_cons.1 hp with rfl | hp
  · exact impl_within.ok
  cases hp), rfl, rfl, rfl, rfl⟩
theorem t2 (K : Res → Option Res) (k : St → Option Res) (it : St → (St → Option Res) → Option Res) (x13 : Int) (x14 : List (List Cl)) (x15 x16 : Int) (x17 : List Bool) (x18 : List Int) (x19 : Int) (x20 : List (List Cl)) (x21 x22 : Int) (x23 : Bool) : iterS (X K) 2 b2 it (s2 x13 x14 x15 x16 x17 x18 x19 x20 x21 x22 x23) k = l2s x14 x15 x16 x18 x19 x20 x21 x22 x23 (fun x13 x17 => it (s2 x13 x14 x15 x16 x17 x18 x19 x20 x21 x22 x23) k) (fun y4 => k (o2 x14 x15 x16 x18 x19 x20 x21 x22 x23 y4)) (fun r1 => K (m r1)) x13 x17 := by kernel_rfl
theorem i2 (K : Res → Option Res) (k : St → Option Res) (x14 : List (List Cl)) (x15 x16 : Int) (x18 : List Int) (x19 : Int) (x20 : List (List Cl)) (x21 x22 : Int) (x23 : Bool) : ∀ (n : Nat) (x13 : Int) (x17 : List Bool), iter (X K) 2 b2 n (s2 x13 x14 x15 x16 x17 x18 x19 x20 x21 x22 x23) k = l2 x14 x15 x16 x18 x19 x20 x21 x22 x23 (fun y4 => k (o2 x14 x15 x16 x18 x19 x20 x21 x22 x23 y4)) (fun r1 => K (m r1)) n x13 x17
  | 0, _, _ => rfl
  | n + 1, x13, x17 => by
    rw [iter_succ, t2, show (fun x13 x17 => iter (X K) 2 b2 n (s2 x13 x14 x15 x16 x17 x18 x19 x20 x21 x22 x23) k) = (fun x13 x17 => l2 x14 x15 x16 x18 x19 x20 x21 x22 x23 (fun y4 => k (o2 x14 x15 x16 x18 x19 x20 x21 x22 x23 y4)) (fun r1 => K (m r1)) n x13 x17) from funext fun x13 => funext fun x17 => i2 K k x14 x15 x16 x18 x19 x20 x21 x22 x23 n x13 x17]; rfl
theorem v2 {K : Res → Option Res} {l : List Lf} {k : St → Option Res} {r : Res} (h : p2 K l k = some r) : ∃ x13 x14 x15 x16 x17 x18 x19 x20 x21 x22 x23, l = [.i x13, .q (.cells x14), .i x15, .i x16, .q (.bools x17), .q (.ints x18), .i x19, .q (.cells x20), .i x21, .i x22, .b x23] ∧ l2 x14 x15 x16 x18 x19 x20 x21 x22 x23 (fun y4 => k (o2 x14 x15 x16 x18 x19 x20 x21 x22 x23 y4)) (fun r1 => K (m r1)) fuel x13 x17 = some r := by
  unfold p2 at h; split at h
  · exact ⟨_, _, _, _, _, _, _, _, _, _, _, rfl, h⟩
  · cases h
theorem t0 (K : Res → Option Res) (k : St → Option Res) (it : St → (St → Option Res) → Option Res) (x5 : List (List Cl)) (x6 x7 : Int) (x8 : List Bool) (x9 : List Int) (x10 : Int) (x11 : List (List Cl)) : iterS (X K) 0 b0 it (s0 x5 x6 x7 x8 x9 x10 x11) k = l0s x5 x6 x9 x10 x11 (fun x7 x8 => it (s0 x5 x6 x7 x8 x9 x10 x11) k) (k (o0 x5 x6 x9 x10 x11)) (fun r1 => K (m r1)) x7 x8 := by kernel_rfl
theorem i0 (K : Res → Option Res) (k : St → Option Res) (x5 : List (List Cl)) (x6 : Int) (x9 : List Int) (x10 : Int) (x11 : List (List Cl)) : ∀ (n : Nat) (x7 : Int) (x8 : List Bool), iter (X K) 0 b0 n (s0 x5 x6 x7 x8 x9 x10 x11) k = l0 x5 x6 x9 x10 x11 (k (o0 x5 x6 x9 x10 x11)) (fun r1 => K (m r1)) n x7 x8
  | 0, _, _ => rfl
  | n + 1, x7, x8 => by
    rw [iter_succ, t0, show (fun x7 x8 => iter (X K) 0 b0 n (s0 x5 x6 x7 x8 x9 x10 x11) k) = (fun x7 x8 => l0 x5 x6 x9 x10 x11 (k (o0 x5 x6 x9 x10 x11)) (fun r1 => K (m r1)) n x7 x8) from funext fun x7 => funext fun x8 => i0 K k x5 x6 x9 x10 x11 n x7 x8]; rfl
theorem v0 {K : Res → Option Res} {l : List Lf} {k : St → Option Res} {r : Res} (h : p0 K l k = some r) : ∃ x5 x6 x7 x8 x9 x10 x11, l = [.q (.cells x5), .i x6, .i x7, .q (.bools x8), .q (.ints x9), .i x10, .q (.cells x11)] ∧ l0 x5 x6 x9 x10 x11 (k (o0 x5 x6 x9 x10 x11)) (fun r1 => K (m r1)) fuel x7 x8 = some r := by
  unfold p0 at h; split at h
  · exact ⟨_, _, _, _, _, _, _, rfl, h⟩
  · cases h
theorem w2 (K : Res → Option Res) : LpSound Go.Proofs.Try.prog (X K) 2 b2 := lp_ok ((cx K).ok laid) (by rw [show loopsOf b2 = [] from by kernel_rfl]; intro p hp; cases hp) rfl fun p hp hid => by
  rcases List.mem_cons.1 hp with rfl | hp
  · intro st k r h1 h2; obtain ⟨x13, x14, x15, x16, x17, x18, x19, x20, x21, x22, x23, e, h⟩ := v2 (K := K) h2; have := St.like_eq (y := s2 x13 x14 x15 x16 x17 x18 x19 x20 x21 x22 x23) h1 (by kernel_rfl) e; subst this; exact ⟨fuel, (i2 K k x14 x15 x16 x18 x19 x20 x21 x22 x23 fuel x13 x17).trans h⟩
  rcases List.mem_cons.1 hp with rfl | hp
  · exact absurd hid (by simp)
  cases hp
theorem w0 (K : Res → Option Res) : LpSound Go.Proofs.Try.prog (X K) 0 b0 := lp_ok ((cx K).ok laid) (by
    rw [show loopsOf b0 = [(2, b2)] from by kernel_rfl]; intro p hp
    rcases List.mem_cons.1 hp with rfl | hp
    · exact w2 K
    cases hp) rfl fun p hp hid => by
  rcases List.mem_cons.1 hp with rfl | hp
  · exact absurd hid (by simp)
  rcases List.mem_cons.1 hp with rfl | hp
  · intro st k r h1 h2; obtain ⟨x5, x6, x7, x8, x9, x10, x11, e, h⟩ := v0 (K := K) h2; have := St.like_eq (y := s0 x5 x6 x7 x8 x9 x10 x11) h1 (by kernel_rfl) e; subst this; exact ⟨fuel, (i0 K k x5 x6 x9 x10 x11 fuel x7 x8).trans h⟩
  cases hp
theorem tie (K : Res → Option Res) (a1 : List Int) (a2 : Int) (a3 : List (List Cl)) : exec (X K) c (entry 83 [.v ⟨true, [.tr 0 1 [.int .i64] (.ints a1), .int .i64 a2, .tr 0 1 [.int .i64, .int .i64, .bool] (.cells a3)]⟩] [] []) (endK (X K)) = g a1 a2 a3 (fun r1 => K (m r1)) := Eq.trans (b := b a1 a2 a3 (fun r1 => K (m r1))) (by kernel_rfl) (by rw [e])
theorem runv {l : List Lf} {K : Res → Option Res} {r : Res} (h : run l K = some r) : ∃ a1 a2 a3, l = [.q (.ints a1), .i a2, .q (.cells a3)] ∧ g a1 a2 a3 (fun r1 => K (m r1)) = some r := by
  unfold run at h; split at h
  · exact ⟨_, _, _, rfl, h⟩
  · cases h
theorem ok : Con Go.Proofs.Try.prog con := con_of (fn := Go.Proofs.Try.f25) (c := c) (Fi := fi) (X := X) (fun_of laid (by kernel_rfl) (by kernel_rfl) (by kernel_rfl) rfl (by kernel_rfl) (by kernel_rfl) cx (fun _ => rfl) (fun _ => rfl) (fun K => by
    rw [show loopsOf c = [(0, b0), (2, b2)] from by kernel_rfl]; intro p hp
    rcases List.mem_cons.1 hp with rfl | hp
    · exact w0 K
    rcases List.mem_cons.1 hp with rfl | hp
    · exact w2 K
    cases hp)) fun xs rows boxes K r hl hr => by
  obtain ⟨a1, a2, a3, e, h⟩ := runv hr
  have := St.like_eq (y := a a1 a2 a3) hl (by kernel_rfl) e
  obtain ⟨rfl, rfl, rfl⟩ := argSt_inj this
  exact (tie K a1 a2 a3).trans h
end impl_HeapOk
namespace bits_Len64
noncomputable def c : Code := bodyOf Go.Proofs.Try.f196
noncomputable def fi : Fin := ⟨Γ0, [(.tmp 2, 3)], [[1]], [], [], []⟩
noncomputable def m (r1 : Int) : Res := ⟨[⟨false, [.int .i64 r1]⟩], [], [], [], []⟩
noncomputable def os : List (FuncId × St × (List Lf → (Res → Option Res) → Option Res)) := []
noncomputable def X (K : Res → Option Res) : Ctx := { Γ := Γ0, orc := orcOf os, io := [], share := [], mvl := [], bun := [], cut := [], own := [], cin := [], cout := [], lp := lpOf [], kl := [], nk := true, eqs := eqs0, byt := byt0, fin := finK fi K }
noncomputable def b (a1 : Int) (R : Int → Option Res) : Option Res :=
  bif decide (4294967296 ≤ a1) then (bif decide (65536 ≤ a1.fdiv (2 ^ 32)) then (bif decide (256 ≤ (a1.fdiv (2 ^ 32)).fdiv (2 ^ 16)) then (bif decide (0 ≤ IntKind.u8.wrap (((a1.fdiv (2 ^ 32)).fdiv (2 ^ 16)).fdiv (2 ^ 8))) && decide (IntKind.u8.wrap (((a1.fdiv (2 ^ 32)).fdiv (2 ^ 16)).fdiv (2 ^ 8)) < 256) then R (IntKind.i64.wrap (56 + (IntKind.i64.wrap ((bytesOf (⟨#[0, 1, 2, 2, 3, 3, 3, 3, 4, 4, 4, 4, 4, 4, 4, 4, 5, 5, 5, 5, 5, 5, 5, 5, 5, 5, 5, 5, 5, 5, 5, 5, 6, 6, 6, 6, 6, 6, 6, 6, 6, 6, 6, 6, 6, 6, 6, 6, 6, 6, 6, 6, 6, 6, 6, 6, 6, 6, 6, 6, 6, 6, 6, 6, 7, 7, 7, 7, 7, 7, 7, 7, 7, 7, 7, 7, 7, 7, 7, 7, 7, 7, 7, 7, 7, 7, 7, 7, 7, 7, 7, 7, 7, 7, 7, 7, 7, 7, 7, 7, 7, 7, 7, 7, 7, 7, 7, 7, 7, 7, 7, 7, 7, 7, 7, 7, 7, 7, 7, 7, 7, 7, 7, 7, 7, 7, 7, 7, 8, 8, 8, 8, 8, 8, 8, 8, 8, 8, 8, 8, 8, 8, 8, 8, 8, 8, 8, 8, 8, 8, 8, 8, 8, 8, 8, 8, 8, 8, 8, 8, 8, 8, 8, 8, 8, 8, 8, 8, 8, 8, 8, 8, 8, 8, 8, 8, 8, 8, 8, 8, 8, 8, 8, 8, 8, 8, 8, 8, 8, 8, 8, 8, 8, 8, 8, 8, 8, 8, 8, 8, 8, 8, 8, 8, 8, 8, 8, 8, 8, 8, 8, 8, 8, 8, 8, 8, 8, 8, 8, 8, 8, 8, 8, 8, 8, 8, 8, 8, 8, 8, 8, 8, 8, 8, 8, 8, 8, 8, 8, 8, 8, 8, 8, 8, 8, 8, 8, 8, 8, 8, 8, 8, 8, 8, 8, 8]⟩ : ByteArray)).getD ((IntKind.u8.wrap (((a1.fdiv (2 ^ 32)).fdiv (2 ^ 16)).fdiv (2 ^ 8))).toNat) 0))))
        else none)
      else bif decide (0 ≤ IntKind.u8.wrap ((a1.fdiv (2 ^ 32)).fdiv (2 ^ 16))) && decide (IntKind.u8.wrap ((a1.fdiv (2 ^ 32)).fdiv (2 ^ 16)) < 256) then R (IntKind.i64.wrap (48 + (IntKind.i64.wrap ((bytesOf (⟨#[0, 1, 2, 2, 3, 3, 3, 3, 4, 4, 4, 4, 4, 4, 4, 4, 5, 5, 5, 5, 5, 5, 5, 5, 5, 5, 5, 5, 5, 5, 5, 5, 6, 6, 6, 6, 6, 6, 6, 6, 6, 6, 6, 6, 6, 6, 6, 6, 6, 6, 6, 6, 6, 6, 6, 6, 6, 6, 6, 6, 6, 6, 6, 6, 7, 7, 7, 7, 7, 7, 7, 7, 7, 7, 7, 7, 7, 7, 7, 7, 7, 7, 7, 7, 7, 7, 7, 7, 7, 7, 7, 7, 7, 7, 7, 7, 7, 7, 7, 7, 7, 7, 7, 7, 7, 7, 7, 7, 7, 7, 7, 7, 7, 7, 7, 7, 7, 7, 7, 7, 7, 7, 7, 7, 7, 7, 7, 7, 8, 8, 8, 8, 8, 8, 8, 8, 8, 8, 8, 8, 8, 8, 8, 8, 8, 8, 8, 8, 8, 8, 8, 8, 8, 8, 8, 8, 8, 8, 8, 8, 8, 8, 8, 8, 8, 8, 8, 8, 8, 8, 8, 8, 8, 8, 8, 8, 8, 8, 8, 8, 8, 8, 8, 8, 8, 8, 8, 8, 8, 8, 8, 8, 8, 8, 8, 8, 8, 8, 8, 8, 8, 8, 8, 8, 8, 8, 8, 8, 8, 8, 8, 8, 8, 8, 8, 8, 8, 8, 8, 8, 8, 8, 8, 8, 8, 8, 8, 8, 8, 8, 8, 8, 8, 8, 8, 8, 8, 8, 8, 8, 8, 8, 8, 8, 8, 8, 8, 8, 8, 8, 8, 8, 8, 8, 8, 8]⟩ : ByteArray)).getD ((IntKind.u8.wrap ((a1.fdiv (2 ^ 32)).fdiv (2 ^ 16))).toNat) 0))))
      else none)
    else bif decide (256 ≤ a1.fdiv (2 ^ 32)) then (bif decide (0 ≤ IntKind.u8.wrap ((a1.fdiv (2 ^ 32)).fdiv (2 ^ 8))) && decide (IntKind.u8.wrap ((a1.fdiv (2 ^ 32)).fdiv (2 ^ 8)) < 256) then R (IntKind.i64.wrap (40 + (IntKind.i64.wrap ((bytesOf (⟨#[0, 1, 2, 2, 3, 3, 3, 3, 4, 4, 4, 4, 4, 4, 4, 4, 5, 5, 5, 5, 5, 5, 5, 5, 5, 5, 5, 5, 5, 5, 5, 5, 6, 6, 6, 6, 6, 6, 6, 6, 6, 6, 6, 6, 6, 6, 6, 6, 6, 6, 6, 6, 6, 6, 6, 6, 6, 6, 6, 6, 6, 6, 6, 6, 7, 7, 7, 7, 7, 7, 7, 7, 7, 7, 7, 7, 7, 7, 7, 7, 7, 7, 7, 7, 7, 7, 7, 7, 7, 7, 7, 7, 7, 7, 7, 7, 7, 7, 7, 7, 7, 7, 7, 7, 7, 7, 7, 7, 7, 7, 7, 7, 7, 7, 7, 7, 7, 7, 7, 7, 7, 7, 7, 7, 7, 7, 7, 7, 8, 8, 8, 8, 8, 8, 8, 8, 8, 8, 8, 8, 8, 8, 8, 8, 8, 8, 8, 8, 8, 8, 8, 8, 8, 8, 8, 8, 8, 8, 8, 8, 8, 8, 8, 8, 8, 8, 8, 8, 8, 8, 8, 8, 8, 8, 8, 8, 8, 8, 8, 8, 8, 8, 8, 8, 8, 8, 8, 8, 8, 8, 8, 8, 8, 8, 8, 8, 8, 8, 8, 8, 8, 8, 8, 8, 8, 8, 8, 8, 8, 8, 8, 8, 8, 8, 8, 8, 8, 8, 8, 8, 8, 8, 8, 8, 8, 8, 8, 8, 8, 8, 8, 8, 8, 8, 8, 8, 8, 8, 8, 8, 8, 8, 8, 8, 8, 8, 8, 8, 8, 8, 8, 8, 8, 8, 8, 8]⟩ : ByteArray)).getD ((IntKind.u8.wrap ((a1.fdiv (2 ^ 32)).fdiv (2 ^ 8))).toNat) 0))))
      else none)
    else bif decide (0 ≤ IntKind.u8.wrap (a1.fdiv (2 ^ 32))) && decide (IntKind.u8.wrap (a1.fdiv (2 ^ 32)) < 256) then R (IntKind.i64.wrap (32 + (IntKind.i64.wrap ((bytesOf (⟨#[0, 1, 2, 2, 3, 3, 3, 3, 4, 4, 4, 4, 4, 4, 4, 4, 5, 5, 5, 5, 5, 5, 5, 5, 5, 5, 5, 5, 5, 5, 5, 5, 6, 6, 6, 6, 6, 6, 6, 6, 6, 6, 6, 6, 6, 6, 6, 6, 6, 6, 6, 6, 6, 6, 6, 6, 6, 6, 6, 6, 6, 6, 6, 6, 7, 7, 7, 7, 7, 7, 7, 7, 7, 7, 7, 7, 7, 7, 7, 7, 7, 7, 7, 7, 7, 7, 7, 7, 7, 7, 7, 7, 7, 7, 7, 7, 7, 7, 7, 7, 7, 7, 7, 7, 7, 7, 7, 7, 7, 7, 7, 7, 7, 7, 7, 7, 7, 7, 7, 7, 7, 7, 7, 7, 7, 7, 7, 7, 8, 8, 8, 8, 8, 8, 8, 8, 8, 8, 8, 8, 8, 8, 8, 8, 8, 8, 8, 8, 8, 8, 8, 8, 8, 8, 8, 8, 8, 8, 8, 8, 8, 8, 8, 8, 8, 8, 8, 8, 8, 8, 8, 8, 8, 8, 8, 8, 8, 8, 8, 8, 8, 8, 8, 8, 8, 8, 8, 8, 8, 8, 8, 8, 8, 8, 8, 8, 8, 8, 8, 8, 8, 8, 8, 8, 8, 8, 8, 8, 8, 8, 8, 8, 8, 8, 8, 8, 8, 8, 8, 8, 8, 8, 8, 8, 8, 8, 8, 8, 8, 8, 8, 8, 8, 8, 8, 8, 8, 8, 8, 8, 8, 8, 8, 8, 8, 8, 8, 8, 8, 8, 8, 8, 8, 8, 8, 8]⟩ : ByteArray)).getD ((IntKind.u8.wrap (a1.fdiv (2 ^ 32))).toNat) 0))))
    else none)
  else bif decide (65536 ≤ a1) then (bif decide (256 ≤ a1.fdiv (2 ^ 16)) then (bif decide (0 ≤ IntKind.u8.wrap ((a1.fdiv (2 ^ 16)).fdiv (2 ^ 8))) && decide (IntKind.u8.wrap ((a1.fdiv (2 ^ 16)).fdiv (2 ^ 8)) < 256) then R (IntKind.i64.wrap (24 + (IntKind.i64.wrap ((bytesOf (⟨#[0, 1, 2, 2, 3, 3, 3, 3, 4, 4, 4, 4, 4, 4, 4, 4, 5, 5, 5, 5, 5, 5, 5, 5, 5, 5, 5, 5, 5, 5, 5, 5, 6, 6, 6, 6, 6, 6, 6, 6, 6, 6, 6, 6, 6, 6, 6, 6, 6, 6, 6, 6, 6, 6, 6, 6, 6, 6, 6, 6, 6, 6, 6, 6, 7, 7, 7, 7, 7, 7, 7, 7, 7, 7, 7, 7, 7, 7, 7, 7, 7, 7, 7, 7, 7, 7, 7, 7, 7, 7, 7, 7, 7, 7, 7, 7, 7, 7, 7, 7, 7, 7, 7, 7, 7, 7, 7, 7, 7, 7, 7, 7, 7, 7, 7, 7, 7, 7, 7, 7, 7, 7, 7, 7, 7, 7, 7, 7, 8, 8, 8, 8, 8, 8, 8, 8, 8, 8, 8, 8, 8, 8, 8, 8, 8, 8, 8, 8, 8, 8, 8, 8, 8, 8, 8, 8, 8, 8, 8, 8, 8, 8, 8, 8, 8, 8, 8, 8, 8, 8, 8, 8, 8, 8, 8, 8, 8, 8, 8, 8, 8, 8, 8, 8, 8, 8, 8, 8, 8, 8, 8, 8, 8, 8, 8, 8, 8, 8, 8, 8, 8, 8, 8, 8, 8, 8, 8, 8, 8, 8, 8, 8, 8, 8, 8, 8, 8, 8, 8, 8, 8, 8, 8, 8, 8, 8, 8, 8, 8, 8, 8, 8, 8, 8, 8, 8, 8, 8, 8, 8, 8, 8, 8, 8, 8, 8, 8, 8, 8, 8, 8, 8, 8, 8, 8, 8]⟩ : ByteArray)).getD ((IntKind.u8.wrap ((a1.fdiv (2 ^ 16)).fdiv (2 ^ 8))).toNat) 0))))
      else none)
    else bif decide (0 ≤ IntKind.u8.wrap (a1.fdiv (2 ^ 16))) && decide (IntKind.u8.wrap (a1.fdiv (2 ^ 16)) < 256) then R (IntKind.i64.wrap (16 + (IntKind.i64.wrap ((bytesOf (⟨#[0, 1, 2, 2, 3, 3, 3, 3, 4, 4, 4, 4, 4, 4, 4, 4, 5, 5, 5, 5, 5, 5, 5, 5, 5, 5, 5, 5, 5, 5, 5, 5, 6, 6, 6, 6, 6, 6, 6, 6, 6, 6, 6, 6, 6, 6, 6, 6, 6, 6, 6, 6, 6, 6, 6, 6, 6, 6, 6, 6, 6, 6, 6, 6, 7, 7, 7, 7, 7, 7, 7, 7, 7, 7, 7, 7, 7, 7, 7, 7, 7, 7, 7, 7, 7, 7, 7, 7, 7, 7, 7, 7, 7, 7, 7, 7, 7, 7, 7, 7, 7, 7, 7, 7, 7, 7, 7, 7, 7, 7, 7, 7, 7, 7, 7, 7, 7, 7, 7, 7, 7, 7, 7, 7, 7, 7, 7, 7, 8, 8, 8, 8, 8, 8, 8, 8, 8, 8, 8, 8, 8, 8, 8, 8, 8, 8, 8, 8, 8, 8, 8, 8, 8, 8, 8, 8, 8, 8, 8, 8, 8, 8, 8, 8, 8, 8, 8, 8, 8, 8, 8, 8, 8, 8, 8, 8, 8, 8, 8, 8, 8, 8, 8, 8, 8, 8, 8, 8, 8, 8, 8, 8, 8, 8, 8, 8, 8, 8, 8, 8, 8, 8, 8, 8, 8, 8, 8, 8, 8, 8, 8, 8, 8, 8, 8, 8, 8, 8, 8, 8, 8, 8, 8, 8, 8, 8, 8, 8, 8, 8, 8, 8, 8, 8, 8, 8, 8, 8, 8, 8, 8, 8, 8, 8, 8, 8, 8, 8, 8, 8, 8, 8, 8, 8, 8, 8]⟩ : ByteArray)).getD ((IntKind.u8.wrap (a1.fdiv (2 ^ 16))).toNat) 0))))
    else none)
  else bif decide (256 ≤ a1) then (bif decide (0 ≤ IntKind.u8.wrap (a1.fdiv (2 ^ 8))) && decide (IntKind.u8.wrap (a1.fdiv (2 ^ 8)) < 256) then R (IntKind.i64.wrap (8 + (IntKind.i64.wrap ((bytesOf (⟨#[0, 1, 2, 2, 3, 3, 3, 3, 4, 4, 4, 4, 4, 4, 4, 4, 5, 5, 5, 5, 5, 5, 5, 5, 5, 5, 5, 5, 5, 5, 5, 5, 6, 6, 6, 6, 6, 6, 6, 6, 6, 6, 6, 6, 6, 6, 6, 6, 6, 6, 6, 6, 6, 6, 6, 6, 6, 6, 6, 6, 6, 6, 6, 6, 7, 7, 7, 7, 7, 7, 7, 7, 7, 7, 7, 7, 7, 7, 7, 7, 7, 7, 7, 7, 7, 7, 7, 7, 7, 7, 7, 7, 7, 7, 7, 7, 7, 7, 7, 7, 7, 7, 7, 7, 7, 7, 7, 7, 7, 7, 7, 7, 7, 7, 7, 7, 7, 7, 7, 7, 7, 7, 7, 7, 7, 7, 7, 7, 8, 8, 8, 8, 8, 8, 8, 8, 8, 8, 8, 8, 8, 8, 8, 8, 8, 8, 8, 8, 8, 8, 8, 8, 8, 8, 8, 8, 8, 8, 8, 8, 8, 8, 8, 8, 8, 8, 8, 8, 8, 8, 8, 8, 8, 8, 8, 8, 8, 8, 8, 8, 8, 8, 8, 8, 8, 8, 8, 8, 8, 8, 8, 8, 8, 8, 8, 8, 8, 8, 8, 8, 8, 8, 8, 8, 8, 8, 8, 8, 8, 8, 8, 8, 8, 8, 8, 8, 8, 8, 8, 8, 8, 8, 8, 8, 8, 8, 8, 8, 8, 8, 8, 8, 8, 8, 8, 8, 8, 8, 8, 8, 8, 8, 8, 8, 8, 8, 8, 8, 8, 8, 8, 8, 8, 8, 8, 8]⟩ : ByteArray)).getD ((IntKind.u8.wrap (a1.fdiv (2 ^ 8))).toNat) 0))))
    else none)
  else bif decide (0 ≤ IntKind.u8.wrap a1) && decide (IntKind.u8.wrap a1 < 256) then R (IntKind.i64.wrap (0 + (IntKind.i64.wrap ((bytesOf (⟨#[0, 1, 2, 2, 3, 3, 3, 3, 4, 4, 4, 4, 4, 4, 4, 4, 5, 5, 5, 5, 5, 5, 5, 5, 5, 5, 5, 5, 5, 5, 5, 5, 6, 6, 6, 6, 6, 6, 6, 6, 6, 6, 6, 6, 6, 6, 6, 6, 6, 6, 6, 6, 6, 6, 6, 6, 6, 6, 6, 6, 6, 6, 6, 6, 7, 7, 7, 7, 7, 7, 7, 7, 7, 7, 7, 7, 7, 7, 7, 7, 7, 7, 7, 7, 7, 7, 7, 7, 7, 7, 7, 7, 7, 7, 7, 7, 7, 7, 7, 7, 7, 7, 7, 7, 7, 7, 7, 7, 7, 7, 7, 7, 7, 7, 7, 7, 7, 7, 7, 7, 7, 7, 7, 7, 7, 7, 7, 7, 8, 8, 8, 8, 8, 8, 8, 8, 8, 8, 8, 8, 8, 8, 8, 8, 8, 8, 8, 8, 8, 8, 8, 8, 8, 8, 8, 8, 8, 8, 8, 8, 8, 8, 8, 8, 8, 8, 8, 8, 8, 8, 8, 8, 8, 8, 8, 8, 8, 8, 8, 8, 8, 8, 8, 8, 8, 8, 8, 8, 8, 8, 8, 8, 8, 8, 8, 8, 8, 8, 8, 8, 8, 8, 8, 8, 8, 8, 8, 8, 8, 8, 8, 8, 8, 8, 8, 8, 8, 8, 8, 8, 8, 8, 8, 8, 8, 8, 8, 8, 8, 8, 8, 8, 8, 8, 8, 8, 8, 8, 8, 8, 8, 8, 8, 8, 8, 8, 8, 8, 8, 8, 8, 8, 8, 8, 8, 8]⟩ : ByteArray)).getD ((IntKind.u8.wrap a1).toNat) 0))))
  else none
theorem gx : ∃ x : Int → (Int → Option Res) → Option Res, x = b := ⟨_, rfl⟩
noncomputable def g : Int → (Int → Option Res) → Option Res := Classical.choose gx
theorem e : g = b := Classical.choose_spec gx
noncomputable def run : List Lf → (Res → Option Res) → Option Res
  | [.i a1], K => g a1 (fun r1 => K (m r1))
  | _, _ => none
noncomputable def a (a1 : Int) : St := argSt [one (.int .u64 a1)] [] []
noncomputable def con : FuncId × St × (List Lf → (Res → Option Res) → Option Res) := (196, a 0, run)
theorem cx (K : Res → Option Res) : CtxOk Go.Proofs.Try.prog Γ0 byt0 eqs0 (X K) os := ⟨rfl, rfl, rfl, (fun p hp => by
  cases hp), rfl, rfl, rfl, rfl⟩
theorem tie (K : Res → Option Res) (a1 : Int) : exec (X K) c (entry 25 [one (.int .u64 a1)] [] []) (endK (X K)) = g a1 (fun r1 => K (m r1)) := Eq.trans (b := b a1 (fun r1 => K (m r1))) (by kernel_rfl) (by rw [e])
theorem runv {l : List Lf} {K : Res → Option Res} {r : Res} (h : run l K = some r) : ∃ a1, l = [.i a1] ∧ g a1 (fun r1 => K (m r1)) = some r := by
  unfold run at h; split at h
  · exact ⟨_, rfl, h⟩
  · cases h
theorem ok : Con Go.Proofs.Try.prog con := con_of (fn := Go.Proofs.Try.f196) (c := c) (Fi := fi) (X := X) (fun_of laid (by kernel_rfl) (by kernel_rfl) (by kernel_rfl) rfl (by kernel_rfl) (by kernel_rfl) cx (fun _ => rfl) (fun _ => rfl) (fun K => by
    rw [show loopsOf c = [] from by kernel_rfl]; intro p hp
    cases hp)) fun xs rows boxes K r hl hr => by
  obtain ⟨a1, e, h⟩ := runv hr
  have := St.like_eq (y := a a1) hl (by kernel_rfl) e
  obtain ⟨rfl, rfl, rfl⟩ := argSt_inj this
  exact (tie K a1).trans h
end bits_Len64
namespace bits_Len
noncomputable def c : Code := bodyOf Go.Proofs.Try.f167
noncomputable def fi : Fin := ⟨Γ0, [(.tmp 2, 3)], [[1]], [], [], []⟩
noncomputable def m (r1 : Int) : Res := ⟨[⟨false, [.int .i64 r1]⟩], [], [], [], []⟩
noncomputable def os : List (FuncId × St × (List Lf → (Res → Option Res) → Option Res)) := [bits_Len64.con]
noncomputable def X (K : Res → Option Res) : Ctx := { Γ := Γ0, orc := orcOf os, io := [], share := [], mvl := [], bun := [], cut := [], own := [], cin := [], cout := [], lp := lpOf [], kl := [], nk := true, eqs := eqs0, byt := byt0, fin := finK fi K }
noncomputable def b (a1 : Int) (R : Int → Option Res) : Option Res :=
  bits_Len64.g a1 fun r2 =>
  R r2
theorem gx : ∃ x : Int → (Int → Option Res) → Option Res, x = b := ⟨_, rfl⟩
noncomputable def g : Int → (Int → Option Res) → Option Res := Classical.choose gx
theorem e : g = b := Classical.choose_spec gx
noncomputable def run : List Lf → (Res → Option Res) → Option Res
  | [.i a1], K => g a1 (fun r1 => K (m r1))
  | _, _ => none
noncomputable def a (a1 : Int) : St := argSt [one (.int .u64 a1)] [] []
noncomputable def con : FuncId × St × (List Lf → (Res → Option Res) → Option Res) := (167, a 0, run)
theorem cx (K : Res → Option Res) : CtxOk Go.Proofs.Try.prog Γ0 byt0 eqs0 (X K) os := ⟨rfl, rfl, rfl, (fun p hp => by
  rcases List.mem_cons.1 hp with rfl | hp
  · exact bits_Len64.ok
  cases hp), rfl, rfl, rfl, rfl⟩
theorem tie (K : Res → Option Res) (a1 : Int) : exec (X K) c (entry 8 [one (.int .u64 a1)] [] []) (endK (X K)) = g a1 (fun r1 => K (m r1)) := Eq.trans (b := b a1 (fun r1 => K (m r1))) (by kernel_rfl) (by rw [e])
theorem runv {l : List Lf} {K : Res → Option Res} {r : Res} (h : run l K = some r) : ∃ a1, l = [.i a1] ∧ g a1 (fun r1 => K (m r1)) = some r := by
  unfold run at h; split at h
  · exact ⟨_, rfl, h⟩
  · cases h
theorem ok : Con Go.Proofs.Try.prog con := con_of (fn := Go.Proofs.Try.f167) (c := c) (Fi := fi) (X := X) (fun_of laid (by kernel_rfl) (by kernel_rfl) (by kernel_rfl) rfl (by kernel_rfl) (by kernel_rfl) cx (fun _ => rfl) (fun _ => rfl) (fun K => by
    rw [show loopsOf c = [] from by kernel_rfl]; intro p hp
    cases hp)) fun xs rows boxes K r hl hr => by
  obtain ⟨a1, e, h⟩ := runv hr
  have := St.like_eq (y := a a1) hl (by kernel_rfl) e
  obtain ⟨rfl, rfl, rfl⟩ := argSt_inj this
  exact (tie K a1).trans h
end bits_Len
namespace cmp_isNaN_int
noncomputable def c : Code := bodyOf Go.Proofs.Try.f168
noncomputable def fi : Fin := ⟨Γ0, [(.tmp 2, 4)], [[1]], [], [], []⟩
noncomputable def m (r1 : Bool) : Res := ⟨[⟨false, [.bool r1]⟩], [], [], [], []⟩
noncomputable def os : List (FuncId × St × (List Lf → (Res → Option Res) → Option Res)) := []
noncomputable def X (K : Res → Option Res) : Ctx := { Γ := Γ0, orc := orcOf os, io := [], share := [], mvl := [], bun := [], cut := [], own := [], cin := [], cout := [], lp := lpOf [], kl := [], nk := true, eqs := eqs0, byt := byt0, fin := finK fi K }
noncomputable def b (a1 : Int) (R : Bool → Option Res) : Option Res :=
  R (a1 != a1)
theorem gx : ∃ x : Int → (Bool → Option Res) → Option Res, x = b := ⟨_, rfl⟩
noncomputable def g : Int → (Bool → Option Res) → Option Res := Classical.choose gx
theorem e : g = b := Classical.choose_spec gx
noncomputable def run : List Lf → (Res → Option Res) → Option Res
  | [.i a1], K => g a1 (fun r1 => K (m r1))
  | _, _ => none
noncomputable def a (a1 : Int) : St := argSt [one (.int .i64 a1)] [] []
noncomputable def con : FuncId × St × (List Lf → (Res → Option Res) → Option Res) := (168, a 0, run)
theorem cx (K : Res → Option Res) : CtxOk Go.Proofs.Try.prog Γ0 byt0 eqs0 (X K) os := ⟨rfl, rfl, rfl, (fun p hp => by
  cases hp), rfl, rfl, rfl, rfl⟩
theorem tie (K : Res → Option Res) (a1 : Int) : exec (X K) c (entry 6 [one (.int .i64 a1)] [] []) (endK (X K)) = g a1 (fun r1 => K (m r1)) := Eq.trans (b := b a1 (fun r1 => K (m r1))) (by kernel_rfl) (by rw [e])
theorem runv {l : List Lf} {K : Res → Option Res} {r : Res} (h : run l K = some r) : ∃ a1, l = [.i a1] ∧ g a1 (fun r1 => K (m r1)) = some r := by
  unfold run at h; split at h
  · exact ⟨_, rfl, h⟩
  · cases h
theorem ok : Con Go.Proofs.Try.prog con := con_of (fn := Go.Proofs.Try.f168) (c := c) (Fi := fi) (X := X) (fun_of laid (by kernel_rfl) (by kernel_rfl) (by kernel_rfl) rfl (by kernel_rfl) (by kernel_rfl) cx (fun _ => rfl) (fun _ => rfl) (fun K => by
    rw [show loopsOf c = [] from by kernel_rfl]; intro p hp
    cases hp)) fun xs rows boxes K r hl hr => by
  obtain ⟨a1, e, h⟩ := runv hr
  have := St.like_eq (y := a a1) hl (by kernel_rfl) e
  obtain ⟨rfl, rfl, rfl⟩ := argSt_inj this
  exact (tie K a1).trans h
end cmp_isNaN_int
namespace cmp_Compare_int
noncomputable def c : Code := bodyOf Go.Proofs.Try.f116
noncomputable def fi : Fin := ⟨Γ0, [(.tmp 4, 3)], [[1]], [], [], []⟩
noncomputable def m (r1 : Int) : Res := ⟨[⟨false, [.int .i64 r1]⟩], [], [], [], []⟩
noncomputable def os : List (FuncId × St × (List Lf → (Res → Option Res) → Option Res)) := [cmp_isNaN_int.con]
noncomputable def X (K : Res → Option Res) : Ctx := { Γ := Γ0, orc := orcOf os, io := [], share := [], mvl := [], bun := [], cut := [], own := [], cin := [], cout := [], lp := lpOf [], kl := [], nk := true, eqs := eqs0, byt := byt0, fin := finK fi K }
noncomputable def b (a1 a2 : Int) (R : Int → Option Res) : Option Res :=
  cmp_isNaN_int.g a1 fun r3 =>
  cmp_isNaN_int.g a2 fun r4 =>
  bif r3 then (bif r4 then R 0
    else R (-1))
  else bif r4 then R 1
  else bif decide (a1 < a2) then R (-1)
  else bif decide (a2 < a1) then R 1
  else R 0
theorem gx : ∃ x : Int → Int → (Int → Option Res) → Option Res, x = b := ⟨_, rfl⟩
noncomputable def g : Int → Int → (Int → Option Res) → Option Res := Classical.choose gx
theorem e : g = b := Classical.choose_spec gx
noncomputable def run : List Lf → (Res → Option Res) → Option Res
  | [.i a1, .i a2], K => g a1 a2 (fun r1 => K (m r1))
  | _, _ => none
noncomputable def a (a1 a2 : Int) : St := argSt [one (.int .i64 a1), one (.int .i64 a2)] [] []
noncomputable def con : FuncId × St × (List Lf → (Res → Option Res) → Option Res) := (116, a 0 0, run)
theorem cx (K : Res → Option Res) : CtxOk Go.Proofs.Try.prog Γ0 byt0 eqs0 (X K) os := ⟨rfl, rfl, rfl, (fun p hp => by
  rcases List.mem_cons.1 hp with rfl | hp
  · exact cmp_isNaN_int.ok
  cases hp), rfl, rfl, rfl, rfl⟩
theorem tie (K : Res → Option Res) (a1 a2 : Int) : exec (X K) c (entry 20 [one (.int .i64 a1), one (.int .i64 a2)] [] []) (endK (X K)) = g a1 a2 (fun r1 => K (m r1)) := Eq.trans (b := b a1 a2 (fun r1 => K (m r1))) (by kernel_rfl) (by rw [e])
theorem runv {l : List Lf} {K : Res → Option Res} {r : Res} (h : run l K = some r) : ∃ a1 a2, l = [.i a1, .i a2] ∧ g a1 a2 (fun r1 => K (m r1)) = some r := by
  unfold run at h; split at h
  · exact ⟨_, _, rfl, h⟩
  · cases h
theorem ok : Con Go.Proofs.Try.prog con := con_of (fn := Go.Proofs.Try.f116) (c := c) (Fi := fi) (X := X) (fun_of laid (by kernel_rfl) (by kernel_rfl) (by kernel_rfl) rfl (by kernel_rfl) (by kernel_rfl) cx (fun _ => rfl) (fun _ => rfl) (fun K => by
    rw [show loopsOf c = [] from by kernel_rfl]; intro p hp
    cases hp)) fun xs rows boxes K r hl hr => by
  obtain ⟨a1, a2, e, h⟩ := runv hr
  have := St.like_eq (y := a a1 a2) hl (by kernel_rfl) e
  obtain ⟨rfl, rfl, rfl⟩ := argSt_inj this
  exact (tie K a1 a2).trans h
end cmp_Compare_int
namespace impl_packed_1
noncomputable def c : Code := bodyOf Go.Proofs.Try.f115
noncomputable def fi : Fin := ⟨Γ0, [(.tmp 5, 3)], [[1]], [], [([.sl [.int .i64] 8, .int .i64, .sl [.int .i64, .int .i64, .bool] 24], [0, 1, 0])], []⟩
noncomputable def m (a3 : List Int) (a4 : Int) (a5 : List (List Cl)) (r1 : Int) : Res := ⟨[⟨false, [.int .i64 r1]⟩], [], [], [[.tr 2 2 [.int .i64] (.ints a3), .int .i64 a4, .tr 2 2 [.int .i64, .int .i64, .bool] (.cells a5)]], []⟩
noncomputable def os : List (FuncId × St × (List Lf → (Res → Option Res) → Option Res)) := [cmp_Compare_int.con]
noncomputable def X (K : Res → Option Res) : Ctx := { Γ := Γ0, orc := orcOf os, io := [], share := [], mvl := [], bun := [], cut := [], own := [], cin := [], cout := [], lp := lpOf [], kl := [], nk := true, eqs := eqs0, byt := byt0, fin := finK fi K }
noncomputable def b (a1 a2 : Int) (a3 : List Int) (a4 : Int) (a5 : List (List Cl)) (R : Int → Option Res) : Option Res :=
  bif decide (0 ≤ a1) && decide (a1 < (a5.length : Int)) then (bif decide (0 ≤ a2) && decide (a2 < (a5.length : Int)) then (cmp_Compare_int.g (((a5.getD a1.toNat []).getD 0 (.i 0)).toI) (((a5.getD a2.toNat []).getD 0 (.i 0)).toI) fun r6 =>
      R r6)
    else none)
  else none
theorem gx : ∃ x : Int → Int → List Int → Int → List (List Cl) → (Int → Option Res) → Option Res, x = b := ⟨_, rfl⟩
noncomputable def g : Int → Int → List Int → Int → List (List Cl) → (Int → Option Res) → Option Res := Classical.choose gx
theorem e : g = b := Classical.choose_spec gx
noncomputable def run : List Lf → (Res → Option Res) → Option Res
  | [.i a1, .i a2, .q (.ints a3), .i a4, .q (.cells a5)], K => g a1 a2 a3 a4 a5 (fun r1 => K (m a3 a4 a5 r1))
  | _, _ => none
noncomputable def a (a1 a2 : Int) (a3 : List Int) (a4 : Int) (a5 : List (List Cl)) : St := argSt [one (.int .i64 a1), one (.int .i64 a2), one (.bp 0 0)] [] [[.tr 2 2 [.int .i64] (.ints a3), .int .i64 a4, .tr 2 2 [.int .i64, .int .i64, .bool] (.cells a5)]]
noncomputable def con : FuncId × St × (List Lf → (Res → Option Res) → Option Res) := (115, a 0 0 [] 0 [], run)
theorem cx (K : Res → Option Res) : CtxOk Go.Proofs.Try.prog Γ0 byt0 eqs0 (X K) os := ⟨rfl, rfl, rfl, (fun p hp => by
  rcases List.mem_cons.1 hp with rfl | hp
  · exact cmp_Compare_int.ok
  cases hp), rfl, rfl, rfl, rfl⟩
theorem tie (K : Res → Option Res) (a1 a2 : Int) (a3 : List Int) (a4 : Int) (a5 : List (List Cl)) : exec (X K) c (entry 19 [one (.int .i64 a1), one (.int .i64 a2), one (.bp 0 0)] [] [[.tr 2 2 [.int .i64] (.ints a3), .int .i64 a4, .tr 2 2 [.int .i64, .int .i64, .bool] (.cells a5)]]) (endK (X K)) = g a1 a2 a3 a4 a5 (fun r1 => K (m a3 a4 a5 r1)) := Eq.trans (b := b a1 a2 a3 a4 a5 (fun r1 => K (m a3 a4 a5 r1))) (by kernel_rfl) (by rw [e])
theorem runv {l : List Lf} {K : Res → Option Res} {r : Res} (h : run l K = some r) : ∃ a1 a2 a3 a4 a5, l = [.i a1, .i a2, .q (.ints a3), .i a4, .q (.cells a5)] ∧ g a1 a2 a3 a4 a5 (fun r1 => K (m a3 a4 a5 r1)) = some r := by
  unfold run at h; split at h
  · exact ⟨_, _, _, _, _, rfl, h⟩
  · cases h
theorem ok : Con Go.Proofs.Try.prog con := con_of (fn := Go.Proofs.Try.f115) (c := c) (Fi := fi) (X := X) (fun_of laid (by kernel_rfl) (by kernel_rfl) (by kernel_rfl) rfl (by kernel_rfl) (by kernel_rfl) cx (fun _ => rfl) (fun _ => rfl) (fun K => by
    rw [show loopsOf c = [] from by kernel_rfl]; intro p hp
    cases hp)) fun xs rows boxes K r hl hr => by
  obtain ⟨a1, a2, a3, a4, a5, e, h⟩ := runv hr
  have := St.like_eq (y := a a1 a2 a3 a4 a5) hl (by kernel_rfl) e
  obtain ⟨rfl, rfl, rfl⟩ := argSt_inj this
  exact (tie K a1 a2 a3 a4 a5).trans h
end impl_packed_1
namespace slices_insertionSortCmpFunc_int
noncomputable def c : Code := bodyOf Go.Proofs.Try.f187
noncomputable def fi : Fin := ⟨Γ0, [], [], [true], [([.sl [.int .i64] 8, .int .i64, .sl [.int .i64, .int .i64, .bool] 24], [0, 1, 0])], []⟩
noncomputable def m (r1 r2 : List Int) (r3 : Int) (r4 : List (List Cl)) : Res := ⟨[], [some ⟨[.int .i64], .ints r1, true, 0⟩], [], [[.tr 2 2 [.int .i64] (.ints r2), .int .i64 r3, .tr 2 2 [.int .i64, .int .i64, .bool] (.cells r4)]], []⟩
noncomputable def b0 : Code := codeAt c [1, 0, 0]
noncomputable def b2 : Code := codeAt c [1, 0, 0, 1, 0, 0, 1, 0, 0]
noncomputable def s2 (x14 x15 x16 x17 : Int) (x18 x19 : List Int) (x20 : Int) (x21 : List (List Cl)) : St := ⟨mkT 53 [(0, one (.ow 0)), (1, one (.int .i64 x14)), (2, one (.int .i64 x15)), (3, one (.fn 115 [0])), (8, one (.int .i64 x16)), (9, one (.int .i64 x17))], [(0, ⟨[.int .i64], .ints x18, true, 0⟩)], [(0, [.tr 2 2 [.int .i64] (.ints x19), .int .i64 x20, .tr 2 2 [.int .i64, .int .i64, .bool] (.cells x21)])]⟩
noncomputable def l2s (x14 x15 x16 : Int) (x19 : List Int) (x20 : Int) (x21 : List (List Cl)) (rec : Int → List Int → Option Res) (k : List Int → Option Res) (x17 : Int) (x18 : List Int) : Option Res :=
  bif decide (x14 < x17) then (bif decide (0 ≤ x17) && decide (x17 < (x18.length : Int)) then (bif decide (0 ≤ IntKind.i64.wrap (x17 - 1)) && decide (IntKind.i64.wrap (x17 - 1) < (x18.length : Int)) then (impl_packed_1.g (x18.getD x17.toNat 0) (x18.getD ((IntKind.i64.wrap (x17 - 1)).toNat) 0) x19 x20 x21 fun r22 =>
        bif decide (r22 < 0) then (bif decide (0 ≤ IntKind.i64.wrap (x17 - 1)) && decide (IntKind.i64.wrap (x17 - 1) < (x18.length : Int)) then (bif decide (0 ≤ x17) && decide (x17 < (x18.length : Int)) then (bif decide (0 ≤ x17) && decide (x17 < (x18.length : Int)) then (bif decide (0 ≤ IntKind.i64.wrap (x17 - 1)) && decide (IntKind.i64.wrap (x17 - 1) < ((x18.set x17.toNat (x18.getD ((IntKind.i64.wrap (x17 - 1)).toNat) 0)).length : Int)) then rec (IntKind.i64.wrap (x17 - 1)) ((x18.set x17.toNat (x18.getD ((IntKind.i64.wrap (x17 - 1)).toNat) 0)).set ((IntKind.i64.wrap (x17 - 1)).toNat) (x18.getD x17.toNat 0))
                else none)
              else none)
            else none)
          else none)
        else k x18)
      else none)
    else none)
  else k x18
noncomputable def l2 (x14 x15 x16 : Int) (x19 : List Int) (x20 : Int) (x21 : List (List Cl)) (k : List Int → Option Res) : Nat → Int → List Int → Option Res
  | 0, _, _ => none
  | n + 1, x17, x18 => l2s x14 x15 x16 x19 x20 x21 (fun x17 x18 => l2 x14 x15 x16 x19 x20 x21 k n x17 x18) k x17 x18
noncomputable def o2 (x14 x15 x16 : Int) (x19 : List Int) (x20 : Int) (x21 : List (List Cl)) (y4 : List Int) : St := ⟨mkT 53 [(0, one (.ow 0)), (1, one (.int .i64 x14)), (2, one (.int .i64 x15)), (3, one (.fn 115 [0])), (8, one (.int .i64 x16))], [(0, ⟨[.int .i64], .ints y4, true, 0⟩)], [(0, [.tr 2 2 [.int .i64] (.ints x19), .int .i64 x20, .tr 2 2 [.int .i64, .int .i64, .bool] (.cells x21)])]⟩
noncomputable def p2 (K : Res → Option Res) : List Lf → (St → Option Res) → Option Res
  | [.i x14, .i x15, .i x16, .i x17, .q (.ints x18), .q (.ints x19), .i x20, .q (.cells x21)], k => l2 x14 x15 x16 x19 x20 x21 (fun y4 => k (o2 x14 x15 x16 x19 x20 x21 y4)) fuel x17 x18
  | _, _ => none
noncomputable def s0 (x7 x8 x9 : Int) (x10 x11 : List Int) (x12 : Int) (x13 : List (List Cl)) : St := ⟨mkT 53 [(0, one (.ow 0)), (1, one (.int .i64 x7)), (2, one (.int .i64 x8)), (3, one (.fn 115 [0])), (8, one (.int .i64 x9))], [(0, ⟨[.int .i64], .ints x10, true, 0⟩)], [(0, [.tr 2 2 [.int .i64] (.ints x11), .int .i64 x12, .tr 2 2 [.int .i64, .int .i64, .bool] (.cells x13)])]⟩
noncomputable def l0s (x7 x8 : Int) (x11 : List Int) (x12 : Int) (x13 : List (List Cl)) (rec : Int → List Int → Option Res) (k : List Int → Option Res) (x9 : Int) (x10 : List Int) : Option Res :=
  bif decide (x9 < x8) then (l2 x7 x8 x9 x11 x12 x13 (fun y23 => 
    rec (IntKind.i64.wrap (x9 + 1)) y23) fuel x9 x10)
  else k x10
noncomputable def l0 (x7 x8 : Int) (x11 : List Int) (x12 : Int) (x13 : List (List Cl)) (k : List Int → Option Res) : Nat → Int → List Int → Option Res
  | 0, _, _ => none
  | n + 1, x9, x10 => l0s x7 x8 x11 x12 x13 (fun x9 x10 => l0 x7 x8 x11 x12 x13 k n x9 x10) k x9 x10
noncomputable def o0 (x7 x8 : Int) (x11 : List Int) (x12 : Int) (x13 : List (List Cl)) (y1 : List Int) : St := ⟨mkT 53 [], [(0, ⟨[.int .i64], .ints y1, true, 0⟩)], [(0, [.tr 2 2 [.int .i64] (.ints x11), .int .i64 x12, .tr 2 2 [.int .i64, .int .i64, .bool] (.cells x13)])]⟩
noncomputable def p0 (K : Res → Option Res) : List Lf → (St → Option Res) → Option Res
  | [.i x7, .i x8, .i x9, .q (.ints x10), .q (.ints x11), .i x12, .q (.cells x13)], k => l0 x7 x8 x11 x12 x13 (fun y1 => k (o0 x7 x8 x11 x12 x13 y1)) fuel x9 x10
  | _, _ => none
noncomputable def os : List (FuncId × St × (List Lf → (Res → Option Res) → Option Res)) := [impl_packed_1.con]
noncomputable def X (K : Res → Option Res) : Ctx := { Γ := Γ0, orc := orcOf os, io := [], share := [], mvl := [], bun := [], cut := [], own := [], cin := [(2, ⟨[0, 1, 2, 3, 8, 9], [(0, 0)], [0], [], [], []⟩), (0, ⟨[0, 1, 2, 3, 8], [(0, 0)], [0], [], [], []⟩)], cout := [(2, ⟨[0, 1, 2, 3, 8], [(0, 0)], [0], [], [], []⟩), (0, ⟨[], [(0, 0)], [0], [], [], []⟩)], lp := lpOf [(2, s2 0 0 0 0 [] [] 0 [], p2 K), (0, s0 0 0 0 [] [] 0 [], p0 K)], kl := [], nk := true, eqs := eqs0, byt := byt0, fin := finK fi K }
noncomputable def b (a1 a2 : Int) (a3 a4 : List Int) (a5 : Int) (a6 : List (List Cl)) (R : List Int → List Int → Int → List (List Cl) → Option Res) : Option Res :=
  l0 a1 a2 a4 a5 a6 (fun y24 => 
  R y24 a4 a5 a6) fuel (IntKind.i64.wrap (a1 + 1)) a3
theorem gx : ∃ x : Int → Int → List Int → List Int → Int → List (List Cl) → (List Int → List Int → Int → List (List Cl) → Option Res) → Option Res, x = b := ⟨_, rfl⟩
noncomputable def g : Int → Int → List Int → List Int → Int → List (List Cl) → (List Int → List Int → Int → List (List Cl) → Option Res) → Option Res := Classical.choose gx
theorem e : g = b := Classical.choose_spec gx
noncomputable def run : List Lf → (Res → Option Res) → Option Res
  | [.i a1, .i a2, .q (.ints a3), .q (.ints a4), .i a5, .q (.cells a6)], K => g a1 a2 a3 a4 a5 a6 (fun r1 r2 r3 r4 => K (m r1 r2 r3 r4))
  | _, _ => none
noncomputable def a (a1 a2 : Int) (a3 a4 : List Int) (a5 : Int) (a6 : List (List Cl)) : St := argSt [one (.ow 0), one (.int .i64 a1), one (.int .i64 a2), one (.fn 115 [0])] [⟨[.int .i64], .ints a3, true, 0⟩] [[.tr 2 2 [.int .i64] (.ints a4), .int .i64 a5, .tr 2 2 [.int .i64, .int .i64, .bool] (.cells a6)]]
noncomputable def con : FuncId × St × (List Lf → (Res → Option Res) → Option Res) := (187, a 0 0 [] [] 0 [], run)
theorem cx (K : Res → Option Res) : CtxOk Go.Proofs.Try.prog Γ0 byt0 eqs0 (X K) os := ⟨rfl, rfl, rfl, (fun p hp => by
  rcases List.mem_cons.1 hp with rfl | hp
  · exact impl_packed_1.ok
  cases hp), rfl, rfl, rfl, rfl⟩
theorem t2 (K : Res → Option Res) (k : St → Option Res) (it : St → (St → Option Res) → Option Res) (x14 x15 x16 x17 : Int) (x18 x19 : List Int) (x20 : Int) (x21 : List (List Cl)) : iterS (X K) 2 b2 it (s2 x14 x15 x16 x17 x18 x19 x20 x21) k = l2s x14 x15 x16 x19 x20 x21 (fun x17 x18 => it (s2 x14 x15 x16 x17 x18 x19 x20 x21) k) (fun y4 => k (o2 x14 x15 x16 x19 x20 x21 y4)) x17 x18 := by kernel_rfl
theorem i2 (K : Res → Option Res) (k : St → Option Res) (x14 x15 x16 : Int) (x19 : List Int) (x20 : Int) (x21 : List (List Cl)) : ∀ (n : Nat) (x17 : Int) (x18 : List Int), iter (X K) 2 b2 n (s2 x14 x15 x16 x17 x18 x19 x20 x21) k = l2 x14 x15 x16 x19 x20 x21 (fun y4 => k (o2 x14 x15 x16 x19 x20 x21 y4)) n x17 x18
  | 0, _, _ => rfl
  | n + 1, x17, x18 => by
    rw [iter_succ, t2, show (fun x17 x18 => iter (X K) 2 b2 n (s2 x14 x15 x16 x17 x18 x19 x20 x21) k) = (fun x17 x18 => l2 x14 x15 x16 x19 x20 x21 (fun y4 => k (o2 x14 x15 x16 x19 x20 x21 y4)) n x17 x18) from funext fun x17 => funext fun x18 => i2 K k x14 x15 x16 x19 x20 x21 n x17 x18]; rfl
theorem v2 {K : Res → Option Res} {l : List Lf} {k : St → Option Res} {r : Res} (h : p2 K l k = some r) : ∃ x14 x15 x16 x17 x18 x19 x20 x21, l = [.i x14, .i x15, .i x16, .i x17, .q (.ints x18), .q (.ints x19), .i x20, .q (.cells x21)] ∧ l2 x14 x15 x16 x19 x20 x21 (fun y4 => k (o2 x14 x15 x16 x19 x20 x21 y4)) fuel x17 x18 = some r := by
  unfold p2 at h; split at h
  · exact ⟨_, _, _, _, _, _, _, _, rfl, h⟩
  · cases h
theorem t0 (K : Res → Option Res) (k : St → Option Res) (it : St → (St → Option Res) → Option Res) (x7 x8 x9 : Int) (x10 x11 : List Int) (x12 : Int) (x13 : List (List Cl)) : iterS (X K) 0 b0 it (s0 x7 x8 x9 x10 x11 x12 x13) k = l0s x7 x8 x11 x12 x13 (fun x9 x10 => it (s0 x7 x8 x9 x10 x11 x12 x13) k) (fun y1 => k (o0 x7 x8 x11 x12 x13 y1)) x9 x10 := by kernel_rfl
theorem i0 (K : Res → Option Res) (k : St → Option Res) (x7 x8 : Int) (x11 : List Int) (x12 : Int) (x13 : List (List Cl)) : ∀ (n : Nat) (x9 : Int) (x10 : List Int), iter (X K) 0 b0 n (s0 x7 x8 x9 x10 x11 x12 x13) k = l0 x7 x8 x11 x12 x13 (fun y1 => k (o0 x7 x8 x11 x12 x13 y1)) n x9 x10
  | 0, _, _ => rfl
  | n + 1, x9, x10 => by
    rw [iter_succ, t0, show (fun x9 x10 => iter (X K) 0 b0 n (s0 x7 x8 x9 x10 x11 x12 x13) k) = (fun x9 x10 => l0 x7 x8 x11 x12 x13 (fun y1 => k (o0 x7 x8 x11 x12 x13 y1)) n x9 x10) from funext fun x9 => funext fun x10 => i0 K k x7 x8 x11 x12 x13 n x9 x10]; rfl
theorem v0 {K : Res → Option Res} {l : List Lf} {k : St → Option Res} {r : Res} (h : p0 K l k = some r) : ∃ x7 x8 x9 x10 x11 x12 x13, l = [.i x7, .i x8, .i x9, .q (.ints x10), .q (.ints x11), .i x12, .q (.cells x13)] ∧ l0 x7 x8 x11 x12 x13 (fun y1 => k (o0 x7 x8 x11 x12 x13 y1)) fuel x9 x10 = some r := by
  unfold p0 at h; split at h
  · exact ⟨_, _, _, _, _, _, _, rfl, h⟩
  · cases h
theorem w2 (K : Res → Option Res) : LpSound Go.Proofs.Try.prog (X K) 2 b2 := lp_ok ((cx K).ok laid) (by rw [show loopsOf b2 = [] from by kernel_rfl]; intro p hp; cases hp) rfl fun p hp hid => by
  rcases List.mem_cons.1 hp with rfl | hp
  · intro st k r h1 h2; obtain ⟨x14, x15, x16, x17, x18, x19, x20, x21, e, h⟩ := v2 (K := K) h2; have := St.like_eq (y := s2 x14 x15 x16 x17 x18 x19 x20 x21) h1 (by kernel_rfl) e; subst this; exact ⟨fuel, (i2 K k x14 x15 x16 x19 x20 x21 fuel x17 x18).trans h⟩
  rcases List.mem_cons.1 hp with rfl | hp
  · exact absurd hid (by simp)
  cases hp
theorem w0 (K : Res → Option Res) : LpSound Go.Proofs.Try.prog (X K) 0 b0 := lp_ok ((cx K).ok laid) (by
    rw [show loopsOf b0 = [(2, b2)] from by kernel_rfl]; intro p hp
    rcases List.mem_cons.1 hp with rfl | hp
    · exact w2 K
    cases hp) rfl fun p hp hid => by
  rcases List.mem_cons.1 hp with rfl | hp
  · exact absurd hid (by simp)
  rcases List.mem_cons.1 hp with rfl | hp
  · intro st k r h1 h2; obtain ⟨x7, x8, x9, x10, x11, x12, x13, e, h⟩ := v0 (K := K) h2; have := St.like_eq (y := s0 x7 x8 x9 x10 x11 x12 x13) h1 (by kernel_rfl) e; subst this; exact ⟨fuel, (i0 K k x7 x8 x11 x12 x13 fuel x9 x10).trans h⟩
  cases hp
theorem tie (K : Res → Option Res) (a1 a2 : Int) (a3 a4 : List Int) (a5 : Int) (a6 : List (List Cl)) : exec (X K) c (entry 53 [one (.ow 0), one (.int .i64 a1), one (.int .i64 a2), one (.fn 115 [0])] [⟨[.int .i64], .ints a3, true, 0⟩] [[.tr 2 2 [.int .i64] (.ints a4), .int .i64 a5, .tr 2 2 [.int .i64, .int .i64, .bool] (.cells a6)]]) (endK (X K)) = g a1 a2 a3 a4 a5 a6 (fun r1 r2 r3 r4 => K (m r1 r2 r3 r4)) := Eq.trans (b := b a1 a2 a3 a4 a5 a6 (fun r1 r2 r3 r4 => K (m r1 r2 r3 r4))) (by kernel_rfl) (by rw [e])
theorem runv {l : List Lf} {K : Res → Option Res} {r : Res} (h : run l K = some r) : ∃ a1 a2 a3 a4 a5 a6, l = [.i a1, .i a2, .q (.ints a3), .q (.ints a4), .i a5, .q (.cells a6)] ∧ g a1 a2 a3 a4 a5 a6 (fun r1 r2 r3 r4 => K (m r1 r2 r3 r4)) = some r := by
  unfold run at h; split at h
  · exact ⟨_, _, _, _, _, _, rfl, h⟩
  · cases h
theorem ok : Con Go.Proofs.Try.prog con := con_of (fn := Go.Proofs.Try.f187) (c := c) (Fi := fi) (X := X) (fun_of laid (by kernel_rfl) (by kernel_rfl) (by kernel_rfl) rfl (by kernel_rfl) (by kernel_rfl) cx (fun _ => rfl) (fun _ => rfl) (fun K => by
    rw [show loopsOf c = [(0, b0), (2, b2)] from by kernel_rfl]; intro p hp
    rcases List.mem_cons.1 hp with rfl | hp
    · exact w0 K
    rcases List.mem_cons.1 hp with rfl | hp
    · exact w2 K
    cases hp)) fun xs rows boxes K r hl hr => by
  obtain ⟨a1, a2, a3, a4, a5, a6, e, h⟩ := runv hr
  have := St.like_eq (y := a a1 a2 a3 a4 a5 a6) hl (by kernel_rfl) e
  obtain ⟨rfl, rfl, rfl⟩ := argSt_inj this
  exact (tie K a1 a2 a3 a4 a5 a6).trans h
end slices_insertionSortCmpFunc_int
namespace slices_siftDownCmpFunc_int
noncomputable def c : Code := bodyOf Go.Proofs.Try.f199
noncomputable def fi : Fin := ⟨Γ0, [], [], [true], [([.sl [.int .i64] 8, .int .i64, .sl [.int .i64, .int .i64, .bool] 24], [0, 1, 0])], []⟩
noncomputable def m (r1 r2 : List Int) (r3 : Int) (r4 : List (List Cl)) : Res := ⟨[], [some ⟨[.int .i64], .ints r1, true, 0⟩], [], [[.tr 2 2 [.int .i64] (.ints r2), .int .i64 r3, .tr 2 2 [.int .i64, .int .i64, .bool] (.cells r4)]], []⟩
noncomputable def b0 : Code := codeAt c [1, 0, 0]
noncomputable def s0 (x8 x9 x10 : Int) (x11 x12 : List Int) (x13 : Int) (x14 : List (List Cl)) : St := ⟨mkT 82 [(0, one (.ow 0)), (2, one (.int .i64 x8)), (3, one (.int .i64 x9)), (4, one (.fn 115 [0])), (10, one (.int .i64 x10))], [(0, ⟨[.int .i64], .ints x11, true, 0⟩)], [(0, [.tr 2 2 [.int .i64] (.ints x12), .int .i64 x13, .tr 2 2 [.int .i64, .int .i64, .bool] (.cells x14)])]⟩
noncomputable def l0s (x8 x9 : Int) (x12 : List Int) (x13 : Int) (x14 : List (List Cl)) (rec : Int → List Int → Option Res) (k : List Int → Option Res) (R : List Int → List Int → Int → List (List Cl) → Option Res) (x10 : Int) (x11 : List Int) : Option Res :=
  bif decide (x8 ≤ IntKind.i64.wrap ((IntKind.i64.wrap (2 * x10)) + 1)) then k x11
  else bif decide (IntKind.i64.wrap ((IntKind.i64.wrap ((IntKind.i64.wrap (2 * x10)) + 1)) + 1) < x8) then (bif decide (0 ≤ IntKind.i64.wrap (x9 + (IntKind.i64.wrap ((IntKind.i64.wrap (2 * x10)) + 1)))) && decide (IntKind.i64.wrap (x9 + (IntKind.i64.wrap ((IntKind.i64.wrap (2 * x10)) + 1))) < (x11.length : Int)) then (bif decide (0 ≤ IntKind.i64.wrap ((IntKind.i64.wrap (x9 + (IntKind.i64.wrap ((IntKind.i64.wrap (2 * x10)) + 1)))) + 1)) && decide (IntKind.i64.wrap ((IntKind.i64.wrap (x9 + (IntKind.i64.wrap ((IntKind.i64.wrap (2 * x10)) + 1)))) + 1) < (x11.length : Int)) then (impl_packed_1.g (x11.getD ((IntKind.i64.wrap (x9 + (IntKind.i64.wrap ((IntKind.i64.wrap (2 * x10)) + 1)))).toNat) 0) (x11.getD ((IntKind.i64.wrap ((IntKind.i64.wrap (x9 + (IntKind.i64.wrap ((IntKind.i64.wrap (2 * x10)) + 1)))) + 1)).toNat) 0) x12 x13 x14 fun r15 =>
        bif decide (r15 < 0) then (bif decide (0 ≤ IntKind.i64.wrap (x9 + x10)) && decide (IntKind.i64.wrap (x9 + x10) < (x11.length : Int)) then (bif decide (0 ≤ IntKind.i64.wrap (x9 + (IntKind.i64.wrap ((IntKind.i64.wrap ((IntKind.i64.wrap (2 * x10)) + 1)) + 1)))) && decide (IntKind.i64.wrap (x9 + (IntKind.i64.wrap ((IntKind.i64.wrap ((IntKind.i64.wrap (2 * x10)) + 1)) + 1))) < (x11.length : Int)) then (impl_packed_1.g (x11.getD ((IntKind.i64.wrap (x9 + x10)).toNat) 0) (x11.getD ((IntKind.i64.wrap (x9 + (IntKind.i64.wrap ((IntKind.i64.wrap ((IntKind.i64.wrap (2 * x10)) + 1)) + 1)))).toNat) 0) x12 x13 x14 fun r16 =>
              bif !(decide (r16 < 0)) then R x11 x12 x13 x14
              else bif decide (0 ≤ IntKind.i64.wrap (x9 + (IntKind.i64.wrap ((IntKind.i64.wrap ((IntKind.i64.wrap (2 * x10)) + 1)) + 1)))) && decide (IntKind.i64.wrap (x9 + (IntKind.i64.wrap ((IntKind.i64.wrap ((IntKind.i64.wrap (2 * x10)) + 1)) + 1))) < (x11.length : Int)) then (bif decide (0 ≤ IntKind.i64.wrap (x9 + x10)) && decide (IntKind.i64.wrap (x9 + x10) < (x11.length : Int)) then (bif decide (0 ≤ IntKind.i64.wrap (x9 + x10)) && decide (IntKind.i64.wrap (x9 + x10) < (x11.length : Int)) then (bif decide (0 ≤ IntKind.i64.wrap (x9 + (IntKind.i64.wrap ((IntKind.i64.wrap ((IntKind.i64.wrap (2 * x10)) + 1)) + 1)))) && decide (IntKind.i64.wrap (x9 + (IntKind.i64.wrap ((IntKind.i64.wrap ((IntKind.i64.wrap (2 * x10)) + 1)) + 1))) < ((x11.set ((IntKind.i64.wrap (x9 + x10)).toNat) (x11.getD ((IntKind.i64.wrap (x9 + (IntKind.i64.wrap ((IntKind.i64.wrap ((IntKind.i64.wrap (2 * x10)) + 1)) + 1)))).toNat) 0)).length : Int)) then rec (IntKind.i64.wrap ((IntKind.i64.wrap ((IntKind.i64.wrap (2 * x10)) + 1)) + 1)) ((x11.set ((IntKind.i64.wrap (x9 + x10)).toNat) (x11.getD ((IntKind.i64.wrap (x9 + (IntKind.i64.wrap ((IntKind.i64.wrap ((IntKind.i64.wrap (2 * x10)) + 1)) + 1)))).toNat) 0)).set ((IntKind.i64.wrap (x9 + (IntKind.i64.wrap ((IntKind.i64.wrap ((IntKind.i64.wrap (2 * x10)) + 1)) + 1)))).toNat) (x11.getD ((IntKind.i64.wrap (x9 + x10)).toNat) 0))
                    else none)
                  else none)
                else none)
              else none)
            else none)
          else none)
        else bif decide (0 ≤ IntKind.i64.wrap (x9 + x10)) && decide (IntKind.i64.wrap (x9 + x10) < (x11.length : Int)) then (bif decide (0 ≤ IntKind.i64.wrap (x9 + (IntKind.i64.wrap ((IntKind.i64.wrap (2 * x10)) + 1)))) && decide (IntKind.i64.wrap (x9 + (IntKind.i64.wrap ((IntKind.i64.wrap (2 * x10)) + 1))) < (x11.length : Int)) then (impl_packed_1.g (x11.getD ((IntKind.i64.wrap (x9 + x10)).toNat) 0) (x11.getD ((IntKind.i64.wrap (x9 + (IntKind.i64.wrap ((IntKind.i64.wrap (2 * x10)) + 1)))).toNat) 0) x12 x13 x14 fun r17 =>
            bif !(decide (r17 < 0)) then R x11 x12 x13 x14
            else bif decide (0 ≤ IntKind.i64.wrap (x9 + (IntKind.i64.wrap ((IntKind.i64.wrap (2 * x10)) + 1)))) && decide (IntKind.i64.wrap (x9 + (IntKind.i64.wrap ((IntKind.i64.wrap (2 * x10)) + 1))) < (x11.length : Int)) then (bif decide (0 ≤ IntKind.i64.wrap (x9 + x10)) && decide (IntKind.i64.wrap (x9 + x10) < (x11.length : Int)) then (bif decide (0 ≤ IntKind.i64.wrap (x9 + x10)) && decide (IntKind.i64.wrap (x9 + x10) < (x11.length : Int)) then (bif decide (0 ≤ IntKind.i64.wrap (x9 + (IntKind.i64.wrap ((IntKind.i64.wrap (2 * x10)) + 1)))) && decide (IntKind.i64.wrap (x9 + (IntKind.i64.wrap ((IntKind.i64.wrap (2 * x10)) + 1))) < ((x11.set ((IntKind.i64.wrap (x9 + x10)).toNat) (x11.getD ((IntKind.i64.wrap (x9 + (IntKind.i64.wrap ((IntKind.i64.wrap (2 * x10)) + 1)))).toNat) 0)).length : Int)) then rec (IntKind.i64.wrap ((IntKind.i64.wrap (2 * x10)) + 1)) ((x11.set ((IntKind.i64.wrap (x9 + x10)).toNat) (x11.getD ((IntKind.i64.wrap (x9 + (IntKind.i64.wrap ((IntKind.i64.wrap (2 * x10)) + 1)))).toNat) 0)).set ((IntKind.i64.wrap (x9 + (IntKind.i64.wrap ((IntKind.i64.wrap (2 * x10)) + 1)))).toNat) (x11.getD ((IntKind.i64.wrap (x9 + x10)).toNat) 0))
                  else none)
                else none)
              else none)
            else none)
          else none)
        else none)
      else none)
    else none)
  else bif decide (0 ≤ IntKind.i64.wrap (x9 + x10)) && decide (IntKind.i64.wrap (x9 + x10) < (x11.length : Int)) then (bif decide (0 ≤ IntKind.i64.wrap (x9 + (IntKind.i64.wrap ((IntKind.i64.wrap (2 * x10)) + 1)))) && decide (IntKind.i64.wrap (x9 + (IntKind.i64.wrap ((IntKind.i64.wrap (2 * x10)) + 1))) < (x11.length : Int)) then (impl_packed_1.g (x11.getD ((IntKind.i64.wrap (x9 + x10)).toNat) 0) (x11.getD ((IntKind.i64.wrap (x9 + (IntKind.i64.wrap ((IntKind.i64.wrap (2 * x10)) + 1)))).toNat) 0) x12 x13 x14 fun r18 =>
      bif !(decide (r18 < 0)) then R x11 x12 x13 x14
      else bif decide (0 ≤ IntKind.i64.wrap (x9 + (IntKind.i64.wrap ((IntKind.i64.wrap (2 * x10)) + 1)))) && decide (IntKind.i64.wrap (x9 + (IntKind.i64.wrap ((IntKind.i64.wrap (2 * x10)) + 1))) < (x11.length : Int)) then (bif decide (0 ≤ IntKind.i64.wrap (x9 + x10)) && decide (IntKind.i64.wrap (x9 + x10) < (x11.length : Int)) then (bif decide (0 ≤ IntKind.i64.wrap (x9 + x10)) && decide (IntKind.i64.wrap (x9 + x10) < (x11.length : Int)) then (bif decide (0 ≤ IntKind.i64.wrap (x9 + (IntKind.i64.wrap ((IntKind.i64.wrap (2 * x10)) + 1)))) && decide (IntKind.i64.wrap (x9 + (IntKind.i64.wrap ((IntKind.i64.wrap (2 * x10)) + 1))) < ((x11.set ((IntKind.i64.wrap (x9 + x10)).toNat) (x11.getD ((IntKind.i64.wrap (x9 + (IntKind.i64.wrap ((IntKind.i64.wrap (2 * x10)) + 1)))).toNat) 0)).length : Int)) then rec (IntKind.i64.wrap ((IntKind.i64.wrap (2 * x10)) + 1)) ((x11.set ((IntKind.i64.wrap (x9 + x10)).toNat) (x11.getD ((IntKind.i64.wrap (x9 + (IntKind.i64.wrap ((IntKind.i64.wrap (2 * x10)) + 1)))).toNat) 0)).set ((IntKind.i64.wrap (x9 + (IntKind.i64.wrap ((IntKind.i64.wrap (2 * x10)) + 1)))).toNat) (x11.getD ((IntKind.i64.wrap (x9 + x10)).toNat) 0))
            else none)
          else none)
        else none)
      else none)
    else none)
  else none
noncomputable def l0 (x8 x9 : Int) (x12 : List Int) (x13 : Int) (x14 : List (List Cl)) (k : List Int → Option Res) (R : List Int → List Int → Int → List (List Cl) → Option Res) : Nat → Int → List Int → Option Res
  | 0, _, _ => none
  | n + 1, x10, x11 => l0s x8 x9 x12 x13 x14 (fun x10 x11 => l0 x8 x9 x12 x13 x14 k R n x10 x11) k R x10 x11
noncomputable def o0 (x8 x9 : Int) (x12 : List Int) (x13 : Int) (x14 : List (List Cl)) (y1 : List Int) : St := ⟨mkT 82 [], [(0, ⟨[.int .i64], .ints y1, true, 0⟩)], [(0, [.tr 2 2 [.int .i64] (.ints x12), .int .i64 x13, .tr 2 2 [.int .i64, .int .i64, .bool] (.cells x14)])]⟩
noncomputable def p0 (K : Res → Option Res) : List Lf → (St → Option Res) → Option Res
  | [.i x8, .i x9, .i x10, .q (.ints x11), .q (.ints x12), .i x13, .q (.cells x14)], k => l0 x8 x9 x12 x13 x14 (fun y1 => k (o0 x8 x9 x12 x13 x14 y1)) (fun r1 r2 r3 r4 => K (m r1 r2 r3 r4)) fuel x10 x11
  | _, _ => none
noncomputable def os : List (FuncId × St × (List Lf → (Res → Option Res) → Option Res)) := [impl_packed_1.con]
noncomputable def X (K : Res → Option Res) : Ctx := { Γ := Γ0, orc := orcOf os, io := [], share := [], mvl := [], bun := [], cut := [], own := [], cin := [(0, ⟨[0, 2, 3, 4, 10], [(0, 0)], [0], [], [], []⟩)], cout := [(0, ⟨[], [(0, 0)], [0], [], [], []⟩)], lp := lpOf [(0, s0 0 0 0 [] [] 0 [], p0 K)], kl := [], nk := true, eqs := eqs0, byt := byt0, fin := finK fi K }
noncomputable def b (a1 a2 a3 : Int) (a4 a5 : List Int) (a6 : Int) (a7 : List (List Cl)) (R : List Int → List Int → Int → List (List Cl) → Option Res) : Option Res :=
  l0 a2 a3 a5 a6 a7 (fun y19 => 
  R y19 a5 a6 a7) R fuel a1 a4
theorem gx : ∃ x : Int → Int → Int → List Int → List Int → Int → List (List Cl) → (List Int → List Int → Int → List (List Cl) → Option Res) → Option Res, x = b := ⟨_, rfl⟩
noncomputable def g : Int → Int → Int → List Int → List Int → Int → List (List Cl) → (List Int → List Int → Int → List (List Cl) → Option Res) → Option Res := Classical.choose gx
theorem e : g = b := Classical.choose_spec gx
noncomputable def run : List Lf → (Res → Option Res) → Option Res
  | [.i a1, .i a2, .i a3, .q (.ints a4), .q (.ints a5), .i a6, .q (.cells a7)], K => g a1 a2 a3 a4 a5 a6 a7 (fun r1 r2 r3 r4 => K (m r1 r2 r3 r4))
  | _, _ => none
noncomputable def a (a1 a2 a3 : Int) (a4 a5 : List Int) (a6 : Int) (a7 : List (List Cl)) : St := argSt [one (.ow 0), one (.int .i64 a1), one (.int .i64 a2), one (.int .i64 a3), one (.fn 115 [0])] [⟨[.int .i64], .ints a4, true, 0⟩] [[.tr 2 2 [.int .i64] (.ints a5), .int .i64 a6, .tr 2 2 [.int .i64, .int .i64, .bool] (.cells a7)]]
noncomputable def con : FuncId × St × (List Lf → (Res → Option Res) → Option Res) := (199, a 0 0 0 [] [] 0 [], run)
theorem cx (K : Res → Option Res) : CtxOk Go.Proofs.Try.prog Γ0 byt0 eqs0 (X K) os := ⟨rfl, rfl, rfl, (fun p hp => by
  rcases List.mem_cons.1 hp with rfl | hp
  · exact impl_packed_1.ok
  cases hp), rfl, rfl, rfl, rfl⟩
theorem t0 (K : Res → Option Res) (k : St → Option Res) (it : St → (St → Option Res) → Option Res) (x8 x9 x10 : Int) (x11 x12 : List Int) (x13 : Int) (x14 : List (List Cl)) : iterS (X K) 0 b0 it (s0 x8 x9 x10 x11 x12 x13 x14) k = l0s x8 x9 x12 x13 x14 (fun x10 x11 => it (s0 x8 x9 x10 x11 x12 x13 x14) k) (fun y1 => k (o0 x8 x9 x12 x13 x14 y1)) (fun r1 r2 r3 r4 => K (m r1 r2 r3 r4)) x10 x11 := by kernel_rfl
theorem i0 (K : Res → Option Res) (k : St → Option Res) (x8 x9 : Int) (x12 : List Int) (x13 : Int) (x14 : List (List Cl)) : ∀ (n : Nat) (x10 : Int) (x11 : List Int), iter (X K) 0 b0 n (s0 x8 x9 x10 x11 x12 x13 x14) k = l0 x8 x9 x12 x13 x14 (fun y1 => k (o0 x8 x9 x12 x13 x14 y1)) (fun r1 r2 r3 r4 => K (m r1 r2 r3 r4)) n x10 x11
  | 0, _, _ => rfl
  | n + 1, x10, x11 => by
    rw [iter_succ, t0, show (fun x10 x11 => iter (X K) 0 b0 n (s0 x8 x9 x10 x11 x12 x13 x14) k) = (fun x10 x11 => l0 x8 x9 x12 x13 x14 (fun y1 => k (o0 x8 x9 x12 x13 x14 y1)) (fun r1 r2 r3 r4 => K (m r1 r2 r3 r4)) n x10 x11) from funext fun x10 => funext fun x11 => i0 K k x8 x9 x12 x13 x14 n x10 x11]; rfl
theorem v0 {K : Res → Option Res} {l : List Lf} {k : St → Option Res} {r : Res} (h : p0 K l k = some r) : ∃ x8 x9 x10 x11 x12 x13 x14, l = [.i x8, .i x9, .i x10, .q (.ints x11), .q (.ints x12), .i x13, .q (.cells x14)] ∧ l0 x8 x9 x12 x13 x14 (fun y1 => k (o0 x8 x9 x12 x13 x14 y1)) (fun r1 r2 r3 r4 => K (m r1 r2 r3 r4)) fuel x10 x11 = some r := by
  unfold p0 at h; split at h
  · exact ⟨_, _, _, _, _, _, _, rfl, h⟩
  · cases h
theorem w0 (K : Res → Option Res) : LpSound Go.Proofs.Try.prog (X K) 0 b0 := lp_ok ((cx K).ok laid) (by rw [show loopsOf b0 = [] from by kernel_rfl]; intro p hp; cases hp) rfl fun p hp hid => by
  rcases List.mem_cons.1 hp with rfl | hp
  · intro st k r h1 h2; obtain ⟨x8, x9, x10, x11, x12, x13, x14, e, h⟩ := v0 (K := K) h2; have := St.like_eq (y := s0 x8 x9 x10 x11 x12 x13 x14) h1 (by kernel_rfl) e; subst this; exact ⟨fuel, (i0 K k x8 x9 x12 x13 x14 fuel x10 x11).trans h⟩
  cases hp
theorem tie (K : Res → Option Res) (a1 a2 a3 : Int) (a4 a5 : List Int) (a6 : Int) (a7 : List (List Cl)) : exec (X K) c (entry 82 [one (.ow 0), one (.int .i64 a1), one (.int .i64 a2), one (.int .i64 a3), one (.fn 115 [0])] [⟨[.int .i64], .ints a4, true, 0⟩] [[.tr 2 2 [.int .i64] (.ints a5), .int .i64 a6, .tr 2 2 [.int .i64, .int .i64, .bool] (.cells a7)]]) (endK (X K)) = g a1 a2 a3 a4 a5 a6 a7 (fun r1 r2 r3 r4 => K (m r1 r2 r3 r4)) := Eq.trans (b := b a1 a2 a3 a4 a5 a6 a7 (fun r1 r2 r3 r4 => K (m r1 r2 r3 r4))) (by kernel_rfl) (by rw [e])
theorem runv {l : List Lf} {K : Res → Option Res} {r : Res} (h : run l K = some r) : ∃ a1 a2 a3 a4 a5 a6 a7, l = [.i a1, .i a2, .i a3, .q (.ints a4), .q (.ints a5), .i a6, .q (.cells a7)] ∧ g a1 a2 a3 a4 a5 a6 a7 (fun r1 r2 r3 r4 => K (m r1 r2 r3 r4)) = some r := by
  unfold run at h; split at h
  · exact ⟨_, _, _, _, _, _, _, rfl, h⟩
  · cases h
theorem ok : Con Go.Proofs.Try.prog con := con_of (fn := Go.Proofs.Try.f199) (c := c) (Fi := fi) (X := X) (fun_of laid (by kernel_rfl) (by kernel_rfl) (by kernel_rfl) rfl (by kernel_rfl) (by kernel_rfl) cx (fun _ => rfl) (fun _ => rfl) (fun K => by
    rw [show loopsOf c = [(0, b0)] from by kernel_rfl]; intro p hp
    rcases List.mem_cons.1 hp with rfl | hp
    · exact w0 K
    cases hp)) fun xs rows boxes K r hl hr => by
  obtain ⟨a1, a2, a3, a4, a5, a6, a7, e, h⟩ := runv hr
  have := St.like_eq (y := a a1 a2 a3 a4 a5 a6 a7) hl (by kernel_rfl) e
  obtain ⟨rfl, rfl, rfl⟩ := argSt_inj this
  exact (tie K a1 a2 a3 a4 a5 a6 a7).trans h
end slices_siftDownCmpFunc_int
namespace slices_heapSortCmpFunc_int
noncomputable def c : Code := bodyOf Go.Proofs.Try.f188
noncomputable def fi : Fin := ⟨Γ0, [], [], [true], [([.sl [.int .i64] 8, .int .i64, .sl [.int .i64, .int .i64, .bool] 24], [0, 1, 0])], []⟩
noncomputable def m (r1 r2 : List Int) (r3 : Int) (r4 : List (List Cl)) : Res := ⟨[], [some ⟨[.int .i64], .ints r1, true, 0⟩], [], [[.tr 2 2 [.int .i64] (.ints r2), .int .i64 r3, .tr 2 2 [.int .i64, .int .i64, .bool] (.cells r4)]], []⟩
noncomputable def b0 : Code := codeAt c [1, 1, 1, 0, 1, 0, 0]
noncomputable def b2 : Code := codeAt c [1, 1, 1, 1, 1, 0, 0]
noncomputable def s0 (x7 x8 x9 x10 : Int) (x11 x12 : List Int) (x13 : Int) (x14 : List (List Cl)) : St := ⟨mkT 60 [(0, one (.ow 0)), (3, one (.fn 115 [0])), (8, one (.int .i64 x7)), (9, one (.int .i64 x8)), (10, one (.int .i64 x9)), (11, one (.int .i64 x10))], [(0, ⟨[.int .i64], .ints x11, true, 0⟩)], [(0, [.tr 2 2 [.int .i64] (.ints x12), .int .i64 x13, .tr 2 2 [.int .i64, .int .i64, .bool] (.cells x14)])]⟩
noncomputable def l0s (x7 x8 x9 : Int) (rec : Int → List Int → List Int → Int → List (List Cl) → Option Res) (k : List Int → List Int → Int → List (List Cl) → Option Res) (x10 : Int) (x11 x12 : List Int) (x13 : Int) (x14 : List (List Cl)) : Option Res :=
  bif decide (0 ≤ x10) then (slices_siftDownCmpFunc_int.g x10 x9 x7 x11 x12 x13 x14 fun r15 r16 r17 r18 =>
    rec (IntKind.i64.wrap (x10 - 1)) r15 r16 r17 r18)
  else k x11 x12 x13 x14
noncomputable def l0 (x7 x8 x9 : Int) (k : List Int → List Int → Int → List (List Cl) → Option Res) : Nat → Int → List Int → List Int → Int → List (List Cl) → Option Res
  | 0, _, _, _, _, _ => none
  | n + 1, x10, x11, x12, x13, x14 => l0s x7 x8 x9 (fun x10 x11 x12 x13 x14 => l0 x7 x8 x9 k n x10 x11 x12 x13 x14) k x10 x11 x12 x13 x14
noncomputable def o0 (x7 x8 x9 : Int) (y4 y5 : List Int) (y6 : Int) (y7 : List (List Cl)) : St := ⟨mkT 60 [(0, one (.ow 0)), (3, one (.fn 115 [0])), (8, one (.int .i64 x7)), (9, one (.int .i64 x8)), (10, one (.int .i64 x9))], [(0, ⟨[.int .i64], .ints y4, true, 0⟩)], [(0, [.tr 2 2 [.int .i64] (.ints y5), .int .i64 y6, .tr 2 2 [.int .i64, .int .i64, .bool] (.cells y7)])]⟩
noncomputable def p0 (K : Res → Option Res) : List Lf → (St → Option Res) → Option Res
  | [.i x7, .i x8, .i x9, .i x10, .q (.ints x11), .q (.ints x12), .i x13, .q (.cells x14)], k => l0 x7 x8 x9 (fun y4 y5 y6 y7 => k (o0 x7 x8 x9 y4 y5 y6 y7)) fuel x10 x11 x12 x13 x14
  | _, _ => none
noncomputable def s2 (x23 x24 x25 : Int) (x26 x27 : List Int) (x28 : Int) (x29 : List (List Cl)) : St := ⟨mkT 60 [(0, one (.ow 0)), (3, one (.fn 115 [0])), (8, one (.int .i64 x23)), (9, one (.int .i64 x24)), (12, one (.int .i64 x25))], [(0, ⟨[.int .i64], .ints x26, true, 0⟩)], [(0, [.tr 2 2 [.int .i64] (.ints x27), .int .i64 x28, .tr 2 2 [.int .i64, .int .i64, .bool] (.cells x29)])]⟩
noncomputable def l2s (x23 x24 : Int) (rec : Int → List Int → List Int → Int → List (List Cl) → Option Res) (k : List Int → List Int → Int → List (List Cl) → Option Res) (x25 : Int) (x26 x27 : List Int) (x28 : Int) (x29 : List (List Cl)) : Option Res :=
  bif decide (0 ≤ x25) then (bif decide (0 ≤ IntKind.i64.wrap (x23 + x25)) && decide (IntKind.i64.wrap (x23 + x25) < (x26.length : Int)) then (bif decide (0 ≤ x23) && decide (x23 < (x26.length : Int)) then (bif decide (0 ≤ x23) && decide (x23 < (x26.length : Int)) then (bif decide (0 ≤ IntKind.i64.wrap (x23 + x25)) && decide (IntKind.i64.wrap (x23 + x25) < ((x26.set x23.toNat (x26.getD ((IntKind.i64.wrap (x23 + x25)).toNat) 0)).length : Int)) then (slices_siftDownCmpFunc_int.g x24 x25 x23 ((x26.set x23.toNat (x26.getD ((IntKind.i64.wrap (x23 + x25)).toNat) 0)).set ((IntKind.i64.wrap (x23 + x25)).toNat) (x26.getD x23.toNat 0)) x27 x28 x29 fun r30 r31 r32 r33 =>
            rec (IntKind.i64.wrap (x25 - 1)) r30 r31 r32 r33)
          else none)
        else none)
      else none)
    else none)
  else k x26 x27 x28 x29
noncomputable def l2 (x23 x24 : Int) (k : List Int → List Int → Int → List (List Cl) → Option Res) : Nat → Int → List Int → List Int → Int → List (List Cl) → Option Res
  | 0, _, _, _, _, _ => none
  | n + 1, x25, x26, x27, x28, x29 => l2s x23 x24 (fun x25 x26 x27 x28 x29 => l2 x23 x24 k n x25 x26 x27 x28 x29) k x25 x26 x27 x28 x29
noncomputable def o2 (x23 x24 : Int) (y1 y2 : List Int) (y3 : Int) (y4 : List (List Cl)) : St := ⟨mkT 60 [], [(0, ⟨[.int .i64], .ints y1, true, 0⟩)], [(0, [.tr 2 2 [.int .i64] (.ints y2), .int .i64 y3, .tr 2 2 [.int .i64, .int .i64, .bool] (.cells y4)])]⟩
noncomputable def p2 (K : Res → Option Res) : List Lf → (St → Option Res) → Option Res
  | [.i x23, .i x24, .i x25, .q (.ints x26), .q (.ints x27), .i x28, .q (.cells x29)], k => l2 x23 x24 (fun y1 y2 y3 y4 => k (o2 x23 x24 y1 y2 y3 y4)) fuel x25 x26 x27 x28 x29
  | _, _ => none
noncomputable def os : List (FuncId × St × (List Lf → (Res → Option Res) → Option Res)) := [slices_siftDownCmpFunc_int.con]
noncomputable def X (K : Res → Option Res) : Ctx := { Γ := Γ0, orc := orcOf os, io := [(199, [⟨true, 0, 1⟩, ⟨false, 0, 1⟩, ⟨false, 0, 1⟩, ⟨false, 0, 1⟩, ⟨false, 0, 1⟩])], share := [], mvl := [], bun := [], cut := [], own := [], cin := [(0, ⟨[0, 3, 8, 9, 10, 11], [(0, 0)], [0], [], [], []⟩), (2, ⟨[0, 3, 8, 9, 12], [(0, 0)], [0], [], [], []⟩)], cout := [(0, ⟨[0, 3, 8, 9, 10], [(0, 0)], [0], [], [], []⟩), (2, ⟨[], [(0, 0)], [0], [], [], []⟩)], lp := lpOf [(0, s0 0 0 0 0 [] [] 0 [], p0 K), (2, s2 0 0 0 [] [] 0 [], p2 K)], kl := [], nk := true, eqs := eqs0, byt := byt0, fin := finK fi K }
noncomputable def b (a1 a2 : Int) (a3 a4 : List Int) (a5 : Int) (a6 : List (List Cl)) (R : List Int → List Int → Int → List (List Cl) → Option Res) : Option Res :=
  l0 a1 0 (IntKind.i64.wrap (a2 - a1)) (fun y19 y20 y21 y22 => 
  l2 a1 0 (fun y34 y35 y36 y37 => 
  R y34 y35 y36 y37) fuel (IntKind.i64.wrap ((IntKind.i64.wrap (a2 - a1)) - 1)) y19 y20 y21 y22) fuel (IntKind.i64.wrap ((IntKind.i64.wrap ((IntKind.i64.wrap (a2 - a1)) - 1)).tdiv 2)) a3 a4 a5 a6
theorem gx : ∃ x : Int → Int → List Int → List Int → Int → List (List Cl) → (List Int → List Int → Int → List (List Cl) → Option Res) → Option Res, x = b := ⟨_, rfl⟩
noncomputable def g : Int → Int → List Int → List Int → Int → List (List Cl) → (List Int → List Int → Int → List (List Cl) → Option Res) → Option Res := Classical.choose gx
theorem e : g = b := Classical.choose_spec gx
noncomputable def run : List Lf → (Res → Option Res) → Option Res
  | [.i a1, .i a2, .q (.ints a3), .q (.ints a4), .i a5, .q (.cells a6)], K => g a1 a2 a3 a4 a5 a6 (fun r1 r2 r3 r4 => K (m r1 r2 r3 r4))
  | _, _ => none
noncomputable def a (a1 a2 : Int) (a3 a4 : List Int) (a5 : Int) (a6 : List (List Cl)) : St := argSt [one (.ow 0), one (.int .i64 a1), one (.int .i64 a2), one (.fn 115 [0])] [⟨[.int .i64], .ints a3, true, 0⟩] [[.tr 2 2 [.int .i64] (.ints a4), .int .i64 a5, .tr 2 2 [.int .i64, .int .i64, .bool] (.cells a6)]]
noncomputable def con : FuncId × St × (List Lf → (Res → Option Res) → Option Res) := (188, a 0 0 [] [] 0 [], run)
theorem cx (K : Res → Option Res) : CtxOk Go.Proofs.Try.prog Γ0 byt0 eqs0 (X K) os := ⟨rfl, rfl, rfl, (fun p hp => by
  rcases List.mem_cons.1 hp with rfl | hp
  · exact slices_siftDownCmpFunc_int.ok
  cases hp), rfl, rfl, rfl, rfl⟩
theorem t0 (K : Res → Option Res) (k : St → Option Res) (it : St → (St → Option Res) → Option Res) (x7 x8 x9 x10 : Int) (x11 x12 : List Int) (x13 : Int) (x14 : List (List Cl)) : iterS (X K) 0 b0 it (s0 x7 x8 x9 x10 x11 x12 x13 x14) k = l0s x7 x8 x9 (fun x10 x11 x12 x13 x14 => it (s0 x7 x8 x9 x10 x11 x12 x13 x14) k) (fun y4 y5 y6 y7 => k (o0 x7 x8 x9 y4 y5 y6 y7)) x10 x11 x12 x13 x14 := by kernel_rfl
theorem i0 (K : Res → Option Res) (k : St → Option Res) (x7 x8 x9 : Int) : ∀ (n : Nat) (x10 : Int) (x11 x12 : List Int) (x13 : Int) (x14 : List (List Cl)), iter (X K) 0 b0 n (s0 x7 x8 x9 x10 x11 x12 x13 x14) k = l0 x7 x8 x9 (fun y4 y5 y6 y7 => k (o0 x7 x8 x9 y4 y5 y6 y7)) n x10 x11 x12 x13 x14
  | 0, _, _, _, _, _ => rfl
  | n + 1, x10, x11, x12, x13, x14 => by
    rw [iter_succ, t0, show (fun x10 x11 x12 x13 x14 => iter (X K) 0 b0 n (s0 x7 x8 x9 x10 x11 x12 x13 x14) k) = (fun x10 x11 x12 x13 x14 => l0 x7 x8 x9 (fun y4 y5 y6 y7 => k (o0 x7 x8 x9 y4 y5 y6 y7)) n x10 x11 x12 x13 x14) from funext fun x10 => funext fun x11 => funext fun x12 => funext fun x13 => funext fun x14 => i0 K k x7 x8 x9 n x10 x11 x12 x13 x14]; rfl
theorem v0 {K : Res → Option Res} {l : List Lf} {k : St → Option Res} {r : Res} (h : p0 K l k = some r) : ∃ x7 x8 x9 x10 x11 x12 x13 x14, l = [.i x7, .i x8, .i x9, .i x10, .q (.ints x11), .q (.ints x12), .i x13, .q (.cells x14)] ∧ l0 x7 x8 x9 (fun y4 y5 y6 y7 => k (o0 x7 x8 x9 y4 y5 y6 y7)) fuel x10 x11 x12 x13 x14 = some r := by
  unfold p0 at h; split at h
  · exact ⟨_, _, _, _, _, _, _, _, rfl, h⟩
  · cases h
theorem t2 (K : Res → Option Res) (k : St → Option Res) (it : St → (St → Option Res) → Option Res) (x23 x24 x25 : Int) (x26 x27 : List Int) (x28 : Int) (x29 : List (List Cl)) : iterS (X K) 2 b2 it (s2 x23 x24 x25 x26 x27 x28 x29) k = l2s x23 x24 (fun x25 x26 x27 x28 x29 => it (s2 x23 x24 x25 x26 x27 x28 x29) k) (fun y1 y2 y3 y4 => k (o2 x23 x24 y1 y2 y3 y4)) x25 x26 x27 x28 x29 := by kernel_rfl
theorem i2 (K : Res → Option Res) (k : St → Option Res) (x23 x24 : Int) : ∀ (n : Nat) (x25 : Int) (x26 x27 : List Int) (x28 : Int) (x29 : List (List Cl)), iter (X K) 2 b2 n (s2 x23 x24 x25 x26 x27 x28 x29) k = l2 x23 x24 (fun y1 y2 y3 y4 => k (o2 x23 x24 y1 y2 y3 y4)) n x25 x26 x27 x28 x29
  | 0, _, _, _, _, _ => rfl
  | n + 1, x25, x26, x27, x28, x29 => by
    rw [iter_succ, t2, show (fun x25 x26 x27 x28 x29 => iter (X K) 2 b2 n (s2 x23 x24 x25 x26 x27 x28 x29) k) = (fun x25 x26 x27 x28 x29 => l2 x23 x24 (fun y1 y2 y3 y4 => k (o2 x23 x24 y1 y2 y3 y4)) n x25 x26 x27 x28 x29) from funext fun x25 => funext fun x26 => funext fun x27 => funext fun x28 => funext fun x29 => i2 K k x23 x24 n x25 x26 x27 x28 x29]; rfl
theorem v2 {K : Res → Option Res} {l : List Lf} {k : St → Option Res} {r : Res} (h : p2 K l k = some r) : ∃ x23 x24 x25 x26 x27 x28 x29, l = [.i x23, .i x24, .i x25, .q (.ints x26), .q (.ints x27), .i x28, .q (.cells x29)] ∧ l2 x23 x24 (fun y1 y2 y3 y4 => k (o2 x23 x24 y1 y2 y3 y4)) fuel x25 x26 x27 x28 x29 = some r := by
  unfold p2 at h; split at h
  · exact ⟨_, _, _, _, _, _, _, rfl, h⟩
  · cases h
theorem w0 (K : Res → Option Res) : LpSound Go.Proofs.Try.prog (X K) 0 b0 := lp_ok ((cx K).ok laid) (by rw [show loopsOf b0 = [] from by kernel_rfl]; intro p hp; cases hp) rfl fun p hp hid => by
  rcases List.mem_cons.1 hp with rfl | hp
  · intro st k r h1 h2; obtain ⟨x7, x8, x9, x10, x11, x12, x13, x14, e, h⟩ := v0 (K := K) h2; have := St.like_eq (y := s0 x7 x8 x9 x10 x11 x12 x13 x14) h1 (by kernel_rfl) e; subst this; exact ⟨fuel, (i0 K k x7 x8 x9 fuel x10 x11 x12 x13 x14).trans h⟩
  rcases List.mem_cons.1 hp with rfl | hp
  · exact absurd hid (by simp)
  cases hp
theorem w2 (K : Res → Option Res) : LpSound Go.Proofs.Try.prog (X K) 2 b2 := lp_ok ((cx K).ok laid) (by rw [show loopsOf b2 = [] from by kernel_rfl]; intro p hp; cases hp) rfl fun p hp hid => by
  rcases List.mem_cons.1 hp with rfl | hp
  · exact absurd hid (by simp)
  rcases List.mem_cons.1 hp with rfl | hp
  · intro st k r h1 h2; obtain ⟨x23, x24, x25, x26, x27, x28, x29, e, h⟩ := v2 (K := K) h2; have := St.like_eq (y := s2 x23 x24 x25 x26 x27 x28 x29) h1 (by kernel_rfl) e; subst this; exact ⟨fuel, (i2 K k x23 x24 fuel x25 x26 x27 x28 x29).trans h⟩
  cases hp
theorem tie (K : Res → Option Res) (a1 a2 : Int) (a3 a4 : List Int) (a5 : Int) (a6 : List (List Cl)) : exec (X K) c (entry 60 [one (.ow 0), one (.int .i64 a1), one (.int .i64 a2), one (.fn 115 [0])] [⟨[.int .i64], .ints a3, true, 0⟩] [[.tr 2 2 [.int .i64] (.ints a4), .int .i64 a5, .tr 2 2 [.int .i64, .int .i64, .bool] (.cells a6)]]) (endK (X K)) = g a1 a2 a3 a4 a5 a6 (fun r1 r2 r3 r4 => K (m r1 r2 r3 r4)) := Eq.trans (b := b a1 a2 a3 a4 a5 a6 (fun r1 r2 r3 r4 => K (m r1 r2 r3 r4))) (by kernel_rfl) (by rw [e])
theorem runv {l : List Lf} {K : Res → Option Res} {r : Res} (h : run l K = some r) : ∃ a1 a2 a3 a4 a5 a6, l = [.i a1, .i a2, .q (.ints a3), .q (.ints a4), .i a5, .q (.cells a6)] ∧ g a1 a2 a3 a4 a5 a6 (fun r1 r2 r3 r4 => K (m r1 r2 r3 r4)) = some r := by
  unfold run at h; split at h
  · exact ⟨_, _, _, _, _, _, rfl, h⟩
  · cases h
theorem ok : Con Go.Proofs.Try.prog con := con_of (fn := Go.Proofs.Try.f188) (c := c) (Fi := fi) (X := X) (fun_of laid (by kernel_rfl) (by kernel_rfl) (by kernel_rfl) rfl (by kernel_rfl) (by kernel_rfl) cx (fun _ => rfl) (fun _ => rfl) (fun K => by
    rw [show loopsOf c = [(0, b0), (2, b2)] from by kernel_rfl]; intro p hp
    rcases List.mem_cons.1 hp with rfl | hp
    · exact w0 K
    rcases List.mem_cons.1 hp with rfl | hp
    · exact w2 K
    cases hp)) fun xs rows boxes K r hl hr => by
  obtain ⟨a1, a2, a3, a4, a5, a6, e, h⟩ := runv hr
  have := St.like_eq (y := a a1 a2 a3 a4 a5 a6) hl (by kernel_rfl) e
  obtain ⟨rfl, rfl, rfl⟩ := argSt_inj this
  exact (tie K a1 a2 a3 a4 a5 a6).trans h
end slices_heapSortCmpFunc_int
namespace slices_nextPowerOfTwo
noncomputable def c : Code := bodyOf Go.Proofs.Try.f200
noncomputable def fi : Fin := ⟨Γ0, [(.tmp 2, 172)], [[1]], [], [], []⟩
noncomputable def m (r1 : Int) : Res := ⟨[⟨false, [.int .u64 r1]⟩], [], [], [], []⟩
noncomputable def os : List (FuncId × St × (List Lf → (Res → Option Res) → Option Res)) := [bits_Len.con]
noncomputable def X (K : Res → Option Res) : Ctx := { Γ := Γ0, orc := orcOf os, io := [], share := [], mvl := [], bun := [], cut := [], own := [], cin := [], cout := [], lp := lpOf [], kl := [], nk := true, eqs := eqs0, byt := byt0, fin := finK fi K }
noncomputable def b (a1 : Int) (R : Int → Option Res) : Option Res :=
  bits_Len.g (IntKind.u64.wrap a1) fun r2 =>
  bif decide (r2 < 0) then none
  else R (IntKind.u64.wrap (1 * 2 ^ (min r2.toNat 64)))
theorem gx : ∃ x : Int → (Int → Option Res) → Option Res, x = b := ⟨_, rfl⟩
noncomputable def g : Int → (Int → Option Res) → Option Res := Classical.choose gx
theorem e : g = b := Classical.choose_spec gx
noncomputable def run : List Lf → (Res → Option Res) → Option Res
  | [.i a1], K => g a1 (fun r1 => K (m r1))
  | _, _ => none
noncomputable def a (a1 : Int) : St := argSt [one (.int .i64 a1)] [] []
noncomputable def con : FuncId × St × (List Lf → (Res → Option Res) → Option Res) := (200, a 0, run)
theorem cx (K : Res → Option Res) : CtxOk Go.Proofs.Try.prog Γ0 byt0 eqs0 (X K) os := ⟨rfl, rfl, rfl, (fun p hp => by
  rcases List.mem_cons.1 hp with rfl | hp
  · exact bits_Len.ok
  cases hp), rfl, rfl, rfl, rfl⟩
theorem tie (K : Res → Option Res) (a1 : Int) : exec (X K) c (entry 7 [one (.int .i64 a1)] [] []) (endK (X K)) = g a1 (fun r1 => K (m r1)) := Eq.trans (b := b a1 (fun r1 => K (m r1))) (by kernel_rfl) (by rw [e])
theorem runv {l : List Lf} {K : Res → Option Res} {r : Res} (h : run l K = some r) : ∃ a1, l = [.i a1] ∧ g a1 (fun r1 => K (m r1)) = some r := by
  unfold run at h; split at h
  · exact ⟨_, rfl, h⟩
  · cases h
theorem ok : Con Go.Proofs.Try.prog con := con_of (fn := Go.Proofs.Try.f200) (c := c) (Fi := fi) (X := X) (fun_of laid (by kernel_rfl) (by kernel_rfl) (by kernel_rfl) rfl (by kernel_rfl) (by kernel_rfl) cx (fun _ => rfl) (fun _ => rfl) (fun K => by
    rw [show loopsOf c = [] from by kernel_rfl]; intro p hp
    cases hp)) fun xs rows boxes K r hl hr => by
  obtain ⟨a1, e, h⟩ := runv hr
  have := St.like_eq (y := a a1) hl (by kernel_rfl) e
  obtain ⟨rfl, rfl, rfl⟩ := argSt_inj this
  exact (tie K a1).trans h
end slices_nextPowerOfTwo
namespace slices_xorshift_Next
noncomputable def c : Code := bodyOf Go.Proofs.Try.f201
noncomputable def fi : Fin := ⟨Γ0, [(.tmp 2, 197)], [[1]], [], [([.int .u64], [1])], []⟩
noncomputable def m (r1 r2 : Int) : Res := ⟨[⟨false, [.int .u64 r1]⟩], [], [], [[.int .u64 r2]], []⟩
noncomputable def os : List (FuncId × St × (List Lf → (Res → Option Res) → Option Res)) := []
noncomputable def X (K : Res → Option Res) : Ctx := { Γ := Γ0, orc := orcOf os, io := [], share := [], mvl := [], bun := [], cut := [], own := [], cin := [], cout := [], lp := lpOf [], kl := [], nk := true, eqs := eqs0, byt := byt0, fin := finK fi K }
noncomputable def b (a1 : Int) (R : Int → Int → Option Res) : Option Res :=
  R (arith.bits .xor .u64 (arith.bits .xor .u64 (arith.bits .xor .u64 a1 (IntKind.u64.wrap (a1 * 2 ^ 13))) ((arith.bits .xor .u64 a1 (IntKind.u64.wrap (a1 * 2 ^ 13))).fdiv (2 ^ 7))) (IntKind.u64.wrap ((arith.bits .xor .u64 (arith.bits .xor .u64 a1 (IntKind.u64.wrap (a1 * 2 ^ 13))) ((arith.bits .xor .u64 a1 (IntKind.u64.wrap (a1 * 2 ^ 13))).fdiv (2 ^ 7))) * 2 ^ 17))) (arith.bits .xor .u64 (arith.bits .xor .u64 (arith.bits .xor .u64 a1 (IntKind.u64.wrap (a1 * 2 ^ 13))) ((arith.bits .xor .u64 a1 (IntKind.u64.wrap (a1 * 2 ^ 13))).fdiv (2 ^ 7))) (IntKind.u64.wrap ((arith.bits .xor .u64 (arith.bits .xor .u64 a1 (IntKind.u64.wrap (a1 * 2 ^ 13))) ((arith.bits .xor .u64 a1 (IntKind.u64.wrap (a1 * 2 ^ 13))).fdiv (2 ^ 7))) * 2 ^ 17)))
theorem gx : ∃ x : Int → (Int → Int → Option Res) → Option Res, x = b := ⟨_, rfl⟩
noncomputable def g : Int → (Int → Int → Option Res) → Option Res := Classical.choose gx
theorem e : g = b := Classical.choose_spec gx
noncomputable def run : List Lf → (Res → Option Res) → Option Res
  | [.i a1], K => g a1 (fun r1 r2 => K (m r1 r2))
  | _, _ => none
noncomputable def a (a1 : Int) : St := argSt [one (.bp 0 0)] [] [[.int .u64 a1]]
noncomputable def con : FuncId × St × (List Lf → (Res → Option Res) → Option Res) := (201, a 0, run)
theorem cx (K : Res → Option Res) : CtxOk Go.Proofs.Try.prog Γ0 byt0 eqs0 (X K) os := ⟨rfl, rfl, rfl, (fun p hp => by
  cases hp), rfl, rfl, rfl, rfl⟩
theorem tie (K : Res → Option Res) (a1 : Int) : exec (X K) c (entry 33 [one (.bp 0 0)] [] [[.int .u64 a1]]) (endK (X K)) = g a1 (fun r1 r2 => K (m r1 r2)) := Eq.trans (b := b a1 (fun r1 r2 => K (m r1 r2))) (by kernel_rfl) (by rw [e])
theorem runv {l : List Lf} {K : Res → Option Res} {r : Res} (h : run l K = some r) : ∃ a1, l = [.i a1] ∧ g a1 (fun r1 r2 => K (m r1 r2)) = some r := by
  unfold run at h; split at h
  · exact ⟨_, rfl, h⟩
  · cases h
theorem ok : Con Go.Proofs.Try.prog con := con_of (fn := Go.Proofs.Try.f201) (c := c) (Fi := fi) (X := X) (fun_of laid (by kernel_rfl) (by kernel_rfl) (by kernel_rfl) rfl (by kernel_rfl) (by kernel_rfl) cx (fun _ => rfl) (fun _ => rfl) (fun K => by
    rw [show loopsOf c = [] from by kernel_rfl]; intro p hp
    cases hp)) fun xs rows boxes K r hl hr => by
  obtain ⟨a1, e, h⟩ := runv hr
  have := St.like_eq (y := a a1) hl (by kernel_rfl) e
  obtain ⟨rfl, rfl, rfl⟩ := argSt_inj this
  exact (tie K a1).trans h
end slices_xorshift_Next
namespace slices_breakPatternsCmpFunc_int
noncomputable def c : Code := bodyOf Go.Proofs.Try.f189
noncomputable def fi : Fin := ⟨Γ0, [], [], [true], [([.sl [.int .i64] 8, .int .i64, .sl [.int .i64, .int .i64, .bool] 24], [0, 1, 0])], []⟩
noncomputable def m (r1 r2 : List Int) (r3 : Int) (r4 : List (List Cl)) : Res := ⟨[], [some ⟨[.int .i64], .ints r1, true, 0⟩], [], [[.tr 2 2 [.int .i64] (.ints r2), .int .i64 r3, .tr 2 2 [.int .i64, .int .i64, .bool] (.cells r4)]], []⟩
noncomputable def b0 : Code := codeAt c [1, 1, 0, 1, 1, 1, 0, 0]
noncomputable def s0 (x8 x9 x10 x11 : Int) (x12 : List Int) (x13 : Int) (x14 : List Int) (x15 : Int) (x16 : List (List Cl)) : St := ⟨mkT 67 [(0, one (.ow 0)), (1, one (.int .i64 x8)), (8, one (.int .i64 x9)), (9, one (.bp 5128 0)), (10, one (.int .u64 x10)), (11, one (.int .i64 x11))], [(0, ⟨[.int .i64], .ints x12, true, 0⟩)], [(5128, [.int .u64 x13]), (0, [.tr 2 2 [.int .i64] (.ints x14), .int .i64 x15, .tr 2 2 [.int .i64, .int .i64, .bool] (.cells x16)])]⟩
noncomputable def l0s (x8 x9 x10 : Int) (x14 : List Int) (x15 : Int) (x16 : List (List Cl)) (rec : Int → List Int → Int → Option Res) (k : List Int → Option Res) (x11 : Int) (x12 : List Int) (x13 : Int) : Option Res :=
  bif decide (x11 ≤ IntKind.i64.wrap ((IntKind.i64.wrap (x8 + (IntKind.i64.wrap ((IntKind.i64.wrap (x9.tdiv 4)) * 2)))) + 1)) then (slices_xorshift_Next.g x13 fun r17 r18 =>
    bif decide (x9 ≤ IntKind.i64.wrap (arith.bits .and .u64 r17 (IntKind.u64.wrap (x10 - 1)))) then (bif decide (0 ≤ IntKind.i64.wrap (x8 + (IntKind.i64.wrap ((IntKind.i64.wrap (arith.bits .and .u64 r17 (IntKind.u64.wrap (x10 - 1)))) - x9)))) && decide (IntKind.i64.wrap (x8 + (IntKind.i64.wrap ((IntKind.i64.wrap (arith.bits .and .u64 r17 (IntKind.u64.wrap (x10 - 1)))) - x9))) < (x12.length : Int)) then (bif decide (0 ≤ x11) && decide (x11 < (x12.length : Int)) then (bif decide (0 ≤ x11) && decide (x11 < (x12.length : Int)) then (bif decide (0 ≤ IntKind.i64.wrap (x8 + (IntKind.i64.wrap ((IntKind.i64.wrap (arith.bits .and .u64 r17 (IntKind.u64.wrap (x10 - 1)))) - x9)))) && decide (IntKind.i64.wrap (x8 + (IntKind.i64.wrap ((IntKind.i64.wrap (arith.bits .and .u64 r17 (IntKind.u64.wrap (x10 - 1)))) - x9))) < ((x12.set x11.toNat (x12.getD ((IntKind.i64.wrap (x8 + (IntKind.i64.wrap ((IntKind.i64.wrap (arith.bits .and .u64 r17 (IntKind.u64.wrap (x10 - 1)))) - x9)))).toNat) 0)).length : Int)) then rec (IntKind.i64.wrap (x11 + 1)) ((x12.set x11.toNat (x12.getD ((IntKind.i64.wrap (x8 + (IntKind.i64.wrap ((IntKind.i64.wrap (arith.bits .and .u64 r17 (IntKind.u64.wrap (x10 - 1)))) - x9)))).toNat) 0)).set ((IntKind.i64.wrap (x8 + (IntKind.i64.wrap ((IntKind.i64.wrap (arith.bits .and .u64 r17 (IntKind.u64.wrap (x10 - 1)))) - x9)))).toNat) (x12.getD x11.toNat 0)) r18
            else none)
          else none)
        else none)
      else none)
    else bif decide (0 ≤ IntKind.i64.wrap (x8 + (IntKind.i64.wrap (arith.bits .and .u64 r17 (IntKind.u64.wrap (x10 - 1)))))) && decide (IntKind.i64.wrap (x8 + (IntKind.i64.wrap (arith.bits .and .u64 r17 (IntKind.u64.wrap (x10 - 1))))) < (x12.length : Int)) then (bif decide (0 ≤ x11) && decide (x11 < (x12.length : Int)) then (bif decide (0 ≤ x11) && decide (x11 < (x12.length : Int)) then (bif decide (0 ≤ IntKind.i64.wrap (x8 + (IntKind.i64.wrap (arith.bits .and .u64 r17 (IntKind.u64.wrap (x10 - 1)))))) && decide (IntKind.i64.wrap (x8 + (IntKind.i64.wrap (arith.bits .and .u64 r17 (IntKind.u64.wrap (x10 - 1))))) < ((x12.set x11.toNat (x12.getD ((IntKind.i64.wrap (x8 + (IntKind.i64.wrap (arith.bits .and .u64 r17 (IntKind.u64.wrap (x10 - 1)))))).toNat) 0)).length : Int)) then rec (IntKind.i64.wrap (x11 + 1)) ((x12.set x11.toNat (x12.getD ((IntKind.i64.wrap (x8 + (IntKind.i64.wrap (arith.bits .and .u64 r17 (IntKind.u64.wrap (x10 - 1)))))).toNat) 0)).set ((IntKind.i64.wrap (x8 + (IntKind.i64.wrap (arith.bits .and .u64 r17 (IntKind.u64.wrap (x10 - 1)))))).toNat) (x12.getD x11.toNat 0)) r18
          else none)
        else none)
      else none)
    else none)
  else k x12
noncomputable def l0 (x8 x9 x10 : Int) (x14 : List Int) (x15 : Int) (x16 : List (List Cl)) (k : List Int → Option Res) : Nat → Int → List Int → Int → Option Res
  | 0, _, _, _ => none
  | n + 1, x11, x12, x13 => l0s x8 x9 x10 x14 x15 x16 (fun x11 x12 x13 => l0 x8 x9 x10 x14 x15 x16 k n x11 x12 x13) k x11 x12 x13
noncomputable def o0 (x8 x9 x10 : Int) (x14 : List Int) (x15 : Int) (x16 : List (List Cl)) (y1 : List Int) : St := ⟨mkT 67 [], [(0, ⟨[.int .i64], .ints y1, true, 0⟩)], [(0, [.tr 2 2 [.int .i64] (.ints x14), .int .i64 x15, .tr 2 2 [.int .i64, .int .i64, .bool] (.cells x16)])]⟩
noncomputable def p0 (K : Res → Option Res) : List Lf → (St → Option Res) → Option Res
  | [.i x8, .i x9, .i x10, .i x11, .q (.ints x12), .i x13, .q (.ints x14), .i x15, .q (.cells x16)], k => l0 x8 x9 x10 x14 x15 x16 (fun y1 => k (o0 x8 x9 x10 x14 x15 x16 y1)) fuel x11 x12 x13
  | _, _ => none
noncomputable def os : List (FuncId × St × (List Lf → (Res → Option Res) → Option Res)) := [slices_nextPowerOfTwo.con, slices_xorshift_Next.con]
noncomputable def X (K : Res → Option Res) : Ctx := { Γ := Γ0, orc := orcOf os, io := [], share := [], mvl := [], bun := [], cut := [], own := [], cin := [(0, ⟨[0, 1, 8, 9, 10, 11], [(0, 0)], [5128, 0], [], [], []⟩)], cout := [(0, ⟨[], [(0, 0)], [0], [], [], []⟩)], lp := lpOf [(0, s0 0 0 0 0 [] 0 [] 0 [], p0 K)], kl := [], nk := true, eqs := eqs0, byt := byt0, fin := finK fi K }
noncomputable def b (a1 a2 : Int) (a3 a4 : List Int) (a5 : Int) (a6 : List (List Cl)) (R : List Int → List Int → Int → List (List Cl) → Option Res) : Option Res :=
  bif decide (8 ≤ IntKind.i64.wrap (a2 - a1)) then (slices_nextPowerOfTwo.g (IntKind.i64.wrap (a2 - a1)) fun r7 =>
    l0 a1 (IntKind.i64.wrap (a2 - a1)) r7 a4 a5 a6 (fun y19 => 
    R y19 a4 a5 a6) fuel (IntKind.i64.wrap ((IntKind.i64.wrap (a1 + (IntKind.i64.wrap ((IntKind.i64.wrap ((IntKind.i64.wrap (a2 - a1)).tdiv 4)) * 2)))) - 1)) a3 (IntKind.u64.wrap (IntKind.i64.wrap (a2 - a1))))
  else R a3 a4 a5 a6
theorem gx : ∃ x : Int → Int → List Int → List Int → Int → List (List Cl) → (List Int → List Int → Int → List (List Cl) → Option Res) → Option Res, x = b := ⟨_, rfl⟩
noncomputable def g : Int → Int → List Int → List Int → Int → List (List Cl) → (List Int → List Int → Int → List (List Cl) → Option Res) → Option Res := Classical.choose gx
theorem e : g = b := Classical.choose_spec gx
noncomputable def run : List Lf → (Res → Option Res) → Option Res
  | [.i a1, .i a2, .q (.ints a3), .q (.ints a4), .i a5, .q (.cells a6)], K => g a1 a2 a3 a4 a5 a6 (fun r1 r2 r3 r4 => K (m r1 r2 r3 r4))
  | _, _ => none
noncomputable def a (a1 a2 : Int) (a3 a4 : List Int) (a5 : Int) (a6 : List (List Cl)) : St := argSt [one (.ow 0), one (.int .i64 a1), one (.int .i64 a2), one (.fn 115 [0])] [⟨[.int .i64], .ints a3, true, 0⟩] [[.tr 2 2 [.int .i64] (.ints a4), .int .i64 a5, .tr 2 2 [.int .i64, .int .i64, .bool] (.cells a6)]]
noncomputable def con : FuncId × St × (List Lf → (Res → Option Res) → Option Res) := (189, a 0 0 [] [] 0 [], run)
theorem cx (K : Res → Option Res) : CtxOk Go.Proofs.Try.prog Γ0 byt0 eqs0 (X K) os := ⟨rfl, rfl, rfl, (fun p hp => by
  rcases List.mem_cons.1 hp with rfl | hp
  · exact slices_nextPowerOfTwo.ok
  rcases List.mem_cons.1 hp with rfl | hp
  · exact slices_xorshift_Next.ok
  cases hp), rfl, rfl, rfl, rfl⟩
theorem t0 (K : Res → Option Res) (k : St → Option Res) (it : St → (St → Option Res) → Option Res) (x8 x9 x10 x11 : Int) (x12 : List Int) (x13 : Int) (x14 : List Int) (x15 : Int) (x16 : List (List Cl)) : iterS (X K) 0 b0 it (s0 x8 x9 x10 x11 x12 x13 x14 x15 x16) k = l0s x8 x9 x10 x14 x15 x16 (fun x11 x12 x13 => it (s0 x8 x9 x10 x11 x12 x13 x14 x15 x16) k) (fun y1 => k (o0 x8 x9 x10 x14 x15 x16 y1)) x11 x12 x13 := by kernel_rfl
theorem i0 (K : Res → Option Res) (k : St → Option Res) (x8 x9 x10 : Int) (x14 : List Int) (x15 : Int) (x16 : List (List Cl)) : ∀ (n : Nat) (x11 : Int) (x12 : List Int) (x13 : Int), iter (X K) 0 b0 n (s0 x8 x9 x10 x11 x12 x13 x14 x15 x16) k = l0 x8 x9 x10 x14 x15 x16 (fun y1 => k (o0 x8 x9 x10 x14 x15 x16 y1)) n x11 x12 x13
  | 0, _, _, _ => rfl
  | n + 1, x11, x12, x13 => by
    rw [iter_succ, t0, show (fun x11 x12 x13 => iter (X K) 0 b0 n (s0 x8 x9 x10 x11 x12 x13 x14 x15 x16) k) = (fun x11 x12 x13 => l0 x8 x9 x10 x14 x15 x16 (fun y1 => k (o0 x8 x9 x10 x14 x15 x16 y1)) n x11 x12 x13) from funext fun x11 => funext fun x12 => funext fun x13 => i0 K k x8 x9 x10 x14 x15 x16 n x11 x12 x13]; rfl
theorem v0 {K : Res → Option Res} {l : List Lf} {k : St → Option Res} {r : Res} (h : p0 K l k = some r) : ∃ x8 x9 x10 x11 x12 x13 x14 x15 x16, l = [.i x8, .i x9, .i x10, .i x11, .q (.ints x12), .i x13, .q (.ints x14), .i x15, .q (.cells x16)] ∧ l0 x8 x9 x10 x14 x15 x16 (fun y1 => k (o0 x8 x9 x10 x14 x15 x16 y1)) fuel x11 x12 x13 = some r := by
  unfold p0 at h; split at h
  · exact ⟨_, _, _, _, _, _, _, _, _, rfl, h⟩
  · cases h
theorem w0 (K : Res → Option Res) : LpSound Go.Proofs.Try.prog (X K) 0 b0 := lp_ok ((cx K).ok laid) (by rw [show loopsOf b0 = [] from by kernel_rfl]; intro p hp; cases hp) rfl fun p hp hid => by
  rcases List.mem_cons.1 hp with rfl | hp
  · intro st k r h1 h2; obtain ⟨x8, x9, x10, x11, x12, x13, x14, x15, x16, e, h⟩ := v0 (K := K) h2; have := St.like_eq (y := s0 x8 x9 x10 x11 x12 x13 x14 x15 x16) h1 (by kernel_rfl) e; subst this; exact ⟨fuel, (i0 K k x8 x9 x10 x14 x15 x16 fuel x11 x12 x13).trans h⟩
  cases hp
theorem tie (K : Res → Option Res) (a1 a2 : Int) (a3 a4 : List Int) (a5 : Int) (a6 : List (List Cl)) : exec (X K) c (entry 67 [one (.ow 0), one (.int .i64 a1), one (.int .i64 a2), one (.fn 115 [0])] [⟨[.int .i64], .ints a3, true, 0⟩] [[.tr 2 2 [.int .i64] (.ints a4), .int .i64 a5, .tr 2 2 [.int .i64, .int .i64, .bool] (.cells a6)]]) (endK (X K)) = g a1 a2 a3 a4 a5 a6 (fun r1 r2 r3 r4 => K (m r1 r2 r3 r4)) := Eq.trans (b := b a1 a2 a3 a4 a5 a6 (fun r1 r2 r3 r4 => K (m r1 r2 r3 r4))) (by kernel_rfl) (by rw [e])
theorem runv {l : List Lf} {K : Res → Option Res} {r : Res} (h : run l K = some r) : ∃ a1 a2 a3 a4 a5 a6, l = [.i a1, .i a2, .q (.ints a3), .q (.ints a4), .i a5, .q (.cells a6)] ∧ g a1 a2 a3 a4 a5 a6 (fun r1 r2 r3 r4 => K (m r1 r2 r3 r4)) = some r := by
  unfold run at h; split at h
  · exact ⟨_, _, _, _, _, _, rfl, h⟩
  · cases h
theorem ok : Con Go.Proofs.Try.prog con := con_of (fn := Go.Proofs.Try.f189) (c := c) (Fi := fi) (X := X) (fun_of laid (by kernel_rfl) (by kernel_rfl) (by kernel_rfl) rfl (by kernel_rfl) (by kernel_rfl) cx (fun _ => rfl) (fun _ => rfl) (fun K => by
    rw [show loopsOf c = [(0, b0)] from by kernel_rfl]; intro p hp
    rcases List.mem_cons.1 hp with rfl | hp
    · exact w0 K
    cases hp)) fun xs rows boxes K r hl hr => by
  obtain ⟨a1, a2, a3, a4, a5, a6, e, h⟩ := runv hr
  have := St.like_eq (y := a a1 a2 a3 a4 a5 a6) hl (by kernel_rfl) e
  obtain ⟨rfl, rfl, rfl⟩ := argSt_inj this
  exact (tie K a1 a2 a3 a4 a5 a6).trans h
end slices_breakPatternsCmpFunc_int
namespace slices_order2CmpFunc_int
noncomputable def c : Code := bodyOf Go.Proofs.Try.f204
noncomputable def fi : Fin := ⟨Γ0, [(.tmp 10, 3), (.tmp 11, 3)], [[1], [1]], [], [([.int .i64], [1]), ([.sl [.int .i64] 8, .int .i64, .sl [.int .i64, .int .i64, .bool] 24], [0, 1, 0])], []⟩
noncomputable def m (a5 : List Int) (a6 : Int) (a7 : List (List Cl)) (r1 r2 r3 : Int) : Res := ⟨[⟨false, [.int .i64 r1]⟩, ⟨false, [.int .i64 r2]⟩], [], [], [[.int .i64 r3], [.tr 2 2 [.int .i64] (.ints a5), .int .i64 a6, .tr 2 2 [.int .i64, .int .i64, .bool] (.cells a7)]], []⟩
noncomputable def os : List (FuncId × St × (List Lf → (Res → Option Res) → Option Res)) := [impl_packed_1.con]
noncomputable def X (K : Res → Option Res) : Ctx := { Γ := Γ0, orc := orcOf os, io := [], share := [], mvl := [], bun := [], cut := [], own := [], cin := [], cout := [], lp := lpOf [], kl := [], nk := true, eqs := eqs0, byt := byt0, fin := finK fi K }
noncomputable def b (a1 : List Int) (a2 a3 a4 : Int) (a5 : List Int) (a6 : Int) (a7 : List (List Cl)) (R : Int → Int → Int → Option Res) : Option Res :=
  bif decide (0 ≤ a3) && decide (a3 < (a1.length : Int)) then (bif decide (0 ≤ a2) && decide (a2 < (a1.length : Int)) then (impl_packed_1.g (a1.getD a3.toNat 0) (a1.getD a2.toNat 0) a5 a6 a7 fun r8 =>
      bif decide (r8 < 0) then R a3 a2 (IntKind.i64.wrap (a4 + 1))
      else R a2 a3 a4)
    else none)
  else none
theorem gx : ∃ x : List Int → Int → Int → Int → List Int → Int → List (List Cl) → (Int → Int → Int → Option Res) → Option Res, x = b := ⟨_, rfl⟩
noncomputable def g : List Int → Int → Int → Int → List Int → Int → List (List Cl) → (Int → Int → Int → Option Res) → Option Res := Classical.choose gx
theorem e : g = b := Classical.choose_spec gx
noncomputable def run : List Lf → (Res → Option Res) → Option Res
  | [.q (.ints a1), .i a2, .i a3, .i a4, .q (.ints a5), .i a6, .q (.cells a7)], K => g a1 a2 a3 a4 a5 a6 a7 (fun r1 r2 r3 => K (m a5 a6 a7 r1 r2 r3))
  | _, _ => none
noncomputable def a (a1 : List Int) (a2 a3 a4 : Int) (a5 : List Int) (a6 : Int) (a7 : List (List Cl)) : St := argSt [one (.tr 0 1 [.int .i64] (.ints a1)), one (.int .i64 a2), one (.int .i64 a3), one (.bp 0 0), one (.fn 115 [1])] [] [[.int .i64 a4], [.tr 2 2 [.int .i64] (.ints a5), .int .i64 a6, .tr 2 2 [.int .i64, .int .i64, .bool] (.cells a7)]]
noncomputable def con : FuncId × St × (List Lf → (Res → Option Res) → Option Res) := (204, a [] 0 0 0 [] 0 [], run)
theorem cx (K : Res → Option Res) : CtxOk Go.Proofs.Try.prog Γ0 byt0 eqs0 (X K) os := ⟨rfl, rfl, rfl, (fun p hp => by
  rcases List.mem_cons.1 hp with rfl | hp
  · exact impl_packed_1.ok
  cases hp), rfl, rfl, rfl, rfl⟩
theorem tie (K : Res → Option Res) (a1 : List Int) (a2 a3 a4 : Int) (a5 : List Int) (a6 : Int) (a7 : List (List Cl)) : exec (X K) c (entry 32 [one (.tr 0 1 [.int .i64] (.ints a1)), one (.int .i64 a2), one (.int .i64 a3), one (.bp 0 0), one (.fn 115 [1])] [] [[.int .i64 a4], [.tr 2 2 [.int .i64] (.ints a5), .int .i64 a6, .tr 2 2 [.int .i64, .int .i64, .bool] (.cells a7)]]) (endK (X K)) = g a1 a2 a3 a4 a5 a6 a7 (fun r1 r2 r3 => K (m a5 a6 a7 r1 r2 r3)) := Eq.trans (b := b a1 a2 a3 a4 a5 a6 a7 (fun r1 r2 r3 => K (m a5 a6 a7 r1 r2 r3))) (by kernel_rfl) (by rw [e])
theorem runv {l : List Lf} {K : Res → Option Res} {r : Res} (h : run l K = some r) : ∃ a1 a2 a3 a4 a5 a6 a7, l = [.q (.ints a1), .i a2, .i a3, .i a4, .q (.ints a5), .i a6, .q (.cells a7)] ∧ g a1 a2 a3 a4 a5 a6 a7 (fun r1 r2 r3 => K (m a5 a6 a7 r1 r2 r3)) = some r := by
  unfold run at h; split at h
  · exact ⟨_, _, _, _, _, _, _, rfl, h⟩
  · cases h
theorem ok : Con Go.Proofs.Try.prog con := con_of (fn := Go.Proofs.Try.f204) (c := c) (Fi := fi) (X := X) (fun_of laid (by kernel_rfl) (by kernel_rfl) (by kernel_rfl) rfl (by kernel_rfl) (by kernel_rfl) cx (fun _ => rfl) (fun _ => rfl) (fun K => by
    rw [show loopsOf c = [] from by kernel_rfl]; intro p hp
    cases hp)) fun xs rows boxes K r hl hr => by
  obtain ⟨a1, a2, a3, a4, a5, a6, a7, e, h⟩ := runv hr
  have := St.like_eq (y := a a1 a2 a3 a4 a5 a6 a7) hl (by kernel_rfl) e
  obtain ⟨rfl, rfl, rfl⟩ := argSt_inj this
  exact (tie K a1 a2 a3 a4 a5 a6 a7).trans h
end slices_order2CmpFunc_int
namespace slices_medianCmpFunc_int
noncomputable def c : Code := bodyOf Go.Proofs.Try.f203
noncomputable def fi : Fin := ⟨Γ0, [(.tmp 12, 3)], [[1]], [], [([.int .i64], [1]), ([.sl [.int .i64] 8, .int .i64, .sl [.int .i64, .int .i64, .bool] 24], [0, 1, 0])], []⟩
noncomputable def m (a6 : List Int) (a7 : Int) (a8 : List (List Cl)) (r1 r2 : Int) : Res := ⟨[⟨false, [.int .i64 r1]⟩], [], [], [[.int .i64 r2], [.tr 2 2 [.int .i64] (.ints a6), .int .i64 a7, .tr 2 2 [.int .i64, .int .i64, .bool] (.cells a8)]], []⟩
noncomputable def os : List (FuncId × St × (List Lf → (Res → Option Res) → Option Res)) := [slices_order2CmpFunc_int.con]
noncomputable def X (K : Res → Option Res) : Ctx := { Γ := Γ0, orc := orcOf os, io := [], share := [], mvl := [], bun := [], cut := [], own := [], cin := [], cout := [], lp := lpOf [], kl := [], nk := true, eqs := eqs0, byt := byt0, fin := finK fi K }
noncomputable def b (a1 : List Int) (a2 a3 a4 a5 : Int) (a6 : List Int) (a7 : Int) (a8 : List (List Cl)) (R : Int → Int → Option Res) : Option Res :=
  slices_order2CmpFunc_int.g a1 a2 a3 a5 a6 a7 a8 fun r9 r10 r11 =>
  slices_order2CmpFunc_int.g a1 r10 a4 r11 a6 a7 a8 fun r12 r13 r14 =>
  slices_order2CmpFunc_int.g a1 r9 r12 r14 a6 a7 a8 fun r15 r16 r17 =>
  R r16 r17
theorem gx : ∃ x : List Int → Int → Int → Int → Int → List Int → Int → List (List Cl) → (Int → Int → Option Res) → Option Res, x = b := ⟨_, rfl⟩
noncomputable def g : List Int → Int → Int → Int → Int → List Int → Int → List (List Cl) → (Int → Int → Option Res) → Option Res := Classical.choose gx
theorem e : g = b := Classical.choose_spec gx
noncomputable def run : List Lf → (Res → Option Res) → Option Res
  | [.q (.ints a1), .i a2, .i a3, .i a4, .i a5, .q (.ints a6), .i a7, .q (.cells a8)], K => g a1 a2 a3 a4 a5 a6 a7 a8 (fun r1 r2 => K (m a6 a7 a8 r1 r2))
  | _, _ => none
noncomputable def a (a1 : List Int) (a2 a3 a4 a5 : Int) (a6 : List Int) (a7 : Int) (a8 : List (List Cl)) : St := argSt [one (.tr 0 1 [.int .i64] (.ints a1)), one (.int .i64 a2), one (.int .i64 a3), one (.int .i64 a4), one (.bp 0 0), one (.fn 115 [1])] [] [[.int .i64 a5], [.tr 2 2 [.int .i64] (.ints a6), .int .i64 a7, .tr 2 2 [.int .i64, .int .i64, .bool] (.cells a8)]]
noncomputable def con : FuncId × St × (List Lf → (Res → Option Res) → Option Res) := (203, a [] 0 0 0 0 [] 0 [], run)
theorem cx (K : Res → Option Res) : CtxOk Go.Proofs.Try.prog Γ0 byt0 eqs0 (X K) os := ⟨rfl, rfl, rfl, (fun p hp => by
  rcases List.mem_cons.1 hp with rfl | hp
  · exact slices_order2CmpFunc_int.ok
  cases hp), rfl, rfl, rfl, rfl⟩
theorem tie (K : Res → Option Res) (a1 : List Int) (a2 a3 a4 a5 : Int) (a6 : List Int) (a7 : Int) (a8 : List (List Cl)) : exec (X K) c (entry 41 [one (.tr 0 1 [.int .i64] (.ints a1)), one (.int .i64 a2), one (.int .i64 a3), one (.int .i64 a4), one (.bp 0 0), one (.fn 115 [1])] [] [[.int .i64 a5], [.tr 2 2 [.int .i64] (.ints a6), .int .i64 a7, .tr 2 2 [.int .i64, .int .i64, .bool] (.cells a8)]]) (endK (X K)) = g a1 a2 a3 a4 a5 a6 a7 a8 (fun r1 r2 => K (m a6 a7 a8 r1 r2)) := Eq.trans (b := b a1 a2 a3 a4 a5 a6 a7 a8 (fun r1 r2 => K (m a6 a7 a8 r1 r2))) (by kernel_rfl) (by rw [e])
theorem runv {l : List Lf} {K : Res → Option Res} {r : Res} (h : run l K = some r) : ∃ a1 a2 a3 a4 a5 a6 a7 a8, l = [.q (.ints a1), .i a2, .i a3, .i a4, .i a5, .q (.ints a6), .i a7, .q (.cells a8)] ∧ g a1 a2 a3 a4 a5 a6 a7 a8 (fun r1 r2 => K (m a6 a7 a8 r1 r2)) = some r := by
  unfold run at h; split at h
  · exact ⟨_, _, _, _, _, _, _, _, rfl, h⟩
  · cases h
theorem ok : Con Go.Proofs.Try.prog con := con_of (fn := Go.Proofs.Try.f203) (c := c) (Fi := fi) (X := X) (fun_of laid (by kernel_rfl) (by kernel_rfl) (by kernel_rfl) rfl (by kernel_rfl) (by kernel_rfl) cx (fun _ => rfl) (fun _ => rfl) (fun K => by
    rw [show loopsOf c = [] from by kernel_rfl]; intro p hp
    cases hp)) fun xs rows boxes K r hl hr => by
  obtain ⟨a1, a2, a3, a4, a5, a6, a7, a8, e, h⟩ := runv hr
  have := St.like_eq (y := a a1 a2 a3 a4 a5 a6 a7 a8) hl (by kernel_rfl) e
  obtain ⟨rfl, rfl, rfl⟩ := argSt_inj this
  exact (tie K a1 a2 a3 a4 a5 a6 a7 a8).trans h
end slices_medianCmpFunc_int
namespace slices_medianAdjacentCmpFunc_int
noncomputable def c : Code := bodyOf Go.Proofs.Try.f202
noncomputable def fi : Fin := ⟨Γ0, [(.tmp 8, 3)], [[1]], [], [([.int .i64], [1]), ([.sl [.int .i64] 8, .int .i64, .sl [.int .i64, .int .i64, .bool] 24], [0, 1, 0])], []⟩
noncomputable def m (a4 : List Int) (a5 : Int) (a6 : List (List Cl)) (r1 r2 : Int) : Res := ⟨[⟨false, [.int .i64 r1]⟩], [], [], [[.int .i64 r2], [.tr 2 2 [.int .i64] (.ints a4), .int .i64 a5, .tr 2 2 [.int .i64, .int .i64, .bool] (.cells a6)]], []⟩
noncomputable def os : List (FuncId × St × (List Lf → (Res → Option Res) → Option Res)) := [slices_medianCmpFunc_int.con]
noncomputable def X (K : Res → Option Res) : Ctx := { Γ := Γ0, orc := orcOf os, io := [], share := [], mvl := [], bun := [], cut := [], own := [], cin := [], cout := [], lp := lpOf [], kl := [], nk := true, eqs := eqs0, byt := byt0, fin := finK fi K }
noncomputable def b (a1 : List Int) (a2 a3 : Int) (a4 : List Int) (a5 : Int) (a6 : List (List Cl)) (R : Int → Int → Option Res) : Option Res :=
  slices_medianCmpFunc_int.g a1 (IntKind.i64.wrap (a2 - 1)) a2 (IntKind.i64.wrap (a2 + 1)) a3 a4 a5 a6 fun r7 r8 =>
  R r7 r8
theorem gx : ∃ x : List Int → Int → Int → List Int → Int → List (List Cl) → (Int → Int → Option Res) → Option Res, x = b := ⟨_, rfl⟩
noncomputable def g : List Int → Int → Int → List Int → Int → List (List Cl) → (Int → Int → Option Res) → Option Res := Classical.choose gx
theorem e : g = b := Classical.choose_spec gx
noncomputable def run : List Lf → (Res → Option Res) → Option Res
  | [.q (.ints a1), .i a2, .i a3, .q (.ints a4), .i a5, .q (.cells a6)], K => g a1 a2 a3 a4 a5 a6 (fun r1 r2 => K (m a4 a5 a6 r1 r2))
  | _, _ => none
noncomputable def a (a1 : List Int) (a2 a3 : Int) (a4 : List Int) (a5 : Int) (a6 : List (List Cl)) : St := argSt [one (.tr 0 1 [.int .i64] (.ints a1)), one (.int .i64 a2), one (.bp 0 0), one (.fn 115 [1])] [] [[.int .i64 a3], [.tr 2 2 [.int .i64] (.ints a4), .int .i64 a5, .tr 2 2 [.int .i64, .int .i64, .bool] (.cells a6)]]
noncomputable def con : FuncId × St × (List Lf → (Res → Option Res) → Option Res) := (202, a [] 0 0 [] 0 [], run)
theorem cx (K : Res → Option Res) : CtxOk Go.Proofs.Try.prog Γ0 byt0 eqs0 (X K) os := ⟨rfl, rfl, rfl, (fun p hp => by
  rcases List.mem_cons.1 hp with rfl | hp
  · exact slices_medianCmpFunc_int.ok
  cases hp), rfl, rfl, rfl, rfl⟩
theorem tie (K : Res → Option Res) (a1 : List Int) (a2 a3 : Int) (a4 : List Int) (a5 : Int) (a6 : List (List Cl)) : exec (X K) c (entry 18 [one (.tr 0 1 [.int .i64] (.ints a1)), one (.int .i64 a2), one (.bp 0 0), one (.fn 115 [1])] [] [[.int .i64 a3], [.tr 2 2 [.int .i64] (.ints a4), .int .i64 a5, .tr 2 2 [.int .i64, .int .i64, .bool] (.cells a6)]]) (endK (X K)) = g a1 a2 a3 a4 a5 a6 (fun r1 r2 => K (m a4 a5 a6 r1 r2)) := Eq.trans (b := b a1 a2 a3 a4 a5 a6 (fun r1 r2 => K (m a4 a5 a6 r1 r2))) (by kernel_rfl) (by rw [e])
theorem runv {l : List Lf} {K : Res → Option Res} {r : Res} (h : run l K = some r) : ∃ a1 a2 a3 a4 a5 a6, l = [.q (.ints a1), .i a2, .i a3, .q (.ints a4), .i a5, .q (.cells a6)] ∧ g a1 a2 a3 a4 a5 a6 (fun r1 r2 => K (m a4 a5 a6 r1 r2)) = some r := by
  unfold run at h; split at h
  · exact ⟨_, _, _, _, _, _, rfl, h⟩
  · cases h
theorem ok : Con Go.Proofs.Try.prog con := con_of (fn := Go.Proofs.Try.f202) (c := c) (Fi := fi) (X := X) (fun_of laid (by kernel_rfl) (by kernel_rfl) (by kernel_rfl) rfl (by kernel_rfl) (by kernel_rfl) cx (fun _ => rfl) (fun _ => rfl) (fun K => by
    rw [show loopsOf c = [] from by kernel_rfl]; intro p hp
    cases hp)) fun xs rows boxes K r hl hr => by
  obtain ⟨a1, a2, a3, a4, a5, a6, e, h⟩ := runv hr
  have := St.like_eq (y := a a1 a2 a3 a4 a5 a6) hl (by kernel_rfl) e
  obtain ⟨rfl, rfl, rfl⟩ := argSt_inj this
  exact (tie K a1 a2 a3 a4 a5 a6).trans h
end slices_medianAdjacentCmpFunc_int
namespace slices_choosePivotCmpFunc_int
noncomputable def c : Code := bodyOf Go.Proofs.Try.f190
noncomputable def fi : Fin := ⟨Γ0, [(.tmp 8, 3), (.tmp 9, 188)], [[1], [1]], [], [([.sl [.int .i64] 8, .int .i64, .sl [.int .i64, .int .i64, .bool] 24], [0, 1, 0])], []⟩
noncomputable def m (a4 : List Int) (a5 : Int) (a6 : List (List Cl)) (r1 r2 : Int) : Res := ⟨[⟨false, [.int .i64 r1]⟩, ⟨false, [.int .i64 r2]⟩], [], [], [[.tr 2 2 [.int .i64] (.ints a4), .int .i64 a5, .tr 2 2 [.int .i64, .int .i64, .bool] (.cells a6)]], []⟩
noncomputable def os : List (FuncId × St × (List Lf → (Res → Option Res) → Option Res)) := [slices_medianAdjacentCmpFunc_int.con, slices_medianCmpFunc_int.con]
noncomputable def X (K : Res → Option Res) : Ctx := { Γ := Γ0, orc := orcOf os, io := [], share := [], mvl := [], bun := [], cut := [], own := [], cin := [], cout := [], lp := lpOf [], kl := [], nk := true, eqs := eqs0, byt := byt0, fin := finK fi K }
noncomputable def j2  (R : Int → Int → Option Res) (x19 x20 : Int) : Option Res :=
  bif (x20 == 0) then R x19 1
  else bif (x20 == 12) then R x19 2
  else R x19 0
noncomputable def j1 (a1 a4 : List Int) (a5 : Int) (a6 : List (List Cl)) (R : Int → Int → Option Res) (x13 x14 x15 x16 : Int) : Option Res :=
  slices_medianCmpFunc_int.g a1 x13 x14 x15 x16 a4 a5 a6 fun r17 r18 =>
  j2 R r17 r18
noncomputable def b (a1 : List Int) (a2 a3 : Int) (a4 : List Int) (a5 : Int) (a6 : List (List Cl)) (R : Int → Int → Option Res) : Option Res :=
  bif decide (8 ≤ IntKind.i64.wrap (a3 - a2)) then (bif decide (50 ≤ IntKind.i64.wrap (a3 - a2)) then (slices_medianAdjacentCmpFunc_int.g a1 (IntKind.i64.wrap (a2 + (IntKind.i64.wrap ((IntKind.i64.wrap ((IntKind.i64.wrap (a3 - a2)).tdiv 4)) * 1)))) 0 a4 a5 a6 fun r7 r8 =>
      slices_medianAdjacentCmpFunc_int.g a1 (IntKind.i64.wrap (a2 + (IntKind.i64.wrap ((IntKind.i64.wrap ((IntKind.i64.wrap (a3 - a2)).tdiv 4)) * 2)))) r8 a4 a5 a6 fun r9 r10 =>
      slices_medianAdjacentCmpFunc_int.g a1 (IntKind.i64.wrap (a2 + (IntKind.i64.wrap ((IntKind.i64.wrap ((IntKind.i64.wrap (a3 - a2)).tdiv 4)) * 3)))) r10 a4 a5 a6 fun r11 r12 =>
      j1 a1 a4 a5 a6 R r7 r9 r11 r12)
    else j1 a1 a4 a5 a6 R (IntKind.i64.wrap (a2 + (IntKind.i64.wrap ((IntKind.i64.wrap ((IntKind.i64.wrap (a3 - a2)).tdiv 4)) * 1)))) (IntKind.i64.wrap (a2 + (IntKind.i64.wrap ((IntKind.i64.wrap ((IntKind.i64.wrap (a3 - a2)).tdiv 4)) * 2)))) (IntKind.i64.wrap (a2 + (IntKind.i64.wrap ((IntKind.i64.wrap ((IntKind.i64.wrap (a3 - a2)).tdiv 4)) * 3)))) 0)
  else j2 R (IntKind.i64.wrap (a2 + (IntKind.i64.wrap ((IntKind.i64.wrap ((IntKind.i64.wrap (a3 - a2)).tdiv 4)) * 2)))) 0
theorem gx : ∃ x : List Int → Int → Int → List Int → Int → List (List Cl) → (Int → Int → Option Res) → Option Res, x = b := ⟨_, rfl⟩
noncomputable def g : List Int → Int → Int → List Int → Int → List (List Cl) → (Int → Int → Option Res) → Option Res := Classical.choose gx
theorem e : g = b := Classical.choose_spec gx
noncomputable def run : List Lf → (Res → Option Res) → Option Res
  | [.q (.ints a1), .i a2, .i a3, .q (.ints a4), .i a5, .q (.cells a6)], K => g a1 a2 a3 a4 a5 a6 (fun r1 r2 => K (m a4 a5 a6 r1 r2))
  | _, _ => none
noncomputable def a (a1 : List Int) (a2 a3 : Int) (a4 : List Int) (a5 : Int) (a6 : List (List Cl)) : St := argSt [one (.tr 0 1 [.int .i64] (.ints a1)), one (.int .i64 a2), one (.int .i64 a3), one (.fn 115 [0])] [] [[.tr 2 2 [.int .i64] (.ints a4), .int .i64 a5, .tr 2 2 [.int .i64, .int .i64, .bool] (.cells a6)]]
noncomputable def con : FuncId × St × (List Lf → (Res → Option Res) → Option Res) := (190, a [] 0 0 [] 0 [], run)
theorem cx (K : Res → Option Res) : CtxOk Go.Proofs.Try.prog Γ0 byt0 eqs0 (X K) os := ⟨rfl, rfl, rfl, (fun p hp => by
  rcases List.mem_cons.1 hp with rfl | hp
  · exact slices_medianAdjacentCmpFunc_int.ok
  rcases List.mem_cons.1 hp with rfl | hp
  · exact slices_medianCmpFunc_int.ok
  cases hp), rfl, rfl, rfl, rfl⟩
theorem tie (K : Res → Option Res) (a1 : List Int) (a2 a3 : Int) (a4 : List Int) (a5 : Int) (a6 : List (List Cl)) : exec (X K) c (entry 63 [one (.tr 0 1 [.int .i64] (.ints a1)), one (.int .i64 a2), one (.int .i64 a3), one (.fn 115 [0])] [] [[.tr 2 2 [.int .i64] (.ints a4), .int .i64 a5, .tr 2 2 [.int .i64, .int .i64, .bool] (.cells a6)]]) (endK (X K)) = g a1 a2 a3 a4 a5 a6 (fun r1 r2 => K (m a4 a5 a6 r1 r2)) := Eq.trans (b := b a1 a2 a3 a4 a5 a6 (fun r1 r2 => K (m a4 a5 a6 r1 r2))) (by kernel_rfl) (by rw [e])
theorem runv {l : List Lf} {K : Res → Option Res} {r : Res} (h : run l K = some r) : ∃ a1 a2 a3 a4 a5 a6, l = [.q (.ints a1), .i a2, .i a3, .q (.ints a4), .i a5, .q (.cells a6)] ∧ g a1 a2 a3 a4 a5 a6 (fun r1 r2 => K (m a4 a5 a6 r1 r2)) = some r := by
  unfold run at h; split at h
  · exact ⟨_, _, _, _, _, _, rfl, h⟩
  · cases h
theorem ok : Con Go.Proofs.Try.prog con := con_of (fn := Go.Proofs.Try.f190) (c := c) (Fi := fi) (X := X) (fun_of laid (by kernel_rfl) (by kernel_rfl) (by kernel_rfl) rfl (by kernel_rfl) (by kernel_rfl) cx (fun _ => rfl) (fun _ => rfl) (fun K => by
    rw [show loopsOf c = [] from by kernel_rfl]; intro p hp
    cases hp)) fun xs rows boxes K r hl hr => by
  obtain ⟨a1, a2, a3, a4, a5, a6, e, h⟩ := runv hr
  have := St.like_eq (y := a a1 a2 a3 a4 a5 a6) hl (by kernel_rfl) e
  obtain ⟨rfl, rfl, rfl⟩ := argSt_inj this
  exact (tie K a1 a2 a3 a4 a5 a6).trans h
end slices_choosePivotCmpFunc_int
namespace slices_reverseRangeCmpFunc_int
noncomputable def c : Code := bodyOf Go.Proofs.Try.f191
noncomputable def fi : Fin := ⟨Γ0, [], [], [true], [([.sl [.int .i64] 8, .int .i64, .sl [.int .i64, .int .i64, .bool] 24], [0, 1, 0])], []⟩
noncomputable def m (r1 r2 : List Int) (r3 : Int) (r4 : List (List Cl)) : Res := ⟨[], [some ⟨[.int .i64], .ints r1, true, 0⟩], [], [[.tr 2 2 [.int .i64] (.ints r2), .int .i64 r3, .tr 2 2 [.int .i64, .int .i64, .bool] (.cells r4)]], []⟩
noncomputable def b0 : Code := codeAt c [1, 1, 0, 0]
noncomputable def s0 (x7 x8 : Int) (x9 x10 : List Int) (x11 : Int) (x12 : List (List Cl)) : St := ⟨mkT 34 [(0, one (.ow 0)), (8, one (.int .i64 x7)), (9, one (.int .i64 x8))], [(0, ⟨[.int .i64], .ints x9, true, 0⟩)], [(0, [.tr 2 2 [.int .i64] (.ints x10), .int .i64 x11, .tr 2 2 [.int .i64, .int .i64, .bool] (.cells x12)])]⟩
noncomputable def l0s (x10 : List Int) (x11 : Int) (x12 : List (List Cl)) (rec : Int → Int → List Int → Option Res) (k : List Int → Option Res) (x7 x8 : Int) (x9 : List Int) : Option Res :=
  bif decide (x7 < x8) then (bif decide (0 ≤ x8) && decide (x8 < (x9.length : Int)) then (bif decide (0 ≤ x7) && decide (x7 < (x9.length : Int)) then (bif decide (0 ≤ x7) && decide (x7 < (x9.length : Int)) then (bif decide (0 ≤ x8) && decide (x8 < ((x9.set x7.toNat (x9.getD x8.toNat 0)).length : Int)) then rec (IntKind.i64.wrap (x7 + 1)) (IntKind.i64.wrap (x8 - 1)) ((x9.set x7.toNat (x9.getD x8.toNat 0)).set x8.toNat (x9.getD x7.toNat 0))
          else none)
        else none)
      else none)
    else none)
  else k x9
noncomputable def l0 (x10 : List Int) (x11 : Int) (x12 : List (List Cl)) (k : List Int → Option Res) : Nat → Int → Int → List Int → Option Res
  | 0, _, _, _ => none
  | n + 1, x7, x8, x9 => l0s x10 x11 x12 (fun x7 x8 x9 => l0 x10 x11 x12 k n x7 x8 x9) k x7 x8 x9
noncomputable def o0 (x10 : List Int) (x11 : Int) (x12 : List (List Cl)) (y1 : List Int) : St := ⟨mkT 34 [], [(0, ⟨[.int .i64], .ints y1, true, 0⟩)], [(0, [.tr 2 2 [.int .i64] (.ints x10), .int .i64 x11, .tr 2 2 [.int .i64, .int .i64, .bool] (.cells x12)])]⟩
noncomputable def p0 (K : Res → Option Res) : List Lf → (St → Option Res) → Option Res
  | [.i x7, .i x8, .q (.ints x9), .q (.ints x10), .i x11, .q (.cells x12)], k => l0 x10 x11 x12 (fun y1 => k (o0 x10 x11 x12 y1)) fuel x7 x8 x9
  | _, _ => none
noncomputable def os : List (FuncId × St × (List Lf → (Res → Option Res) → Option Res)) := []
noncomputable def X (K : Res → Option Res) : Ctx := { Γ := Γ0, orc := orcOf os, io := [], share := [], mvl := [], bun := [], cut := [], own := [], cin := [(0, ⟨[0, 8, 9], [(0, 0)], [0], [], [], []⟩)], cout := [(0, ⟨[], [(0, 0)], [0], [], [], []⟩)], lp := lpOf [(0, s0 0 0 [] [] 0 [], p0 K)], kl := [], nk := true, eqs := eqs0, byt := byt0, fin := finK fi K }
noncomputable def b (a1 a2 : Int) (a3 a4 : List Int) (a5 : Int) (a6 : List (List Cl)) (R : List Int → List Int → Int → List (List Cl) → Option Res) : Option Res :=
  l0 a4 a5 a6 (fun y13 => 
  R y13 a4 a5 a6) fuel a1 (IntKind.i64.wrap (a2 - 1)) a3
theorem gx : ∃ x : Int → Int → List Int → List Int → Int → List (List Cl) → (List Int → List Int → Int → List (List Cl) → Option Res) → Option Res, x = b := ⟨_, rfl⟩
noncomputable def g : Int → Int → List Int → List Int → Int → List (List Cl) → (List Int → List Int → Int → List (List Cl) → Option Res) → Option Res := Classical.choose gx
theorem e : g = b := Classical.choose_spec gx
noncomputable def run : List Lf → (Res → Option Res) → Option Res
  | [.i a1, .i a2, .q (.ints a3), .q (.ints a4), .i a5, .q (.cells a6)], K => g a1 a2 a3 a4 a5 a6 (fun r1 r2 r3 r4 => K (m r1 r2 r3 r4))
  | _, _ => none
noncomputable def a (a1 a2 : Int) (a3 a4 : List Int) (a5 : Int) (a6 : List (List Cl)) : St := argSt [one (.ow 0), one (.int .i64 a1), one (.int .i64 a2), one (.fn 115 [0])] [⟨[.int .i64], .ints a3, true, 0⟩] [[.tr 2 2 [.int .i64] (.ints a4), .int .i64 a5, .tr 2 2 [.int .i64, .int .i64, .bool] (.cells a6)]]
noncomputable def con : FuncId × St × (List Lf → (Res → Option Res) → Option Res) := (191, a 0 0 [] [] 0 [], run)
theorem cx (K : Res → Option Res) : CtxOk Go.Proofs.Try.prog Γ0 byt0 eqs0 (X K) os := ⟨rfl, rfl, rfl, (fun p hp => by
  cases hp), rfl, rfl, rfl, rfl⟩
theorem t0 (K : Res → Option Res) (k : St → Option Res) (it : St → (St → Option Res) → Option Res) (x7 x8 : Int) (x9 x10 : List Int) (x11 : Int) (x12 : List (List Cl)) : iterS (X K) 0 b0 it (s0 x7 x8 x9 x10 x11 x12) k = l0s x10 x11 x12 (fun x7 x8 x9 => it (s0 x7 x8 x9 x10 x11 x12) k) (fun y1 => k (o0 x10 x11 x12 y1)) x7 x8 x9 := by kernel_rfl
theorem i0 (K : Res → Option Res) (k : St → Option Res) (x10 : List Int) (x11 : Int) (x12 : List (List Cl)) : ∀ (n : Nat) (x7 x8 : Int) (x9 : List Int), iter (X K) 0 b0 n (s0 x7 x8 x9 x10 x11 x12) k = l0 x10 x11 x12 (fun y1 => k (o0 x10 x11 x12 y1)) n x7 x8 x9
  | 0, _, _, _ => rfl
  | n + 1, x7, x8, x9 => by
    rw [iter_succ, t0, show (fun x7 x8 x9 => iter (X K) 0 b0 n (s0 x7 x8 x9 x10 x11 x12) k) = (fun x7 x8 x9 => l0 x10 x11 x12 (fun y1 => k (o0 x10 x11 x12 y1)) n x7 x8 x9) from funext fun x7 => funext fun x8 => funext fun x9 => i0 K k x10 x11 x12 n x7 x8 x9]; rfl
theorem v0 {K : Res → Option Res} {l : List Lf} {k : St → Option Res} {r : Res} (h : p0 K l k = some r) : ∃ x7 x8 x9 x10 x11 x12, l = [.i x7, .i x8, .q (.ints x9), .q (.ints x10), .i x11, .q (.cells x12)] ∧ l0 x10 x11 x12 (fun y1 => k (o0 x10 x11 x12 y1)) fuel x7 x8 x9 = some r := by
  unfold p0 at h; split at h
  · exact ⟨_, _, _, _, _, _, rfl, h⟩
  · cases h
theorem w0 (K : Res → Option Res) : LpSound Go.Proofs.Try.prog (X K) 0 b0 := lp_ok ((cx K).ok laid) (by rw [show loopsOf b0 = [] from by kernel_rfl]; intro p hp; cases hp) rfl fun p hp hid => by
  rcases List.mem_cons.1 hp with rfl | hp
  · intro st k r h1 h2; obtain ⟨x7, x8, x9, x10, x11, x12, e, h⟩ := v0 (K := K) h2; have := St.like_eq (y := s0 x7 x8 x9 x10 x11 x12) h1 (by kernel_rfl) e; subst this; exact ⟨fuel, (i0 K k x10 x11 x12 fuel x7 x8 x9).trans h⟩
  cases hp
theorem tie (K : Res → Option Res) (a1 a2 : Int) (a3 a4 : List Int) (a5 : Int) (a6 : List (List Cl)) : exec (X K) c (entry 34 [one (.ow 0), one (.int .i64 a1), one (.int .i64 a2), one (.fn 115 [0])] [⟨[.int .i64], .ints a3, true, 0⟩] [[.tr 2 2 [.int .i64] (.ints a4), .int .i64 a5, .tr 2 2 [.int .i64, .int .i64, .bool] (.cells a6)]]) (endK (X K)) = g a1 a2 a3 a4 a5 a6 (fun r1 r2 r3 r4 => K (m r1 r2 r3 r4)) := Eq.trans (b := b a1 a2 a3 a4 a5 a6 (fun r1 r2 r3 r4 => K (m r1 r2 r3 r4))) (by kernel_rfl) (by rw [e])
theorem runv {l : List Lf} {K : Res → Option Res} {r : Res} (h : run l K = some r) : ∃ a1 a2 a3 a4 a5 a6, l = [.i a1, .i a2, .q (.ints a3), .q (.ints a4), .i a5, .q (.cells a6)] ∧ g a1 a2 a3 a4 a5 a6 (fun r1 r2 r3 r4 => K (m r1 r2 r3 r4)) = some r := by
  unfold run at h; split at h
  · exact ⟨_, _, _, _, _, _, rfl, h⟩
  · cases h
theorem ok : Con Go.Proofs.Try.prog con := con_of (fn := Go.Proofs.Try.f191) (c := c) (Fi := fi) (X := X) (fun_of laid (by kernel_rfl) (by kernel_rfl) (by kernel_rfl) rfl (by kernel_rfl) (by kernel_rfl) cx (fun _ => rfl) (fun _ => rfl) (fun K => by
    rw [show loopsOf c = [(0, b0)] from by kernel_rfl]; intro p hp
    rcases List.mem_cons.1 hp with rfl | hp
    · exact w0 K
    cases hp)) fun xs rows boxes K r hl hr => by
  obtain ⟨a1, a2, a3, a4, a5, a6, e, h⟩ := runv hr
  have := St.like_eq (y := a a1 a2 a3 a4 a5 a6) hl (by kernel_rfl) e
  obtain ⟨rfl, rfl, rfl⟩ := argSt_inj this
  exact (tie K a1 a2 a3 a4 a5 a6).trans h
end slices_reverseRangeCmpFunc_int
namespace slices_partialInsertionSortCmpFunc_int
noncomputable def c : Code := bodyOf Go.Proofs.Try.f192
noncomputable def fi : Fin := ⟨Γ0, [(.tmp 8, 4)], [[1]], [true], [([.sl [.int .i64] 8, .int .i64, .sl [.int .i64, .int .i64, .bool] 24], [0, 1, 0])], []⟩
noncomputable def m (r1 : Bool) (r2 r3 : List Int) (r4 : Int) (r5 : List (List Cl)) : Res := ⟨[⟨false, [.bool r1]⟩], [some ⟨[.int .i64], .ints r2, true, 0⟩], [], [[.tr 2 2 [.int .i64] (.ints r3), .int .i64 r4, .tr 2 2 [.int .i64, .int .i64, .bool] (.cells r5)]], []⟩
noncomputable def b0 : Code := codeAt c [1, 1, 0, 1, 0, 0]
noncomputable def b2 : Code := codeAt c [1, 1, 0, 1, 0, 0, 1, 0, 0, 0, 0, 0]
noncomputable def b4 : Code := codeAt c [1, 1, 0, 1, 0, 0, 1, 0, 0, 1, 1, 1, 1, 0, 1, 0, 1, 0, 0]
noncomputable def b6 : Code := codeAt c [1, 1, 0, 1, 0, 0, 1, 0, 0, 1, 1, 1, 1, 1, 1, 0, 1, 0, 0]
noncomputable def s2 (x15 x16 x17 x18 : Int) (x19 x20 : List Int) (x21 : Int) (x22 : List (List Cl)) : St := ⟨mkT 141 [(0, one (.ow 0)), (1, one (.int .i64 x15)), (2, one (.int .i64 x16)), (3, one (.fn 115 [0])), (9, one (.int .i64 x17)), (10, one (.int .i64 x18))], [(0, ⟨[.int .i64], .ints x19, true, 0⟩)], [(0, [.tr 2 2 [.int .i64] (.ints x20), .int .i64 x21, .tr 2 2 [.int .i64, .int .i64, .bool] (.cells x22)])]⟩
noncomputable def l2s (x15 x16 x18 : Int) (x19 x20 : List Int) (x21 : Int) (x22 : List (List Cl)) (rec : Int → Option Res) (k : Int → Option Res) (x17 : Int) : Option Res :=
  bif decide (x17 < x16) then (bif decide (0 ≤ x17) && decide (x17 < (x19.length : Int)) then (bif decide (0 ≤ IntKind.i64.wrap (x17 - 1)) && decide (IntKind.i64.wrap (x17 - 1) < (x19.length : Int)) then (impl_packed_1.g (x19.getD x17.toNat 0) (x19.getD ((IntKind.i64.wrap (x17 - 1)).toNat) 0) x20 x21 x22 fun r23 =>
        bif !(decide (r23 < 0)) then rec (IntKind.i64.wrap (x17 + 1))
        else k x17)
      else none)
    else none)
  else k x17
noncomputable def l2 (x15 x16 x18 : Int) (x19 x20 : List Int) (x21 : Int) (x22 : List (List Cl)) (k : Int → Option Res) : Nat → Int → Option Res
  | 0, _ => none
  | n + 1, x17 => l2s x15 x16 x18 x19 x20 x21 x22 (fun x17 => l2 x15 x16 x18 x19 x20 x21 x22 k n x17) k x17
noncomputable def o2 (x15 x16 x18 : Int) (x19 x20 : List Int) (x21 : Int) (x22 : List (List Cl)) (y3 : Int) : St := ⟨mkT 141 [(0, one (.ow 0)), (1, one (.int .i64 x15)), (2, one (.int .i64 x16)), (3, one (.fn 115 [0])), (9, one (.int .i64 y3)), (10, one (.int .i64 x18))], [(0, ⟨[.int .i64], .ints x19, true, 0⟩)], [(0, [.tr 2 2 [.int .i64] (.ints x20), .int .i64 x21, .tr 2 2 [.int .i64, .int .i64, .bool] (.cells x22)])]⟩
noncomputable def p2 (K : Res → Option Res) : List Lf → (St → Option Res) → Option Res
  | [.i x15, .i x16, .i x17, .i x18, .q (.ints x19), .q (.ints x20), .i x21, .q (.cells x22)], k => l2 x15 x16 x18 x19 x20 x21 x22 (fun y3 => k (o2 x15 x16 x18 x19 x20 x21 x22 y3)) fuel x17
  | _, _ => none
noncomputable def s4 (x25 x26 x27 x28 x29 : Int) (x30 x31 : List Int) (x32 : Int) (x33 : List (List Cl)) : St := ⟨mkT 141 [(0, one (.ow 0)), (1, one (.int .i64 x25)), (2, one (.int .i64 x26)), (3, one (.fn 115 [0])), (9, one (.int .i64 x27)), (10, one (.int .i64 x28)), (11, one (.int .i64 x29))], [(0, ⟨[.int .i64], .ints x30, true, 0⟩)], [(0, [.tr 2 2 [.int .i64] (.ints x31), .int .i64 x32, .tr 2 2 [.int .i64, .int .i64, .bool] (.cells x33)])]⟩
noncomputable def l4s (x25 x26 x27 x28 : Int) (x31 : List Int) (x32 : Int) (x33 : List (List Cl)) (rec : Int → List Int → Option Res) (k : List Int → Option Res) (x29 : Int) (x30 : List Int) : Option Res :=
  bif decide (1 ≤ x29) then (bif decide (0 ≤ x29) && decide (x29 < (x30.length : Int)) then (bif decide (0 ≤ IntKind.i64.wrap (x29 - 1)) && decide (IntKind.i64.wrap (x29 - 1) < (x30.length : Int)) then (impl_packed_1.g (x30.getD x29.toNat 0) (x30.getD ((IntKind.i64.wrap (x29 - 1)).toNat) 0) x31 x32 x33 fun r34 =>
        bif !(decide (r34 < 0)) then k x30
        else bif decide (0 ≤ IntKind.i64.wrap (x29 - 1)) && decide (IntKind.i64.wrap (x29 - 1) < (x30.length : Int)) then (bif decide (0 ≤ x29) && decide (x29 < (x30.length : Int)) then (bif decide (0 ≤ x29) && decide (x29 < (x30.length : Int)) then (bif decide (0 ≤ IntKind.i64.wrap (x29 - 1)) && decide (IntKind.i64.wrap (x29 - 1) < ((x30.set x29.toNat (x30.getD ((IntKind.i64.wrap (x29 - 1)).toNat) 0)).length : Int)) then rec (IntKind.i64.wrap (x29 - 1)) ((x30.set x29.toNat (x30.getD ((IntKind.i64.wrap (x29 - 1)).toNat) 0)).set ((IntKind.i64.wrap (x29 - 1)).toNat) (x30.getD x29.toNat 0))
              else none)
            else none)
          else none)
        else none)
      else none)
    else none)
  else k x30
noncomputable def l4 (x25 x26 x27 x28 : Int) (x31 : List Int) (x32 : Int) (x33 : List (List Cl)) (k : List Int → Option Res) : Nat → Int → List Int → Option Res
  | 0, _, _ => none
  | n + 1, x29, x30 => l4s x25 x26 x27 x28 x31 x32 x33 (fun x29 x30 => l4 x25 x26 x27 x28 x31 x32 x33 k n x29 x30) k x29 x30
noncomputable def o4 (x25 x26 x27 x28 : Int) (x31 : List Int) (x32 : Int) (x33 : List (List Cl)) (y5 : List Int) : St := ⟨mkT 141 [(0, one (.ow 0)), (1, one (.int .i64 x25)), (2, one (.int .i64 x26)), (3, one (.fn 115 [0])), (9, one (.int .i64 x27)), (10, one (.int .i64 x28))], [(0, ⟨[.int .i64], .ints y5, true, 0⟩)], [(0, [.tr 2 2 [.int .i64] (.ints x31), .int .i64 x32, .tr 2 2 [.int .i64, .int .i64, .bool] (.cells x33)])]⟩
noncomputable def p4 (K : Res → Option Res) : List Lf → (St → Option Res) → Option Res
  | [.i x25, .i x26, .i x27, .i x28, .i x29, .q (.ints x30), .q (.ints x31), .i x32, .q (.cells x33)], k => l4 x25 x26 x27 x28 x31 x32 x33 (fun y5 => k (o4 x25 x26 x27 x28 x31 x32 x33 y5)) fuel x29 x30
  | _, _ => none
noncomputable def s6 (x36 x37 x38 x39 x40 : Int) (x41 x42 : List Int) (x43 : Int) (x44 : List (List Cl)) : St := ⟨mkT 141 [(0, one (.ow 0)), (1, one (.int .i64 x36)), (2, one (.int .i64 x37)), (3, one (.fn 115 [0])), (9, one (.int .i64 x38)), (10, one (.int .i64 x39)), (12, one (.int .i64 x40))], [(0, ⟨[.int .i64], .ints x41, true, 0⟩)], [(0, [.tr 2 2 [.int .i64] (.ints x42), .int .i64 x43, .tr 2 2 [.int .i64, .int .i64, .bool] (.cells x44)])]⟩
noncomputable def l6s (x36 x37 x38 x39 : Int) (x42 : List Int) (x43 : Int) (x44 : List (List Cl)) (rec : Int → List Int → Option Res) (k : List Int → Option Res) (x40 : Int) (x41 : List Int) : Option Res :=
  bif decide (x40 < x37) then (bif decide (0 ≤ x40) && decide (x40 < (x41.length : Int)) then (bif decide (0 ≤ IntKind.i64.wrap (x40 - 1)) && decide (IntKind.i64.wrap (x40 - 1) < (x41.length : Int)) then (impl_packed_1.g (x41.getD x40.toNat 0) (x41.getD ((IntKind.i64.wrap (x40 - 1)).toNat) 0) x42 x43 x44 fun r45 =>
        bif !(decide (r45 < 0)) then k x41
        else bif decide (0 ≤ IntKind.i64.wrap (x40 - 1)) && decide (IntKind.i64.wrap (x40 - 1) < (x41.length : Int)) then (bif decide (0 ≤ x40) && decide (x40 < (x41.length : Int)) then (bif decide (0 ≤ x40) && decide (x40 < (x41.length : Int)) then (bif decide (0 ≤ IntKind.i64.wrap (x40 - 1)) && decide (IntKind.i64.wrap (x40 - 1) < ((x41.set x40.toNat (x41.getD ((IntKind.i64.wrap (x40 - 1)).toNat) 0)).length : Int)) then rec (IntKind.i64.wrap (x40 + 1)) ((x41.set x40.toNat (x41.getD ((IntKind.i64.wrap (x40 - 1)).toNat) 0)).set ((IntKind.i64.wrap (x40 - 1)).toNat) (x41.getD x40.toNat 0))
              else none)
            else none)
          else none)
        else none)
      else none)
    else none)
  else k x41
noncomputable def l6 (x36 x37 x38 x39 : Int) (x42 : List Int) (x43 : Int) (x44 : List (List Cl)) (k : List Int → Option Res) : Nat → Int → List Int → Option Res
  | 0, _, _ => none
  | n + 1, x40, x41 => l6s x36 x37 x38 x39 x42 x43 x44 (fun x40 x41 => l6 x36 x37 x38 x39 x42 x43 x44 k n x40 x41) k x40 x41
noncomputable def o6 (x36 x37 x38 x39 : Int) (x42 : List Int) (x43 : Int) (x44 : List (List Cl)) (y5 : List Int) : St := ⟨mkT 141 [(0, one (.ow 0)), (1, one (.int .i64 x36)), (2, one (.int .i64 x37)), (3, one (.fn 115 [0])), (9, one (.int .i64 x38)), (10, one (.int .i64 x39))], [(0, ⟨[.int .i64], .ints y5, true, 0⟩)], [(0, [.tr 2 2 [.int .i64] (.ints x42), .int .i64 x43, .tr 2 2 [.int .i64, .int .i64, .bool] (.cells x44)])]⟩
noncomputable def p6 (K : Res → Option Res) : List Lf → (St → Option Res) → Option Res
  | [.i x36, .i x37, .i x38, .i x39, .i x40, .q (.ints x41), .q (.ints x42), .i x43, .q (.cells x44)], k => l6 x36 x37 x38 x39 x42 x43 x44 (fun y5 => k (o6 x36 x37 x38 x39 x42 x43 x44 y5)) fuel x40 x41
  | _, _ => none
noncomputable def s0 (x7 x8 x9 x10 : Int) (x11 x12 : List Int) (x13 : Int) (x14 : List (List Cl)) : St := ⟨mkT 141 [(0, one (.ow 0)), (1, one (.int .i64 x7)), (2, one (.int .i64 x8)), (3, one (.fn 115 [0])), (9, one (.int .i64 x9)), (10, one (.int .i64 x10))], [(0, ⟨[.int .i64], .ints x11, true, 0⟩)], [(0, [.tr 2 2 [.int .i64] (.ints x12), .int .i64 x13, .tr 2 2 [.int .i64, .int .i64, .bool] (.cells x14)])]⟩
noncomputable def l0s (x7 x8 : Int) (x12 : List Int) (x13 : Int) (x14 : List (List Cl)) (rec : Int → Int → List Int → Option Res) (k : List Int → Option Res) (R : Bool → List Int → List Int → Int → List (List Cl) → Option Res) (x9 x10 : Int) (x11 : List Int) : Option Res :=
  bif decide (x10 < 5) then (l2 x7 x8 x10 x11 x12 x13 x14 (fun y24 => 
    bif (y24 == x8) then R true x11 x12 x13 x14
    else bif decide (IntKind.i64.wrap (x8 - x7) < 50) then R false x11 x12 x13 x14
    else bif decide (0 ≤ IntKind.i64.wrap (y24 - 1)) && decide (IntKind.i64.wrap (y24 - 1) < (x11.length : Int)) then (bif decide (0 ≤ y24) && decide (y24 < (x11.length : Int)) then (bif decide (0 ≤ y24) && decide (y24 < (x11.length : Int)) then (bif decide (0 ≤ IntKind.i64.wrap (y24 - 1)) && decide (IntKind.i64.wrap (y24 - 1) < ((x11.set y24.toNat (x11.getD ((IntKind.i64.wrap (y24 - 1)).toNat) 0)).length : Int)) then (bif decide (2 ≤ IntKind.i64.wrap (y24 - x7)) then (l4 x7 x8 y24 x10 x12 x13 x14 (fun y35 => 
              bif decide (2 ≤ IntKind.i64.wrap (x8 - y24)) then (l6 x7 x8 y24 x10 x12 x13 x14 (fun y46 => 
                rec y24 (IntKind.i64.wrap (x10 + 1)) y46) fuel (IntKind.i64.wrap (y24 + 1)) y35)
              else rec y24 (IntKind.i64.wrap (x10 + 1)) y35) fuel (IntKind.i64.wrap (y24 - 1)) ((x11.set y24.toNat (x11.getD ((IntKind.i64.wrap (y24 - 1)).toNat) 0)).set ((IntKind.i64.wrap (y24 - 1)).toNat) (x11.getD y24.toNat 0)))
            else bif decide (2 ≤ IntKind.i64.wrap (x8 - y24)) then (l6 x7 x8 y24 x10 x12 x13 x14 (fun y47 => 
              rec y24 (IntKind.i64.wrap (x10 + 1)) y47) fuel (IntKind.i64.wrap (y24 + 1)) ((x11.set y24.toNat (x11.getD ((IntKind.i64.wrap (y24 - 1)).toNat) 0)).set ((IntKind.i64.wrap (y24 - 1)).toNat) (x11.getD y24.toNat 0)))
            else rec y24 (IntKind.i64.wrap (x10 + 1)) ((x11.set y24.toNat (x11.getD ((IntKind.i64.wrap (y24 - 1)).toNat) 0)).set ((IntKind.i64.wrap (y24 - 1)).toNat) (x11.getD y24.toNat 0)))
          else none)
        else none)
      else none)
    else none) fuel x9)
  else k x11
noncomputable def l0 (x7 x8 : Int) (x12 : List Int) (x13 : Int) (x14 : List (List Cl)) (k : List Int → Option Res) (R : Bool → List Int → List Int → Int → List (List Cl) → Option Res) : Nat → Int → Int → List Int → Option Res
  | 0, _, _, _ => none
  | n + 1, x9, x10, x11 => l0s x7 x8 x12 x13 x14 (fun x9 x10 x11 => l0 x7 x8 x12 x13 x14 k R n x9 x10 x11) k R x9 x10 x11
noncomputable def o0 (x7 x8 : Int) (x12 : List Int) (x13 : Int) (x14 : List (List Cl)) (y1 : List Int) : St := ⟨mkT 141 [], [(0, ⟨[.int .i64], .ints y1, true, 0⟩)], [(0, [.tr 2 2 [.int .i64] (.ints x12), .int .i64 x13, .tr 2 2 [.int .i64, .int .i64, .bool] (.cells x14)])]⟩
noncomputable def p0 (K : Res → Option Res) : List Lf → (St → Option Res) → Option Res
  | [.i x7, .i x8, .i x9, .i x10, .q (.ints x11), .q (.ints x12), .i x13, .q (.cells x14)], k => l0 x7 x8 x12 x13 x14 (fun y1 => k (o0 x7 x8 x12 x13 x14 y1)) (fun r1 r2 r3 r4 r5 => K (m r1 r2 r3 r4 r5)) fuel x9 x10 x11
  | _, _ => none
noncomputable def os : List (FuncId × St × (List Lf → (Res → Option Res) → Option Res)) := [impl_packed_1.con]
noncomputable def X (K : Res → Option Res) : Ctx := { Γ := Γ0, orc := orcOf os, io := [], share := [], mvl := [], bun := [], cut := [], own := [], cin := [(2, ⟨[0, 1, 2, 3, 9, 10], [(0, 0)], [0], [], [], []⟩), (4, ⟨[0, 1, 2, 3, 9, 10, 11], [(0, 0)], [0], [], [], []⟩), (6, ⟨[0, 1, 2, 3, 9, 10, 12], [(0, 0)], [0], [], [], []⟩), (0, ⟨[0, 1, 2, 3, 9, 10], [(0, 0)], [0], [], [], []⟩)], cout := [(2, ⟨[0, 1, 2, 3, 9, 10], [(0, 0)], [0], [], [], []⟩), (4, ⟨[0, 1, 2, 3, 9, 10], [(0, 0)], [0], [], [], []⟩), (6, ⟨[0, 1, 2, 3, 9, 10], [(0, 0)], [0], [], [], []⟩), (0, ⟨[], [(0, 0)], [0], [], [], []⟩)], lp := lpOf [(2, s2 0 0 0 0 [] [] 0 [], p2 K), (4, s4 0 0 0 0 0 [] [] 0 [], p4 K), (6, s6 0 0 0 0 0 [] [] 0 [], p6 K), (0, s0 0 0 0 0 [] [] 0 [], p0 K)], kl := [], nk := true, eqs := eqs0, byt := byt0, fin := finK fi K }
noncomputable def b (a1 a2 : Int) (a3 a4 : List Int) (a5 : Int) (a6 : List (List Cl)) (R : Bool → List Int → List Int → Int → List (List Cl) → Option Res) : Option Res :=
  l0 a1 a2 a4 a5 a6 (fun y48 => 
  R false y48 a4 a5 a6) R fuel (IntKind.i64.wrap (a1 + 1)) 0 a3
theorem gx : ∃ x : Int → Int → List Int → List Int → Int → List (List Cl) → (Bool → List Int → List Int → Int → List (List Cl) → Option Res) → Option Res, x = b := ⟨_, rfl⟩
noncomputable def g : Int → Int → List Int → List Int → Int → List (List Cl) → (Bool → List Int → List Int → Int → List (List Cl) → Option Res) → Option Res := Classical.choose gx
theorem e : g = b := Classical.choose_spec gx
noncomputable def run : List Lf → (Res → Option Res) → Option Res
  | [.i a1, .i a2, .q (.ints a3), .q (.ints a4), .i a5, .q (.cells a6)], K => g a1 a2 a3 a4 a5 a6 (fun r1 r2 r3 r4 r5 => K (m r1 r2 r3 r4 r5))
  | _, _ => none
noncomputable def a (a1 a2 : Int) (a3 a4 : List Int) (a5 : Int) (a6 : List (List Cl)) : St := argSt [one (.ow 0), one (.int .i64 a1), one (.int .i64 a2), one (.fn 115 [0])] [⟨[.int .i64], .ints a3, true, 0⟩] [[.tr 2 2 [.int .i64] (.ints a4), .int .i64 a5, .tr 2 2 [.int .i64, .int .i64, .bool] (.cells a6)]]
noncomputable def con : FuncId × St × (List Lf → (Res → Option Res) → Option Res) := (192, a 0 0 [] [] 0 [], run)
theorem cx (K : Res → Option Res) : CtxOk Go.Proofs.Try.prog Γ0 byt0 eqs0 (X K) os := ⟨rfl, rfl, rfl, (fun p hp => by
  rcases List.mem_cons.1 hp with rfl | hp
  · exact impl_packed_1.ok
  cases hp), rfl, rfl, rfl, rfl⟩
theorem t2 (K : Res → Option Res) (k : St → Option Res) (it : St → (St → Option Res) → Option Res) (x15 x16 x17 x18 : Int) (x19 x20 : List Int) (x21 : Int) (x22 : List (List Cl)) : iterS (X K) 2 b2 it (s2 x15 x16 x17 x18 x19 x20 x21 x22) k = l2s x15 x16 x18 x19 x20 x21 x22 (fun x17 => it (s2 x15 x16 x17 x18 x19 x20 x21 x22) k) (fun y3 => k (o2 x15 x16 x18 x19 x20 x21 x22 y3)) x17 := by kernel_rfl
theorem i2 (K : Res → Option Res) (k : St → Option Res) (x15 x16 x18 : Int) (x19 x20 : List Int) (x21 : Int) (x22 : List (List Cl)) : ∀ (n : Nat) (x17 : Int), iter (X K) 2 b2 n (s2 x15 x16 x17 x18 x19 x20 x21 x22) k = l2 x15 x16 x18 x19 x20 x21 x22 (fun y3 => k (o2 x15 x16 x18 x19 x20 x21 x22 y3)) n x17
  | 0, _ => rfl
  | n + 1, x17 => by
    rw [iter_succ, t2, show (fun x17 => iter (X K) 2 b2 n (s2 x15 x16 x17 x18 x19 x20 x21 x22) k) = (fun x17 => l2 x15 x16 x18 x19 x20 x21 x22 (fun y3 => k (o2 x15 x16 x18 x19 x20 x21 x22 y3)) n x17) from funext fun x17 => i2 K k x15 x16 x18 x19 x20 x21 x22 n x17]; rfl
theorem v2 {K : Res → Option Res} {l : List Lf} {k : St → Option Res} {r : Res} (h : p2 K l k = some r) : ∃ x15 x16 x17 x18 x19 x20 x21 x22, l = [.i x15, .i x16, .i x17, .i x18, .q (.ints x19), .q (.ints x20), .i x21, .q (.cells x22)] ∧ l2 x15 x16 x18 x19 x20 x21 x22 (fun y3 => k (o2 x15 x16 x18 x19 x20 x21 x22 y3)) fuel x17 = some r := by
  unfold p2 at h; split at h
  · exact ⟨_, _, _, _, _, _, _, _, rfl, h⟩
  · cases h
theorem t4 (K : Res → Option Res) (k : St → Option Res) (it : St → (St → Option Res) → Option Res) (x25 x26 x27 x28 x29 : Int) (x30 x31 : List Int) (x32 : Int) (x33 : List (List Cl)) : iterS (X K) 4 b4 it (s4 x25 x26 x27 x28 x29 x30 x31 x32 x33) k = l4s x25 x26 x27 x28 x31 x32 x33 (fun x29 x30 => it (s4 x25 x26 x27 x28 x29 x30 x31 x32 x33) k) (fun y5 => k (o4 x25 x26 x27 x28 x31 x32 x33 y5)) x29 x30 := by kernel_rfl
theorem i4 (K : Res → Option Res) (k : St → Option Res) (x25 x26 x27 x28 : Int) (x31 : List Int) (x32 : Int) (x33 : List (List Cl)) : ∀ (n : Nat) (x29 : Int) (x30 : List Int), iter (X K) 4 b4 n (s4 x25 x26 x27 x28 x29 x30 x31 x32 x33) k = l4 x25 x26 x27 x28 x31 x32 x33 (fun y5 => k (o4 x25 x26 x27 x28 x31 x32 x33 y5)) n x29 x30
  | 0, _, _ => rfl
  | n + 1, x29, x30 => by
    rw [iter_succ, t4, show (fun x29 x30 => iter (X K) 4 b4 n (s4 x25 x26 x27 x28 x29 x30 x31 x32 x33) k) = (fun x29 x30 => l4 x25 x26 x27 x28 x31 x32 x33 (fun y5 => k (o4 x25 x26 x27 x28 x31 x32 x33 y5)) n x29 x30) from funext fun x29 => funext fun x30 => i4 K k x25 x26 x27 x28 x31 x32 x33 n x29 x30]; rfl
theorem v4 {K : Res → Option Res} {l : List Lf} {k : St → Option Res} {r : Res} (h : p4 K l k = some r) : ∃ x25 x26 x27 x28 x29 x30 x31 x32 x33, l = [.i x25, .i x26, .i x27, .i x28, .i x29, .q (.ints x30), .q (.ints x31), .i x32, .q (.cells x33)] ∧ l4 x25 x26 x27 x28 x31 x32 x33 (fun y5 => k (o4 x25 x26 x27 x28 x31 x32 x33 y5)) fuel x29 x30 = some r := by
  unfold p4 at h; split at h
  · exact ⟨_, _, _, _, _, _, _, _, _, rfl, h⟩
  · cases h
theorem t6 (K : Res → Option Res) (k : St → Option Res) (it : St → (St → Option Res) → Option Res) (x36 x37 x38 x39 x40 : Int) (x41 x42 : List Int) (x43 : Int) (x44 : List (List Cl)) : iterS (X K) 6 b6 it (s6 x36 x37 x38 x39 x40 x41 x42 x43 x44) k = l6s x36 x37 x38 x39 x42 x43 x44 (fun x40 x41 => it (s6 x36 x37 x38 x39 x40 x41 x42 x43 x44) k) (fun y5 => k (o6 x36 x37 x38 x39 x42 x43 x44 y5)) x40 x41 := by kernel_rfl
theorem i6 (K : Res → Option Res) (k : St → Option Res) (x36 x37 x38 x39 : Int) (x42 : List Int) (x43 : Int) (x44 : List (List Cl)) : ∀ (n : Nat) (x40 : Int) (x41 : List Int), iter (X K) 6 b6 n (s6 x36 x37 x38 x39 x40 x41 x42 x43 x44) k = l6 x36 x37 x38 x39 x42 x43 x44 (fun y5 => k (o6 x36 x37 x38 x39 x42 x43 x44 y5)) n x40 x41
  | 0, _, _ => rfl
  | n + 1, x40, x41 => by
    rw [iter_succ, t6, show (fun x40 x41 => iter (X K) 6 b6 n (s6 x36 x37 x38 x39 x40 x41 x42 x43 x44) k) = (fun x40 x41 => l6 x36 x37 x38 x39 x42 x43 x44 (fun y5 => k (o6 x36 x37 x38 x39 x42 x43 x44 y5)) n x40 x41) from funext fun x40 => funext fun x41 => i6 K k x36 x37 x38 x39 x42 x43 x44 n x40 x41]; rfl
theorem v6 {K : Res → Option Res} {l : List Lf} {k : St → Option Res} {r : Res} (h : p6 K l k = some r) : ∃ x36 x37 x38 x39 x40 x41 x42 x43 x44, l = [.i x36, .i x37, .i x38, .i x39, .i x40, .q (.ints x41), .q (.ints x42), .i x43, .q (.cells x44)] ∧ l6 x36 x37 x38 x39 x42 x43 x44 (fun y5 => k (o6 x36 x37 x38 x39 x42 x43 x44 y5)) fuel x40 x41 = some r := by
  unfold p6 at h; split at h
  · exact ⟨_, _, _, _, _, _, _, _, _, rfl, h⟩
  · cases h
theorem t0 (K : Res → Option Res) (k : St → Option Res) (it : St → (St → Option Res) → Option Res) (x7 x8 x9 x10 : Int) (x11 x12 : List Int) (x13 : Int) (x14 : List (List Cl)) : iterS (X K) 0 b0 it (s0 x7 x8 x9 x10 x11 x12 x13 x14) k = l0s x7 x8 x12 x13 x14 (fun x9 x10 x11 => it (s0 x7 x8 x9 x10 x11 x12 x13 x14) k) (fun y1 => k (o0 x7 x8 x12 x13 x14 y1)) (fun r1 r2 r3 r4 r5 => K (m r1 r2 r3 r4 r5)) x9 x10 x11 := by kernel_rfl
theorem i0 (K : Res → Option Res) (k : St → Option Res) (x7 x8 : Int) (x12 : List Int) (x13 : Int) (x14 : List (List Cl)) : ∀ (n : Nat) (x9 x10 : Int) (x11 : List Int), iter (X K) 0 b0 n (s0 x7 x8 x9 x10 x11 x12 x13 x14) k = l0 x7 x8 x12 x13 x14 (fun y1 => k (o0 x7 x8 x12 x13 x14 y1)) (fun r1 r2 r3 r4 r5 => K (m r1 r2 r3 r4 r5)) n x9 x10 x11
  | 0, _, _, _ => rfl
  | n + 1, x9, x10, x11 => by
    rw [iter_succ, t0, show (fun x9 x10 x11 => iter (X K) 0 b0 n (s0 x7 x8 x9 x10 x11 x12 x13 x14) k) = (fun x9 x10 x11 => l0 x7 x8 x12 x13 x14 (fun y1 => k (o0 x7 x8 x12 x13 x14 y1)) (fun r1 r2 r3 r4 r5 => K (m r1 r2 r3 r4 r5)) n x9 x10 x11) from funext fun x9 => funext fun x10 => funext fun x11 => i0 K k x7 x8 x12 x13 x14 n x9 x10 x11]; rfl
theorem v0 {K : Res → Option Res} {l : List Lf} {k : St → Option Res} {r : Res} (h : p0 K l k = some r) : ∃ x7 x8 x9 x10 x11 x12 x13 x14, l = [.i x7, .i x8, .i x9, .i x10, .q (.ints x11), .q (.ints x12), .i x13, .q (.cells x14)] ∧ l0 x7 x8 x12 x13 x14 (fun y1 => k (o0 x7 x8 x12 x13 x14 y1)) (fun r1 r2 r3 r4 r5 => K (m r1 r2 r3 r4 r5)) fuel x9 x10 x11 = some r := by
  unfold p0 at h; split at h
  · exact ⟨_, _, _, _, _, _, _, _, rfl, h⟩
  · cases h
theorem w4 (K : Res → Option Res) : LpSound Go.Proofs.Try.prog (X K) 4 b4 := lp_ok ((cx K).ok laid) (by rw [show loopsOf b4 = [] from by kernel_rfl]; intro p hp; cases hp) rfl fun p hp hid => by
  rcases List.mem_cons.1 hp with rfl | hp
  · exact absurd hid (by simp)
  rcases List.mem_cons.1 hp with rfl | hp
  · intro st k r h1 h2; obtain ⟨x25, x26, x27, x28, x29, x30, x31, x32, x33, e, h⟩ := v4 (K := K) h2; have := St.like_eq (y := s4 x25 x26 x27 x28 x29 x30 x31 x32 x33) h1 (by kernel_rfl) e; subst this; exact ⟨fuel, (i4 K k x25 x26 x27 x28 x31 x32 x33 fuel x29 x30).trans h⟩
  rcases List.mem_cons.1 hp with rfl | hp
  · exact absurd hid (by simp)
  rcases List.mem_cons.1 hp with rfl | hp
  · exact absurd hid (by simp)
  cases hp
theorem w6 (K : Res → Option Res) : LpSound Go.Proofs.Try.prog (X K) 6 b6 := lp_ok ((cx K).ok laid) (by rw [show loopsOf b6 = [] from by kernel_rfl]; intro p hp; cases hp) rfl fun p hp hid => by
  rcases List.mem_cons.1 hp with rfl | hp
  · exact absurd hid (by simp)
  rcases List.mem_cons.1 hp with rfl | hp
  · exact absurd hid (by simp)
  rcases List.mem_cons.1 hp with rfl | hp
  · intro st k r h1 h2; obtain ⟨x36, x37, x38, x39, x40, x41, x42, x43, x44, e, h⟩ := v6 (K := K) h2; have := St.like_eq (y := s6 x36 x37 x38 x39 x40 x41 x42 x43 x44) h1 (by kernel_rfl) e; subst this; exact ⟨fuel, (i6 K k x36 x37 x38 x39 x42 x43 x44 fuel x40 x41).trans h⟩
  rcases List.mem_cons.1 hp with rfl | hp
  · exact absurd hid (by simp)
  cases hp
theorem w2 (K : Res → Option Res) : LpSound Go.Proofs.Try.prog (X K) 2 b2 := lp_ok ((cx K).ok laid) (by rw [show loopsOf b2 = [] from by kernel_rfl]; intro p hp; cases hp) rfl fun p hp hid => by
  rcases List.mem_cons.1 hp with rfl | hp
  · intro st k r h1 h2; obtain ⟨x15, x16, x17, x18, x19, x20, x21, x22, e, h⟩ := v2 (K := K) h2; have := St.like_eq (y := s2 x15 x16 x17 x18 x19 x20 x21 x22) h1 (by kernel_rfl) e; subst this; exact ⟨fuel, (i2 K k x15 x16 x18 x19 x20 x21 x22 fuel x17).trans h⟩
  rcases List.mem_cons.1 hp with rfl | hp
  · exact absurd hid (by simp)
  rcases List.mem_cons.1 hp with rfl | hp
  · exact absurd hid (by simp)
  rcases List.mem_cons.1 hp with rfl | hp
  · exact absurd hid (by simp)
  cases hp
theorem w0 (K : Res → Option Res) : LpSound Go.Proofs.Try.prog (X K) 0 b0 := lp_ok ((cx K).ok laid) (by
    rw [show loopsOf b0 = [(2, b2), (4, b4), (6, b6)] from by kernel_rfl]; intro p hp
    rcases List.mem_cons.1 hp with rfl | hp
    · exact w2 K
    rcases List.mem_cons.1 hp with rfl | hp
    · exact w4 K
    rcases List.mem_cons.1 hp with rfl | hp
    · exact w6 K
    cases hp) rfl fun p hp hid => by
  rcases List.mem_cons.1 hp with rfl | hp
  · exact absurd hid (by simp)
  rcases List.mem_cons.1 hp with rfl | hp
  · exact absurd hid (by simp)
  rcases List.mem_cons.1 hp with rfl | hp
  · exact absurd hid (by simp)
  rcases List.mem_cons.1 hp with rfl | hp
  · intro st k r h1 h2; obtain ⟨x7, x8, x9, x10, x11, x12, x13, x14, e, h⟩ := v0 (K := K) h2; have := St.like_eq (y := s0 x7 x8 x9 x10 x11 x12 x13 x14) h1 (by kernel_rfl) e; subst this; exact ⟨fuel, (i0 K k x7 x8 x12 x13 x14 fuel x9 x10 x11).trans h⟩
  cases hp
theorem tie (K : Res → Option Res) (a1 a2 : Int) (a3 a4 : List Int) (a5 : Int) (a6 : List (List Cl)) : exec (X K) c (entry 141 [one (.ow 0), one (.int .i64 a1), one (.int .i64 a2), one (.fn 115 [0])] [⟨[.int .i64], .ints a3, true, 0⟩] [[.tr 2 2 [.int .i64] (.ints a4), .int .i64 a5, .tr 2 2 [.int .i64, .int .i64, .bool] (.cells a6)]]) (endK (X K)) = g a1 a2 a3 a4 a5 a6 (fun r1 r2 r3 r4 r5 => K (m r1 r2 r3 r4 r5)) := Eq.trans (b := b a1 a2 a3 a4 a5 a6 (fun r1 r2 r3 r4 r5 => K (m r1 r2 r3 r4 r5))) (by kernel_rfl) (by rw [e])
theorem runv {l : List Lf} {K : Res → Option Res} {r : Res} (h : run l K = some r) : ∃ a1 a2 a3 a4 a5 a6, l = [.i a1, .i a2, .q (.ints a3), .q (.ints a4), .i a5, .q (.cells a6)] ∧ g a1 a2 a3 a4 a5 a6 (fun r1 r2 r3 r4 r5 => K (m r1 r2 r3 r4 r5)) = some r := by
  unfold run at h; split at h
  · exact ⟨_, _, _, _, _, _, rfl, h⟩
  · cases h
theorem ok : Con Go.Proofs.Try.prog con := con_of (fn := Go.Proofs.Try.f192) (c := c) (Fi := fi) (X := X) (fun_of laid (by kernel_rfl) (by kernel_rfl) (by kernel_rfl) rfl (by kernel_rfl) (by kernel_rfl) cx (fun _ => rfl) (fun _ => rfl) (fun K => by
    rw [show loopsOf c = [(0, b0), (2, b2), (4, b4), (6, b6)] from by kernel_rfl]; intro p hp
    rcases List.mem_cons.1 hp with rfl | hp
    · exact w0 K
    rcases List.mem_cons.1 hp with rfl | hp
    · exact w2 K
    rcases List.mem_cons.1 hp with rfl | hp
    · exact w4 K
    rcases List.mem_cons.1 hp with rfl | hp
    · exact w6 K
    cases hp)) fun xs rows boxes K r hl hr => by
  obtain ⟨a1, a2, a3, a4, a5, a6, e, h⟩ := runv hr
  have := St.like_eq (y := a a1 a2 a3 a4 a5 a6) hl (by kernel_rfl) e
  obtain ⟨rfl, rfl, rfl⟩ := argSt_inj this
  exact (tie K a1 a2 a3 a4 a5 a6).trans h
end slices_partialInsertionSortCmpFunc_int
namespace slices_partitionEqualCmpFunc_int
noncomputable def c : Code := bodyOf Go.Proofs.Try.f193
noncomputable def fi : Fin := ⟨Γ0, [(.tmp 10, 3)], [[1]], [true], [([.sl [.int .i64] 8, .int .i64, .sl [.int .i64, .int .i64, .bool] 24], [0, 1, 0])], []⟩
noncomputable def m (r1 : Int) (r2 r3 : List Int) (r4 : Int) (r5 : List (List Cl)) : Res := ⟨[⟨false, [.int .i64 r1]⟩], [some ⟨[.int .i64], .ints r2, true, 0⟩], [], [[.tr 2 2 [.int .i64] (.ints r3), .int .i64 r4, .tr 2 2 [.int .i64, .int .i64, .bool] (.cells r5)]], []⟩
noncomputable def b0 : Code := codeAt c [1, 1, 1, 0, 0, 0]
noncomputable def b2 : Code := codeAt c [1, 1, 1, 0, 0, 0, 0, 0, 0, 0]
noncomputable def b4 : Code := codeAt c [1, 1, 1, 0, 0, 0, 0, 1, 0, 0, 0]
noncomputable def s2 (x15 x16 x17 : Int) (x18 x19 : List Int) (x20 : Int) (x21 : List (List Cl)) : St := ⟨mkT 90 [(0, one (.ow 0)), (1, one (.int .i64 x15)), (4, one (.fn 115 [0])), (11, one (.int .i64 x16)), (12, one (.int .i64 x17))], [(0, ⟨[.int .i64], .ints x18, true, 0⟩)], [(0, [.tr 2 2 [.int .i64] (.ints x19), .int .i64 x20, .tr 2 2 [.int .i64, .int .i64, .bool] (.cells x21)])]⟩
noncomputable def l2s (x15 x17 : Int) (x18 x19 : List Int) (x20 : Int) (x21 : List (List Cl)) (rec : Int → Option Res) (k : Int → Option Res) (x16 : Int) : Option Res :=
  bif decide (x16 ≤ x17) then (bif decide (0 ≤ x15) && decide (x15 < (x18.length : Int)) then (bif decide (0 ≤ x16) && decide (x16 < (x18.length : Int)) then (impl_packed_1.g (x18.getD x15.toNat 0) (x18.getD x16.toNat 0) x19 x20 x21 fun r22 =>
        bif !(decide (r22 < 0)) then rec (IntKind.i64.wrap (x16 + 1))
        else k x16)
      else none)
    else none)
  else k x16
noncomputable def l2 (x15 x17 : Int) (x18 x19 : List Int) (x20 : Int) (x21 : List (List Cl)) (k : Int → Option Res) : Nat → Int → Option Res
  | 0, _ => none
  | n + 1, x16 => l2s x15 x17 x18 x19 x20 x21 (fun x16 => l2 x15 x17 x18 x19 x20 x21 k n x16) k x16
noncomputable def o2 (x15 x17 : Int) (x18 x19 : List Int) (x20 : Int) (x21 : List (List Cl)) (y2 : Int) : St := ⟨mkT 90 [(0, one (.ow 0)), (1, one (.int .i64 x15)), (4, one (.fn 115 [0])), (11, one (.int .i64 y2)), (12, one (.int .i64 x17))], [(0, ⟨[.int .i64], .ints x18, true, 0⟩)], [(0, [.tr 2 2 [.int .i64] (.ints x19), .int .i64 x20, .tr 2 2 [.int .i64, .int .i64, .bool] (.cells x21)])]⟩
noncomputable def p2 (K : Res → Option Res) : List Lf → (St → Option Res) → Option Res
  | [.i x15, .i x16, .i x17, .q (.ints x18), .q (.ints x19), .i x20, .q (.cells x21)], k => l2 x15 x17 x18 x19 x20 x21 (fun y2 => k (o2 x15 x17 x18 x19 x20 x21 y2)) fuel x16
  | _, _ => none
noncomputable def s4 (x24 x25 x26 : Int) (x27 x28 : List Int) (x29 : Int) (x30 : List (List Cl)) : St := ⟨mkT 90 [(0, one (.ow 0)), (1, one (.int .i64 x24)), (4, one (.fn 115 [0])), (11, one (.int .i64 x25)), (12, one (.int .i64 x26))], [(0, ⟨[.int .i64], .ints x27, true, 0⟩)], [(0, [.tr 2 2 [.int .i64] (.ints x28), .int .i64 x29, .tr 2 2 [.int .i64, .int .i64, .bool] (.cells x30)])]⟩
noncomputable def l4s (x24 x25 : Int) (x27 x28 : List Int) (x29 : Int) (x30 : List (List Cl)) (rec : Int → Option Res) (k : Int → Option Res) (x26 : Int) : Option Res :=
  bif decide (x25 ≤ x26) then (bif decide (0 ≤ x24) && decide (x24 < (x27.length : Int)) then (bif decide (0 ≤ x26) && decide (x26 < (x27.length : Int)) then (impl_packed_1.g (x27.getD x24.toNat 0) (x27.getD x26.toNat 0) x28 x29 x30 fun r31 =>
        bif decide (r31 < 0) then rec (IntKind.i64.wrap (x26 - 1))
        else k x26)
      else none)
    else none)
  else k x26
noncomputable def l4 (x24 x25 : Int) (x27 x28 : List Int) (x29 : Int) (x30 : List (List Cl)) (k : Int → Option Res) : Nat → Int → Option Res
  | 0, _ => none
  | n + 1, x26 => l4s x24 x25 x27 x28 x29 x30 (fun x26 => l4 x24 x25 x27 x28 x29 x30 k n x26) k x26
noncomputable def o4 (x24 x25 : Int) (x27 x28 : List Int) (x29 : Int) (x30 : List (List Cl)) (y3 : Int) : St := ⟨mkT 90 [(0, one (.ow 0)), (1, one (.int .i64 x24)), (4, one (.fn 115 [0])), (11, one (.int .i64 x25)), (12, one (.int .i64 y3))], [(0, ⟨[.int .i64], .ints x27, true, 0⟩)], [(0, [.tr 2 2 [.int .i64] (.ints x28), .int .i64 x29, .tr 2 2 [.int .i64, .int .i64, .bool] (.cells x30)])]⟩
noncomputable def p4 (K : Res → Option Res) : List Lf → (St → Option Res) → Option Res
  | [.i x24, .i x25, .i x26, .q (.ints x27), .q (.ints x28), .i x29, .q (.cells x30)], k => l4 x24 x25 x27 x28 x29 x30 (fun y3 => k (o4 x24 x25 x27 x28 x29 x30 y3)) fuel x26
  | _, _ => none
noncomputable def s0 (x8 x9 x10 : Int) (x11 x12 : List Int) (x13 : Int) (x14 : List (List Cl)) : St := ⟨mkT 90 [(0, one (.ow 0)), (1, one (.int .i64 x8)), (4, one (.fn 115 [0])), (11, one (.int .i64 x9)), (12, one (.int .i64 x10))], [(0, ⟨[.int .i64], .ints x11, true, 0⟩)], [(0, [.tr 2 2 [.int .i64] (.ints x12), .int .i64 x13, .tr 2 2 [.int .i64, .int .i64, .bool] (.cells x14)])]⟩
noncomputable def l0s (x8 : Int) (x12 : List Int) (x13 : Int) (x14 : List (List Cl)) (rec : Int → Int → List Int → Option Res) (k : Int → List Int → Option Res) (x9 x10 : Int) (x11 : List Int) : Option Res :=
  l2 x8 x10 x11 x12 x13 x14 (fun y23 => 
  l4 x8 y23 x11 x12 x13 x14 (fun y32 => 
  bif decide (y32 < y23) then k y23 x11
  else bif decide (0 ≤ y32) && decide (y32 < (x11.length : Int)) then (bif decide (0 ≤ y23) && decide (y23 < (x11.length : Int)) then (bif decide (0 ≤ y23) && decide (y23 < (x11.length : Int)) then (bif decide (0 ≤ y32) && decide (y32 < ((x11.set y23.toNat (x11.getD y32.toNat 0)).length : Int)) then rec (IntKind.i64.wrap (y23 + 1)) (IntKind.i64.wrap (y32 - 1)) ((x11.set y23.toNat (x11.getD y32.toNat 0)).set y32.toNat (x11.getD y23.toNat 0))
        else none)
      else none)
    else none)
  else none) fuel x10) fuel x9
noncomputable def l0 (x8 : Int) (x12 : List Int) (x13 : Int) (x14 : List (List Cl)) (k : Int → List Int → Option Res) : Nat → Int → Int → List Int → Option Res
  | 0, _, _, _ => none
  | n + 1, x9, x10, x11 => l0s x8 x12 x13 x14 (fun x9 x10 x11 => l0 x8 x12 x13 x14 k n x9 x10 x11) k x9 x10 x11
noncomputable def o0 (x8 : Int) (x12 : List Int) (x13 : Int) (x14 : List (List Cl)) (y1 : Int) (y2 : List Int) : St := ⟨mkT 90 [(11, one (.int .i64 y1))], [(0, ⟨[.int .i64], .ints y2, true, 0⟩)], [(0, [.tr 2 2 [.int .i64] (.ints x12), .int .i64 x13, .tr 2 2 [.int .i64, .int .i64, .bool] (.cells x14)])]⟩
noncomputable def p0 (K : Res → Option Res) : List Lf → (St → Option Res) → Option Res
  | [.i x8, .i x9, .i x10, .q (.ints x11), .q (.ints x12), .i x13, .q (.cells x14)], k => l0 x8 x12 x13 x14 (fun y1 y2 => k (o0 x8 x12 x13 x14 y1 y2)) fuel x9 x10 x11
  | _, _ => none
noncomputable def os : List (FuncId × St × (List Lf → (Res → Option Res) → Option Res)) := [impl_packed_1.con]
noncomputable def X (K : Res → Option Res) : Ctx := { Γ := Γ0, orc := orcOf os, io := [], share := [], mvl := [], bun := [], cut := [], own := [], cin := [(2, ⟨[0, 1, 4, 11, 12], [(0, 0)], [0], [], [], []⟩), (4, ⟨[0, 1, 4, 11, 12], [(0, 0)], [0], [], [], []⟩), (0, ⟨[0, 1, 4, 11, 12], [(0, 0)], [0], [], [], []⟩)], cout := [(2, ⟨[0, 1, 4, 11, 12], [(0, 0)], [0], [], [], []⟩), (4, ⟨[0, 1, 4, 11, 12], [(0, 0)], [0], [], [], []⟩), (0, ⟨[11], [(0, 0)], [0], [], [], []⟩)], lp := lpOf [(2, s2 0 0 0 [] [] 0 [], p2 K), (4, s4 0 0 0 [] [] 0 [], p4 K), (0, s0 0 0 0 [] [] 0 [], p0 K)], kl := [], nk := true, eqs := eqs0, byt := byt0, fin := finK fi K }
noncomputable def b (a1 a2 a3 : Int) (a4 a5 : List Int) (a6 : Int) (a7 : List (List Cl)) (R : Int → List Int → List Int → Int → List (List Cl) → Option Res) : Option Res :=
  bif decide (0 ≤ a3) && decide (a3 < (a4.length : Int)) then (bif decide (0 ≤ a1) && decide (a1 < (a4.length : Int)) then (bif decide (0 ≤ a1) && decide (a1 < (a4.length : Int)) then (bif decide (0 ≤ a3) && decide (a3 < ((a4.set a1.toNat (a4.getD a3.toNat 0)).length : Int)) then (l0 a1 a5 a6 a7 (fun y33 y34 => 
          R y33 y34 a5 a6 a7) fuel (IntKind.i64.wrap (a1 + 1)) (IntKind.i64.wrap (a2 - 1)) ((a4.set a1.toNat (a4.getD a3.toNat 0)).set a3.toNat (a4.getD a1.toNat 0)))
        else none)
      else none)
    else none)
  else none
theorem gx : ∃ x : Int → Int → Int → List Int → List Int → Int → List (List Cl) → (Int → List Int → List Int → Int → List (List Cl) → Option Res) → Option Res, x = b := ⟨_, rfl⟩
noncomputable def g : Int → Int → Int → List Int → List Int → Int → List (List Cl) → (Int → List Int → List Int → Int → List (List Cl) → Option Res) → Option Res := Classical.choose gx
theorem e : g = b := Classical.choose_spec gx
noncomputable def run : List Lf → (Res → Option Res) → Option Res
  | [.i a1, .i a2, .i a3, .q (.ints a4), .q (.ints a5), .i a6, .q (.cells a7)], K => g a1 a2 a3 a4 a5 a6 a7 (fun r1 r2 r3 r4 r5 => K (m r1 r2 r3 r4 r5))
  | _, _ => none
noncomputable def a (a1 a2 a3 : Int) (a4 a5 : List Int) (a6 : Int) (a7 : List (List Cl)) : St := argSt [one (.ow 0), one (.int .i64 a1), one (.int .i64 a2), one (.int .i64 a3), one (.fn 115 [0])] [⟨[.int .i64], .ints a4, true, 0⟩] [[.tr 2 2 [.int .i64] (.ints a5), .int .i64 a6, .tr 2 2 [.int .i64, .int .i64, .bool] (.cells a7)]]
noncomputable def con : FuncId × St × (List Lf → (Res → Option Res) → Option Res) := (193, a 0 0 0 [] [] 0 [], run)
theorem cx (K : Res → Option Res) : CtxOk Go.Proofs.Try.prog Γ0 byt0 eqs0 (X K) os := ⟨rfl, rfl, rfl, (fun p hp => by
  rcases List.mem_cons.1 hp with rfl | hp
  · exact impl_packed_1.ok
  cases hp), rfl, rfl, rfl, rfl⟩
theorem t2 (K : Res → Option Res) (k : St → Option Res) (it : St → (St → Option Res) → Option Res) (x15 x16 x17 : Int) (x18 x19 : List Int) (x20 : Int) (x21 : List (List Cl)) : iterS (X K) 2 b2 it (s2 x15 x16 x17 x18 x19 x20 x21) k = l2s x15 x17 x18 x19 x20 x21 (fun x16 => it (s2 x15 x16 x17 x18 x19 x20 x21) k) (fun y2 => k (o2 x15 x17 x18 x19 x20 x21 y2)) x16 := by kernel_rfl
theorem i2 (K : Res → Option Res) (k : St → Option Res) (x15 x17 : Int) (x18 x19 : List Int) (x20 : Int) (x21 : List (List Cl)) : ∀ (n : Nat) (x16 : Int), iter (X K) 2 b2 n (s2 x15 x16 x17 x18 x19 x20 x21) k = l2 x15 x17 x18 x19 x20 x21 (fun y2 => k (o2 x15 x17 x18 x19 x20 x21 y2)) n x16
  | 0, _ => rfl
  | n + 1, x16 => by
    rw [iter_succ, t2, show (fun x16 => iter (X K) 2 b2 n (s2 x15 x16 x17 x18 x19 x20 x21) k) = (fun x16 => l2 x15 x17 x18 x19 x20 x21 (fun y2 => k (o2 x15 x17 x18 x19 x20 x21 y2)) n x16) from funext fun x16 => i2 K k x15 x17 x18 x19 x20 x21 n x16]; rfl
theorem v2 {K : Res → Option Res} {l : List Lf} {k : St → Option Res} {r : Res} (h : p2 K l k = some r) : ∃ x15 x16 x17 x18 x19 x20 x21, l = [.i x15, .i x16, .i x17, .q (.ints x18), .q (.ints x19), .i x20, .q (.cells x21)] ∧ l2 x15 x17 x18 x19 x20 x21 (fun y2 => k (o2 x15 x17 x18 x19 x20 x21 y2)) fuel x16 = some r := by
  unfold p2 at h; split at h
  · exact ⟨_, _, _, _, _, _, _, rfl, h⟩
  · cases h
theorem t4 (K : Res → Option Res) (k : St → Option Res) (it : St → (St → Option Res) → Option Res) (x24 x25 x26 : Int) (x27 x28 : List Int) (x29 : Int) (x30 : List (List Cl)) : iterS (X K) 4 b4 it (s4 x24 x25 x26 x27 x28 x29 x30) k = l4s x24 x25 x27 x28 x29 x30 (fun x26 => it (s4 x24 x25 x26 x27 x28 x29 x30) k) (fun y3 => k (o4 x24 x25 x27 x28 x29 x30 y3)) x26 := by kernel_rfl
theorem i4 (K : Res → Option Res) (k : St → Option Res) (x24 x25 : Int) (x27 x28 : List Int) (x29 : Int) (x30 : List (List Cl)) : ∀ (n : Nat) (x26 : Int), iter (X K) 4 b4 n (s4 x24 x25 x26 x27 x28 x29 x30) k = l4 x24 x25 x27 x28 x29 x30 (fun y3 => k (o4 x24 x25 x27 x28 x29 x30 y3)) n x26
  | 0, _ => rfl
  | n + 1, x26 => by
    rw [iter_succ, t4, show (fun x26 => iter (X K) 4 b4 n (s4 x24 x25 x26 x27 x28 x29 x30) k) = (fun x26 => l4 x24 x25 x27 x28 x29 x30 (fun y3 => k (o4 x24 x25 x27 x28 x29 x30 y3)) n x26) from funext fun x26 => i4 K k x24 x25 x27 x28 x29 x30 n x26]; rfl
theorem v4 {K : Res → Option Res} {l : List Lf} {k : St → Option Res} {r : Res} (h : p4 K l k = some r) : ∃ x24 x25 x26 x27 x28 x29 x30, l = [.i x24, .i x25, .i x26, .q (.ints x27), .q (.ints x28), .i x29, .q (.cells x30)] ∧ l4 x24 x25 x27 x28 x29 x30 (fun y3 => k (o4 x24 x25 x27 x28 x29 x30 y3)) fuel x26 = some r := by
  unfold p4 at h; split at h
  · exact ⟨_, _, _, _, _, _, _, rfl, h⟩
  · cases h
theorem t0 (K : Res → Option Res) (k : St → Option Res) (it : St → (St → Option Res) → Option Res) (x8 x9 x10 : Int) (x11 x12 : List Int) (x13 : Int) (x14 : List (List Cl)) : iterS (X K) 0 b0 it (s0 x8 x9 x10 x11 x12 x13 x14) k = l0s x8 x12 x13 x14 (fun x9 x10 x11 => it (s0 x8 x9 x10 x11 x12 x13 x14) k) (fun y1 y2 => k (o0 x8 x12 x13 x14 y1 y2)) x9 x10 x11 := by kernel_rfl
theorem i0 (K : Res → Option Res) (k : St → Option Res) (x8 : Int) (x12 : List Int) (x13 : Int) (x14 : List (List Cl)) : ∀ (n : Nat) (x9 x10 : Int) (x11 : List Int), iter (X K) 0 b0 n (s0 x8 x9 x10 x11 x12 x13 x14) k = l0 x8 x12 x13 x14 (fun y1 y2 => k (o0 x8 x12 x13 x14 y1 y2)) n x9 x10 x11
  | 0, _, _, _ => rfl
  | n + 1, x9, x10, x11 => by
    rw [iter_succ, t0, show (fun x9 x10 x11 => iter (X K) 0 b0 n (s0 x8 x9 x10 x11 x12 x13 x14) k) = (fun x9 x10 x11 => l0 x8 x12 x13 x14 (fun y1 y2 => k (o0 x8 x12 x13 x14 y1 y2)) n x9 x10 x11) from funext fun x9 => funext fun x10 => funext fun x11 => i0 K k x8 x12 x13 x14 n x9 x10 x11]; rfl
theorem v0 {K : Res → Option Res} {l : List Lf} {k : St → Option Res} {r : Res} (h : p0 K l k = some r) : ∃ x8 x9 x10 x11 x12 x13 x14, l = [.i x8, .i x9, .i x10, .q (.ints x11), .q (.ints x12), .i x13, .q (.cells x14)] ∧ l0 x8 x12 x13 x14 (fun y1 y2 => k (o0 x8 x12 x13 x14 y1 y2)) fuel x9 x10 x11 = some r := by
  unfold p0 at h; split at h
  · exact ⟨_, _, _, _, _, _, _, rfl, h⟩
  · cases h
theorem w4 (K : Res → Option Res) : LpSound Go.Proofs.Try.prog (X K) 4 b4 := lp_ok ((cx K).ok laid) (by rw [show loopsOf b4 = [] from by kernel_rfl]; intro p hp; cases hp) rfl fun p hp hid => by
  rcases List.mem_cons.1 hp with rfl | hp
  · exact absurd hid (by simp)
  rcases List.mem_cons.1 hp with rfl | hp
  · intro st k r h1 h2; obtain ⟨x24, x25, x26, x27, x28, x29, x30, e, h⟩ := v4 (K := K) h2; have := St.like_eq (y := s4 x24 x25 x26 x27 x28 x29 x30) h1 (by kernel_rfl) e; subst this; exact ⟨fuel, (i4 K k x24 x25 x27 x28 x29 x30 fuel x26).trans h⟩
  rcases List.mem_cons.1 hp with rfl | hp
  · exact absurd hid (by simp)
  cases hp
theorem w2 (K : Res → Option Res) : LpSound Go.Proofs.Try.prog (X K) 2 b2 := lp_ok ((cx K).ok laid) (by rw [show loopsOf b2 = [] from by kernel_rfl]; intro p hp; cases hp) rfl fun p hp hid => by
  rcases List.mem_cons.1 hp with rfl | hp
  · intro st k r h1 h2; obtain ⟨x15, x16, x17, x18, x19, x20, x21, e, h⟩ := v2 (K := K) h2; have := St.like_eq (y := s2 x15 x16 x17 x18 x19 x20 x21) h1 (by kernel_rfl) e; subst this; exact ⟨fuel, (i2 K k x15 x17 x18 x19 x20 x21 fuel x16).trans h⟩
  rcases List.mem_cons.1 hp with rfl | hp
  · exact absurd hid (by simp)
  rcases List.mem_cons.1 hp with rfl | hp
  · exact absurd hid (by simp)
  cases hp
theorem w0 (K : Res → Option Res) : LpSound Go.Proofs.Try.prog (X K) 0 b0 := lp_ok ((cx K).ok laid) (by
    rw [show loopsOf b0 = [(2, b2), (4, b4)] from by kernel_rfl]; intro p hp
    rcases List.mem_cons.1 hp with rfl | hp
    · exact w2 K
    rcases List.mem_cons.1 hp with rfl | hp
    · exact w4 K
    cases hp) rfl fun p hp hid => by
  rcases List.mem_cons.1 hp with rfl | hp
  · exact absurd hid (by simp)
  rcases List.mem_cons.1 hp with rfl | hp
  · exact absurd hid (by simp)
  rcases List.mem_cons.1 hp with rfl | hp
  · intro st k r h1 h2; obtain ⟨x8, x9, x10, x11, x12, x13, x14, e, h⟩ := v0 (K := K) h2; have := St.like_eq (y := s0 x8 x9 x10 x11 x12 x13 x14) h1 (by kernel_rfl) e; subst this; exact ⟨fuel, (i0 K k x8 x12 x13 x14 fuel x9 x10 x11).trans h⟩
  cases hp
theorem tie (K : Res → Option Res) (a1 a2 a3 : Int) (a4 a5 : List Int) (a6 : Int) (a7 : List (List Cl)) : exec (X K) c (entry 90 [one (.ow 0), one (.int .i64 a1), one (.int .i64 a2), one (.int .i64 a3), one (.fn 115 [0])] [⟨[.int .i64], .ints a4, true, 0⟩] [[.tr 2 2 [.int .i64] (.ints a5), .int .i64 a6, .tr 2 2 [.int .i64, .int .i64, .bool] (.cells a7)]]) (endK (X K)) = g a1 a2 a3 a4 a5 a6 a7 (fun r1 r2 r3 r4 r5 => K (m r1 r2 r3 r4 r5)) := Eq.trans (b := b a1 a2 a3 a4 a5 a6 a7 (fun r1 r2 r3 r4 r5 => K (m r1 r2 r3 r4 r5))) (by kernel_rfl) (by rw [e])
theorem runv {l : List Lf} {K : Res → Option Res} {r : Res} (h : run l K = some r) : ∃ a1 a2 a3 a4 a5 a6 a7, l = [.i a1, .i a2, .i a3, .q (.ints a4), .q (.ints a5), .i a6, .q (.cells a7)] ∧ g a1 a2 a3 a4 a5 a6 a7 (fun r1 r2 r3 r4 r5 => K (m r1 r2 r3 r4 r5)) = some r := by
  unfold run at h; split at h
  · exact ⟨_, _, _, _, _, _, _, rfl, h⟩
  · cases h
theorem ok : Con Go.Proofs.Try.prog con := con_of (fn := Go.Proofs.Try.f193) (c := c) (Fi := fi) (X := X) (fun_of laid (by kernel_rfl) (by kernel_rfl) (by kernel_rfl) rfl (by kernel_rfl) (by kernel_rfl) cx (fun _ => rfl) (fun _ => rfl) (fun K => by
    rw [show loopsOf c = [(0, b0), (2, b2), (4, b4)] from by kernel_rfl]; intro p hp
    rcases List.mem_cons.1 hp with rfl | hp
    · exact w0 K
    rcases List.mem_cons.1 hp with rfl | hp
    · exact w2 K
    rcases List.mem_cons.1 hp with rfl | hp
    · exact w4 K
    cases hp)) fun xs rows boxes K r hl hr => by
  obtain ⟨a1, a2, a3, a4, a5, a6, a7, e, h⟩ := runv hr
  have := St.like_eq (y := a a1 a2 a3 a4 a5 a6 a7) hl (by kernel_rfl) e
  obtain ⟨rfl, rfl, rfl⟩ := argSt_inj this
  exact (tie K a1 a2 a3 a4 a5 a6 a7).trans h
end slices_partitionEqualCmpFunc_int
end Go.Tv.F
