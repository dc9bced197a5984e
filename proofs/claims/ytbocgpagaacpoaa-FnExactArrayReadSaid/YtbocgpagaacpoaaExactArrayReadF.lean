/- The law's functions, printed by a program of ours, each with its contract. They hold without condition. -/
import Derived.Test.YtbocgpagaacpoaaProg
import Derived.Test.YtbocgpagaacpoaaTvC
set_option linter.unusedVariables false
set_option linter.unusedSimpArgs false
set_option linter.unnecessarySimpa false
set_option maxRecDepth 100000
set_option autoImplicit false
namespace Go.Tv.F
open Go Go.Tv
noncomputable def Γ0 : List (Nat × TI) := [(3, ⟨false, [.int .i64], []⟩),
  (4, ⟨false, [.bool], []⟩),
  (5, ⟨false, [.int .u8], []⟩),
  (9, ⟨false, [.str], []⟩),
  (22, ⟨false, [.sl [.int .u8] 1], []⟩),
  (23, ⟨false, [.sl [.int .i64] 8], []⟩),
  (25, ⟨true, [.sl [.int .i64] 8, .sl [.int .i64] 8], [(0, 1, false), (1, 1, false)]⟩),
  (34, ⟨false, [.sl [.int .i64, .int .i64, .bool] 24], []⟩),
  (36, ⟨true, [.sl [.int .i64] 8, .int .i64, .sl [.int .i64, .int .i64, .bool] 24], [(0, 1, false), (1, 1, false), (2, 1, false)]⟩),
  (38, ⟨false, [.sl [.int .i64, .int .i64, .bool] 24], []⟩),
  (40, ⟨true, [.sl [.int .i64] 8, .int .i64, .sl [.int .i64, .int .i64, .bool] 24], [(0, 1, false), (1, 1, false), (2, 1, false)]⟩),
  (57, ⟨true, [.int .i64, .int .i64, .bool], [(0, 1, false), (1, 1, false), (2, 1, false)]⟩),
  (76, ⟨false, [.sl [.int .i64, .int .i64, .int .i64, .int .i64, .int .i64, .int .i64, .ints .i64] 72], []⟩),
  (78, ⟨true, [.sl [.int .i64, .int .i64, .int .i64, .int .i64, .int .i64, .int .i64, .ints .i64] 72], [(0, 1, false)]⟩),
  (81, ⟨false, [.sl [.int .i64, .int .i64] 16], []⟩),
  (90, ⟨true, [.int .i64, .int .i64], [(0, 1, false), (1, 1, false)]⟩),
  (94, ⟨false, [.int .u64], []⟩),
  (95, ⟨false, [.ptr], []⟩),
  (97, ⟨true, [.sl [.int .u8] 1, .bool], [(0, 1, false), (1, 1, false)]⟩),
  (110, ⟨false, [.ptr], []⟩),
  (113, ⟨false, [.fn], []⟩),
  (121, ⟨false, [.sl [.bool] 1], []⟩),
  (130, ⟨true, [.int .i64, .int .i64, .int .i64], [(0, 1, false), (1, 1, false), (2, 1, false)]⟩),
  (138, ⟨false, [.fn], []⟩),
  (140, ⟨false, [.ptr], []⟩),
  (142, ⟨true, [.sl [.int .i64, .int .i64] 16, .int .i64, .sl [.int .i64, .int .i64, .int .i64, .int .i64, .int .i64, .int .i64, .ints .i64] 72], [(0, 1, false), (1, 1, false), (2, 1, false)]⟩),
  (146, ⟨false, [.ptr], []⟩),
  (148, ⟨true, [.sl [.int .i64, .int .i64] 16, .int .i64, .sl [.int .i64, .int .i64, .int .i64, .int .i64, .int .i64, .int .i64, .ints .i64] 72, .bool], [(0, 1, false), (1, 1, false), (2, 1, false), (3, 1, false)]⟩),
  (156, ⟨true, [.int .i64, .int .i64, .int .i64, .int .i64, .int .i64, .int .i64, .sl [.int .i64] 8], [(0, 1, false), (1, 1, false), (2, 1, false), (3, 3, true), (6, 1, false)]⟩),
  (157, ⟨false, [.int .u64], []⟩),
  (159, ⟨true, [.int .i64, .int .i64, .bool], [(0, 1, false), (1, 1, false), (2, 1, false)]⟩),
  (164, ⟨true, [.sl [.int .u8] 1, .int .i64, .int .i64], [(0, 1, false), (1, 1, false), (2, 1, false)]⟩),
  (179, ⟨false, [.fn], []⟩),
  (180, ⟨false, [.fn], []⟩),
  (198, ⟨false, [.sl [.str] 16], []⟩),
  (201, ⟨false, [.sl [.ints .i64] 24], []⟩),
  (209, ⟨false, [.int .i64], []⟩),
  (219, ⟨false, [.int .u64], []⟩),
  (223, ⟨false, [.ptr], []⟩)]
noncomputable def byt0 : List TypeId := [22]
noncomputable def eqs0 : List TypeId := [57, 90, 130, 159]
theorem laid : Laid Go.Proofs.Try.prog Γ0 byt0 eqs0 := ⟨by kernel_rfl, by kernel_rfl, by kernel_rfl, by kernel_rfl⟩
namespace laws_toByteS
noncomputable def c : Code := bodyOf Go.Proofs.Try.f14
noncomputable def fi : Fin := ⟨Γ0, [(.tmp 2, 22)], [[1]], [], [], []⟩
noncomputable def m (r1 : List Int) : Res := ⟨[⟨false, [.ow 1000]⟩], [], [⟨[.int .u8], .ints r1, true, 0⟩], [], []⟩
noncomputable def b0 : Code := codeAt c [1, 1, 0, 1, 0, 0]
noncomputable def s0 (x2 : List Int) (x3 : Int) (x4 : List Int) : St := ⟨mkT 22 [(0, one (.tr 0 1 [.int .u8] (.ints x2))), (3, one (.ow 3080)), (4, one (.int .i64 x3))], [(3080, ⟨[.int .u8], .ints x4, true, 0⟩)], []⟩
noncomputable def l0s (x2 : List Int) (rec : Int → List Int → Option Res) (k : List Int → Option Res) (x3 : Int) (x4 : List Int) : Option Res :=
  bif decide (x3 < (x2.length : Int)) then (bif decide (0 ≤ x3) && decide (x3 < (x2.length : Int)) then (bif decide (0 ≤ x3) && decide (x3 < (x4.length : Int)) then rec (IntKind.i64.wrap (x3 + 1)) (x4.set x3.toNat (x2.getD x3.toNat 0))
      else none)
    else none)
  else k x4
noncomputable def l0 (x2 : List Int) (k : List Int → Option Res) : Nat → Int → List Int → Option Res
  | 0, _, _ => none
  | n + 1, x3, x4 => l0s x2 (fun x3 x4 => l0 x2 k n x3 x4) k x3 x4
noncomputable def o0 (x2 y1 : List Int) : St := ⟨mkT 22 [(3, one (.ow 3080))], [(3080, ⟨[.int .u8], .ints y1, true, 0⟩)], []⟩
noncomputable def p0 (K : Res → Option Res) : List Lf → (St → Option Res) → Option Res
  | [.q (.ints x2), .i x3, .q (.ints x4)], k => l0 x2 (fun y1 => k (o0 x2 y1)) fuel x3 x4
  | _, _ => none
noncomputable def os : List (FuncId × St × (List Lf → (Res → Option Res) → Option Res)) := []
noncomputable def X (K : Res → Option Res) : Ctx := { Γ := Γ0, orc := orcOf os, io := [], share := [], mvl := [], bun := [], cut := [], own := [], cin := [(0, ⟨[0, 3, 4], [(3080, 3080)], [], [], [], []⟩)], cout := [(0, ⟨[3], [(3080, 3080)], [], [], [], []⟩)], lp := lpOf [(0, s0 [] 0 [], p0 K)], kl := [], nk := true, eqs := eqs0, byt := byt0, fin := finK fi K }
noncomputable def b (a1 : List Int) (R : List Int → Option Res) : Option Res :=
  bif decide ((a1.length : Int) = (a1.length : Int)) && decide (0 ≤ (a1.length : Int)) && decide ((a1.length : Int) * 1 ≤ 140737488355328) then (l0 a1 (fun y5 => 
    R y5) fuel 0 (List.replicate ((a1.length : Int).toNat) 0))
  else none
theorem gx : ∃ x : List Int → (List Int → Option Res) → Option Res, x = b := ⟨_, rfl⟩
noncomputable def g : List Int → (List Int → Option Res) → Option Res := Classical.choose gx
theorem e : g = b := Classical.choose_spec gx
noncomputable def run : List Lf → (Res → Option Res) → Option Res
  | [.q (.ints a1)], K => g a1 (fun r1 => K (m r1))
  | _, _ => none
noncomputable def a (a1 : List Int) : St := argSt [one (.tr 0 1 [.int .u8] (.ints a1))] [] []
noncomputable def con : FuncId × St × (List Lf → (Res → Option Res) → Option Res) := (14, a [], run)
theorem cx (K : Res → Option Res) : CtxOk Go.Proofs.Try.prog Γ0 byt0 eqs0 (X K) os := ⟨rfl, rfl, rfl, (fun p hp => by
  cases hp), rfl, rfl, rfl, rfl⟩
theorem t0 (K : Res → Option Res) (k : St → Option Res) (it : St → (St → Option Res) → Option Res) (x2 : List Int) (x3 : Int) (x4 : List Int) : iterS (X K) 0 b0 it (s0 x2 x3 x4) k = l0s x2 (fun x3 x4 => it (s0 x2 x3 x4) k) (fun y1 => k (o0 x2 y1)) x3 x4 := by kernel_rfl
theorem i0 (K : Res → Option Res) (k : St → Option Res) (x2 : List Int) : ∀ (n : Nat) (x3 : Int) (x4 : List Int), iter (X K) 0 b0 n (s0 x2 x3 x4) k = l0 x2 (fun y1 => k (o0 x2 y1)) n x3 x4
  | 0, _, _ => rfl
  | n + 1, x3, x4 => by
    rw [iter_succ, t0, show (fun x3 x4 => iter (X K) 0 b0 n (s0 x2 x3 x4) k) = (fun x3 x4 => l0 x2 (fun y1 => k (o0 x2 y1)) n x3 x4) from funext fun x3 => funext fun x4 => i0 K k x2 n x3 x4]; rfl
theorem v0 {K : Res → Option Res} {l : List Lf} {k : St → Option Res} {r : Res} (h : p0 K l k = some r) : ∃ x2 x3 x4, l = [.q (.ints x2), .i x3, .q (.ints x4)] ∧ l0 x2 (fun y1 => k (o0 x2 y1)) fuel x3 x4 = some r := by
  unfold p0 at h; split at h
  · exact ⟨_, _, _, rfl, h⟩
  · cases h
theorem w0 (K : Res → Option Res) : LpSound Go.Proofs.Try.prog (X K) 0 b0 := lp_ok ((cx K).ok laid) (by rw [show loopsOf b0 = [] from by kernel_rfl]; intro p hp; cases hp) rfl fun p hp hid => by
  rcases List.mem_cons.1 hp with rfl | hp
  · intro st k r h1 h2; obtain ⟨x2, x3, x4, e, h⟩ := v0 (K := K) h2; have := St.like_eq (y := s0 x2 x3 x4) h1 (by kernel_rfl) e; subst this; exact ⟨fuel, (i0 K k x2 fuel x3 x4).trans h⟩
  cases hp
theorem tie (K : Res → Option Res) (a1 : List Int) : exec (X K) c (entry 22 [one (.tr 0 1 [.int .u8] (.ints a1))] [] []) (endK (X K)) = g a1 (fun r1 => K (m r1)) := Eq.trans (b := b a1 (fun r1 => K (m r1))) (by kernel_rfl) (by rw [e])
theorem runv {l : List Lf} {K : Res → Option Res} {r : Res} (h : run l K = some r) : ∃ a1, l = [.q (.ints a1)] ∧ g a1 (fun r1 => K (m r1)) = some r := by
  unfold run at h; split at h
  · exact ⟨_, rfl, h⟩
  · cases h
theorem ok : Con Go.Proofs.Try.prog con := con_of (fn := Go.Proofs.Try.f14) (c := c) (Fi := fi) (X := X) (fun_of laid (by kernel_rfl) (by kernel_rfl) (by kernel_rfl) rfl (by kernel_rfl) (by kernel_rfl) cx (fun _ => rfl) (fun _ => rfl) (fun K => by
    rw [show loopsOf c = [(0, b0)] from by kernel_rfl]; intro p hp
    rcases List.mem_cons.1 hp with rfl | hp
    · exact w0 K
    cases hp)) fun xs rows boxes K r hl hr => by
  obtain ⟨a1, e, h⟩ := runv hr
  have := St.like_eq (y := a a1) hl (by kernel_rfl) e
  obtain ⟨rfl, rfl, rfl⟩ := argSt_inj this
  exact (tie K a1).trans h
end laws_toByteS
namespace spec_l1In
noncomputable def c : Code := bodyOf Go.Proofs.Try.f100
noncomputable def fi : Fin := ⟨Γ0, [(.tmp 6, 4)], [[1]], [], [], []⟩
noncomputable def m (r1 : Bool) : Res := ⟨[⟨false, [.bool r1]⟩], [], [], [], []⟩
noncomputable def os : List (FuncId × St × (List Lf → (Res → Option Res) → Option Res)) := []
noncomputable def X (K : Res → Option Res) : Ctx := { Γ := Γ0, orc := orcOf os, io := [], share := [], mvl := [], bun := [], cut := [], own := [], cin := [], cout := [], lp := lpOf [], kl := [], nk := true, eqs := eqs0, byt := byt0, fin := finK fi K }
noncomputable def b (a1 a2 a3 : Int) (R : Bool → Option Res) : Option Res :=
  bif decide (a2 ≤ a1) then R (decide (a1 ≤ a3))
  else R false
theorem gx : ∃ x : Int → Int → Int → (Bool → Option Res) → Option Res, x = b := ⟨_, rfl⟩
noncomputable def g : Int → Int → Int → (Bool → Option Res) → Option Res := Classical.choose gx
theorem e : g = b := Classical.choose_spec gx
noncomputable def run : List Lf → (Res → Option Res) → Option Res
  | [.i a1, .i a2, .i a3], K => g a1 a2 a3 (fun r1 => K (m r1))
  | _, _ => none
noncomputable def a (a1 a2 a3 : Int) : St := argSt [one (.int .i64 a1), one (.int .i64 a2), one (.int .i64 a3)] [] []
noncomputable def con : FuncId × St × (List Lf → (Res → Option Res) → Option Res) := (100, a 0 0 0, run)
theorem cx (K : Res → Option Res) : CtxOk Go.Proofs.Try.prog Γ0 byt0 eqs0 (X K) os := ⟨rfl, rfl, rfl, (fun p hp => by
  cases hp), rfl, rfl, rfl, rfl⟩
theorem tie (K : Res → Option Res) (a1 a2 a3 : Int) : exec (X K) c (entry 15 [one (.int .i64 a1), one (.int .i64 a2), one (.int .i64 a3)] [] []) (endK (X K)) = g a1 a2 a3 (fun r1 => K (m r1)) := Eq.trans (b := b a1 a2 a3 (fun r1 => K (m r1))) (by kernel_rfl) (by rw [e])
theorem runv {l : List Lf} {K : Res → Option Res} {r : Res} (h : run l K = some r) : ∃ a1 a2 a3, l = [.i a1, .i a2, .i a3] ∧ g a1 a2 a3 (fun r1 => K (m r1)) = some r := by
  unfold run at h; split at h
  · exact ⟨_, _, _, rfl, h⟩
  · cases h
theorem ok : Con Go.Proofs.Try.prog con := con_of (fn := Go.Proofs.Try.f100) (c := c) (Fi := fi) (X := X) (fun_of laid (by kernel_rfl) (by kernel_rfl) (by kernel_rfl) rfl (by kernel_rfl) (by kernel_rfl) cx (fun _ => rfl) (fun _ => rfl) (fun K => by
    rw [show loopsOf c = [] from by kernel_rfl]; intro p hp
    cases hp)) fun xs rows boxes K r hl hr => by
  obtain ⟨a1, a2, a3, e, h⟩ := runv hr
  have := St.like_eq (y := a a1 a2 a3) hl (by kernel_rfl) e
  obtain ⟨rfl, rfl, rfl⟩ := argSt_inj this
  exact (tie K a1 a2 a3).trans h
end spec_l1In
namespace spec_SizeOf
noncomputable def c : Code := bodyOf Go.Proofs.Try.f67
noncomputable def fi : Fin := ⟨Γ0, [(.tmp 2, 3)], [[1]], [], [], []⟩
noncomputable def m (r1 : Int) : Res := ⟨[⟨false, [.int .i64 r1]⟩], [], [], [], []⟩
noncomputable def b0 : Code := codeAt c [1, 1, 1, 0, 1, 0, 0]
noncomputable def b2 : Code := codeAt c [1, 1, 1, 1, 1, 0, 1, 0, 0]
noncomputable def s0 (x2 : List Int) (x3 : Bool) (x4 : Int) : St := ⟨mkT 49 [(0, one (.tr 0 1 [.int .i64] (.ints x2))), (3, one (.bool x3)), (4, one (.int .i64 x4))], [], []⟩
noncomputable def l0s (x2 : List Int) (rec : Bool → Int → Option Res) (k : Bool → Option Res) (R : Int → Option Res) (x3 : Bool) (x4 : Int) : Option Res :=
  bif decide (x4 < (x2.length : Int)) then (bif decide (0 ≤ x4) && decide (x4 < (x2.length : Int)) then (spec_l1In.g (x2.getD x4.toNat 0) 0 300 fun r5 =>
      bif !r5 then R (-1)
      else bif x3 then rec true (IntKind.i64.wrap (x4 + 1))
      else bif decide (0 ≤ x4) && decide (x4 < (x2.length : Int)) then rec (x2.getD x4.toNat 0 == 0) (IntKind.i64.wrap (x4 + 1))
      else none)
    else none)
  else k x3
noncomputable def l0 (x2 : List Int) (k : Bool → Option Res) (R : Int → Option Res) : Nat → Bool → Int → Option Res
  | 0, _, _ => none
  | n + 1, x3, x4 => l0s x2 (fun x3 x4 => l0 x2 k R n x3 x4) k R x3 x4
noncomputable def o0 (x2 : List Int) (y2 : Bool) : St := ⟨mkT 49 [(0, one (.tr 0 1 [.int .i64] (.ints x2))), (3, one (.bool y2))], [], []⟩
noncomputable def p0 (K : Res → Option Res) : List Lf → (St → Option Res) → Option Res
  | [.q (.ints x2), .b x3, .i x4], k => l0 x2 (fun y2 => k (o0 x2 y2)) (fun r1 => K (m r1)) fuel x3 x4
  | _, _ => none
noncomputable def s2 (x7 : List Int) (x8 : Bool) (x9 x10 : Int) : St := ⟨mkT 49 [(0, one (.tr 0 1 [.int .i64] (.ints x7))), (3, one (.bool x8)), (5, one (.int .i64 x9)), (6, one (.int .i64 x10))], [], []⟩
noncomputable def l2s (x7 : List Int) (x8 : Bool) (rec : Int → Int → Option Res) (k : Int → Option Res) (x9 x10 : Int) : Option Res :=
  bif decide (x10 < (x7.length : Int)) then (bif decide (0 ≤ x10) && decide (x10 < (x7.length : Int)) then rec (IntKind.i64.wrap (x9 * (x7.getD x10.toNat 0))) (IntKind.i64.wrap (x10 + 1))
    else none)
  else k x9
noncomputable def l2 (x7 : List Int) (x8 : Bool) (k : Int → Option Res) : Nat → Int → Int → Option Res
  | 0, _, _ => none
  | n + 1, x9, x10 => l2s x7 x8 (fun x9 x10 => l2 x7 x8 k n x9 x10) k x9 x10
noncomputable def o2 (x7 : List Int) (x8 : Bool) (y2 : Int) : St := ⟨mkT 49 [(3, one (.bool x8)), (5, one (.int .i64 y2))], [], []⟩
noncomputable def p2 (K : Res → Option Res) : List Lf → (St → Option Res) → Option Res
  | [.q (.ints x7), .b x8, .i x9, .i x10], k => l2 x7 x8 (fun y2 => k (o2 x7 x8 y2)) fuel x9 x10
  | _, _ => none
noncomputable def os : List (FuncId × St × (List Lf → (Res → Option Res) → Option Res)) := [spec_l1In.con]
noncomputable def X (K : Res → Option Res) : Ctx := { Γ := Γ0, orc := orcOf os, io := [], share := [], mvl := [], bun := [], cut := [], own := [], cin := [(0, ⟨[0, 3, 4], [], [], [], [], []⟩), (2, ⟨[0, 3, 5, 6], [], [], [], [], []⟩)], cout := [(0, ⟨[0, 3], [], [], [], [], []⟩), (2, ⟨[3, 5], [], [], [], [], []⟩)], lp := lpOf [(0, s0 [] false 0, p0 K), (2, s2 [] false 0 0, p2 K)], kl := [], nk := true, eqs := eqs0, byt := byt0, fin := finK fi K }
noncomputable def b (a1 : List Int) (R : Int → Option Res) : Option Res :=
  bif decide (3 < (a1.length : Int)) then R (-1)
  else (l0 a1 (fun y6 => 
  l2 a1 y6 (fun y11 => 
  bif decide (300 < y11) then (bif !y6 then R (-1)
    else R y11)
  else R y11) fuel 1 0) R fuel false 0)
theorem gx : ∃ x : List Int → (Int → Option Res) → Option Res, x = b := ⟨_, rfl⟩
noncomputable def g : List Int → (Int → Option Res) → Option Res := Classical.choose gx
theorem e : g = b := Classical.choose_spec gx
noncomputable def run : List Lf → (Res → Option Res) → Option Res
  | [.q (.ints a1)], K => g a1 (fun r1 => K (m r1))
  | _, _ => none
noncomputable def a (a1 : List Int) : St := argSt [one (.tr 0 1 [.int .i64] (.ints a1))] [] []
noncomputable def con : FuncId × St × (List Lf → (Res → Option Res) → Option Res) := (67, a [], run)
theorem cx (K : Res → Option Res) : CtxOk Go.Proofs.Try.prog Γ0 byt0 eqs0 (X K) os := ⟨rfl, rfl, rfl, (fun p hp => by
  rcases List.mem_cons.1 hp with rfl | hp
  · exact spec_l1In.ok
  cases hp), rfl, rfl, rfl, rfl⟩
theorem t0 (K : Res → Option Res) (k : St → Option Res) (it : St → (St → Option Res) → Option Res) (x2 : List Int) (x3 : Bool) (x4 : Int) : iterS (X K) 0 b0 it (s0 x2 x3 x4) k = l0s x2 (fun x3 x4 => it (s0 x2 x3 x4) k) (fun y2 => k (o0 x2 y2)) (fun r1 => K (m r1)) x3 x4 := by kernel_rfl
theorem i0 (K : Res → Option Res) (k : St → Option Res) (x2 : List Int) : ∀ (n : Nat) (x3 : Bool) (x4 : Int), iter (X K) 0 b0 n (s0 x2 x3 x4) k = l0 x2 (fun y2 => k (o0 x2 y2)) (fun r1 => K (m r1)) n x3 x4
  | 0, _, _ => rfl
  | n + 1, x3, x4 => by
    rw [iter_succ, t0, show (fun x3 x4 => iter (X K) 0 b0 n (s0 x2 x3 x4) k) = (fun x3 x4 => l0 x2 (fun y2 => k (o0 x2 y2)) (fun r1 => K (m r1)) n x3 x4) from funext fun x3 => funext fun x4 => i0 K k x2 n x3 x4]; rfl
theorem v0 {K : Res → Option Res} {l : List Lf} {k : St → Option Res} {r : Res} (h : p0 K l k = some r) : ∃ x2 x3 x4, l = [.q (.ints x2), .b x3, .i x4] ∧ l0 x2 (fun y2 => k (o0 x2 y2)) (fun r1 => K (m r1)) fuel x3 x4 = some r := by
  unfold p0 at h; split at h
  · exact ⟨_, _, _, rfl, h⟩
  · cases h
theorem t2 (K : Res → Option Res) (k : St → Option Res) (it : St → (St → Option Res) → Option Res) (x7 : List Int) (x8 : Bool) (x9 x10 : Int) : iterS (X K) 2 b2 it (s2 x7 x8 x9 x10) k = l2s x7 x8 (fun x9 x10 => it (s2 x7 x8 x9 x10) k) (fun y2 => k (o2 x7 x8 y2)) x9 x10 := by kernel_rfl
theorem i2 (K : Res → Option Res) (k : St → Option Res) (x7 : List Int) (x8 : Bool) : ∀ (n : Nat) (x9 x10 : Int), iter (X K) 2 b2 n (s2 x7 x8 x9 x10) k = l2 x7 x8 (fun y2 => k (o2 x7 x8 y2)) n x9 x10
  | 0, _, _ => rfl
  | n + 1, x9, x10 => by
    rw [iter_succ, t2, show (fun x9 x10 => iter (X K) 2 b2 n (s2 x7 x8 x9 x10) k) = (fun x9 x10 => l2 x7 x8 (fun y2 => k (o2 x7 x8 y2)) n x9 x10) from funext fun x9 => funext fun x10 => i2 K k x7 x8 n x9 x10]; rfl
theorem v2 {K : Res → Option Res} {l : List Lf} {k : St → Option Res} {r : Res} (h : p2 K l k = some r) : ∃ x7 x8 x9 x10, l = [.q (.ints x7), .b x8, .i x9, .i x10] ∧ l2 x7 x8 (fun y2 => k (o2 x7 x8 y2)) fuel x9 x10 = some r := by
  unfold p2 at h; split at h
  · exact ⟨_, _, _, _, rfl, h⟩
  · cases h
theorem w2 (K : Res → Option Res) : LpSound Go.Proofs.Try.prog (X K) 2 b2 := lp_ok ((cx K).ok laid) (by rw [show loopsOf b2 = [] from by kernel_rfl]; intro p hp; cases hp) rfl fun p hp hid => by
  rcases List.mem_cons.1 hp with rfl | hp
  · exact absurd hid (by simp)
  rcases List.mem_cons.1 hp with rfl | hp
  · intro st k r h1 h2; obtain ⟨x7, x8, x9, x10, e, h⟩ := v2 (K := K) h2; have := St.like_eq (y := s2 x7 x8 x9 x10) h1 (by kernel_rfl) e; subst this; exact ⟨fuel, (i2 K k x7 x8 fuel x9 x10).trans h⟩
  cases hp
theorem w0 (K : Res → Option Res) : LpSound Go.Proofs.Try.prog (X K) 0 b0 := lp_ok ((cx K).ok laid) (by rw [show loopsOf b0 = [] from by kernel_rfl]; intro p hp; cases hp) rfl fun p hp hid => by
  rcases List.mem_cons.1 hp with rfl | hp
  · intro st k r h1 h2; obtain ⟨x2, x3, x4, e, h⟩ := v0 (K := K) h2; have := St.like_eq (y := s0 x2 x3 x4) h1 (by kernel_rfl) e; subst this; exact ⟨fuel, (i0 K k x2 fuel x3 x4).trans h⟩
  rcases List.mem_cons.1 hp with rfl | hp
  · exact absurd hid (by simp)
  cases hp
theorem tie (K : Res → Option Res) (a1 : List Int) : exec (X K) c (entry 49 [one (.tr 0 1 [.int .i64] (.ints a1))] [] []) (endK (X K)) = g a1 (fun r1 => K (m r1)) := Eq.trans (b := b a1 (fun r1 => K (m r1))) (by kernel_rfl) (by rw [e])
theorem runv {l : List Lf} {K : Res → Option Res} {r : Res} (h : run l K = some r) : ∃ a1, l = [.q (.ints a1)] ∧ g a1 (fun r1 => K (m r1)) = some r := by
  unfold run at h; split at h
  · exact ⟨_, rfl, h⟩
  · cases h
theorem ok : Con Go.Proofs.Try.prog con := con_of (fn := Go.Proofs.Try.f67) (c := c) (Fi := fi) (X := X) (fun_of laid (by kernel_rfl) (by kernel_rfl) (by kernel_rfl) rfl (by kernel_rfl) (by kernel_rfl) cx (fun _ => rfl) (fun _ => rfl) (fun K => by
    rw [show loopsOf c = [(0, b0), (2, b2)] from by kernel_rfl]; intro p hp
    rcases List.mem_cons.1 hp with rfl | hp
    · exact w0 K
    rcases List.mem_cons.1 hp with rfl | hp
    · exact w2 K
    cases hp)) fun xs rows boxes K r hl hr => by
  obtain ⟨a1, e, h⟩ := runv hr
  have := St.like_eq (y := a a1) hl (by kernel_rfl) e
  obtain ⟨rfl, rfl, rfl⟩ := argSt_inj this
  exact (tie K a1).trans h
end spec_SizeOf
namespace spec_NumOk
noncomputable def c : Code := bodyOf Go.Proofs.Try.f91
noncomputable def fi : Fin := ⟨Γ0, [(.tmp 2, 4)], [[1]], [], [], []⟩
noncomputable def m (r1 : Bool) : Res := ⟨[⟨false, [.bool r1]⟩], [], [], [], []⟩
noncomputable def os : List (FuncId × St × (List Lf → (Res → Option Res) → Option Res)) := [spec_l1In.con]
noncomputable def X (K : Res → Option Res) : Ctx := { Γ := Γ0, orc := orcOf os, io := [], share := [], mvl := [], bun := [], cut := [], own := [], cin := [], cout := [], lp := lpOf [], kl := [], nk := true, eqs := eqs0, byt := byt0, fin := finK fi K }
noncomputable def b (a1 : Int) (R : Bool → Option Res) : Option Res :=
  spec_l1In.g a1 (-1000000000000) 1000000000000 fun r2 =>
  R r2
theorem gx : ∃ x : Int → (Bool → Option Res) → Option Res, x = b := ⟨_, rfl⟩
noncomputable def g : Int → (Bool → Option Res) → Option Res := Classical.choose gx
theorem e : g = b := Classical.choose_spec gx
noncomputable def run : List Lf → (Res → Option Res) → Option Res
  | [.i a1], K => g a1 (fun r1 => K (m r1))
  | _, _ => none
noncomputable def a (a1 : Int) : St := argSt [one (.int .i64 a1)] [] []
noncomputable def con : FuncId × St × (List Lf → (Res → Option Res) → Option Res) := (91, a 0, run)
theorem cx (K : Res → Option Res) : CtxOk Go.Proofs.Try.prog Γ0 byt0 eqs0 (X K) os := ⟨rfl, rfl, rfl, (fun p hp => by
  rcases List.mem_cons.1 hp with rfl | hp
  · exact spec_l1In.ok
  cases hp), rfl, rfl, rfl, rfl⟩
theorem tie (K : Res → Option Res) (a1 : Int) : exec (X K) c (entry 5 [one (.int .i64 a1)] [] []) (endK (X K)) = g a1 (fun r1 => K (m r1)) := Eq.trans (b := b a1 (fun r1 => K (m r1))) (by kernel_rfl) (by rw [e])
theorem runv {l : List Lf} {K : Res → Option Res} {r : Res} (h : run l K = some r) : ∃ a1, l = [.i a1] ∧ g a1 (fun r1 => K (m r1)) = some r := by
  unfold run at h; split at h
  · exact ⟨_, rfl, h⟩
  · cases h
theorem ok : Con Go.Proofs.Try.prog con := con_of (fn := Go.Proofs.Try.f91) (c := c) (Fi := fi) (X := X) (fun_of laid (by kernel_rfl) (by kernel_rfl) (by kernel_rfl) rfl (by kernel_rfl) (by kernel_rfl) cx (fun _ => rfl) (fun _ => rfl) (fun K => by
    rw [show loopsOf c = [] from by kernel_rfl]; intro p hp
    cases hp)) fun xs rows boxes K r hl hr => by
  obtain ⟨a1, e, h⟩ := runv hr
  have := St.like_eq (y := a a1) hl (by kernel_rfl) e
  obtain ⟨rfl, rfl, rfl⟩ := argSt_inj this
  exact (tie K a1).trans h
end spec_NumOk
namespace spec_ArrayOk
noncomputable def c : Code := bodyOf Go.Proofs.Try.f31
noncomputable def fi : Fin := ⟨Γ0, [(.tmp 2, 4)], [[1]], [], [], []⟩
noncomputable def m (r1 : Bool) : Res := ⟨[⟨false, [.bool r1]⟩], [], [], [], []⟩
noncomputable def b0 : Code := codeAt c [1, 1, 0, 1, 0, 0]
noncomputable def s0 (x4 : Int) (x5 x6 : List Int) : St := ⟨mkT 25 [(1, one (.bp 1000 0)), (3, one (.int .i64 x4))], [], [(1000, [.tr 0 1 [.int .i64] (.ints x5), .tr 0 1 [.int .i64] (.ints x6)])]⟩
noncomputable def l0s (x5 x6 : List Int) (rec : Int → Option Res) (k : Option Res) (R : Bool → Option Res) (x4 : Int) : Option Res :=
  bif decide (x4 < (x6.length : Int)) then (bif decide (0 ≤ x4) && decide (x4 < (x6.length : Int)) then (spec_NumOk.g (x6.getD x4.toNat 0) fun r7 =>
      bif !r7 then R false
      else rec (IntKind.i64.wrap (x4 + 1)))
    else none)
  else k
noncomputable def l0 (x5 x6 : List Int) (k : Option Res) (R : Bool → Option Res) : Nat → Int → Option Res
  | 0, _ => none
  | n + 1, x4 => l0s x5 x6 (fun x4 => l0 x5 x6 k R n x4) k R x4
noncomputable def o0 (x5 x6 : List Int) : St := ⟨mkT 25 [], [], []⟩
noncomputable def p0 (K : Res → Option Res) : List Lf → (St → Option Res) → Option Res
  | [.i x4, .q (.ints x5), .q (.ints x6)], k => l0 x5 x6 (k (o0 x5 x6)) (fun r1 => K (m r1)) fuel x4
  | _, _ => none
noncomputable def os : List (FuncId × St × (List Lf → (Res → Option Res) → Option Res)) := [spec_SizeOf.con, spec_NumOk.con]
noncomputable def X (K : Res → Option Res) : Ctx := { Γ := Γ0, orc := orcOf os, io := [], share := [], mvl := [], bun := [], cut := [], own := [], cin := [(0, ⟨[1, 3], [], [1000], [], [], []⟩)], cout := [(0, ⟨[], [], [], [], [], []⟩)], lp := lpOf [(0, s0 0 [] [], p0 K)], kl := [], nk := true, eqs := eqs0, byt := byt0, fin := finK fi K }
noncomputable def b (a1 a2 : List Int) (R : Bool → Option Res) : Option Res :=
  spec_SizeOf.g a1 fun r3 =>
  bif (r3 != (a2.length : Int)) then R false
  else (l0 a1 a2 (
  R true) R fuel 0)
theorem gx : ∃ x : List Int → List Int → (Bool → Option Res) → Option Res, x = b := ⟨_, rfl⟩
noncomputable def g : List Int → List Int → (Bool → Option Res) → Option Res := Classical.choose gx
theorem e : g = b := Classical.choose_spec gx
noncomputable def run : List Lf → (Res → Option Res) → Option Res
  | [.q (.ints a1), .q (.ints a2)], K => g a1 a2 (fun r1 => K (m r1))
  | _, _ => none
noncomputable def a (a1 a2 : List Int) : St := argSt [.v ⟨true, [.tr 0 1 [.int .i64] (.ints a1), .tr 0 1 [.int .i64] (.ints a2)]⟩] [] []
noncomputable def con : FuncId × St × (List Lf → (Res → Option Res) → Option Res) := (31, a [] [], run)
theorem cx (K : Res → Option Res) : CtxOk Go.Proofs.Try.prog Γ0 byt0 eqs0 (X K) os := ⟨rfl, rfl, rfl, (fun p hp => by
  rcases List.mem_cons.1 hp with rfl | hp
  · exact spec_SizeOf.ok
  rcases List.mem_cons.1 hp with rfl | hp
  · exact spec_NumOk.ok
  cases hp), rfl, rfl, rfl, rfl⟩
theorem t0 (K : Res → Option Res) (k : St → Option Res) (it : St → (St → Option Res) → Option Res) (x4 : Int) (x5 x6 : List Int) : iterS (X K) 0 b0 it (s0 x4 x5 x6) k = l0s x5 x6 (fun x4 => it (s0 x4 x5 x6) k) (k (o0 x5 x6)) (fun r1 => K (m r1)) x4 := by kernel_rfl
theorem i0 (K : Res → Option Res) (k : St → Option Res) (x5 x6 : List Int) : ∀ (n : Nat) (x4 : Int), iter (X K) 0 b0 n (s0 x4 x5 x6) k = l0 x5 x6 (k (o0 x5 x6)) (fun r1 => K (m r1)) n x4
  | 0, _ => rfl
  | n + 1, x4 => by
    rw [iter_succ, t0, show (fun x4 => iter (X K) 0 b0 n (s0 x4 x5 x6) k) = (fun x4 => l0 x5 x6 (k (o0 x5 x6)) (fun r1 => K (m r1)) n x4) from funext fun x4 => i0 K k x5 x6 n x4]; rfl
theorem v0 {K : Res → Option Res} {l : List Lf} {k : St → Option Res} {r : Res} (h : p0 K l k = some r) : ∃ x4 x5 x6, l = [.i x4, .q (.ints x5), .q (.ints x6)] ∧ l0 x5 x6 (k (o0 x5 x6)) (fun r1 => K (m r1)) fuel x4 = some r := by
  unfold p0 at h; split at h
  · exact ⟨_, _, _, rfl, h⟩
  · cases h
theorem w0 (K : Res → Option Res) : LpSound Go.Proofs.Try.prog (X K) 0 b0 := lp_ok ((cx K).ok laid) (by rw [show loopsOf b0 = [] from by kernel_rfl]; intro p hp; cases hp) rfl fun p hp hid => by
  rcases List.mem_cons.1 hp with rfl | hp
  · intro st k r h1 h2; obtain ⟨x4, x5, x6, e, h⟩ := v0 (K := K) h2; have := St.like_eq (y := s0 x4 x5 x6) h1 (by kernel_rfl) e; subst this; exact ⟨fuel, (i0 K k x5 x6 fuel x4).trans h⟩
  cases hp
theorem tie (K : Res → Option Res) (a1 a2 : List Int) : exec (X K) c (entry 25 [.v ⟨true, [.tr 0 1 [.int .i64] (.ints a1), .tr 0 1 [.int .i64] (.ints a2)]⟩] [] []) (endK (X K)) = g a1 a2 (fun r1 => K (m r1)) := Eq.trans (b := b a1 a2 (fun r1 => K (m r1))) (by kernel_rfl) (by rw [e])
theorem runv {l : List Lf} {K : Res → Option Res} {r : Res} (h : run l K = some r) : ∃ a1 a2, l = [.q (.ints a1), .q (.ints a2)] ∧ g a1 a2 (fun r1 => K (m r1)) = some r := by
  unfold run at h; split at h
  · exact ⟨_, _, rfl, h⟩
  · cases h
theorem ok : Con Go.Proofs.Try.prog con := con_of (fn := Go.Proofs.Try.f31) (c := c) (Fi := fi) (X := X) (fun_of laid (by kernel_rfl) (by kernel_rfl) (by kernel_rfl) rfl (by kernel_rfl) (by kernel_rfl) cx (fun _ => rfl) (fun _ => rfl) (fun K => by
    rw [show loopsOf c = [(0, b0)] from by kernel_rfl]; intro p hp
    rcases List.mem_cons.1 hp with rfl | hp
    · exact w0 K
    cases hp)) fun xs rows boxes K r hl hr => by
  obtain ⟨a1, a2, e, h⟩ := runv hr
  have := St.like_eq (y := a a1 a2) hl (by kernel_rfl) e
  obtain ⟨rfl, rfl, rfl⟩ := argSt_inj this
  exact (tie K a1 a2).trans h
end spec_ArrayOk
namespace spec_ArrayRead
noncomputable def c : Code := bodyOf Go.Proofs.Try.f13
noncomputable def fi : Fin := ⟨Γ0, [(.cell 2 25, 25), (.tmp 3, 4)], [[1, 1], [1]], [], [], []⟩
noncomputable def m (r1 r2 : List Int) (r3 : Bool) : Res := ⟨[⟨true, [.ow 1000, .ow 1001]⟩, ⟨false, [.bool r3]⟩], [], [⟨[.int .i64], .ints r1, true, 0⟩, ⟨[.int .i64], .ints r2, true, 0⟩], [], []⟩
noncomputable def b0 : Code := codeAt c [1, 1, 1, 1, 1, 0, 1, 0, 0]
noncomputable def b2 : Code := codeAt c [1, 1, 1, 1, 1, 1, 1, 1, 0, 1, 0, 0]
noncomputable def b4 : Code := codeAt c [1, 1, 1, 1, 1, 1, 1, 1, 0, 1, 0, 0, 1, 0, 0, 1, 0, 1, 0, 0]
noncomputable def s0 (x2 : List Int) (x3 x4 : Int) (x5 x6 : List Int) : St := ⟨mkT 112 [(0, one (.tr 0 1 [.int .u8] (.ints x2))), (2, one (.bp 1000 0)), (4, one (.bp 3064 0)), (5, one (.bp 9208 0)), (6, one (.int .i64 x3)), (7, one (.int .i64 x4))], [(9200, ⟨[.int .i64], .ints x5, true, 0⟩), (9201, ⟨[.int .i64], .ints x6, true, 0⟩)], [(1000, [.nil, .nil]), (3064, [.nil, .nil]), (9208, [.ow 9200, .ow 9201])]⟩
noncomputable def l0s (x2 x6 : List Int) (rec : Int → Int → List Int → Option Res) (k : Int → List Int → Option Res) (x3 x4 : Int) (x5 : List Int) : Option Res :=
  bif decide (0 < (x2.length : Int)) then (bif decide (x4 < IntKind.i64.wrap (x2.getD 0 0)) then (bif decide (0 ≤ x3) && decide (x3 < (x2.length : Int)) then (bif decide (0 ≤ IntKind.i64.wrap (x3 + 1)) && decide (IntKind.i64.wrap (x3 + 1) < (x2.length : Int)) then (bif decide ((x5.length + 1) * 8 ≤ 140737488355328) then rec (IntKind.i64.wrap (x3 + 2)) (IntKind.i64.wrap (x4 + 1)) (x5 ++ ([IntKind.i64.wrap ((IntKind.i64.wrap (x2.getD x3.toNat 0)) + (IntKind.i64.wrap (256 * (IntKind.i64.wrap (x2.getD ((IntKind.i64.wrap (x3 + 1)).toNat) 0)))))] : List Int))
          else none)
        else none)
      else none)
    else k x3 x5)
  else none
noncomputable def l0 (x2 x6 : List Int) (k : Int → List Int → Option Res) : Nat → Int → Int → List Int → Option Res
  | 0, _, _, _ => none
  | n + 1, x3, x4, x5 => l0s x2 x6 (fun x3 x4 x5 => l0 x2 x6 k n x3 x4 x5) k x3 x4 x5
noncomputable def o0 (x2 x6 : List Int) (y2 : Int) (y3 : List Int) : St := ⟨mkT 112 [(0, one (.tr 0 1 [.int .u8] (.ints x2))), (2, one (.bp 1000 0)), (4, one (.bp 3064 0)), (5, one (.bp 9208 0)), (6, one (.int .i64 y2))], [(9200, ⟨[.int .i64], .ints y3, true, 0⟩), (9201, ⟨[.int .i64], .ints x6, true, 0⟩)], [(1000, [.nil, .nil]), (3064, [.nil, .nil]), (9208, [.ow 9200, .ow 9201])]⟩
noncomputable def p0 (K : Res → Option Res) : List Lf → (St → Option Res) → Option Res
  | [.q (.ints x2), .i x3, .i x4, .q (.ints x5), .q (.ints x6)], k => l0 x2 x6 (fun y2 y3 => k (o0 x2 x6 y2 y3)) fuel x3 x4 x5
  | _, _ => none
noncomputable def s4 (x16 : List Int) (x17 x18 x19 x20 x21 : Int) (x22 x23 : List Int) : St := ⟨mkT 112 [(0, one (.tr 0 1 [.int .u8] (.ints x16))), (2, one (.bp 1000 0)), (4, one (.bp 3064 0)), (5, one (.bp 9208 0)), (6, one (.int .i64 x17)), (8, one (.int .i64 x18)), (9, one (.int .i64 x19)), (10, one (.int .i64 x20)), (11, one (.int .i64 x21))], [(9200, ⟨[.int .i64], .ints x22, true, 0⟩), (9201, ⟨[.int .i64], .ints x23, true, 0⟩)], [(1000, [.nil, .nil]), (3064, [.nil, .nil]), (9208, [.ow 9200, .ow 9201])]⟩
noncomputable def l4s (x16 : List Int) (x17 x18 x19 : Int) (x22 x23 : List Int) (rec : Int → Int → Option Res) (k : Int → Option Res) (x20 x21 : Int) : Option Res :=
  bif decide (0 ≤ x21) then (bif decide (0 ≤ IntKind.i64.wrap (x17 + x21)) && decide (IntKind.i64.wrap (x17 + x21) < (x16.length : Int)) then rec (arith.bits .or .i64 (IntKind.i64.wrap (x20 * 2 ^ 8)) (IntKind.i64.wrap (x16.getD ((IntKind.i64.wrap (x17 + x21)).toNat) 0))) (IntKind.i64.wrap (x21 - 1))
    else none)
  else k x20
noncomputable def l4 (x16 : List Int) (x17 x18 x19 : Int) (x22 x23 : List Int) (k : Int → Option Res) : Nat → Int → Int → Option Res
  | 0, _, _ => none
  | n + 1, x20, x21 => l4s x16 x17 x18 x19 x22 x23 (fun x20 x21 => l4 x16 x17 x18 x19 x22 x23 k n x20 x21) k x20 x21
noncomputable def o4 (x16 : List Int) (x17 x18 x19 : Int) (x22 x23 : List Int) (y5 : Int) : St := ⟨mkT 112 [(0, one (.tr 0 1 [.int .u8] (.ints x16))), (2, one (.bp 1000 0)), (4, one (.bp 3064 0)), (5, one (.bp 9208 0)), (6, one (.int .i64 x17)), (8, one (.int .i64 x18)), (9, one (.int .i64 x19)), (10, one (.int .i64 y5))], [(9200, ⟨[.int .i64], .ints x22, true, 0⟩), (9201, ⟨[.int .i64], .ints x23, true, 0⟩)], [(1000, [.nil, .nil]), (3064, [.nil, .nil]), (9208, [.ow 9200, .ow 9201])]⟩
noncomputable def p4 (K : Res → Option Res) : List Lf → (St → Option Res) → Option Res
  | [.q (.ints x16), .i x17, .i x18, .i x19, .i x20, .i x21, .q (.ints x22), .q (.ints x23)], k => l4 x16 x17 x18 x19 x22 x23 (fun y5 => k (o4 x16 x17 x18 x19 x22 x23 y5)) fuel x20 x21
  | _, _ => none
noncomputable def s2 (x10 : List Int) (x11 x12 x13 : Int) (x14 x15 : List Int) : St := ⟨mkT 112 [(0, one (.tr 0 1 [.int .u8] (.ints x10))), (2, one (.bp 1000 0)), (4, one (.bp 3064 0)), (5, one (.bp 9208 0)), (6, one (.int .i64 x11)), (8, one (.int .i64 x12)), (9, one (.int .i64 x13))], [(9200, ⟨[.int .i64], .ints x14, true, 0⟩), (9201, ⟨[.int .i64], .ints x15, true, 0⟩)], [(1000, [.nil, .nil]), (3064, [.nil, .nil]), (9208, [.ow 9200, .ow 9201])]⟩
noncomputable def l2s (x10 : List Int) (x12 : Int) (x14 : List Int) (rec : Int → Int → List Int → Option Res) (k : List Int → Option Res) (x11 x13 : Int) (x15 : List Int) : Option Res :=
  bif decide (x13 < x12) then (l4 x10 x11 x12 x13 x14 x15 (fun y24 => 
    bif decide ((x15.length + 1) * 8 ≤ 140737488355328) then rec (IntKind.i64.wrap (x11 + 8)) (IntKind.i64.wrap (x13 + 1)) (x15 ++ ([IntKind.i64.wrap (y24 - 1000000000000)] : List Int))
    else none) fuel 0 7)
  else k x15
noncomputable def l2 (x10 : List Int) (x12 : Int) (x14 : List Int) (k : List Int → Option Res) : Nat → Int → Int → List Int → Option Res
  | 0, _, _, _ => none
  | n + 1, x11, x13, x15 => l2s x10 x12 x14 (fun x11 x13 x15 => l2 x10 x12 x14 k n x11 x13 x15) k x11 x13 x15
noncomputable def o2 (x10 : List Int) (x12 : Int) (x14 y2 : List Int) : St := ⟨mkT 112 [(2, one (.bp 1000 0)), (4, one (.bp 3064 0)), (5, one (.bp 9208 0))], [(9200, ⟨[.int .i64], .ints x14, true, 0⟩), (9201, ⟨[.int .i64], .ints y2, true, 0⟩)], [(1000, [.nil, .nil]), (3064, [.nil, .nil]), (9208, [.ow 9200, .ow 9201])]⟩
noncomputable def p2 (K : Res → Option Res) : List Lf → (St → Option Res) → Option Res
  | [.q (.ints x10), .i x11, .i x12, .i x13, .q (.ints x14), .q (.ints x15)], k => l2 x10 x12 x14 (fun y2 => k (o2 x10 x12 x14 y2)) fuel x11 x13 x15
  | _, _ => none
noncomputable def os : List (FuncId × St × (List Lf → (Res → Option Res) → Option Res)) := [spec_SizeOf.con, spec_ArrayOk.con]
noncomputable def X (K : Res → Option Res) : Ctx := { Γ := Γ0, orc := orcOf os, io := [], share := [], mvl := [], bun := [], cut := [], own := [(4, 0, 0, [.int .i64]), (4, 0, 1, [.int .i64])], cin := [(0, ⟨[0, 2, 4, 5, 6, 7], [(9200, 9200), (19688, 9200), (9201, 9201)], [1000, 3064, 9208], [], [], []⟩), (4, ⟨[0, 2, 4, 5, 6, 8, 9, 10, 11], [(9200, 9200), (9201, 9201)], [1000, 3064, 9208], [], [], []⟩), (2, ⟨[0, 2, 4, 5, 6, 8, 9], [(9200, 9200), (9201, 9201), (46136, 9201)], [1000, 3064, 9208], [], [], []⟩)], cout := [(0, ⟨[0, 2, 4, 5, 6], [(9200, 9200), (9201, 9201)], [1000, 3064, 9208], [], [], []⟩), (4, ⟨[0, 2, 4, 5, 6, 8, 9, 10], [(9200, 9200), (9201, 9201)], [1000, 3064, 9208], [], [], []⟩), (2, ⟨[2, 4, 5], [(9200, 9200), (9201, 9201)], [1000, 3064, 9208], [], [], []⟩)], lp := lpOf [(0, s0 [] 0 0 [] [], p0 K), (4, s4 [] 0 0 0 0 0 [] [], p4 K), (2, s2 [] 0 0 0 [] [], p2 K)], kl := [], nk := true, eqs := eqs0, byt := byt0, fin := finK fi K }
noncomputable def b (a1 : List Int) (R : List Int → List Int → Bool → Option Res) : Option Res :=
  bif ((a1.length : Int) == 0) then R ([] : List Int) ([] : List Int) false
  else bif decide (0 < (a1.length : Int)) then (bif decide (3 < IntKind.i64.wrap (a1.getD 0 0)) then R ([] : List Int) ([] : List Int) false
    else bif decide (0 < (a1.length : Int)) then (bif decide (IntKind.i64.wrap ((a1.length : Int) - 1) < IntKind.i64.wrap (2 * (IntKind.i64.wrap (a1.getD 0 0)))) then R ([] : List Int) ([] : List Int) false
      else (l0 a1 ([] : List Int) (fun y7 y8 => 
      spec_SizeOf.g y8 fun r9 =>
      bif decide (r9 < 0) then R ([] : List Int) ([] : List Int) false
      else bif (IntKind.i64.wrap ((a1.length : Int) - y7) != IntKind.i64.wrap (8 * r9)) then R ([] : List Int) ([] : List Int) false
      else (l2 a1 r9 y8 (fun y25 => 
      spec_ArrayOk.g y8 y25 fun r26 =>
      bif !r26 then R ([] : List Int) ([] : List Int) false
      else R y8 y25 true) fuel y7 0 ([] : List Int))) fuel 1 0 ([] : List Int)))
    else none)
  else none
theorem gx : ∃ x : List Int → (List Int → List Int → Bool → Option Res) → Option Res, x = b := ⟨_, rfl⟩
noncomputable def g : List Int → (List Int → List Int → Bool → Option Res) → Option Res := Classical.choose gx
theorem e : g = b := Classical.choose_spec gx
noncomputable def run : List Lf → (Res → Option Res) → Option Res
  | [.q (.ints a1)], K => g a1 (fun r1 r2 r3 => K (m r1 r2 r3))
  | _, _ => none
noncomputable def a (a1 : List Int) : St := argSt [one (.tr 0 1 [.int .u8] (.ints a1))] [] []
noncomputable def con : FuncId × St × (List Lf → (Res → Option Res) → Option Res) := (13, a [], run)
theorem cx (K : Res → Option Res) : CtxOk Go.Proofs.Try.prog Γ0 byt0 eqs0 (X K) os := ⟨rfl, rfl, rfl, (fun p hp => by
  rcases List.mem_cons.1 hp with rfl | hp
  · exact spec_SizeOf.ok
  rcases List.mem_cons.1 hp with rfl | hp
  · exact spec_ArrayOk.ok
  cases hp), rfl, rfl, rfl, rfl⟩
theorem t0 (K : Res → Option Res) (k : St → Option Res) (it : St → (St → Option Res) → Option Res) (x2 : List Int) (x3 x4 : Int) (x5 x6 : List Int) : iterS (X K) 0 b0 it (s0 x2 x3 x4 x5 x6) k = l0s x2 x6 (fun x3 x4 x5 => it (s0 x2 x3 x4 x5 x6) k) (fun y2 y3 => k (o0 x2 x6 y2 y3)) x3 x4 x5 := by kernel_rfl
theorem i0 (K : Res → Option Res) (k : St → Option Res) (x2 x6 : List Int) : ∀ (n : Nat) (x3 x4 : Int) (x5 : List Int), iter (X K) 0 b0 n (s0 x2 x3 x4 x5 x6) k = l0 x2 x6 (fun y2 y3 => k (o0 x2 x6 y2 y3)) n x3 x4 x5
  | 0, _, _, _ => rfl
  | n + 1, x3, x4, x5 => by
    rw [iter_succ, t0, show (fun x3 x4 x5 => iter (X K) 0 b0 n (s0 x2 x3 x4 x5 x6) k) = (fun x3 x4 x5 => l0 x2 x6 (fun y2 y3 => k (o0 x2 x6 y2 y3)) n x3 x4 x5) from funext fun x3 => funext fun x4 => funext fun x5 => i0 K k x2 x6 n x3 x4 x5]; rfl
theorem v0 {K : Res → Option Res} {l : List Lf} {k : St → Option Res} {r : Res} (h : p0 K l k = some r) : ∃ x2 x3 x4 x5 x6, l = [.q (.ints x2), .i x3, .i x4, .q (.ints x5), .q (.ints x6)] ∧ l0 x2 x6 (fun y2 y3 => k (o0 x2 x6 y2 y3)) fuel x3 x4 x5 = some r := by
  unfold p0 at h; split at h
  · exact ⟨_, _, _, _, _, rfl, h⟩
  · cases h
theorem t4 (K : Res → Option Res) (k : St → Option Res) (it : St → (St → Option Res) → Option Res) (x16 : List Int) (x17 x18 x19 x20 x21 : Int) (x22 x23 : List Int) : iterS (X K) 4 b4 it (s4 x16 x17 x18 x19 x20 x21 x22 x23) k = l4s x16 x17 x18 x19 x22 x23 (fun x20 x21 => it (s4 x16 x17 x18 x19 x20 x21 x22 x23) k) (fun y5 => k (o4 x16 x17 x18 x19 x22 x23 y5)) x20 x21 := by kernel_rfl
theorem i4 (K : Res → Option Res) (k : St → Option Res) (x16 : List Int) (x17 x18 x19 : Int) (x22 x23 : List Int) : ∀ (n : Nat) (x20 x21 : Int), iter (X K) 4 b4 n (s4 x16 x17 x18 x19 x20 x21 x22 x23) k = l4 x16 x17 x18 x19 x22 x23 (fun y5 => k (o4 x16 x17 x18 x19 x22 x23 y5)) n x20 x21
  | 0, _, _ => rfl
  | n + 1, x20, x21 => by
    rw [iter_succ, t4, show (fun x20 x21 => iter (X K) 4 b4 n (s4 x16 x17 x18 x19 x20 x21 x22 x23) k) = (fun x20 x21 => l4 x16 x17 x18 x19 x22 x23 (fun y5 => k (o4 x16 x17 x18 x19 x22 x23 y5)) n x20 x21) from funext fun x20 => funext fun x21 => i4 K k x16 x17 x18 x19 x22 x23 n x20 x21]; rfl
theorem v4 {K : Res → Option Res} {l : List Lf} {k : St → Option Res} {r : Res} (h : p4 K l k = some r) : ∃ x16 x17 x18 x19 x20 x21 x22 x23, l = [.q (.ints x16), .i x17, .i x18, .i x19, .i x20, .i x21, .q (.ints x22), .q (.ints x23)] ∧ l4 x16 x17 x18 x19 x22 x23 (fun y5 => k (o4 x16 x17 x18 x19 x22 x23 y5)) fuel x20 x21 = some r := by
  unfold p4 at h; split at h
  · exact ⟨_, _, _, _, _, _, _, _, rfl, h⟩
  · cases h
theorem t2 (K : Res → Option Res) (k : St → Option Res) (it : St → (St → Option Res) → Option Res) (x10 : List Int) (x11 x12 x13 : Int) (x14 x15 : List Int) : iterS (X K) 2 b2 it (s2 x10 x11 x12 x13 x14 x15) k = l2s x10 x12 x14 (fun x11 x13 x15 => it (s2 x10 x11 x12 x13 x14 x15) k) (fun y2 => k (o2 x10 x12 x14 y2)) x11 x13 x15 := by kernel_rfl
theorem i2 (K : Res → Option Res) (k : St → Option Res) (x10 : List Int) (x12 : Int) (x14 : List Int) : ∀ (n : Nat) (x11 x13 : Int) (x15 : List Int), iter (X K) 2 b2 n (s2 x10 x11 x12 x13 x14 x15) k = l2 x10 x12 x14 (fun y2 => k (o2 x10 x12 x14 y2)) n x11 x13 x15
  | 0, _, _, _ => rfl
  | n + 1, x11, x13, x15 => by
    rw [iter_succ, t2, show (fun x11 x13 x15 => iter (X K) 2 b2 n (s2 x10 x11 x12 x13 x14 x15) k) = (fun x11 x13 x15 => l2 x10 x12 x14 (fun y2 => k (o2 x10 x12 x14 y2)) n x11 x13 x15) from funext fun x11 => funext fun x13 => funext fun x15 => i2 K k x10 x12 x14 n x11 x13 x15]; rfl
theorem v2 {K : Res → Option Res} {l : List Lf} {k : St → Option Res} {r : Res} (h : p2 K l k = some r) : ∃ x10 x11 x12 x13 x14 x15, l = [.q (.ints x10), .i x11, .i x12, .i x13, .q (.ints x14), .q (.ints x15)] ∧ l2 x10 x12 x14 (fun y2 => k (o2 x10 x12 x14 y2)) fuel x11 x13 x15 = some r := by
  unfold p2 at h; split at h
  · exact ⟨_, _, _, _, _, _, rfl, h⟩
  · cases h
theorem w4 (K : Res → Option Res) : LpSound Go.Proofs.Try.prog (X K) 4 b4 := lp_ok ((cx K).ok laid) (by rw [show loopsOf b4 = [] from by kernel_rfl]; intro p hp; cases hp) rfl fun p hp hid => by
  rcases List.mem_cons.1 hp with rfl | hp
  · exact absurd hid (by simp)
  rcases List.mem_cons.1 hp with rfl | hp
  · intro st k r h1 h2; obtain ⟨x16, x17, x18, x19, x20, x21, x22, x23, e, h⟩ := v4 (K := K) h2; have := St.like_eq (y := s4 x16 x17 x18 x19 x20 x21 x22 x23) h1 (by kernel_rfl) e; subst this; exact ⟨fuel, (i4 K k x16 x17 x18 x19 x22 x23 fuel x20 x21).trans h⟩
  rcases List.mem_cons.1 hp with rfl | hp
  · exact absurd hid (by simp)
  cases hp
theorem w2 (K : Res → Option Res) : LpSound Go.Proofs.Try.prog (X K) 2 b2 := lp_ok ((cx K).ok laid) (by
    rw [show loopsOf b2 = [(4, b4)] from by kernel_rfl]; intro p hp
    rcases List.mem_cons.1 hp with rfl | hp
    · exact w4 K
    cases hp) rfl fun p hp hid => by
  rcases List.mem_cons.1 hp with rfl | hp
  · exact absurd hid (by simp)
  rcases List.mem_cons.1 hp with rfl | hp
  · exact absurd hid (by simp)
  rcases List.mem_cons.1 hp with rfl | hp
  · intro st k r h1 h2; obtain ⟨x10, x11, x12, x13, x14, x15, e, h⟩ := v2 (K := K) h2; have := St.like_eq (y := s2 x10 x11 x12 x13 x14 x15) h1 (by kernel_rfl) e; subst this; exact ⟨fuel, (i2 K k x10 x12 x14 fuel x11 x13 x15).trans h⟩
  cases hp
theorem w0 (K : Res → Option Res) : LpSound Go.Proofs.Try.prog (X K) 0 b0 := lp_ok ((cx K).ok laid) (by rw [show loopsOf b0 = [] from by kernel_rfl]; intro p hp; cases hp) rfl fun p hp hid => by
  rcases List.mem_cons.1 hp with rfl | hp
  · intro st k r h1 h2; obtain ⟨x2, x3, x4, x5, x6, e, h⟩ := v0 (K := K) h2; have := St.like_eq (y := s0 x2 x3 x4 x5 x6) h1 (by kernel_rfl) e; subst this; exact ⟨fuel, (i0 K k x2 x6 fuel x3 x4 x5).trans h⟩
  rcases List.mem_cons.1 hp with rfl | hp
  · exact absurd hid (by simp)
  rcases List.mem_cons.1 hp with rfl | hp
  · exact absurd hid (by simp)
  cases hp
theorem tie (K : Res → Option Res) (a1 : List Int) : exec (X K) c (entry 112 [one (.tr 0 1 [.int .u8] (.ints a1))] [] []) (endK (X K)) = g a1 (fun r1 r2 r3 => K (m r1 r2 r3)) := Eq.trans (b := b a1 (fun r1 r2 r3 => K (m r1 r2 r3))) (by kernel_rfl) (by rw [e])
theorem runv {l : List Lf} {K : Res → Option Res} {r : Res} (h : run l K = some r) : ∃ a1, l = [.q (.ints a1)] ∧ g a1 (fun r1 r2 r3 => K (m r1 r2 r3)) = some r := by
  unfold run at h; split at h
  · exact ⟨_, rfl, h⟩
  · cases h
theorem ok : Con Go.Proofs.Try.prog con := con_of (fn := Go.Proofs.Try.f13) (c := c) (Fi := fi) (X := X) (fun_of laid (by kernel_rfl) (by kernel_rfl) (by kernel_rfl) rfl (by kernel_rfl) (by kernel_rfl) cx (fun _ => rfl) (fun _ => rfl) (fun K => by
    rw [show loopsOf c = [(0, b0), (2, b2), (4, b4)] from by kernel_rfl]; intro p hp
    rcases List.mem_cons.1 hp with rfl | hp
    · exact w0 K
    rcases List.mem_cons.1 hp with rfl | hp
    · exact w2 K
    rcases List.mem_cons.1 hp with rfl | hp
    · exact w4 K
    cases hp)) fun xs rows boxes K r hl hr => by
  obtain ⟨a1, e, h⟩ := runv hr
  have := St.like_eq (y := a a1) hl (by kernel_rfl) e
  obtain ⟨rfl, rfl, rfl⟩ := argSt_inj this
  exact (tie K a1).trans h
end spec_ArrayRead
namespace impl_byteReader_one
noncomputable def c : Code := bodyOf Go.Proofs.Try.f68
noncomputable def fi : Fin := ⟨Γ0, [(.tmp 2, 3)], [[1]], [], [([.sl [.int .u8] 1, .bool], [0, 1])], []⟩
noncomputable def m (r1 : Int) (r2 : List Int) (r3 : Bool) : Res := ⟨[⟨false, [.int .i64 r1]⟩], [], [], [[.tr 2 2 [.int .u8] (.ints r2), .bool r3]], []⟩
noncomputable def os : List (FuncId × St × (List Lf → (Res → Option Res) → Option Res)) := []
noncomputable def X (K : Res → Option Res) : Ctx := { Γ := Γ0, orc := orcOf os, io := [], share := [], mvl := [], bun := [], cut := [], own := [], cin := [], cout := [], lp := lpOf [], kl := [], nk := true, eqs := eqs0, byt := byt0, fin := finK fi K }
noncomputable def b (a1 : List Int) (a2 : Bool) (R : Int → List Int → Bool → Option Res) : Option Res :=
  bif ((a1.length : Int) == 0) then R 0 a1 true
  else bif decide (0 < (a1.length : Int)) then (bif decide (1 ≤ (a1.length : Int)) then R (IntKind.i64.wrap (a1.getD 0 0)) (a1.drop 1) a2
    else none)
  else none
theorem gx : ∃ x : List Int → Bool → (Int → List Int → Bool → Option Res) → Option Res, x = b := ⟨_, rfl⟩
noncomputable def g : List Int → Bool → (Int → List Int → Bool → Option Res) → Option Res := Classical.choose gx
theorem e : g = b := Classical.choose_spec gx
noncomputable def run : List Lf → (Res → Option Res) → Option Res
  | [.q (.ints a1), .b a2], K => g a1 a2 (fun r1 r2 r3 => K (m r1 r2 r3))
  | _, _ => none
noncomputable def a (a1 : List Int) (a2 : Bool) : St := argSt [one (.bp 0 0)] [] [[.tr 2 2 [.int .u8] (.ints a1), .bool a2]]
noncomputable def con : FuncId × St × (List Lf → (Res → Option Res) → Option Res) := (68, a [] false, run)
theorem cx (K : Res → Option Res) : CtxOk Go.Proofs.Try.prog Γ0 byt0 eqs0 (X K) os := ⟨rfl, rfl, rfl, (fun p hp => by
  cases hp), rfl, rfl, rfl, rfl⟩
theorem tie (K : Res → Option Res) (a1 : List Int) (a2 : Bool) : exec (X K) c (entry 29 [one (.bp 0 0)] [] [[.tr 2 2 [.int .u8] (.ints a1), .bool a2]]) (endK (X K)) = g a1 a2 (fun r1 r2 r3 => K (m r1 r2 r3)) := Eq.trans (b := b a1 a2 (fun r1 r2 r3 => K (m r1 r2 r3))) (by kernel_rfl) (by rw [e])
theorem runv {l : List Lf} {K : Res → Option Res} {r : Res} (h : run l K = some r) : ∃ a1 a2, l = [.q (.ints a1), .b a2] ∧ g a1 a2 (fun r1 r2 r3 => K (m r1 r2 r3)) = some r := by
  unfold run at h; split at h
  · exact ⟨_, _, rfl, h⟩
  · cases h
theorem ok : Con Go.Proofs.Try.prog con := con_of (fn := Go.Proofs.Try.f68) (c := c) (Fi := fi) (X := X) (fun_of laid (by kernel_rfl) (by kernel_rfl) (by kernel_rfl) rfl (by kernel_rfl) (by kernel_rfl) cx (fun _ => rfl) (fun _ => rfl) (fun K => by
    rw [show loopsOf c = [] from by kernel_rfl]; intro p hp
    cases hp)) fun xs rows boxes K r hl hr => by
  obtain ⟨a1, a2, e, h⟩ := runv hr
  have := St.like_eq (y := a a1 a2) hl (by kernel_rfl) e
  obtain ⟨rfl, rfl, rfl⟩ := argSt_inj this
  exact (tie K a1 a2).trans h
end impl_byteReader_one
namespace impl_byteReader_two
noncomputable def c : Code := bodyOf Go.Proofs.Try.f69
noncomputable def fi : Fin := ⟨Γ0, [(.tmp 2, 3)], [[1]], [], [([.sl [.int .u8] 1, .bool], [0, 1])], []⟩
noncomputable def m (r1 : Int) (r2 : List Int) (r3 : Bool) : Res := ⟨[⟨false, [.int .i64 r1]⟩], [], [], [[.tr 2 2 [.int .u8] (.ints r2), .bool r3]], []⟩
noncomputable def os : List (FuncId × St × (List Lf → (Res → Option Res) → Option Res)) := [impl_byteReader_one.con]
noncomputable def X (K : Res → Option Res) : Ctx := { Γ := Γ0, orc := orcOf os, io := [], share := [], mvl := [], bun := [], cut := [], own := [], cin := [], cout := [], lp := lpOf [], kl := [], nk := true, eqs := eqs0, byt := byt0, fin := finK fi K }
noncomputable def b (a1 : List Int) (a2 : Bool) (R : Int → List Int → Bool → Option Res) : Option Res :=
  impl_byteReader_one.g a1 a2 fun r3 r4 r5 =>
  impl_byteReader_one.g r4 r5 fun r6 r7 r8 =>
  R (IntKind.i64.wrap (r3 + (IntKind.i64.wrap (256 * r6)))) r7 r8
theorem gx : ∃ x : List Int → Bool → (Int → List Int → Bool → Option Res) → Option Res, x = b := ⟨_, rfl⟩
noncomputable def g : List Int → Bool → (Int → List Int → Bool → Option Res) → Option Res := Classical.choose gx
theorem e : g = b := Classical.choose_spec gx
noncomputable def run : List Lf → (Res → Option Res) → Option Res
  | [.q (.ints a1), .b a2], K => g a1 a2 (fun r1 r2 r3 => K (m r1 r2 r3))
  | _, _ => none
noncomputable def a (a1 : List Int) (a2 : Bool) : St := argSt [one (.bp 0 0)] [] [[.tr 2 2 [.int .u8] (.ints a1), .bool a2]]
noncomputable def con : FuncId × St × (List Lf → (Res → Option Res) → Option Res) := (69, a [] false, run)
theorem cx (K : Res → Option Res) : CtxOk Go.Proofs.Try.prog Γ0 byt0 eqs0 (X K) os := ⟨rfl, rfl, rfl, (fun p hp => by
  rcases List.mem_cons.1 hp with rfl | hp
  · exact impl_byteReader_one.ok
  cases hp), rfl, rfl, rfl, rfl⟩
theorem tie (K : Res → Option Res) (a1 : List Int) (a2 : Bool) : exec (X K) c (entry 11 [one (.bp 0 0)] [] [[.tr 2 2 [.int .u8] (.ints a1), .bool a2]]) (endK (X K)) = g a1 a2 (fun r1 r2 r3 => K (m r1 r2 r3)) := Eq.trans (b := b a1 a2 (fun r1 r2 r3 => K (m r1 r2 r3))) (by kernel_rfl) (by rw [e])
theorem runv {l : List Lf} {K : Res → Option Res} {r : Res} (h : run l K = some r) : ∃ a1 a2, l = [.q (.ints a1), .b a2] ∧ g a1 a2 (fun r1 r2 r3 => K (m r1 r2 r3)) = some r := by
  unfold run at h; split at h
  · exact ⟨_, _, rfl, h⟩
  · cases h
theorem ok : Con Go.Proofs.Try.prog con := con_of (fn := Go.Proofs.Try.f69) (c := c) (Fi := fi) (X := X) (fun_of laid (by kernel_rfl) (by kernel_rfl) (by kernel_rfl) rfl (by kernel_rfl) (by kernel_rfl) cx (fun _ => rfl) (fun _ => rfl) (fun K => by
    rw [show loopsOf c = [] from by kernel_rfl]; intro p hp
    cases hp)) fun xs rows boxes K r hl hr => by
  obtain ⟨a1, a2, e, h⟩ := runv hr
  have := St.like_eq (y := a a1 a2) hl (by kernel_rfl) e
  obtain ⟨rfl, rfl, rfl⟩ := argSt_inj this
  exact (tie K a1 a2).trans h
end impl_byteReader_two
namespace impl_within
noncomputable def c : Code := bodyOf Go.Proofs.Try.f101
noncomputable def fi : Fin := ⟨Γ0, [(.tmp 6, 4)], [[1]], [], [], []⟩
noncomputable def m (r1 : Bool) : Res := ⟨[⟨false, [.bool r1]⟩], [], [], [], []⟩
noncomputable def os : List (FuncId × St × (List Lf → (Res → Option Res) → Option Res)) := []
noncomputable def X (K : Res → Option Res) : Ctx := { Γ := Γ0, orc := orcOf os, io := [], share := [], mvl := [], bun := [], cut := [], own := [], cin := [], cout := [], lp := lpOf [], kl := [], nk := true, eqs := eqs0, byt := byt0, fin := finK fi K }
noncomputable def b (a1 a2 a3 : Int) (R : Bool → Option Res) : Option Res :=
  bif decide (a2 ≤ a1) then R (decide (a1 ≤ a3))
  else R false
theorem gx : ∃ x : Int → Int → Int → (Bool → Option Res) → Option Res, x = b := ⟨_, rfl⟩
noncomputable def g : Int → Int → Int → (Bool → Option Res) → Option Res := Classical.choose gx
theorem e : g = b := Classical.choose_spec gx
noncomputable def run : List Lf → (Res → Option Res) → Option Res
  | [.i a1, .i a2, .i a3], K => g a1 a2 a3 (fun r1 => K (m r1))
  | _, _ => none
noncomputable def a (a1 a2 a3 : Int) : St := argSt [one (.int .i64 a1), one (.int .i64 a2), one (.int .i64 a3)] [] []
noncomputable def con : FuncId × St × (List Lf → (Res → Option Res) → Option Res) := (101, a 0 0 0, run)
theorem cx (K : Res → Option Res) : CtxOk Go.Proofs.Try.prog Γ0 byt0 eqs0 (X K) os := ⟨rfl, rfl, rfl, (fun p hp => by
  cases hp), rfl, rfl, rfl, rfl⟩
theorem tie (K : Res → Option Res) (a1 a2 a3 : Int) : exec (X K) c (entry 15 [one (.int .i64 a1), one (.int .i64 a2), one (.int .i64 a3)] [] []) (endK (X K)) = g a1 a2 a3 (fun r1 => K (m r1)) := Eq.trans (b := b a1 a2 a3 (fun r1 => K (m r1))) (by kernel_rfl) (by rw [e])
theorem runv {l : List Lf} {K : Res → Option Res} {r : Res} (h : run l K = some r) : ∃ a1 a2 a3, l = [.i a1, .i a2, .i a3] ∧ g a1 a2 a3 (fun r1 => K (m r1)) = some r := by
  unfold run at h; split at h
  · exact ⟨_, _, _, rfl, h⟩
  · cases h
theorem ok : Con Go.Proofs.Try.prog con := con_of (fn := Go.Proofs.Try.f101) (c := c) (Fi := fi) (X := X) (fun_of laid (by kernel_rfl) (by kernel_rfl) (by kernel_rfl) rfl (by kernel_rfl) (by kernel_rfl) cx (fun _ => rfl) (fun _ => rfl) (fun K => by
    rw [show loopsOf c = [] from by kernel_rfl]; intro p hp
    cases hp)) fun xs rows boxes K r hl hr => by
  obtain ⟨a1, a2, a3, e, h⟩ := runv hr
  have := St.like_eq (y := a a1 a2 a3) hl (by kernel_rfl) e
  obtain ⟨rfl, rfl, rfl⟩ := argSt_inj this
  exact (tie K a1 a2 a3).trans h
end impl_within
namespace impl_SizeOf
noncomputable def c : Code := bodyOf Go.Proofs.Try.f70
noncomputable def fi : Fin := ⟨Γ0, [(.tmp 2, 3)], [[1]], [], [], []⟩
noncomputable def m (r1 : Int) : Res := ⟨[⟨false, [.int .i64 r1]⟩], [], [], [], []⟩
noncomputable def b0 : Code := codeAt c [1, 1, 1, 0, 1, 0, 0]
noncomputable def s0 (x2 : Int) (x3 : List Int) (x4 x5 : Int) : St := ⟨mkT 25 [(3, one (.int .i64 x2)), (9, one (.tr 0 1 [.int .i64] (.ints x3))), (10, one (.int .i64 x4)), (11, one (.int .i64 x5))], [], []⟩
noncomputable def l0s (x3 : List Int) (x4 : Int) (rec : Int → Int → Option Res) (k : Int → Option Res) (R : Int → Option Res) (x2 x5 : Int) : Option Res :=
  bif decide (x5 < x4) then (bif decide (0 ≤ x5) && decide (x5 < (x3.length : Int)) then (impl_within.g (x3.getD x5.toNat 0) 0 300 fun r6 =>
      bif !r6 then R (-1)
      else rec (IntKind.i64.wrap (x2 * (x3.getD x5.toNat 0))) (IntKind.i64.wrap (x5 + 1)))
    else none)
  else k x2
noncomputable def l0 (x3 : List Int) (x4 : Int) (k : Int → Option Res) (R : Int → Option Res) : Nat → Int → Int → Option Res
  | 0, _, _ => none
  | n + 1, x2, x5 => l0s x3 x4 (fun x2 x5 => l0 x3 x4 k R n x2 x5) k R x2 x5
noncomputable def o0 (x3 : List Int) (x4 y1 : Int) : St := ⟨mkT 25 [(3, one (.int .i64 y1))], [], []⟩
noncomputable def p0 (K : Res → Option Res) : List Lf → (St → Option Res) → Option Res
  | [.i x2, .q (.ints x3), .i x4, .i x5], k => l0 x3 x4 (fun y1 => k (o0 x3 x4 y1)) (fun r1 => K (m r1)) fuel x2 x5
  | _, _ => none
noncomputable def os : List (FuncId × St × (List Lf → (Res → Option Res) → Option Res)) := [impl_within.con]
noncomputable def X (K : Res → Option Res) : Ctx := { Γ := Γ0, orc := orcOf os, io := [], share := [], mvl := [], bun := [], cut := [], own := [], cin := [(0, ⟨[3, 9, 10, 11], [], [], [], [], []⟩)], cout := [(0, ⟨[3], [], [], [], [], []⟩)], lp := lpOf [(0, s0 0 [] 0 0, p0 K)], kl := [], nk := true, eqs := eqs0, byt := byt0, fin := finK fi K }
noncomputable def b (a1 : List Int) (R : Int → Option Res) : Option Res :=
  bif decide (3 < (a1.length : Int)) then R (-1)
  else (l0 a1 (a1.length : Int) (fun y7 => 
  bif decide (300 < y7) then R (-1)
  else R y7) R fuel 1 0)
theorem gx : ∃ x : List Int → (Int → Option Res) → Option Res, x = b := ⟨_, rfl⟩
noncomputable def g : List Int → (Int → Option Res) → Option Res := Classical.choose gx
theorem e : g = b := Classical.choose_spec gx
noncomputable def run : List Lf → (Res → Option Res) → Option Res
  | [.q (.ints a1)], K => g a1 (fun r1 => K (m r1))
  | _, _ => none
noncomputable def a (a1 : List Int) : St := argSt [one (.tr 0 1 [.int .i64] (.ints a1))] [] []
noncomputable def con : FuncId × St × (List Lf → (Res → Option Res) → Option Res) := (70, a [], run)
theorem cx (K : Res → Option Res) : CtxOk Go.Proofs.Try.prog Γ0 byt0 eqs0 (X K) os := ⟨rfl, rfl, rfl, (fun p hp => by
  rcases List.mem_cons.1 hp with rfl | hp
  · exact impl_within.ok
  cases hp), rfl, rfl, rfl, rfl⟩
theorem t0 (K : Res → Option Res) (k : St → Option Res) (it : St → (St → Option Res) → Option Res) (x2 : Int) (x3 : List Int) (x4 x5 : Int) : iterS (X K) 0 b0 it (s0 x2 x3 x4 x5) k = l0s x3 x4 (fun x2 x5 => it (s0 x2 x3 x4 x5) k) (fun y1 => k (o0 x3 x4 y1)) (fun r1 => K (m r1)) x2 x5 := by kernel_rfl
theorem i0 (K : Res → Option Res) (k : St → Option Res) (x3 : List Int) (x4 : Int) : ∀ (n : Nat) (x2 x5 : Int), iter (X K) 0 b0 n (s0 x2 x3 x4 x5) k = l0 x3 x4 (fun y1 => k (o0 x3 x4 y1)) (fun r1 => K (m r1)) n x2 x5
  | 0, _, _ => rfl
  | n + 1, x2, x5 => by
    rw [iter_succ, t0, show (fun x2 x5 => iter (X K) 0 b0 n (s0 x2 x3 x4 x5) k) = (fun x2 x5 => l0 x3 x4 (fun y1 => k (o0 x3 x4 y1)) (fun r1 => K (m r1)) n x2 x5) from funext fun x2 => funext fun x5 => i0 K k x3 x4 n x2 x5]; rfl
theorem v0 {K : Res → Option Res} {l : List Lf} {k : St → Option Res} {r : Res} (h : p0 K l k = some r) : ∃ x2 x3 x4 x5, l = [.i x2, .q (.ints x3), .i x4, .i x5] ∧ l0 x3 x4 (fun y1 => k (o0 x3 x4 y1)) (fun r1 => K (m r1)) fuel x2 x5 = some r := by
  unfold p0 at h; split at h
  · exact ⟨_, _, _, _, rfl, h⟩
  · cases h
theorem w0 (K : Res → Option Res) : LpSound Go.Proofs.Try.prog (X K) 0 b0 := lp_ok ((cx K).ok laid) (by rw [show loopsOf b0 = [] from by kernel_rfl]; intro p hp; cases hp) rfl fun p hp hid => by
  rcases List.mem_cons.1 hp with rfl | hp
  · intro st k r h1 h2; obtain ⟨x2, x3, x4, x5, e, h⟩ := v0 (K := K) h2; have := St.like_eq (y := s0 x2 x3 x4 x5) h1 (by kernel_rfl) e; subst this; exact ⟨fuel, (i0 K k x3 x4 fuel x2 x5).trans h⟩
  cases hp
theorem tie (K : Res → Option Res) (a1 : List Int) : exec (X K) c (entry 25 [one (.tr 0 1 [.int .i64] (.ints a1))] [] []) (endK (X K)) = g a1 (fun r1 => K (m r1)) := Eq.trans (b := b a1 (fun r1 => K (m r1))) (by kernel_rfl) (by rw [e])
theorem runv {l : List Lf} {K : Res → Option Res} {r : Res} (h : run l K = some r) : ∃ a1, l = [.q (.ints a1)] ∧ g a1 (fun r1 => K (m r1)) = some r := by
  unfold run at h; split at h
  · exact ⟨_, rfl, h⟩
  · cases h
theorem ok : Con Go.Proofs.Try.prog con := con_of (fn := Go.Proofs.Try.f70) (c := c) (Fi := fi) (X := X) (fun_of laid (by kernel_rfl) (by kernel_rfl) (by kernel_rfl) rfl (by kernel_rfl) (by kernel_rfl) cx (fun _ => rfl) (fun _ => rfl) (fun K => by
    rw [show loopsOf c = [(0, b0)] from by kernel_rfl]; intro p hp
    rcases List.mem_cons.1 hp with rfl | hp
    · exact w0 K
    cases hp)) fun xs rows boxes K r hl hr => by
  obtain ⟨a1, e, h⟩ := runv hr
  have := St.like_eq (y := a a1) hl (by kernel_rfl) e
  obtain ⟨rfl, rfl, rfl⟩ := argSt_inj this
  exact (tie K a1).trans h
end impl_SizeOf
namespace impl_byteReader_num
noncomputable def c : Code := bodyOf Go.Proofs.Try.f71
noncomputable def fi : Fin := ⟨Γ0, [(.tmp 2, 3)], [[1]], [], [([.sl [.int .u8] 1, .bool], [0, 1])], []⟩
noncomputable def m (r1 : Int) (r2 : List Int) (r3 : Bool) : Res := ⟨[⟨false, [.int .i64 r1]⟩], [], [], [[.tr 2 2 [.int .u8] (.ints r2), .bool r3]], []⟩
noncomputable def b0 : Code := codeAt c [1, 1, 0, 1, 0, 0]
noncomputable def s0 (x3 x4 : Int) (x5 : List Int) (x6 : Bool) : St := ⟨mkT 25 [(0, one (.bp 0 0)), (3, one (.int .u64 x3)), (4, one (.int .i64 x4))], [], [(0, [.tr 2 2 [.int .u8] (.ints x5), .bool x6])]⟩
noncomputable def l0s  (rec : Int → Int → List Int → Bool → Option Res) (k : Int → List Int → Bool → Option Res) (x3 x4 : Int) (x5 : List Int) (x6 : Bool) : Option Res :=
  bif decide (x4 < 8) then (impl_byteReader_one.g x5 x6 fun r7 r8 r9 =>
    bif decide (IntKind.i64.wrap (8 * x4) < 0) then none
    else rec (arith.bits .or .u64 x3 (IntKind.u64.wrap ((IntKind.u64.wrap r7) * 2 ^ (min (IntKind.i64.wrap (8 * x4)).toNat 64)))) (IntKind.i64.wrap (x4 + 1)) r8 r9)
  else k x3 x5 x6
noncomputable def l0  (k : Int → List Int → Bool → Option Res) : Nat → Int → Int → List Int → Bool → Option Res
  | 0, _, _, _, _ => none
  | n + 1, x3, x4, x5, x6 => l0s (fun x3 x4 x5 x6 => l0 k n x3 x4 x5 x6) k x3 x4 x5 x6
noncomputable def o0 (y1 : Int) (y2 : List Int) (y3 : Bool) : St := ⟨mkT 25 [(0, one (.bp 0 0)), (3, one (.int .u64 y1))], [], [(0, [.tr 2 2 [.int .u8] (.ints y2), .bool y3])]⟩
noncomputable def p0 (K : Res → Option Res) : List Lf → (St → Option Res) → Option Res
  | [.i x3, .i x4, .q (.ints x5), .b x6], k => l0 (fun y1 y2 y3 => k (o0 y1 y2 y3)) fuel x3 x4 x5 x6
  | _, _ => none
noncomputable def os : List (FuncId × St × (List Lf → (Res → Option Res) → Option Res)) := [impl_byteReader_one.con]
noncomputable def X (K : Res → Option Res) : Ctx := { Γ := Γ0, orc := orcOf os, io := [], share := [], mvl := [], bun := [], cut := [], own := [], cin := [(0, ⟨[0, 3, 4], [], [0], [], [], []⟩)], cout := [(0, ⟨[0, 3], [], [0], [], [], []⟩)], lp := lpOf [(0, s0 0 0 [] false, p0 K)], kl := [], nk := true, eqs := eqs0, byt := byt0, fin := finK fi K }
noncomputable def b (a1 : List Int) (a2 : Bool) (R : Int → List Int → Bool → Option Res) : Option Res :=
  l0 (fun y10 y11 y12 => 
  bif decide (2000000000000 < y10) then R 0 y11 true
  else R (IntKind.i64.wrap ((IntKind.i64.wrap y10) - 1000000000000)) y11 y12) fuel 0 0 a1 a2
theorem gx : ∃ x : List Int → Bool → (Int → List Int → Bool → Option Res) → Option Res, x = b := ⟨_, rfl⟩
noncomputable def g : List Int → Bool → (Int → List Int → Bool → Option Res) → Option Res := Classical.choose gx
theorem e : g = b := Classical.choose_spec gx
noncomputable def run : List Lf → (Res → Option Res) → Option Res
  | [.q (.ints a1), .b a2], K => g a1 a2 (fun r1 r2 r3 => K (m r1 r2 r3))
  | _, _ => none
noncomputable def a (a1 : List Int) (a2 : Bool) : St := argSt [one (.bp 0 0)] [] [[.tr 2 2 [.int .u8] (.ints a1), .bool a2]]
noncomputable def con : FuncId × St × (List Lf → (Res → Option Res) → Option Res) := (71, a [] false, run)
theorem cx (K : Res → Option Res) : CtxOk Go.Proofs.Try.prog Γ0 byt0 eqs0 (X K) os := ⟨rfl, rfl, rfl, (fun p hp => by
  rcases List.mem_cons.1 hp with rfl | hp
  · exact impl_byteReader_one.ok
  cases hp), rfl, rfl, rfl, rfl⟩
theorem t0 (K : Res → Option Res) (k : St → Option Res) (it : St → (St → Option Res) → Option Res) (x3 x4 : Int) (x5 : List Int) (x6 : Bool) : iterS (X K) 0 b0 it (s0 x3 x4 x5 x6) k = l0s (fun x3 x4 x5 x6 => it (s0 x3 x4 x5 x6) k) (fun y1 y2 y3 => k (o0 y1 y2 y3)) x3 x4 x5 x6 := by kernel_rfl
theorem i0 (K : Res → Option Res) (k : St → Option Res)  : ∀ (n : Nat) (x3 x4 : Int) (x5 : List Int) (x6 : Bool), iter (X K) 0 b0 n (s0 x3 x4 x5 x6) k = l0 (fun y1 y2 y3 => k (o0 y1 y2 y3)) n x3 x4 x5 x6
  | 0, _, _, _, _ => rfl
  | n + 1, x3, x4, x5, x6 => by
    rw [iter_succ, t0, show (fun x3 x4 x5 x6 => iter (X K) 0 b0 n (s0 x3 x4 x5 x6) k) = (fun x3 x4 x5 x6 => l0 (fun y1 y2 y3 => k (o0 y1 y2 y3)) n x3 x4 x5 x6) from funext fun x3 => funext fun x4 => funext fun x5 => funext fun x6 => i0 K k n x3 x4 x5 x6]; rfl
theorem v0 {K : Res → Option Res} {l : List Lf} {k : St → Option Res} {r : Res} (h : p0 K l k = some r) : ∃ x3 x4 x5 x6, l = [.i x3, .i x4, .q (.ints x5), .b x6] ∧ l0 (fun y1 y2 y3 => k (o0 y1 y2 y3)) fuel x3 x4 x5 x6 = some r := by
  unfold p0 at h; split at h
  · exact ⟨_, _, _, _, rfl, h⟩
  · cases h
theorem w0 (K : Res → Option Res) : LpSound Go.Proofs.Try.prog (X K) 0 b0 := lp_ok ((cx K).ok laid) (by rw [show loopsOf b0 = [] from by kernel_rfl]; intro p hp; cases hp) rfl fun p hp hid => by
  rcases List.mem_cons.1 hp with rfl | hp
  · intro st k r h1 h2; obtain ⟨x3, x4, x5, x6, e, h⟩ := v0 (K := K) h2; have := St.like_eq (y := s0 x3 x4 x5 x6) h1 (by kernel_rfl) e; subst this; exact ⟨fuel, (i0 K k fuel x3 x4 x5 x6).trans h⟩
  cases hp
theorem tie (K : Res → Option Res) (a1 : List Int) (a2 : Bool) : exec (X K) c (entry 25 [one (.bp 0 0)] [] [[.tr 2 2 [.int .u8] (.ints a1), .bool a2]]) (endK (X K)) = g a1 a2 (fun r1 r2 r3 => K (m r1 r2 r3)) := Eq.trans (b := b a1 a2 (fun r1 r2 r3 => K (m r1 r2 r3))) (by kernel_rfl) (by rw [e])
theorem runv {l : List Lf} {K : Res → Option Res} {r : Res} (h : run l K = some r) : ∃ a1 a2, l = [.q (.ints a1), .b a2] ∧ g a1 a2 (fun r1 r2 r3 => K (m r1 r2 r3)) = some r := by
  unfold run at h; split at h
  · exact ⟨_, _, rfl, h⟩
  · cases h
theorem ok : Con Go.Proofs.Try.prog con := con_of (fn := Go.Proofs.Try.f71) (c := c) (Fi := fi) (X := X) (fun_of laid (by kernel_rfl) (by kernel_rfl) (by kernel_rfl) rfl (by kernel_rfl) (by kernel_rfl) cx (fun _ => rfl) (fun _ => rfl) (fun K => by
    rw [show loopsOf c = [(0, b0)] from by kernel_rfl]; intro p hp
    rcases List.mem_cons.1 hp with rfl | hp
    · exact w0 K
    cases hp)) fun xs rows boxes K r hl hr => by
  obtain ⟨a1, a2, e, h⟩ := runv hr
  have := St.like_eq (y := a a1 a2) hl (by kernel_rfl) e
  obtain ⟨rfl, rfl, rfl⟩ := argSt_inj this
  exact (tie K a1 a2).trans h
end impl_byteReader_num
namespace impl_NumOk
noncomputable def c : Code := bodyOf Go.Proofs.Try.f94
noncomputable def fi : Fin := ⟨Γ0, [(.tmp 2, 4)], [[1]], [], [], []⟩
noncomputable def m (r1 : Bool) : Res := ⟨[⟨false, [.bool r1]⟩], [], [], [], []⟩
noncomputable def os : List (FuncId × St × (List Lf → (Res → Option Res) → Option Res)) := [impl_within.con]
noncomputable def X (K : Res → Option Res) : Ctx := { Γ := Γ0, orc := orcOf os, io := [], share := [], mvl := [], bun := [], cut := [], own := [], cin := [], cout := [], lp := lpOf [], kl := [], nk := true, eqs := eqs0, byt := byt0, fin := finK fi K }
noncomputable def b (a1 : Int) (R : Bool → Option Res) : Option Res :=
  impl_within.g a1 (-1000000000000) 1000000000000 fun r2 =>
  R r2
theorem gx : ∃ x : Int → (Bool → Option Res) → Option Res, x = b := ⟨_, rfl⟩
noncomputable def g : Int → (Bool → Option Res) → Option Res := Classical.choose gx
theorem e : g = b := Classical.choose_spec gx
noncomputable def run : List Lf → (Res → Option Res) → Option Res
  | [.i a1], K => g a1 (fun r1 => K (m r1))
  | _, _ => none
noncomputable def a (a1 : Int) : St := argSt [one (.int .i64 a1)] [] []
noncomputable def con : FuncId × St × (List Lf → (Res → Option Res) → Option Res) := (94, a 0, run)
theorem cx (K : Res → Option Res) : CtxOk Go.Proofs.Try.prog Γ0 byt0 eqs0 (X K) os := ⟨rfl, rfl, rfl, (fun p hp => by
  rcases List.mem_cons.1 hp with rfl | hp
  · exact impl_within.ok
  cases hp), rfl, rfl, rfl, rfl⟩
theorem tie (K : Res → Option Res) (a1 : Int) : exec (X K) c (entry 5 [one (.int .i64 a1)] [] []) (endK (X K)) = g a1 (fun r1 => K (m r1)) := Eq.trans (b := b a1 (fun r1 => K (m r1))) (by kernel_rfl) (by rw [e])
theorem runv {l : List Lf} {K : Res → Option Res} {r : Res} (h : run l K = some r) : ∃ a1, l = [.i a1] ∧ g a1 (fun r1 => K (m r1)) = some r := by
  unfold run at h; split at h
  · exact ⟨_, rfl, h⟩
  · cases h
theorem ok : Con Go.Proofs.Try.prog con := con_of (fn := Go.Proofs.Try.f94) (c := c) (Fi := fi) (X := X) (fun_of laid (by kernel_rfl) (by kernel_rfl) (by kernel_rfl) rfl (by kernel_rfl) (by kernel_rfl) cx (fun _ => rfl) (fun _ => rfl) (fun K => by
    rw [show loopsOf c = [] from by kernel_rfl]; intro p hp
    cases hp)) fun xs rows boxes K r hl hr => by
  obtain ⟨a1, e, h⟩ := runv hr
  have := St.like_eq (y := a a1) hl (by kernel_rfl) e
  obtain ⟨rfl, rfl, rfl⟩ := argSt_inj this
  exact (tie K a1).trans h
end impl_NumOk
namespace impl_ArrayOk_1
noncomputable def c : Code := bodyOf Go.Proofs.Try.f93
noncomputable def fi : Fin := ⟨Γ0, [(.tmp 2, 4)], [[1]], [], [], []⟩
noncomputable def m (r1 : Bool) : Res := ⟨[⟨false, [.bool r1]⟩], [], [], [], []⟩
noncomputable def os : List (FuncId × St × (List Lf → (Res → Option Res) → Option Res)) := [impl_NumOk.con]
noncomputable def X (K : Res → Option Res) : Ctx := { Γ := Γ0, orc := orcOf os, io := [], share := [], mvl := [], bun := [], cut := [], own := [], cin := [], cout := [], lp := lpOf [], kl := [], nk := true, eqs := eqs0, byt := byt0, fin := finK fi K }
noncomputable def b (a1 : Int) (R : Bool → Option Res) : Option Res :=
  impl_NumOk.g a1 fun r2 =>
  R (!r2)
theorem gx : ∃ x : Int → (Bool → Option Res) → Option Res, x = b := ⟨_, rfl⟩
noncomputable def g : Int → (Bool → Option Res) → Option Res := Classical.choose gx
theorem e : g = b := Classical.choose_spec gx
noncomputable def run : List Lf → (Res → Option Res) → Option Res
  | [.i a1], K => g a1 (fun r1 => K (m r1))
  | _, _ => none
noncomputable def a (a1 : Int) : St := argSt [one (.int .i64 a1)] [] []
noncomputable def con : FuncId × St × (List Lf → (Res → Option Res) → Option Res) := (93, a 0, run)
theorem cx (K : Res → Option Res) : CtxOk Go.Proofs.Try.prog Γ0 byt0 eqs0 (X K) os := ⟨rfl, rfl, rfl, (fun p hp => by
  rcases List.mem_cons.1 hp with rfl | hp
  · exact impl_NumOk.ok
  cases hp), rfl, rfl, rfl, rfl⟩
theorem tie (K : Res → Option Res) (a1 : Int) : exec (X K) c (entry 6 [one (.int .i64 a1)] [] []) (endK (X K)) = g a1 (fun r1 => K (m r1)) := Eq.trans (b := b a1 (fun r1 => K (m r1))) (by kernel_rfl) (by rw [e])
theorem runv {l : List Lf} {K : Res → Option Res} {r : Res} (h : run l K = some r) : ∃ a1, l = [.i a1] ∧ g a1 (fun r1 => K (m r1)) = some r := by
  unfold run at h; split at h
  · exact ⟨_, rfl, h⟩
  · cases h
theorem ok : Con Go.Proofs.Try.prog con := con_of (fn := Go.Proofs.Try.f93) (c := c) (Fi := fi) (X := X) (fun_of laid (by kernel_rfl) (by kernel_rfl) (by kernel_rfl) rfl (by kernel_rfl) (by kernel_rfl) cx (fun _ => rfl) (fun _ => rfl) (fun K => by
    rw [show loopsOf c = [] from by kernel_rfl]; intro p hp
    cases hp)) fun xs rows boxes K r hl hr => by
  obtain ⟨a1, e, h⟩ := runv hr
  have := St.like_eq (y := a a1) hl (by kernel_rfl) e
  obtain ⟨rfl, rfl, rfl⟩ := argSt_inj this
  exact (tie K a1).trans h
end impl_ArrayOk_1
namespace slices_IndexFunc_int_int
noncomputable def c : Code := bodyOf Go.Proofs.Try.f133
noncomputable def fi : Fin := ⟨Γ0, [(.tmp 4, 3)], [[1]], [], [], []⟩
noncomputable def m (r1 : Int) : Res := ⟨[⟨false, [.int .i64 r1]⟩], [], [], [], []⟩
noncomputable def b0 : Code := codeAt c [1, 0, 1, 0, 0]
noncomputable def s0 (x2 : List Int) (x3 x4 : Int) : St := ⟨mkT 19 [(0, one (.tr 0 1 [.int .i64] (.ints x2))), (1, one (.fn 93 [])), (7, one (.int .i64 x3)), (8, one (.int .i64 x4))], [], []⟩
noncomputable def l0s (x2 : List Int) (x3 : Int) (rec : Int → Option Res) (k : Option Res) (R : Int → Option Res) (x4 : Int) : Option Res :=
  bif decide (x4 < x3) then (bif decide (0 ≤ x4) && decide (x4 < (x2.length : Int)) then (impl_ArrayOk_1.g (x2.getD x4.toNat 0) fun r5 =>
      bif r5 then R x4
      else rec (IntKind.i64.wrap (x4 + 1)))
    else none)
  else k
noncomputable def l0 (x2 : List Int) (x3 : Int) (k : Option Res) (R : Int → Option Res) : Nat → Int → Option Res
  | 0, _ => none
  | n + 1, x4 => l0s x2 x3 (fun x4 => l0 x2 x3 k R n x4) k R x4
noncomputable def o0 (x2 : List Int) (x3 : Int) : St := ⟨mkT 19 [], [], []⟩
noncomputable def p0 (K : Res → Option Res) : List Lf → (St → Option Res) → Option Res
  | [.q (.ints x2), .i x3, .i x4], k => l0 x2 x3 (k (o0 x2 x3)) (fun r1 => K (m r1)) fuel x4
  | _, _ => none
noncomputable def os : List (FuncId × St × (List Lf → (Res → Option Res) → Option Res)) := [impl_ArrayOk_1.con]
noncomputable def X (K : Res → Option Res) : Ctx := { Γ := Γ0, orc := orcOf os, io := [], share := [], mvl := [], bun := [], cut := [], own := [], cin := [(0, ⟨[0, 1, 7, 8], [], [], [], [], []⟩)], cout := [(0, ⟨[], [], [], [], [], []⟩)], lp := lpOf [(0, s0 [] 0 0, p0 K)], kl := [], nk := true, eqs := eqs0, byt := byt0, fin := finK fi K }
noncomputable def b (a1 : List Int) (R : Int → Option Res) : Option Res :=
  l0 a1 (a1.length : Int) (
  R (-1)) R fuel 0
theorem gx : ∃ x : List Int → (Int → Option Res) → Option Res, x = b := ⟨_, rfl⟩
noncomputable def g : List Int → (Int → Option Res) → Option Res := Classical.choose gx
theorem e : g = b := Classical.choose_spec gx
noncomputable def run : List Lf → (Res → Option Res) → Option Res
  | [.q (.ints a1)], K => g a1 (fun r1 => K (m r1))
  | _, _ => none
noncomputable def a (a1 : List Int) : St := argSt [one (.tr 0 1 [.int .i64] (.ints a1)), one (.fn 93 [])] [] []
noncomputable def con : FuncId × St × (List Lf → (Res → Option Res) → Option Res) := (133, a [], run)
theorem cx (K : Res → Option Res) : CtxOk Go.Proofs.Try.prog Γ0 byt0 eqs0 (X K) os := ⟨rfl, rfl, rfl, (fun p hp => by
  rcases List.mem_cons.1 hp with rfl | hp
  · exact impl_ArrayOk_1.ok
  cases hp), rfl, rfl, rfl, rfl⟩
theorem t0 (K : Res → Option Res) (k : St → Option Res) (it : St → (St → Option Res) → Option Res) (x2 : List Int) (x3 x4 : Int) : iterS (X K) 0 b0 it (s0 x2 x3 x4) k = l0s x2 x3 (fun x4 => it (s0 x2 x3 x4) k) (k (o0 x2 x3)) (fun r1 => K (m r1)) x4 := by kernel_rfl
theorem i0 (K : Res → Option Res) (k : St → Option Res) (x2 : List Int) (x3 : Int) : ∀ (n : Nat) (x4 : Int), iter (X K) 0 b0 n (s0 x2 x3 x4) k = l0 x2 x3 (k (o0 x2 x3)) (fun r1 => K (m r1)) n x4
  | 0, _ => rfl
  | n + 1, x4 => by
    rw [iter_succ, t0, show (fun x4 => iter (X K) 0 b0 n (s0 x2 x3 x4) k) = (fun x4 => l0 x2 x3 (k (o0 x2 x3)) (fun r1 => K (m r1)) n x4) from funext fun x4 => i0 K k x2 x3 n x4]; rfl
theorem v0 {K : Res → Option Res} {l : List Lf} {k : St → Option Res} {r : Res} (h : p0 K l k = some r) : ∃ x2 x3 x4, l = [.q (.ints x2), .i x3, .i x4] ∧ l0 x2 x3 (k (o0 x2 x3)) (fun r1 => K (m r1)) fuel x4 = some r := by
  unfold p0 at h; split at h
  · exact ⟨_, _, _, rfl, h⟩
  · cases h
theorem w0 (K : Res → Option Res) : LpSound Go.Proofs.Try.prog (X K) 0 b0 := lp_ok ((cx K).ok laid) (by rw [show loopsOf b0 = [] from by kernel_rfl]; intro p hp; cases hp) rfl fun p hp hid => by
  rcases List.mem_cons.1 hp with rfl | hp
  · intro st k r h1 h2; obtain ⟨x2, x3, x4, e, h⟩ := v0 (K := K) h2; have := St.like_eq (y := s0 x2 x3 x4) h1 (by kernel_rfl) e; subst this; exact ⟨fuel, (i0 K k x2 x3 fuel x4).trans h⟩
  cases hp
theorem tie (K : Res → Option Res) (a1 : List Int) : exec (X K) c (entry 19 [one (.tr 0 1 [.int .i64] (.ints a1)), one (.fn 93 [])] [] []) (endK (X K)) = g a1 (fun r1 => K (m r1)) := Eq.trans (b := b a1 (fun r1 => K (m r1))) (by kernel_rfl) (by rw [e])
theorem runv {l : List Lf} {K : Res → Option Res} {r : Res} (h : run l K = some r) : ∃ a1, l = [.q (.ints a1)] ∧ g a1 (fun r1 => K (m r1)) = some r := by
  unfold run at h; split at h
  · exact ⟨_, rfl, h⟩
  · cases h
theorem ok : Con Go.Proofs.Try.prog con := con_of (fn := Go.Proofs.Try.f133) (c := c) (Fi := fi) (X := X) (fun_of laid (by kernel_rfl) (by kernel_rfl) (by kernel_rfl) rfl (by kernel_rfl) (by kernel_rfl) cx (fun _ => rfl) (fun _ => rfl) (fun K => by
    rw [show loopsOf c = [(0, b0)] from by kernel_rfl]; intro p hp
    rcases List.mem_cons.1 hp with rfl | hp
    · exact w0 K
    cases hp)) fun xs rows boxes K r hl hr => by
  obtain ⟨a1, e, h⟩ := runv hr
  have := St.like_eq (y := a a1) hl (by kernel_rfl) e
  obtain ⟨rfl, rfl, rfl⟩ := argSt_inj this
  exact (tie K a1).trans h
end slices_IndexFunc_int_int
namespace slices_ContainsFunc_int_int
noncomputable def c : Code := bodyOf Go.Proofs.Try.f92
noncomputable def fi : Fin := ⟨Γ0, [(.tmp 4, 4)], [[1]], [], [], []⟩
noncomputable def m (r1 : Bool) : Res := ⟨[⟨false, [.bool r1]⟩], [], [], [], []⟩
noncomputable def os : List (FuncId × St × (List Lf → (Res → Option Res) → Option Res)) := [slices_IndexFunc_int_int.con]
noncomputable def X (K : Res → Option Res) : Ctx := { Γ := Γ0, orc := orcOf os, io := [], share := [], mvl := [], bun := [], cut := [], own := [], cin := [], cout := [], lp := lpOf [], kl := [], nk := true, eqs := eqs0, byt := byt0, fin := finK fi K }
noncomputable def b (a1 : List Int) (R : Bool → Option Res) : Option Res :=
  slices_IndexFunc_int_int.g a1 fun r2 =>
  R (decide (0 ≤ r2))
theorem gx : ∃ x : List Int → (Bool → Option Res) → Option Res, x = b := ⟨_, rfl⟩
noncomputable def g : List Int → (Bool → Option Res) → Option Res := Classical.choose gx
theorem e : g = b := Classical.choose_spec gx
noncomputable def run : List Lf → (Res → Option Res) → Option Res
  | [.q (.ints a1)], K => g a1 (fun r1 => K (m r1))
  | _, _ => none
noncomputable def a (a1 : List Int) : St := argSt [one (.tr 0 1 [.int .i64] (.ints a1)), one (.fn 93 [])] [] []
noncomputable def con : FuncId × St × (List Lf → (Res → Option Res) → Option Res) := (92, a [], run)
theorem cx (K : Res → Option Res) : CtxOk Go.Proofs.Try.prog Γ0 byt0 eqs0 (X K) os := ⟨rfl, rfl, rfl, (fun p hp => by
  rcases List.mem_cons.1 hp with rfl | hp
  · exact slices_IndexFunc_int_int.ok
  cases hp), rfl, rfl, rfl, rfl⟩
theorem tie (K : Res → Option Res) (a1 : List Int) : exec (X K) c (entry 9 [one (.tr 0 1 [.int .i64] (.ints a1)), one (.fn 93 [])] [] []) (endK (X K)) = g a1 (fun r1 => K (m r1)) := Eq.trans (b := b a1 (fun r1 => K (m r1))) (by kernel_rfl) (by rw [e])
theorem runv {l : List Lf} {K : Res → Option Res} {r : Res} (h : run l K = some r) : ∃ a1, l = [.q (.ints a1)] ∧ g a1 (fun r1 => K (m r1)) = some r := by
  unfold run at h; split at h
  · exact ⟨_, rfl, h⟩
  · cases h
theorem ok : Con Go.Proofs.Try.prog con := con_of (fn := Go.Proofs.Try.f92) (c := c) (Fi := fi) (X := X) (fun_of laid (by kernel_rfl) (by kernel_rfl) (by kernel_rfl) rfl (by kernel_rfl) (by kernel_rfl) cx (fun _ => rfl) (fun _ => rfl) (fun K => by
    rw [show loopsOf c = [] from by kernel_rfl]; intro p hp
    cases hp)) fun xs rows boxes K r hl hr => by
  obtain ⟨a1, e, h⟩ := runv hr
  have := St.like_eq (y := a a1) hl (by kernel_rfl) e
  obtain ⟨rfl, rfl, rfl⟩ := argSt_inj this
  exact (tie K a1).trans h
end slices_ContainsFunc_int_int
namespace impl_ArrayOk
noncomputable def c : Code := bodyOf Go.Proofs.Try.f32
noncomputable def fi : Fin := ⟨Γ0, [(.tmp 2, 4)], [[1]], [], [], []⟩
noncomputable def m (r1 : Bool) : Res := ⟨[⟨false, [.bool r1]⟩], [], [], [], []⟩
noncomputable def os : List (FuncId × St × (List Lf → (Res → Option Res) → Option Res)) := [impl_SizeOf.con, slices_ContainsFunc_int_int.con]
noncomputable def X (K : Res → Option Res) : Ctx := { Γ := Γ0, orc := orcOf os, io := [], share := [], mvl := [], bun := [], cut := [], own := [], cin := [], cout := [], lp := lpOf [], kl := [], nk := true, eqs := eqs0, byt := byt0, fin := finK fi K }
noncomputable def b (a1 a2 : List Int) (R : Bool → Option Res) : Option Res :=
  impl_SizeOf.g a1 fun r3 =>
  bif ((a2.length : Int) == r3) then (slices_ContainsFunc_int_int.g a2 fun r4 =>
    R (!r4))
  else R false
theorem gx : ∃ x : List Int → List Int → (Bool → Option Res) → Option Res, x = b := ⟨_, rfl⟩
noncomputable def g : List Int → List Int → (Bool → Option Res) → Option Res := Classical.choose gx
theorem e : g = b := Classical.choose_spec gx
noncomputable def run : List Lf → (Res → Option Res) → Option Res
  | [.q (.ints a1), .q (.ints a2)], K => g a1 a2 (fun r1 => K (m r1))
  | _, _ => none
noncomputable def a (a1 a2 : List Int) : St := argSt [.v ⟨true, [.tr 0 1 [.int .i64] (.ints a1), .tr 0 1 [.int .i64] (.ints a2)]⟩] [] []
noncomputable def con : FuncId × St × (List Lf → (Res → Option Res) → Option Res) := (32, a [] [], run)
theorem cx (K : Res → Option Res) : CtxOk Go.Proofs.Try.prog Γ0 byt0 eqs0 (X K) os := ⟨rfl, rfl, rfl, (fun p hp => by
  rcases List.mem_cons.1 hp with rfl | hp
  · exact impl_SizeOf.ok
  rcases List.mem_cons.1 hp with rfl | hp
  · exact slices_ContainsFunc_int_int.ok
  cases hp), rfl, rfl, rfl, rfl⟩
theorem tie (K : Res → Option Res) (a1 a2 : List Int) : exec (X K) c (entry 16 [.v ⟨true, [.tr 0 1 [.int .i64] (.ints a1), .tr 0 1 [.int .i64] (.ints a2)]⟩] [] []) (endK (X K)) = g a1 a2 (fun r1 => K (m r1)) := Eq.trans (b := b a1 a2 (fun r1 => K (m r1))) (by kernel_rfl) (by rw [e])
theorem runv {l : List Lf} {K : Res → Option Res} {r : Res} (h : run l K = some r) : ∃ a1 a2, l = [.q (.ints a1), .q (.ints a2)] ∧ g a1 a2 (fun r1 => K (m r1)) = some r := by
  unfold run at h; split at h
  · exact ⟨_, _, rfl, h⟩
  · cases h
theorem ok : Con Go.Proofs.Try.prog con := con_of (fn := Go.Proofs.Try.f32) (c := c) (Fi := fi) (X := X) (fun_of laid (by kernel_rfl) (by kernel_rfl) (by kernel_rfl) rfl (by kernel_rfl) (by kernel_rfl) cx (fun _ => rfl) (fun _ => rfl) (fun K => by
    rw [show loopsOf c = [] from by kernel_rfl]; intro p hp
    cases hp)) fun xs rows boxes K r hl hr => by
  obtain ⟨a1, a2, e, h⟩ := runv hr
  have := St.like_eq (y := a a1 a2) hl (by kernel_rfl) e
  obtain ⟨rfl, rfl, rfl⟩ := argSt_inj this
  exact (tie K a1 a2).trans h
end impl_ArrayOk
namespace impl_ArrayRead
noncomputable def c : Code := bodyOf Go.Proofs.Try.f15
noncomputable def fi : Fin := ⟨Γ0, [(.cell 2 25, 25), (.tmp 3, 4)], [[1, 1], [1]], [], [], []⟩
noncomputable def m (r1 r2 : List Int) (r3 : Bool) : Res := ⟨[⟨true, [.ow 1000, .ow 1001]⟩, ⟨false, [.bool r3]⟩], [], [⟨[.int .i64], .ints r1, true, 0⟩, ⟨[.int .i64], .ints r2, true, 0⟩], [], []⟩
noncomputable def b0 : Code := codeAt c [1, 1, 1, 1, 1, 0, 1, 0, 0]
noncomputable def b2 : Code := codeAt c [1, 1, 1, 1, 1, 1, 0, 1, 0, 0]
noncomputable def s0 (x5 x6 : Int) (x7 x8 x9 : List Int) (x10 : Bool) : St := ⟨mkT 75 [(2, one (.bp 1000 0)), (4, one (.bp 3080 0)), (5, one (.bp 5096 0)), (6, one (.int .i64 x5)), (7, one (.int .i64 x6))], [(5104, ⟨[.int .i64], .ints x7, true, 0⟩), (5105, ⟨[.int .i64], .ints x8, true, 0⟩)], [(1000, [.nil, .nil]), (3080, [.tr 2 2 [.int .u8] (.ints x9), .bool x10]), (5096, [.ow 5104, .ow 5105])]⟩
noncomputable def l0s (x5 : Int) (x8 : List Int) (rec : Int → List Int → List Int → Bool → Option Res) (k : List Int → List Int → Bool → Option Res) (x6 : Int) (x7 x9 : List Int) (x10 : Bool) : Option Res :=
  bif decide (x6 < x5) then (impl_byteReader_two.g x9 x10 fun r11 r12 r13 =>
    bif decide ((x7.length + 1) * 8 ≤ 140737488355328) then rec (IntKind.i64.wrap (x6 + 1)) (x7 ++ ([r11] : List Int)) r12 r13
    else none)
  else k x7 x9 x10
noncomputable def l0 (x5 : Int) (x8 : List Int) (k : List Int → List Int → Bool → Option Res) : Nat → Int → List Int → List Int → Bool → Option Res
  | 0, _, _, _, _ => none
  | n + 1, x6, x7, x9, x10 => l0s x5 x8 (fun x6 x7 x9 x10 => l0 x5 x8 k n x6 x7 x9 x10) k x6 x7 x9 x10
noncomputable def o0 (x5 : Int) (x8 y1 y3 : List Int) (y4 : Bool) : St := ⟨mkT 75 [(2, one (.bp 1000 0)), (4, one (.bp 3080 0)), (5, one (.bp 5096 0))], [(5104, ⟨[.int .i64], .ints y1, true, 0⟩), (5105, ⟨[.int .i64], .ints x8, true, 0⟩)], [(1000, [.nil, .nil]), (3080, [.tr 2 2 [.int .u8] (.ints y3), .bool y4]), (5096, [.ow 5104, .ow 5105])]⟩
noncomputable def p0 (K : Res → Option Res) : List Lf → (St → Option Res) → Option Res
  | [.i x5, .i x6, .q (.ints x7), .q (.ints x8), .q (.ints x9), .b x10], k => l0 x5 x8 (fun y1 y3 y4 => k (o0 x5 x8 y1 y3 y4)) fuel x6 x7 x9 x10
  | _, _ => none
noncomputable def s2 (x18 : Int) (x19 x20 x21 : List Int) (x22 : Bool) : St := ⟨mkT 75 [(2, one (.bp 1000 0)), (4, one (.bp 3080 0)), (5, one (.bp 5096 0)), (8, one (.int .i64 x18))], [(5104, ⟨[.int .i64], .ints x19, true, 0⟩), (5105, ⟨[.int .i64], .ints x20, true, 0⟩)], [(1000, [.nil, .nil]), (3080, [.tr 2 2 [.int .u8] (.ints x21), .bool x22]), (5096, [.ow 5104, .ow 5105])]⟩
noncomputable def l2s (x19 : List Int) (rec : Int → List Int → List Int → Bool → Option Res) (k : List Int → List Int → Bool → Option Res) (x18 : Int) (x20 x21 : List Int) (x22 : Bool) : Option Res :=
  bif decide (0 < x18) then (bif !x22 then (impl_byteReader_num.g x21 x22 fun r23 r24 r25 =>
      bif decide ((x20.length + 1) * 8 ≤ 140737488355328) then rec (IntKind.i64.wrap (x18 - 1)) (x20 ++ ([r23] : List Int)) r24 r25
      else none)
    else k x20 x21 x22)
  else k x20 x21 x22
noncomputable def l2 (x19 : List Int) (k : List Int → List Int → Bool → Option Res) : Nat → Int → List Int → List Int → Bool → Option Res
  | 0, _, _, _, _ => none
  | n + 1, x18, x20, x21, x22 => l2s x19 (fun x18 x20 x21 x22 => l2 x19 k n x18 x20 x21 x22) k x18 x20 x21 x22
noncomputable def o2 (x19 y2 y3 : List Int) (y4 : Bool) : St := ⟨mkT 75 [(2, one (.bp 1000 0)), (4, one (.bp 3080 0)), (5, one (.bp 5096 0))], [(5104, ⟨[.int .i64], .ints x19, true, 0⟩), (5105, ⟨[.int .i64], .ints y2, true, 0⟩)], [(1000, [.nil, .nil]), (3080, [.tr 2 2 [.int .u8] (.ints y3), .bool y4]), (5096, [.ow 5104, .ow 5105])]⟩
noncomputable def p2 (K : Res → Option Res) : List Lf → (St → Option Res) → Option Res
  | [.i x18, .q (.ints x19), .q (.ints x20), .q (.ints x21), .b x22], k => l2 x19 (fun y2 y3 y4 => k (o2 x19 y2 y3 y4)) fuel x18 x20 x21 x22
  | _, _ => none
noncomputable def os : List (FuncId × St × (List Lf → (Res → Option Res) → Option Res)) := [impl_byteReader_one.con, impl_byteReader_two.con, impl_SizeOf.con, impl_byteReader_num.con, impl_ArrayOk.con]
noncomputable def X (K : Res → Option Res) : Ctx := { Γ := Γ0, orc := orcOf os, io := [], share := [], mvl := [], bun := [], cut := [], own := [(2, 0, 0, [.int .i64]), (2, 0, 1, [.int .i64])], cin := [(0, ⟨[2, 4, 5, 6, 7], [(5104, 5104), (19512, 5104), (5105, 5105)], [1000, 3080, 5096], [], [], []⟩), (2, ⟨[2, 4, 5, 8], [(5104, 5104), (5105, 5105), (27704, 5105)], [1000, 3080, 5096], [], [], []⟩)], cout := [(0, ⟨[2, 4, 5], [(5104, 5104), (5105, 5105)], [1000, 3080, 5096], [], [], []⟩), (2, ⟨[2, 4, 5], [(5104, 5104), (5105, 5105)], [1000, 3080, 5096], [], [], []⟩)], lp := lpOf [(0, s0 0 0 [] [] [] false, p0 K), (2, s2 0 [] [] [] false, p2 K)], kl := [], nk := true, eqs := eqs0, byt := byt0, fin := finK fi K }
noncomputable def b (a1 : List Int) (R : List Int → List Int → Bool → Option Res) : Option Res :=
  impl_byteReader_one.g a1 false fun r2 r3 r4 =>
  bif r4 then R ([] : List Int) ([] : List Int) false
  else bif decide (3 < r2) then R ([] : List Int) ([] : List Int) false
  else (l0 r2 ([] : List Int) (fun y14 y15 y16 => 
  impl_SizeOf.g y14 fun r17 =>
  l2 y14 (fun y26 y27 y28 => 
  bif y28 then R ([] : List Int) ([] : List Int) false
  else bif decide (0 < (y27.length : Int)) then R ([] : List Int) ([] : List Int) false
  else (impl_ArrayOk.g y14 y26 fun r29 =>
  bif !r29 then R ([] : List Int) ([] : List Int) false
  else R y14 y26 true)) fuel r17 ([] : List Int) y15 y16) fuel 0 ([] : List Int) r3 r4)
theorem gx : ∃ x : List Int → (List Int → List Int → Bool → Option Res) → Option Res, x = b := ⟨_, rfl⟩
noncomputable def g : List Int → (List Int → List Int → Bool → Option Res) → Option Res := Classical.choose gx
theorem e : g = b := Classical.choose_spec gx
noncomputable def run : List Lf → (Res → Option Res) → Option Res
  | [.q (.ints a1)], K => g a1 (fun r1 r2 r3 => K (m r1 r2 r3))
  | _, _ => none
noncomputable def a (a1 : List Int) : St := argSt [one (.tr 2 2 [.int .u8] (.ints a1))] [] []
noncomputable def con : FuncId × St × (List Lf → (Res → Option Res) → Option Res) := (15, a [], run)
theorem cx (K : Res → Option Res) : CtxOk Go.Proofs.Try.prog Γ0 byt0 eqs0 (X K) os := ⟨rfl, rfl, rfl, (fun p hp => by
  rcases List.mem_cons.1 hp with rfl | hp
  · exact impl_byteReader_one.ok
  rcases List.mem_cons.1 hp with rfl | hp
  · exact impl_byteReader_two.ok
  rcases List.mem_cons.1 hp with rfl | hp
  · exact impl_SizeOf.ok
  rcases List.mem_cons.1 hp with rfl | hp
  · exact impl_byteReader_num.ok
  rcases List.mem_cons.1 hp with rfl | hp
  · exact impl_ArrayOk.ok
  cases hp), rfl, rfl, rfl, rfl⟩
theorem t0 (K : Res → Option Res) (k : St → Option Res) (it : St → (St → Option Res) → Option Res) (x5 x6 : Int) (x7 x8 x9 : List Int) (x10 : Bool) : iterS (X K) 0 b0 it (s0 x5 x6 x7 x8 x9 x10) k = l0s x5 x8 (fun x6 x7 x9 x10 => it (s0 x5 x6 x7 x8 x9 x10) k) (fun y1 y3 y4 => k (o0 x5 x8 y1 y3 y4)) x6 x7 x9 x10 := by kernel_rfl
theorem i0 (K : Res → Option Res) (k : St → Option Res) (x5 : Int) (x8 : List Int) : ∀ (n : Nat) (x6 : Int) (x7 x9 : List Int) (x10 : Bool), iter (X K) 0 b0 n (s0 x5 x6 x7 x8 x9 x10) k = l0 x5 x8 (fun y1 y3 y4 => k (o0 x5 x8 y1 y3 y4)) n x6 x7 x9 x10
  | 0, _, _, _, _ => rfl
  | n + 1, x6, x7, x9, x10 => by
    rw [iter_succ, t0, show (fun x6 x7 x9 x10 => iter (X K) 0 b0 n (s0 x5 x6 x7 x8 x9 x10) k) = (fun x6 x7 x9 x10 => l0 x5 x8 (fun y1 y3 y4 => k (o0 x5 x8 y1 y3 y4)) n x6 x7 x9 x10) from funext fun x6 => funext fun x7 => funext fun x9 => funext fun x10 => i0 K k x5 x8 n x6 x7 x9 x10]; rfl
theorem v0 {K : Res → Option Res} {l : List Lf} {k : St → Option Res} {r : Res} (h : p0 K l k = some r) : ∃ x5 x6 x7 x8 x9 x10, l = [.i x5, .i x6, .q (.ints x7), .q (.ints x8), .q (.ints x9), .b x10] ∧ l0 x5 x8 (fun y1 y3 y4 => k (o0 x5 x8 y1 y3 y4)) fuel x6 x7 x9 x10 = some r := by
  unfold p0 at h; split at h
  · exact ⟨_, _, _, _, _, _, rfl, h⟩
  · cases h
theorem t2 (K : Res → Option Res) (k : St → Option Res) (it : St → (St → Option Res) → Option Res) (x18 : Int) (x19 x20 x21 : List Int) (x22 : Bool) : iterS (X K) 2 b2 it (s2 x18 x19 x20 x21 x22) k = l2s x19 (fun x18 x20 x21 x22 => it (s2 x18 x19 x20 x21 x22) k) (fun y2 y3 y4 => k (o2 x19 y2 y3 y4)) x18 x20 x21 x22 := by kernel_rfl
theorem i2 (K : Res → Option Res) (k : St → Option Res) (x19 : List Int) : ∀ (n : Nat) (x18 : Int) (x20 x21 : List Int) (x22 : Bool), iter (X K) 2 b2 n (s2 x18 x19 x20 x21 x22) k = l2 x19 (fun y2 y3 y4 => k (o2 x19 y2 y3 y4)) n x18 x20 x21 x22
  | 0, _, _, _, _ => rfl
  | n + 1, x18, x20, x21, x22 => by
    rw [iter_succ, t2, show (fun x18 x20 x21 x22 => iter (X K) 2 b2 n (s2 x18 x19 x20 x21 x22) k) = (fun x18 x20 x21 x22 => l2 x19 (fun y2 y3 y4 => k (o2 x19 y2 y3 y4)) n x18 x20 x21 x22) from funext fun x18 => funext fun x20 => funext fun x21 => funext fun x22 => i2 K k x19 n x18 x20 x21 x22]; rfl
theorem v2 {K : Res → Option Res} {l : List Lf} {k : St → Option Res} {r : Res} (h : p2 K l k = some r) : ∃ x18 x19 x20 x21 x22, l = [.i x18, .q (.ints x19), .q (.ints x20), .q (.ints x21), .b x22] ∧ l2 x19 (fun y2 y3 y4 => k (o2 x19 y2 y3 y4)) fuel x18 x20 x21 x22 = some r := by
  unfold p2 at h; split at h
  · exact ⟨_, _, _, _, _, rfl, h⟩
  · cases h
theorem w2 (K : Res → Option Res) : LpSound Go.Proofs.Try.prog (X K) 2 b2 := lp_ok ((cx K).ok laid) (by rw [show loopsOf b2 = [] from by kernel_rfl]; intro p hp; cases hp) rfl fun p hp hid => by
  rcases List.mem_cons.1 hp with rfl | hp
  · exact absurd hid (by simp)
  rcases List.mem_cons.1 hp with rfl | hp
  · intro st k r h1 h2; obtain ⟨x18, x19, x20, x21, x22, e, h⟩ := v2 (K := K) h2; have := St.like_eq (y := s2 x18 x19 x20 x21 x22) h1 (by kernel_rfl) e; subst this; exact ⟨fuel, (i2 K k x19 fuel x18 x20 x21 x22).trans h⟩
  cases hp
theorem w0 (K : Res → Option Res) : LpSound Go.Proofs.Try.prog (X K) 0 b0 := lp_ok ((cx K).ok laid) (by rw [show loopsOf b0 = [] from by kernel_rfl]; intro p hp; cases hp) rfl fun p hp hid => by
  rcases List.mem_cons.1 hp with rfl | hp
  · intro st k r h1 h2; obtain ⟨x5, x6, x7, x8, x9, x10, e, h⟩ := v0 (K := K) h2; have := St.like_eq (y := s0 x5 x6 x7 x8 x9 x10) h1 (by kernel_rfl) e; subst this; exact ⟨fuel, (i0 K k x5 x8 fuel x6 x7 x9 x10).trans h⟩
  rcases List.mem_cons.1 hp with rfl | hp
  · exact absurd hid (by simp)
  cases hp
theorem tie (K : Res → Option Res) (a1 : List Int) : exec (X K) c (entry 75 [one (.tr 2 2 [.int .u8] (.ints a1))] [] []) (endK (X K)) = g a1 (fun r1 r2 r3 => K (m r1 r2 r3)) := Eq.trans (b := b a1 (fun r1 r2 r3 => K (m r1 r2 r3))) (by kernel_rfl) (by rw [e])
theorem runv {l : List Lf} {K : Res → Option Res} {r : Res} (h : run l K = some r) : ∃ a1, l = [.q (.ints a1)] ∧ g a1 (fun r1 r2 r3 => K (m r1 r2 r3)) = some r := by
  unfold run at h; split at h
  · exact ⟨_, rfl, h⟩
  · cases h
theorem ok : Con Go.Proofs.Try.prog con := con_of (fn := Go.Proofs.Try.f15) (c := c) (Fi := fi) (X := X) (fun_of laid (by kernel_rfl) (by kernel_rfl) (by kernel_rfl) rfl (by kernel_rfl) (by kernel_rfl) cx (fun _ => rfl) (fun _ => rfl) (fun K => by
    rw [show loopsOf c = [(0, b0), (2, b2)] from by kernel_rfl]; intro p hp
    rcases List.mem_cons.1 hp with rfl | hp
    · exact w0 K
    rcases List.mem_cons.1 hp with rfl | hp
    · exact w2 K
    cases hp)) fun xs rows boxes K r hl hr => by
  obtain ⟨a1, e, h⟩ := runv hr
  have := St.like_eq (y := a a1) hl (by kernel_rfl) e
  obtain ⟨rfl, rfl, rfl⟩ := argSt_inj this
  exact (tie K a1).trans h
end impl_ArrayRead
namespace laws_eqIntS
noncomputable def c : Code := bodyOf Go.Proofs.Try.f72
noncomputable def fi : Fin := ⟨Γ0, [(.tmp 4, 4)], [[1]], [], [], []⟩
noncomputable def m (r1 : Bool) : Res := ⟨[⟨false, [.bool r1]⟩], [], [], [], []⟩
noncomputable def b0 : Code := codeAt c [1, 1, 0, 1, 0, 0]
noncomputable def s0 (x3 x4 : List Int) (x5 : Int) : St := ⟨mkT 26 [(0, one (.tr 0 1 [.int .i64] (.ints x3))), (1, one (.tr 0 1 [.int .i64] (.ints x4))), (5, one (.int .i64 x5))], [], []⟩
noncomputable def l0s (x3 x4 : List Int) (rec : Int → Option Res) (k : Option Res) (R : Bool → Option Res) (x5 : Int) : Option Res :=
  bif decide (x5 < (x3.length : Int)) then (bif decide (0 ≤ x5) && decide (x5 < (x3.length : Int)) then (bif decide (0 ≤ x5) && decide (x5 < (x4.length : Int)) then (bif (x3.getD x5.toNat 0 != x4.getD x5.toNat 0) then R false
        else rec (IntKind.i64.wrap (x5 + 1)))
      else none)
    else none)
  else k
noncomputable def l0 (x3 x4 : List Int) (k : Option Res) (R : Bool → Option Res) : Nat → Int → Option Res
  | 0, _ => none
  | n + 1, x5 => l0s x3 x4 (fun x5 => l0 x3 x4 k R n x5) k R x5
noncomputable def o0 (x3 x4 : List Int) : St := ⟨mkT 26 [], [], []⟩
noncomputable def p0 (K : Res → Option Res) : List Lf → (St → Option Res) → Option Res
  | [.q (.ints x3), .q (.ints x4), .i x5], k => l0 x3 x4 (k (o0 x3 x4)) (fun r1 => K (m r1)) fuel x5
  | _, _ => none
noncomputable def os : List (FuncId × St × (List Lf → (Res → Option Res) → Option Res)) := []
noncomputable def X (K : Res → Option Res) : Ctx := { Γ := Γ0, orc := orcOf os, io := [], share := [], mvl := [], bun := [], cut := [], own := [], cin := [(0, ⟨[0, 1, 5], [], [], [], [], []⟩)], cout := [(0, ⟨[], [], [], [], [], []⟩)], lp := lpOf [(0, s0 [] [] 0, p0 K)], kl := [], nk := true, eqs := eqs0, byt := byt0, fin := finK fi K }
noncomputable def b (a1 a2 : List Int) (R : Bool → Option Res) : Option Res :=
  bif ((a1.length : Int) != (a2.length : Int)) then R false
  else (l0 a1 a2 (
  R true) R fuel 0)
theorem gx : ∃ x : List Int → List Int → (Bool → Option Res) → Option Res, x = b := ⟨_, rfl⟩
noncomputable def g : List Int → List Int → (Bool → Option Res) → Option Res := Classical.choose gx
theorem e : g = b := Classical.choose_spec gx
noncomputable def run : List Lf → (Res → Option Res) → Option Res
  | [.q (.ints a1), .q (.ints a2)], K => g a1 a2 (fun r1 => K (m r1))
  | _, _ => none
noncomputable def a (a1 a2 : List Int) : St := argSt [one (.tr 0 1 [.int .i64] (.ints a1)), one (.tr 0 1 [.int .i64] (.ints a2))] [] []
noncomputable def con : FuncId × St × (List Lf → (Res → Option Res) → Option Res) := (72, a [] [], run)
theorem cx (K : Res → Option Res) : CtxOk Go.Proofs.Try.prog Γ0 byt0 eqs0 (X K) os := ⟨rfl, rfl, rfl, (fun p hp => by
  cases hp), rfl, rfl, rfl, rfl⟩
theorem t0 (K : Res → Option Res) (k : St → Option Res) (it : St → (St → Option Res) → Option Res) (x3 x4 : List Int) (x5 : Int) : iterS (X K) 0 b0 it (s0 x3 x4 x5) k = l0s x3 x4 (fun x5 => it (s0 x3 x4 x5) k) (k (o0 x3 x4)) (fun r1 => K (m r1)) x5 := by kernel_rfl
theorem i0 (K : Res → Option Res) (k : St → Option Res) (x3 x4 : List Int) : ∀ (n : Nat) (x5 : Int), iter (X K) 0 b0 n (s0 x3 x4 x5) k = l0 x3 x4 (k (o0 x3 x4)) (fun r1 => K (m r1)) n x5
  | 0, _ => rfl
  | n + 1, x5 => by
    rw [iter_succ, t0, show (fun x5 => iter (X K) 0 b0 n (s0 x3 x4 x5) k) = (fun x5 => l0 x3 x4 (k (o0 x3 x4)) (fun r1 => K (m r1)) n x5) from funext fun x5 => i0 K k x3 x4 n x5]; rfl
theorem v0 {K : Res → Option Res} {l : List Lf} {k : St → Option Res} {r : Res} (h : p0 K l k = some r) : ∃ x3 x4 x5, l = [.q (.ints x3), .q (.ints x4), .i x5] ∧ l0 x3 x4 (k (o0 x3 x4)) (fun r1 => K (m r1)) fuel x5 = some r := by
  unfold p0 at h; split at h
  · exact ⟨_, _, _, rfl, h⟩
  · cases h
theorem w0 (K : Res → Option Res) : LpSound Go.Proofs.Try.prog (X K) 0 b0 := lp_ok ((cx K).ok laid) (by rw [show loopsOf b0 = [] from by kernel_rfl]; intro p hp; cases hp) rfl fun p hp hid => by
  rcases List.mem_cons.1 hp with rfl | hp
  · intro st k r h1 h2; obtain ⟨x3, x4, x5, e, h⟩ := v0 (K := K) h2; have := St.like_eq (y := s0 x3 x4 x5) h1 (by kernel_rfl) e; subst this; exact ⟨fuel, (i0 K k x3 x4 fuel x5).trans h⟩
  cases hp
theorem tie (K : Res → Option Res) (a1 a2 : List Int) : exec (X K) c (entry 26 [one (.tr 0 1 [.int .i64] (.ints a1)), one (.tr 0 1 [.int .i64] (.ints a2))] [] []) (endK (X K)) = g a1 a2 (fun r1 => K (m r1)) := Eq.trans (b := b a1 a2 (fun r1 => K (m r1))) (by kernel_rfl) (by rw [e])
theorem runv {l : List Lf} {K : Res → Option Res} {r : Res} (h : run l K = some r) : ∃ a1 a2, l = [.q (.ints a1), .q (.ints a2)] ∧ g a1 a2 (fun r1 => K (m r1)) = some r := by
  unfold run at h; split at h
  · exact ⟨_, _, rfl, h⟩
  · cases h
theorem ok : Con Go.Proofs.Try.prog con := con_of (fn := Go.Proofs.Try.f72) (c := c) (Fi := fi) (X := X) (fun_of laid (by kernel_rfl) (by kernel_rfl) (by kernel_rfl) rfl (by kernel_rfl) (by kernel_rfl) cx (fun _ => rfl) (fun _ => rfl) (fun K => by
    rw [show loopsOf c = [(0, b0)] from by kernel_rfl]; intro p hp
    rcases List.mem_cons.1 hp with rfl | hp
    · exact w0 K
    cases hp)) fun xs rows boxes K r hl hr => by
  obtain ⟨a1, a2, e, h⟩ := runv hr
  have := St.like_eq (y := a a1 a2) hl (by kernel_rfl) e
  obtain ⟨rfl, rfl, rfl⟩ := argSt_inj this
  exact (tie K a1 a2).trans h
end laws_eqIntS
namespace laws_eqArray
noncomputable def c : Code := bodyOf Go.Proofs.Try.f16
noncomputable def fi : Fin := ⟨Γ0, [(.tmp 4, 4)], [[1]], [], [], []⟩
noncomputable def m (r1 : Bool) : Res := ⟨[⟨false, [.bool r1]⟩], [], [], [], []⟩
noncomputable def os : List (FuncId × St × (List Lf → (Res → Option Res) → Option Res)) := [laws_eqIntS.con]
noncomputable def X (K : Res → Option Res) : Ctx := { Γ := Γ0, orc := orcOf os, io := [], share := [], mvl := [], bun := [], cut := [], own := [], cin := [], cout := [], lp := lpOf [], kl := [], nk := true, eqs := eqs0, byt := byt0, fin := finK fi K }
noncomputable def b (a1 a2 a3 a4 : List Int) (R : Bool → Option Res) : Option Res :=
  laws_eqIntS.g a1 a3 fun r5 =>
  bif !r5 then R false
  else (laws_eqIntS.g a2 a4 fun r6 =>
  bif !r6 then R false
  else R true)
theorem gx : ∃ x : List Int → List Int → List Int → List Int → (Bool → Option Res) → Option Res, x = b := ⟨_, rfl⟩
noncomputable def g : List Int → List Int → List Int → List Int → (Bool → Option Res) → Option Res := Classical.choose gx
theorem e : g = b := Classical.choose_spec gx
noncomputable def run : List Lf → (Res → Option Res) → Option Res
  | [.q (.ints a1), .q (.ints a2), .q (.ints a3), .q (.ints a4)], K => g a1 a2 a3 a4 (fun r1 => K (m r1))
  | _, _ => none
noncomputable def a (a1 a2 a3 a4 : List Int) : St := argSt [.v ⟨true, [.tr 0 1 [.int .i64] (.ints a1), .tr 0 1 [.int .i64] (.ints a2)]⟩, .v ⟨true, [.tr 0 1 [.int .i64] (.ints a3), .tr 0 1 [.int .i64] (.ints a4)]⟩] [] []
noncomputable def con : FuncId × St × (List Lf → (Res → Option Res) → Option Res) := (16, a [] [] [] [], run)
theorem cx (K : Res → Option Res) : CtxOk Go.Proofs.Try.prog Γ0 byt0 eqs0 (X K) os := ⟨rfl, rfl, rfl, (fun p hp => by
  rcases List.mem_cons.1 hp with rfl | hp
  · exact laws_eqIntS.ok
  cases hp), rfl, rfl, rfl, rfl⟩
theorem tie (K : Res → Option Res) (a1 a2 a3 a4 : List Int) : exec (X K) c (entry 17 [.v ⟨true, [.tr 0 1 [.int .i64] (.ints a1), .tr 0 1 [.int .i64] (.ints a2)]⟩, .v ⟨true, [.tr 0 1 [.int .i64] (.ints a3), .tr 0 1 [.int .i64] (.ints a4)]⟩] [] []) (endK (X K)) = g a1 a2 a3 a4 (fun r1 => K (m r1)) := Eq.trans (b := b a1 a2 a3 a4 (fun r1 => K (m r1))) (by kernel_rfl) (by rw [e])
theorem runv {l : List Lf} {K : Res → Option Res} {r : Res} (h : run l K = some r) : ∃ a1 a2 a3 a4, l = [.q (.ints a1), .q (.ints a2), .q (.ints a3), .q (.ints a4)] ∧ g a1 a2 a3 a4 (fun r1 => K (m r1)) = some r := by
  unfold run at h; split at h
  · exact ⟨_, _, _, _, rfl, h⟩
  · cases h
theorem ok : Con Go.Proofs.Try.prog con := con_of (fn := Go.Proofs.Try.f16) (c := c) (Fi := fi) (X := X) (fun_of laid (by kernel_rfl) (by kernel_rfl) (by kernel_rfl) rfl (by kernel_rfl) (by kernel_rfl) cx (fun _ => rfl) (fun _ => rfl) (fun K => by
    rw [show loopsOf c = [] from by kernel_rfl]; intro p hp
    cases hp)) fun xs rows boxes K r hl hr => by
  obtain ⟨a1, a2, a3, a4, e, h⟩ := runv hr
  have := St.like_eq (y := a a1 a2 a3 a4) hl (by kernel_rfl) e
  obtain ⟨rfl, rfl, rfl⟩ := argSt_inj this
  exact (tie K a1 a2 a3 a4).trans h
end laws_eqArray
namespace laws_eqByteS
noncomputable def c : Code := bodyOf Go.Proofs.Try.f17
noncomputable def fi : Fin := ⟨Γ0, [(.tmp 4, 4)], [[1]], [], [], []⟩
noncomputable def m (r1 : Bool) : Res := ⟨[⟨false, [.bool r1]⟩], [], [], [], []⟩
noncomputable def b0 : Code := codeAt c [1, 1, 0, 1, 0, 0]
noncomputable def s0 (x3 x4 : List Int) (x5 : Int) : St := ⟨mkT 26 [(0, one (.tr 0 1 [.int .u8] (.ints x3))), (1, one (.tr 0 1 [.int .u8] (.ints x4))), (5, one (.int .i64 x5))], [], []⟩
noncomputable def l0s (x3 x4 : List Int) (rec : Int → Option Res) (k : Option Res) (R : Bool → Option Res) (x5 : Int) : Option Res :=
  bif decide (x5 < (x3.length : Int)) then (bif decide (0 ≤ x5) && decide (x5 < (x3.length : Int)) then (bif decide (0 ≤ x5) && decide (x5 < (x4.length : Int)) then (bif (x3.getD x5.toNat 0 != x4.getD x5.toNat 0) then R false
        else rec (IntKind.i64.wrap (x5 + 1)))
      else none)
    else none)
  else k
noncomputable def l0 (x3 x4 : List Int) (k : Option Res) (R : Bool → Option Res) : Nat → Int → Option Res
  | 0, _ => none
  | n + 1, x5 => l0s x3 x4 (fun x5 => l0 x3 x4 k R n x5) k R x5
noncomputable def o0 (x3 x4 : List Int) : St := ⟨mkT 26 [], [], []⟩
noncomputable def p0 (K : Res → Option Res) : List Lf → (St → Option Res) → Option Res
  | [.q (.ints x3), .q (.ints x4), .i x5], k => l0 x3 x4 (k (o0 x3 x4)) (fun r1 => K (m r1)) fuel x5
  | _, _ => none
noncomputable def os : List (FuncId × St × (List Lf → (Res → Option Res) → Option Res)) := []
noncomputable def X (K : Res → Option Res) : Ctx := { Γ := Γ0, orc := orcOf os, io := [], share := [], mvl := [], bun := [], cut := [], own := [], cin := [(0, ⟨[0, 1, 5], [], [], [], [], []⟩)], cout := [(0, ⟨[], [], [], [], [], []⟩)], lp := lpOf [(0, s0 [] [] 0, p0 K)], kl := [], nk := true, eqs := eqs0, byt := byt0, fin := finK fi K }
noncomputable def b (a1 a2 : List Int) (R : Bool → Option Res) : Option Res :=
  bif ((a1.length : Int) != (a2.length : Int)) then R false
  else (l0 a1 a2 (
  R true) R fuel 0)
theorem gx : ∃ x : List Int → List Int → (Bool → Option Res) → Option Res, x = b := ⟨_, rfl⟩
noncomputable def g : List Int → List Int → (Bool → Option Res) → Option Res := Classical.choose gx
theorem e : g = b := Classical.choose_spec gx
noncomputable def run : List Lf → (Res → Option Res) → Option Res
  | [.q (.ints a1), .q (.ints a2)], K => g a1 a2 (fun r1 => K (m r1))
  | _, _ => none
noncomputable def a (a1 a2 : List Int) : St := argSt [one (.tr 0 1 [.int .u8] (.ints a1)), one (.tr 0 1 [.int .u8] (.ints a2))] [] []
noncomputable def con : FuncId × St × (List Lf → (Res → Option Res) → Option Res) := (17, a [] [], run)
theorem cx (K : Res → Option Res) : CtxOk Go.Proofs.Try.prog Γ0 byt0 eqs0 (X K) os := ⟨rfl, rfl, rfl, (fun p hp => by
  cases hp), rfl, rfl, rfl, rfl⟩
theorem t0 (K : Res → Option Res) (k : St → Option Res) (it : St → (St → Option Res) → Option Res) (x3 x4 : List Int) (x5 : Int) : iterS (X K) 0 b0 it (s0 x3 x4 x5) k = l0s x3 x4 (fun x5 => it (s0 x3 x4 x5) k) (k (o0 x3 x4)) (fun r1 => K (m r1)) x5 := by kernel_rfl
theorem i0 (K : Res → Option Res) (k : St → Option Res) (x3 x4 : List Int) : ∀ (n : Nat) (x5 : Int), iter (X K) 0 b0 n (s0 x3 x4 x5) k = l0 x3 x4 (k (o0 x3 x4)) (fun r1 => K (m r1)) n x5
  | 0, _ => rfl
  | n + 1, x5 => by
    rw [iter_succ, t0, show (fun x5 => iter (X K) 0 b0 n (s0 x3 x4 x5) k) = (fun x5 => l0 x3 x4 (k (o0 x3 x4)) (fun r1 => K (m r1)) n x5) from funext fun x5 => i0 K k x3 x4 n x5]; rfl
theorem v0 {K : Res → Option Res} {l : List Lf} {k : St → Option Res} {r : Res} (h : p0 K l k = some r) : ∃ x3 x4 x5, l = [.q (.ints x3), .q (.ints x4), .i x5] ∧ l0 x3 x4 (k (o0 x3 x4)) (fun r1 => K (m r1)) fuel x5 = some r := by
  unfold p0 at h; split at h
  · exact ⟨_, _, _, rfl, h⟩
  · cases h
theorem w0 (K : Res → Option Res) : LpSound Go.Proofs.Try.prog (X K) 0 b0 := lp_ok ((cx K).ok laid) (by rw [show loopsOf b0 = [] from by kernel_rfl]; intro p hp; cases hp) rfl fun p hp hid => by
  rcases List.mem_cons.1 hp with rfl | hp
  · intro st k r h1 h2; obtain ⟨x3, x4, x5, e, h⟩ := v0 (K := K) h2; have := St.like_eq (y := s0 x3 x4 x5) h1 (by kernel_rfl) e; subst this; exact ⟨fuel, (i0 K k x3 x4 fuel x5).trans h⟩
  cases hp
theorem tie (K : Res → Option Res) (a1 a2 : List Int) : exec (X K) c (entry 26 [one (.tr 0 1 [.int .u8] (.ints a1)), one (.tr 0 1 [.int .u8] (.ints a2))] [] []) (endK (X K)) = g a1 a2 (fun r1 => K (m r1)) := Eq.trans (b := b a1 a2 (fun r1 => K (m r1))) (by kernel_rfl) (by rw [e])
theorem runv {l : List Lf} {K : Res → Option Res} {r : Res} (h : run l K = some r) : ∃ a1 a2, l = [.q (.ints a1), .q (.ints a2)] ∧ g a1 a2 (fun r1 => K (m r1)) = some r := by
  unfold run at h; split at h
  · exact ⟨_, _, rfl, h⟩
  · cases h
theorem ok : Con Go.Proofs.Try.prog con := con_of (fn := Go.Proofs.Try.f17) (c := c) (Fi := fi) (X := X) (fun_of laid (by kernel_rfl) (by kernel_rfl) (by kernel_rfl) rfl (by kernel_rfl) (by kernel_rfl) cx (fun _ => rfl) (fun _ => rfl) (fun K => by
    rw [show loopsOf c = [(0, b0)] from by kernel_rfl]; intro p hp
    rcases List.mem_cons.1 hp with rfl | hp
    · exact w0 K
    cases hp)) fun xs rows boxes K r hl hr => by
  obtain ⟨a1, a2, e, h⟩ := runv hr
  have := St.like_eq (y := a a1 a2) hl (by kernel_rfl) e
  obtain ⟨rfl, rfl, rfl⟩ := argSt_inj this
  exact (tie K a1 a2).trans h
end laws_eqByteS
namespace laws_markByteS
noncomputable def c : Code := bodyOf Go.Proofs.Try.f18
noncomputable def fi : Fin := ⟨Γ0, [(.tmp 4, 3)], [[1]], [true], [], []⟩
noncomputable def m (r1 : Int) (r2 : List Int) : Res := ⟨[⟨false, [.int .i64 r1]⟩], [some ⟨[.int .u8], .ints r2, true, 0⟩], [], [], []⟩
noncomputable def b0 : Code := codeAt c [1, 0, 1, 0, 0]
noncomputable def s0 (x3 x4 : Int) (x5 : List Int) : St := ⟨mkT 20 [(0, one (.ow 0)), (1, one (.int .i64 x3)), (5, one (.int .i64 x4))], [(0, ⟨[.int .u8], .ints x5, true, 0⟩)], []⟩
noncomputable def l0s  (rec : Int → Int → List Int → Option Res) (k : Int → List Int → Option Res) (x3 x4 : Int) (x5 : List Int) : Option Res :=
  bif decide (x4 < (x5.length : Int)) then (bif decide (0 ≤ x4) && decide (x4 < (x5.length : Int)) then rec (IntKind.i64.wrap (x3 + 1)) (IntKind.i64.wrap (x4 + 1)) (x5.set x4.toNat (IntKind.u8.wrap x3))
    else none)
  else k x3 x5
noncomputable def l0  (k : Int → List Int → Option Res) : Nat → Int → Int → List Int → Option Res
  | 0, _, _, _ => none
  | n + 1, x3, x4, x5 => l0s (fun x3 x4 x5 => l0 k n x3 x4 x5) k x3 x4 x5
noncomputable def o0 (y1 : Int) (y2 : List Int) : St := ⟨mkT 20 [(1, one (.int .i64 y1))], [(0, ⟨[.int .u8], .ints y2, true, 0⟩)], []⟩
noncomputable def p0 (K : Res → Option Res) : List Lf → (St → Option Res) → Option Res
  | [.i x3, .i x4, .q (.ints x5)], k => l0 (fun y1 y2 => k (o0 y1 y2)) fuel x3 x4 x5
  | _, _ => none
noncomputable def os : List (FuncId × St × (List Lf → (Res → Option Res) → Option Res)) := []
noncomputable def X (K : Res → Option Res) : Ctx := { Γ := Γ0, orc := orcOf os, io := [], share := [], mvl := [], bun := [], cut := [], own := [], cin := [(0, ⟨[0, 1, 5], [(0, 0)], [], [], [], []⟩)], cout := [(0, ⟨[1], [(0, 0)], [], [], [], []⟩)], lp := lpOf [(0, s0 0 0 [], p0 K)], kl := [], nk := true, eqs := eqs0, byt := byt0, fin := finK fi K }
noncomputable def b (a1 : Int) (a2 : List Int) (R : Int → List Int → Option Res) : Option Res :=
  l0 (fun y6 y7 => 
  R y6 y7) fuel a1 0 a2
theorem gx : ∃ x : Int → List Int → (Int → List Int → Option Res) → Option Res, x = b := ⟨_, rfl⟩
noncomputable def g : Int → List Int → (Int → List Int → Option Res) → Option Res := Classical.choose gx
theorem e : g = b := Classical.choose_spec gx
noncomputable def run : List Lf → (Res → Option Res) → Option Res
  | [.i a1, .q (.ints a2)], K => g a1 a2 (fun r1 r2 => K (m r1 r2))
  | _, _ => none
noncomputable def a (a1 : Int) (a2 : List Int) : St := argSt [one (.ow 0), one (.int .i64 a1)] [⟨[.int .u8], .ints a2, true, 0⟩] []
noncomputable def con : FuncId × St × (List Lf → (Res → Option Res) → Option Res) := (18, a 0 [], run)
theorem cx (K : Res → Option Res) : CtxOk Go.Proofs.Try.prog Γ0 byt0 eqs0 (X K) os := ⟨rfl, rfl, rfl, (fun p hp => by
  cases hp), rfl, rfl, rfl, rfl⟩
theorem t0 (K : Res → Option Res) (k : St → Option Res) (it : St → (St → Option Res) → Option Res) (x3 x4 : Int) (x5 : List Int) : iterS (X K) 0 b0 it (s0 x3 x4 x5) k = l0s (fun x3 x4 x5 => it (s0 x3 x4 x5) k) (fun y1 y2 => k (o0 y1 y2)) x3 x4 x5 := by kernel_rfl
theorem i0 (K : Res → Option Res) (k : St → Option Res)  : ∀ (n : Nat) (x3 x4 : Int) (x5 : List Int), iter (X K) 0 b0 n (s0 x3 x4 x5) k = l0 (fun y1 y2 => k (o0 y1 y2)) n x3 x4 x5
  | 0, _, _, _ => rfl
  | n + 1, x3, x4, x5 => by
    rw [iter_succ, t0, show (fun x3 x4 x5 => iter (X K) 0 b0 n (s0 x3 x4 x5) k) = (fun x3 x4 x5 => l0 (fun y1 y2 => k (o0 y1 y2)) n x3 x4 x5) from funext fun x3 => funext fun x4 => funext fun x5 => i0 K k n x3 x4 x5]; rfl
theorem v0 {K : Res → Option Res} {l : List Lf} {k : St → Option Res} {r : Res} (h : p0 K l k = some r) : ∃ x3 x4 x5, l = [.i x3, .i x4, .q (.ints x5)] ∧ l0 (fun y1 y2 => k (o0 y1 y2)) fuel x3 x4 x5 = some r := by
  unfold p0 at h; split at h
  · exact ⟨_, _, _, rfl, h⟩
  · cases h
theorem w0 (K : Res → Option Res) : LpSound Go.Proofs.Try.prog (X K) 0 b0 := lp_ok ((cx K).ok laid) (by rw [show loopsOf b0 = [] from by kernel_rfl]; intro p hp; cases hp) rfl fun p hp hid => by
  rcases List.mem_cons.1 hp with rfl | hp
  · intro st k r h1 h2; obtain ⟨x3, x4, x5, e, h⟩ := v0 (K := K) h2; have := St.like_eq (y := s0 x3 x4 x5) h1 (by kernel_rfl) e; subst this; exact ⟨fuel, (i0 K k fuel x3 x4 x5).trans h⟩
  cases hp
theorem tie (K : Res → Option Res) (a1 : Int) (a2 : List Int) : exec (X K) c (entry 20 [one (.ow 0), one (.int .i64 a1)] [⟨[.int .u8], .ints a2, true, 0⟩] []) (endK (X K)) = g a1 a2 (fun r1 r2 => K (m r1 r2)) := Eq.trans (b := b a1 a2 (fun r1 r2 => K (m r1 r2))) (by kernel_rfl) (by rw [e])
theorem runv {l : List Lf} {K : Res → Option Res} {r : Res} (h : run l K = some r) : ∃ a1 a2, l = [.i a1, .q (.ints a2)] ∧ g a1 a2 (fun r1 r2 => K (m r1 r2)) = some r := by
  unfold run at h; split at h
  · exact ⟨_, _, rfl, h⟩
  · cases h
theorem ok : Con Go.Proofs.Try.prog con := con_of (fn := Go.Proofs.Try.f18) (c := c) (Fi := fi) (X := X) (fun_of laid (by kernel_rfl) (by kernel_rfl) (by kernel_rfl) rfl (by kernel_rfl) (by kernel_rfl) cx (fun _ => rfl) (fun _ => rfl) (fun K => by
    rw [show loopsOf c = [(0, b0)] from by kernel_rfl]; intro p hp
    rcases List.mem_cons.1 hp with rfl | hp
    · exact w0 K
    cases hp)) fun xs rows boxes K r hl hr => by
  obtain ⟨a1, a2, e, h⟩ := runv hr
  have := St.like_eq (y := a a1 a2) hl (by kernel_rfl) e
  obtain ⟨rfl, rfl, rfl⟩ := argSt_inj this
  exact (tie K a1 a2).trans h
end laws_markByteS
namespace laws_markIntS
noncomputable def c : Code := bodyOf Go.Proofs.Try.f73
noncomputable def fi : Fin := ⟨Γ0, [(.tmp 4, 3)], [[1]], [true], [], []⟩
noncomputable def m (r1 : Int) (r2 : List Int) : Res := ⟨[⟨false, [.int .i64 r1]⟩], [some ⟨[.int .i64], .ints r2, true, 0⟩], [], [], []⟩
noncomputable def b0 : Code := codeAt c [1, 0, 1, 0, 0]
noncomputable def s0 (x3 x4 : Int) (x5 : List Int) : St := ⟨mkT 19 [(0, one (.ow 0)), (1, one (.int .i64 x3)), (5, one (.int .i64 x4))], [(0, ⟨[.int .i64], .ints x5, true, 0⟩)], []⟩
noncomputable def l0s  (rec : Int → Int → List Int → Option Res) (k : Int → List Int → Option Res) (x3 x4 : Int) (x5 : List Int) : Option Res :=
  bif decide (x4 < (x5.length : Int)) then (bif decide (0 ≤ x4) && decide (x4 < (x5.length : Int)) then rec (IntKind.i64.wrap (x3 + 1)) (IntKind.i64.wrap (x4 + 1)) (x5.set x4.toNat x3)
    else none)
  else k x3 x5
noncomputable def l0  (k : Int → List Int → Option Res) : Nat → Int → Int → List Int → Option Res
  | 0, _, _, _ => none
  | n + 1, x3, x4, x5 => l0s (fun x3 x4 x5 => l0 k n x3 x4 x5) k x3 x4 x5
noncomputable def o0 (y1 : Int) (y2 : List Int) : St := ⟨mkT 19 [(1, one (.int .i64 y1))], [(0, ⟨[.int .i64], .ints y2, true, 0⟩)], []⟩
noncomputable def p0 (K : Res → Option Res) : List Lf → (St → Option Res) → Option Res
  | [.i x3, .i x4, .q (.ints x5)], k => l0 (fun y1 y2 => k (o0 y1 y2)) fuel x3 x4 x5
  | _, _ => none
noncomputable def os : List (FuncId × St × (List Lf → (Res → Option Res) → Option Res)) := []
noncomputable def X (K : Res → Option Res) : Ctx := { Γ := Γ0, orc := orcOf os, io := [], share := [], mvl := [], bun := [], cut := [], own := [], cin := [(0, ⟨[0, 1, 5], [(0, 0)], [], [], [], []⟩)], cout := [(0, ⟨[1], [(0, 0)], [], [], [], []⟩)], lp := lpOf [(0, s0 0 0 [], p0 K)], kl := [], nk := true, eqs := eqs0, byt := byt0, fin := finK fi K }
noncomputable def b (a1 : Int) (a2 : List Int) (R : Int → List Int → Option Res) : Option Res :=
  l0 (fun y6 y7 => 
  R y6 y7) fuel a1 0 a2
theorem gx : ∃ x : Int → List Int → (Int → List Int → Option Res) → Option Res, x = b := ⟨_, rfl⟩
noncomputable def g : Int → List Int → (Int → List Int → Option Res) → Option Res := Classical.choose gx
theorem e : g = b := Classical.choose_spec gx
noncomputable def run : List Lf → (Res → Option Res) → Option Res
  | [.i a1, .q (.ints a2)], K => g a1 a2 (fun r1 r2 => K (m r1 r2))
  | _, _ => none
noncomputable def a (a1 : Int) (a2 : List Int) : St := argSt [one (.ow 0), one (.int .i64 a1)] [⟨[.int .i64], .ints a2, true, 0⟩] []
noncomputable def con : FuncId × St × (List Lf → (Res → Option Res) → Option Res) := (73, a 0 [], run)
theorem cx (K : Res → Option Res) : CtxOk Go.Proofs.Try.prog Γ0 byt0 eqs0 (X K) os := ⟨rfl, rfl, rfl, (fun p hp => by
  cases hp), rfl, rfl, rfl, rfl⟩
theorem t0 (K : Res → Option Res) (k : St → Option Res) (it : St → (St → Option Res) → Option Res) (x3 x4 : Int) (x5 : List Int) : iterS (X K) 0 b0 it (s0 x3 x4 x5) k = l0s (fun x3 x4 x5 => it (s0 x3 x4 x5) k) (fun y1 y2 => k (o0 y1 y2)) x3 x4 x5 := by kernel_rfl
theorem i0 (K : Res → Option Res) (k : St → Option Res)  : ∀ (n : Nat) (x3 x4 : Int) (x5 : List Int), iter (X K) 0 b0 n (s0 x3 x4 x5) k = l0 (fun y1 y2 => k (o0 y1 y2)) n x3 x4 x5
  | 0, _, _, _ => rfl
  | n + 1, x3, x4, x5 => by
    rw [iter_succ, t0, show (fun x3 x4 x5 => iter (X K) 0 b0 n (s0 x3 x4 x5) k) = (fun x3 x4 x5 => l0 (fun y1 y2 => k (o0 y1 y2)) n x3 x4 x5) from funext fun x3 => funext fun x4 => funext fun x5 => i0 K k n x3 x4 x5]; rfl
theorem v0 {K : Res → Option Res} {l : List Lf} {k : St → Option Res} {r : Res} (h : p0 K l k = some r) : ∃ x3 x4 x5, l = [.i x3, .i x4, .q (.ints x5)] ∧ l0 (fun y1 y2 => k (o0 y1 y2)) fuel x3 x4 x5 = some r := by
  unfold p0 at h; split at h
  · exact ⟨_, _, _, rfl, h⟩
  · cases h
theorem w0 (K : Res → Option Res) : LpSound Go.Proofs.Try.prog (X K) 0 b0 := lp_ok ((cx K).ok laid) (by rw [show loopsOf b0 = [] from by kernel_rfl]; intro p hp; cases hp) rfl fun p hp hid => by
  rcases List.mem_cons.1 hp with rfl | hp
  · intro st k r h1 h2; obtain ⟨x3, x4, x5, e, h⟩ := v0 (K := K) h2; have := St.like_eq (y := s0 x3 x4 x5) h1 (by kernel_rfl) e; subst this; exact ⟨fuel, (i0 K k fuel x3 x4 x5).trans h⟩
  cases hp
theorem tie (K : Res → Option Res) (a1 : Int) (a2 : List Int) : exec (X K) c (entry 19 [one (.ow 0), one (.int .i64 a1)] [⟨[.int .i64], .ints a2, true, 0⟩] []) (endK (X K)) = g a1 a2 (fun r1 r2 => K (m r1 r2)) := Eq.trans (b := b a1 a2 (fun r1 r2 => K (m r1 r2))) (by kernel_rfl) (by rw [e])
theorem runv {l : List Lf} {K : Res → Option Res} {r : Res} (h : run l K = some r) : ∃ a1 a2, l = [.i a1, .q (.ints a2)] ∧ g a1 a2 (fun r1 r2 => K (m r1 r2)) = some r := by
  unfold run at h; split at h
  · exact ⟨_, _, rfl, h⟩
  · cases h
theorem ok : Con Go.Proofs.Try.prog con := con_of (fn := Go.Proofs.Try.f73) (c := c) (Fi := fi) (X := X) (fun_of laid (by kernel_rfl) (by kernel_rfl) (by kernel_rfl) rfl (by kernel_rfl) (by kernel_rfl) cx (fun _ => rfl) (fun _ => rfl) (fun K => by
    rw [show loopsOf c = [(0, b0)] from by kernel_rfl]; intro p hp
    rcases List.mem_cons.1 hp with rfl | hp
    · exact w0 K
    cases hp)) fun xs rows boxes K r hl hr => by
  obtain ⟨a1, a2, e, h⟩ := runv hr
  have := St.like_eq (y := a a1 a2) hl (by kernel_rfl) e
  obtain ⟨rfl, rfl, rfl⟩ := argSt_inj this
  exact (tie K a1 a2).trans h
end laws_markIntS
namespace laws_markArray
noncomputable def c : Code := bodyOf Go.Proofs.Try.f19
noncomputable def fi : Fin := ⟨Γ0, [(.tmp 4, 3)], [[1]], [true, true], [], []⟩
noncomputable def m (r1 : Int) (r2 r3 : List Int) : Res := ⟨[⟨false, [.int .i64 r1]⟩], [some ⟨[.int .i64], .ints r2, true, 0⟩, some ⟨[.int .i64], .ints r3, true, 0⟩], [], [], []⟩
noncomputable def os : List (FuncId × St × (List Lf → (Res → Option Res) → Option Res)) := [laws_markIntS.con]
noncomputable def X (K : Res → Option Res) : Ctx := { Γ := Γ0, orc := orcOf os, io := [(73, [⟨true, 0, 1⟩, ⟨false, 0, 1⟩])], share := [], mvl := [], bun := [], cut := [], own := [], cin := [], cout := [], lp := lpOf [], kl := [], nk := true, eqs := eqs0, byt := byt0, fin := finK fi K }
noncomputable def b (a1 : Int) (a2 a3 : List Int) (R : Int → List Int → List Int → Option Res) : Option Res :=
  laws_markIntS.g a1 a2 fun r4 r5 =>
  laws_markIntS.g r4 a3 fun r6 r7 =>
  R r6 r5 r7
theorem gx : ∃ x : Int → List Int → List Int → (Int → List Int → List Int → Option Res) → Option Res, x = b := ⟨_, rfl⟩
noncomputable def g : Int → List Int → List Int → (Int → List Int → List Int → Option Res) → Option Res := Classical.choose gx
theorem e : g = b := Classical.choose_spec gx
noncomputable def run : List Lf → (Res → Option Res) → Option Res
  | [.i a1, .q (.ints a2), .q (.ints a3)], K => g a1 a2 a3 (fun r1 r2 r3 => K (m r1 r2 r3))
  | _, _ => none
noncomputable def a (a1 : Int) (a2 a3 : List Int) : St := argSt [.v ⟨true, [.ow 0, .ow 1]⟩, one (.int .i64 a1)] [⟨[.int .i64], .ints a2, true, 0⟩, ⟨[.int .i64], .ints a3, true, 0⟩] []
noncomputable def con : FuncId × St × (List Lf → (Res → Option Res) → Option Res) := (19, a 0 [] [], run)
theorem cx (K : Res → Option Res) : CtxOk Go.Proofs.Try.prog Γ0 byt0 eqs0 (X K) os := ⟨rfl, rfl, rfl, (fun p hp => by
  rcases List.mem_cons.1 hp with rfl | hp
  · exact laws_markIntS.ok
  cases hp), rfl, rfl, rfl, rfl⟩
theorem tie (K : Res → Option Res) (a1 : Int) (a2 a3 : List Int) : exec (X K) c (entry 14 [.v ⟨true, [.ow 0, .ow 1]⟩, one (.int .i64 a1)] [⟨[.int .i64], .ints a2, true, 0⟩, ⟨[.int .i64], .ints a3, true, 0⟩] []) (endK (X K)) = g a1 a2 a3 (fun r1 r2 r3 => K (m r1 r2 r3)) := Eq.trans (b := b a1 a2 a3 (fun r1 r2 r3 => K (m r1 r2 r3))) (by kernel_rfl) (by rw [e])
theorem runv {l : List Lf} {K : Res → Option Res} {r : Res} (h : run l K = some r) : ∃ a1 a2 a3, l = [.i a1, .q (.ints a2), .q (.ints a3)] ∧ g a1 a2 a3 (fun r1 r2 r3 => K (m r1 r2 r3)) = some r := by
  unfold run at h; split at h
  · exact ⟨_, _, _, rfl, h⟩
  · cases h
theorem ok : Con Go.Proofs.Try.prog con := con_of (fn := Go.Proofs.Try.f19) (c := c) (Fi := fi) (X := X) (fun_of laid (by kernel_rfl) (by kernel_rfl) (by kernel_rfl) rfl (by kernel_rfl) (by kernel_rfl) cx (fun _ => rfl) (fun _ => rfl) (fun K => by
    rw [show loopsOf c = [] from by kernel_rfl]; intro p hp
    cases hp)) fun xs rows boxes K r hl hr => by
  obtain ⟨a1, a2, a3, e, h⟩ := runv hr
  have := St.like_eq (y := a a1 a2 a3) hl (by kernel_rfl) e
  obtain ⟨rfl, rfl, rfl⟩ := argSt_inj this
  exact (tie K a1 a2 a3).trans h
end laws_markArray
namespace laws_heldIntS
noncomputable def c : Code := bodyOf Go.Proofs.Try.f74
noncomputable def fi : Fin := ⟨Γ0, [(.tmp 4, 3)], [[1]], [], [], []⟩
noncomputable def m (r1 : Int) : Res := ⟨[⟨false, [.int .i64 r1]⟩], [], [], [], []⟩
noncomputable def b0 : Code := codeAt c [1, 0, 1, 0, 0]
noncomputable def s0 (x3 : List Int) (x4 x5 : Int) : St := ⟨mkT 21 [(0, one (.tr 0 1 [.int .i64] (.ints x3))), (1, one (.int .i64 x4)), (5, one (.int .i64 x5))], [], []⟩
noncomputable def l0s (x3 : List Int) (rec : Int → Int → Option Res) (k : Int → Option Res) (R : Int → Option Res) (x4 x5 : Int) : Option Res :=
  bif decide (x5 < (x3.length : Int)) then (bif decide (0 ≤ x5) && decide (x5 < (x3.length : Int)) then (bif (x3.getD x5.toNat 0 != x4) then R (-1)
      else rec (IntKind.i64.wrap (x4 + 1)) (IntKind.i64.wrap (x5 + 1)))
    else none)
  else k x4
noncomputable def l0 (x3 : List Int) (k : Int → Option Res) (R : Int → Option Res) : Nat → Int → Int → Option Res
  | 0, _, _ => none
  | n + 1, x4, x5 => l0s x3 (fun x4 x5 => l0 x3 k R n x4 x5) k R x4 x5
noncomputable def o0 (x3 : List Int) (y1 : Int) : St := ⟨mkT 21 [(1, one (.int .i64 y1))], [], []⟩
noncomputable def p0 (K : Res → Option Res) : List Lf → (St → Option Res) → Option Res
  | [.q (.ints x3), .i x4, .i x5], k => l0 x3 (fun y1 => k (o0 x3 y1)) (fun r1 => K (m r1)) fuel x4 x5
  | _, _ => none
noncomputable def os : List (FuncId × St × (List Lf → (Res → Option Res) → Option Res)) := []
noncomputable def X (K : Res → Option Res) : Ctx := { Γ := Γ0, orc := orcOf os, io := [], share := [], mvl := [], bun := [], cut := [], own := [], cin := [(0, ⟨[0, 1, 5], [], [], [], [], []⟩)], cout := [(0, ⟨[1], [], [], [], [], []⟩)], lp := lpOf [(0, s0 [] 0 0, p0 K)], kl := [], nk := true, eqs := eqs0, byt := byt0, fin := finK fi K }
noncomputable def b (a1 : List Int) (a2 : Int) (R : Int → Option Res) : Option Res :=
  l0 a1 (fun y6 => 
  R y6) R fuel a2 0
theorem gx : ∃ x : List Int → Int → (Int → Option Res) → Option Res, x = b := ⟨_, rfl⟩
noncomputable def g : List Int → Int → (Int → Option Res) → Option Res := Classical.choose gx
theorem e : g = b := Classical.choose_spec gx
noncomputable def run : List Lf → (Res → Option Res) → Option Res
  | [.q (.ints a1), .i a2], K => g a1 a2 (fun r1 => K (m r1))
  | _, _ => none
noncomputable def a (a1 : List Int) (a2 : Int) : St := argSt [one (.tr 0 1 [.int .i64] (.ints a1)), one (.int .i64 a2)] [] []
noncomputable def con : FuncId × St × (List Lf → (Res → Option Res) → Option Res) := (74, a [] 0, run)
theorem cx (K : Res → Option Res) : CtxOk Go.Proofs.Try.prog Γ0 byt0 eqs0 (X K) os := ⟨rfl, rfl, rfl, (fun p hp => by
  cases hp), rfl, rfl, rfl, rfl⟩
theorem t0 (K : Res → Option Res) (k : St → Option Res) (it : St → (St → Option Res) → Option Res) (x3 : List Int) (x4 x5 : Int) : iterS (X K) 0 b0 it (s0 x3 x4 x5) k = l0s x3 (fun x4 x5 => it (s0 x3 x4 x5) k) (fun y1 => k (o0 x3 y1)) (fun r1 => K (m r1)) x4 x5 := by kernel_rfl
theorem i0 (K : Res → Option Res) (k : St → Option Res) (x3 : List Int) : ∀ (n : Nat) (x4 x5 : Int), iter (X K) 0 b0 n (s0 x3 x4 x5) k = l0 x3 (fun y1 => k (o0 x3 y1)) (fun r1 => K (m r1)) n x4 x5
  | 0, _, _ => rfl
  | n + 1, x4, x5 => by
    rw [iter_succ, t0, show (fun x4 x5 => iter (X K) 0 b0 n (s0 x3 x4 x5) k) = (fun x4 x5 => l0 x3 (fun y1 => k (o0 x3 y1)) (fun r1 => K (m r1)) n x4 x5) from funext fun x4 => funext fun x5 => i0 K k x3 n x4 x5]; rfl
theorem v0 {K : Res → Option Res} {l : List Lf} {k : St → Option Res} {r : Res} (h : p0 K l k = some r) : ∃ x3 x4 x5, l = [.q (.ints x3), .i x4, .i x5] ∧ l0 x3 (fun y1 => k (o0 x3 y1)) (fun r1 => K (m r1)) fuel x4 x5 = some r := by
  unfold p0 at h; split at h
  · exact ⟨_, _, _, rfl, h⟩
  · cases h
theorem w0 (K : Res → Option Res) : LpSound Go.Proofs.Try.prog (X K) 0 b0 := lp_ok ((cx K).ok laid) (by rw [show loopsOf b0 = [] from by kernel_rfl]; intro p hp; cases hp) rfl fun p hp hid => by
  rcases List.mem_cons.1 hp with rfl | hp
  · intro st k r h1 h2; obtain ⟨x3, x4, x5, e, h⟩ := v0 (K := K) h2; have := St.like_eq (y := s0 x3 x4 x5) h1 (by kernel_rfl) e; subst this; exact ⟨fuel, (i0 K k x3 fuel x4 x5).trans h⟩
  cases hp
theorem tie (K : Res → Option Res) (a1 : List Int) (a2 : Int) : exec (X K) c (entry 21 [one (.tr 0 1 [.int .i64] (.ints a1)), one (.int .i64 a2)] [] []) (endK (X K)) = g a1 a2 (fun r1 => K (m r1)) := Eq.trans (b := b a1 a2 (fun r1 => K (m r1))) (by kernel_rfl) (by rw [e])
theorem runv {l : List Lf} {K : Res → Option Res} {r : Res} (h : run l K = some r) : ∃ a1 a2, l = [.q (.ints a1), .i a2] ∧ g a1 a2 (fun r1 => K (m r1)) = some r := by
  unfold run at h; split at h
  · exact ⟨_, _, rfl, h⟩
  · cases h
theorem ok : Con Go.Proofs.Try.prog con := con_of (fn := Go.Proofs.Try.f74) (c := c) (Fi := fi) (X := X) (fun_of laid (by kernel_rfl) (by kernel_rfl) (by kernel_rfl) rfl (by kernel_rfl) (by kernel_rfl) cx (fun _ => rfl) (fun _ => rfl) (fun K => by
    rw [show loopsOf c = [(0, b0)] from by kernel_rfl]; intro p hp
    rcases List.mem_cons.1 hp with rfl | hp
    · exact w0 K
    cases hp)) fun xs rows boxes K r hl hr => by
  obtain ⟨a1, a2, e, h⟩ := runv hr
  have := St.like_eq (y := a a1 a2) hl (by kernel_rfl) e
  obtain ⟨rfl, rfl, rfl⟩ := argSt_inj this
  exact (tie K a1 a2).trans h
end laws_heldIntS
namespace laws_heldArray
noncomputable def c : Code := bodyOf Go.Proofs.Try.f20
noncomputable def fi : Fin := ⟨Γ0, [(.tmp 4, 3)], [[1]], [], [], []⟩
noncomputable def m (r1 : Int) : Res := ⟨[⟨false, [.int .i64 r1]⟩], [], [], [], []⟩
noncomputable def os : List (FuncId × St × (List Lf → (Res → Option Res) → Option Res)) := [laws_heldIntS.con]
noncomputable def X (K : Res → Option Res) : Ctx := { Γ := Γ0, orc := orcOf os, io := [], share := [], mvl := [], bun := [], cut := [], own := [], cin := [], cout := [], lp := lpOf [], kl := [], nk := true, eqs := eqs0, byt := byt0, fin := finK fi K }
noncomputable def b (a1 a2 : List Int) (a3 : Int) (R : Int → Option Res) : Option Res :=
  laws_heldIntS.g a1 a3 fun r4 =>
  bif decide (r4 < 0) then R (-1)
  else (laws_heldIntS.g a2 r4 fun r5 =>
  bif decide (r5 < 0) then R (-1)
  else R r5)
theorem gx : ∃ x : List Int → List Int → Int → (Int → Option Res) → Option Res, x = b := ⟨_, rfl⟩
noncomputable def g : List Int → List Int → Int → (Int → Option Res) → Option Res := Classical.choose gx
theorem e : g = b := Classical.choose_spec gx
noncomputable def run : List Lf → (Res → Option Res) → Option Res
  | [.q (.ints a1), .q (.ints a2), .i a3], K => g a1 a2 a3 (fun r1 => K (m r1))
  | _, _ => none
noncomputable def a (a1 a2 : List Int) (a3 : Int) : St := argSt [.v ⟨true, [.tr 0 1 [.int .i64] (.ints a1), .tr 0 1 [.int .i64] (.ints a2)]⟩, one (.int .i64 a3)] [] []
noncomputable def con : FuncId × St × (List Lf → (Res → Option Res) → Option Res) := (20, a [] [] 0, run)
theorem cx (K : Res → Option Res) : CtxOk Go.Proofs.Try.prog Γ0 byt0 eqs0 (X K) os := ⟨rfl, rfl, rfl, (fun p hp => by
  rcases List.mem_cons.1 hp with rfl | hp
  · exact laws_heldIntS.ok
  cases hp), rfl, rfl, rfl, rfl⟩
theorem tie (K : Res → Option Res) (a1 a2 : List Int) (a3 : Int) : exec (X K) c (entry 18 [.v ⟨true, [.tr 0 1 [.int .i64] (.ints a1), .tr 0 1 [.int .i64] (.ints a2)]⟩, one (.int .i64 a3)] [] []) (endK (X K)) = g a1 a2 a3 (fun r1 => K (m r1)) := Eq.trans (b := b a1 a2 a3 (fun r1 => K (m r1))) (by kernel_rfl) (by rw [e])
theorem runv {l : List Lf} {K : Res → Option Res} {r : Res} (h : run l K = some r) : ∃ a1 a2 a3, l = [.q (.ints a1), .q (.ints a2), .i a3] ∧ g a1 a2 a3 (fun r1 => K (m r1)) = some r := by
  unfold run at h; split at h
  · exact ⟨_, _, _, rfl, h⟩
  · cases h
theorem ok : Con Go.Proofs.Try.prog con := con_of (fn := Go.Proofs.Try.f20) (c := c) (Fi := fi) (X := X) (fun_of laid (by kernel_rfl) (by kernel_rfl) (by kernel_rfl) rfl (by kernel_rfl) (by kernel_rfl) cx (fun _ => rfl) (fun _ => rfl) (fun K => by
    rw [show loopsOf c = [] from by kernel_rfl]; intro p hp
    cases hp)) fun xs rows boxes K r hl hr => by
  obtain ⟨a1, a2, a3, e, h⟩ := runv hr
  have := St.like_eq (y := a a1 a2 a3) hl (by kernel_rfl) e
  obtain ⟨rfl, rfl, rfl⟩ := argSt_inj this
  exact (tie K a1 a2 a3).trans h
end laws_heldArray
namespace laws_FnExactArrayRead
noncomputable def c : Code := bodyOf Go.Proofs.Try.f3
noncomputable def fi : Fin := ⟨Γ0, [(.tmp 2, 4)], [[1]], [], [], []⟩
noncomputable def m (r1 : Bool) : Res := ⟨[⟨false, [.bool r1]⟩], [], [], [], []⟩
noncomputable def os : List (FuncId × St × (List Lf → (Res → Option Res) → Option Res)) := [laws_toByteS.con, spec_ArrayRead.con, impl_ArrayRead.con, laws_eqArray.con, laws_eqByteS.con, laws_markByteS.con, laws_markArray.con, laws_heldArray.con]
noncomputable def X (K : Res → Option Res) : Ctx := { Γ := Γ0, orc := orcOf os, io := [(15, [⟨false, 2, 2⟩]), (18, [⟨true, 0, 1⟩, ⟨false, 0, 1⟩]), (19, [⟨true, 0, 1⟩, ⟨false, 0, 1⟩])], share := [], mvl := [], bun := [], cut := [], own := [], cin := [], cout := [], lp := lpOf [], kl := [], nk := true, eqs := eqs0, byt := byt0, fin := finK fi K }
noncomputable def b (a1 : List Int) (R : Bool → Option Res) : Option Res :=
  bif decide (1048576 < (a1.length : Int)) then R true
  else (laws_toByteS.g a1 fun r2 =>
  spec_ArrayRead.g r2 fun r3 r4 r5 =>
  laws_toByteS.g a1 fun r6 =>
  impl_ArrayRead.g r6 fun r7 r8 r9 =>
  laws_eqArray.g r7 r8 r3 r4 fun r10 =>
  bif !r10 then R false
  else bif (r9 != r5) then R false
  else (laws_toByteS.g a1 fun r11 =>
  laws_eqByteS.g r6 r11 fun r12 =>
  bif !r12 then R false
  else (laws_markByteS.g 1 r6 fun r13 r14 =>
  bif decide (r13 < 0) then R false
  else (laws_eqArray.g r7 r8 r3 r4 fun r15 =>
  bif !r15 then R false
  else bif (r9 != r5) then R false
  else (laws_markArray.g 1 r7 r8 fun r16 r17 r18 =>
  laws_heldArray.g r17 r18 1 fun r19 =>
  bif decide (r19 < 0) then R false
  else bif (r19 != r16) then R false
  else (laws_toByteS.g a1 fun r20 =>
  impl_ArrayRead.g r20 fun r21 r22 r23 =>
  laws_eqArray.g r21 r22 r3 r4 fun r24 =>
  bif !r24 then R false
  else bif (r23 != r5) then R false
  else (laws_heldArray.g r17 r18 1 fun r25 =>
  bif decide (r25 < 0) then R false
  else bif (r25 != r16) then R false
  else R true)))))))
theorem gx : ∃ x : List Int → (Bool → Option Res) → Option Res, x = b := ⟨_, rfl⟩
noncomputable def g : List Int → (Bool → Option Res) → Option Res := Classical.choose gx
theorem e : g = b := Classical.choose_spec gx
noncomputable def run : List Lf → (Res → Option Res) → Option Res
  | [.q (.ints a1)], K => g a1 (fun r1 => K (m r1))
  | _, _ => none
noncomputable def a (a1 : List Int) : St := argSt [one (.tr 0 1 [.int .u8] (.ints a1))] [] []
noncomputable def con : FuncId × St × (List Lf → (Res → Option Res) → Option Res) := (3, a [], run)
theorem cx (K : Res → Option Res) : CtxOk Go.Proofs.Try.prog Γ0 byt0 eqs0 (X K) os := ⟨rfl, rfl, rfl, (fun p hp => by
  rcases List.mem_cons.1 hp with rfl | hp
  · exact laws_toByteS.ok
  rcases List.mem_cons.1 hp with rfl | hp
  · exact spec_ArrayRead.ok
  rcases List.mem_cons.1 hp with rfl | hp
  · exact impl_ArrayRead.ok
  rcases List.mem_cons.1 hp with rfl | hp
  · exact laws_eqArray.ok
  rcases List.mem_cons.1 hp with rfl | hp
  · exact laws_eqByteS.ok
  rcases List.mem_cons.1 hp with rfl | hp
  · exact laws_markByteS.ok
  rcases List.mem_cons.1 hp with rfl | hp
  · exact laws_markArray.ok
  rcases List.mem_cons.1 hp with rfl | hp
  · exact laws_heldArray.ok
  cases hp), rfl, rfl, rfl, rfl⟩
theorem tie (K : Res → Option Res) (a1 : List Int) : exec (X K) c (entry 93 [one (.tr 0 1 [.int .u8] (.ints a1))] [] []) (endK (X K)) = g a1 (fun r1 => K (m r1)) := Eq.trans (b := b a1 (fun r1 => K (m r1))) (by kernel_rfl) (by rw [e])
theorem runv {l : List Lf} {K : Res → Option Res} {r : Res} (h : run l K = some r) : ∃ a1, l = [.q (.ints a1)] ∧ g a1 (fun r1 => K (m r1)) = some r := by
  unfold run at h; split at h
  · exact ⟨_, rfl, h⟩
  · cases h
theorem ok : Con Go.Proofs.Try.prog con := con_of (fn := Go.Proofs.Try.f3) (c := c) (Fi := fi) (X := X) (fun_of laid (by kernel_rfl) (by kernel_rfl) (by kernel_rfl) rfl (by kernel_rfl) (by kernel_rfl) cx (fun _ => rfl) (fun _ => rfl) (fun K => by
    rw [show loopsOf c = [] from by kernel_rfl]; intro p hp
    cases hp)) fun xs rows boxes K r hl hr => by
  obtain ⟨a1, e, h⟩ := runv hr
  have := St.like_eq (y := a a1) hl (by kernel_rfl) e
  obtain ⟨rfl, rfl, rfl⟩ := argSt_inj this
  exact (tie K a1).trans h
end laws_FnExactArrayRead
end Go.Tv.F
