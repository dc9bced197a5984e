/- The law's functions, printed by a program of ours, each with its contract. They hold without condition. -/
import Derived.Test.YtekpelppldgkeaaProg
import Derived.Test.YtekpelppldgkeaaTvC
set_option linter.unusedVariables false
set_option linter.unusedSimpArgs false
set_option linter.unnecessarySimpa false
set_option maxRecDepth 100000
set_option autoImplicit false
set_option maxRecDepth 100000
namespace Go.Tv.F
open Go Go.Tv
noncomputable def Γ0 : List (Nat × TI) := [(3, ⟨false, [.int .i64], []⟩),
  (4, ⟨false, [.bool], []⟩),
  (5, ⟨false, [.int .u8], []⟩),
  (9, ⟨false, [.str], []⟩),
  (24, ⟨false, [.sl [.int .u8] 1], []⟩),
  (56, ⟨false, [.sl [.str] 16], []⟩),
  (57, ⟨false, [.ptr], []⟩),
  (74, ⟨true, [.sl [.int .u8] 1, .int .i64, .int .i64], [(0, 1, false), (1, 1, false), (2, 1, false)]⟩)]
noncomputable def byt0 : List TypeId := [24]
noncomputable def eqs0 : List TypeId := []
theorem laid : Laid Go.Proofs.Try.prog Γ0 byt0 eqs0 := ⟨by kernel_rfl, by kernel_rfl, by kernel_rfl, by kernel_rfl⟩
namespace laws_big
noncomputable def c : Code := bodyOf Go.Proofs.Try.f11
noncomputable def fi : Fin := ⟨Γ0, [(.tmp 2, 4)], [[1]], [], [], []⟩
noncomputable def m (r1 : Bool) : Res := ⟨[⟨false, [.bool r1]⟩], [], [], [], []⟩
noncomputable def os : List (FuncId × St × (List Lf → (Res → Option Res) → Option Res)) := []
noncomputable def X (K : Res → Option Res) : Ctx := { Γ := Γ0, orc := orcOf os, io := [], share := [], mvl := [], bun := [], cut := [], own := [], cin := [], cout := [], lp := lpOf [], kl := [], nk := true, eqs := eqs0, byt := byt0, fin := finK fi K }
noncomputable def g (a1 : List Int) (R : Bool → Option Res) : Option Res :=
  R (decide (1048576 < (a1.length : Int)))
noncomputable def run : List Lf → (Res → Option Res) → Option Res
  | [.q (.ints a1)], K => g a1 (fun r1 => K (m r1))
  | _, _ => none
noncomputable def a (a1 : List Int) : St := argSt [one (.tr 0 1 [.int .u8] (.ints a1))] [] []
noncomputable def con : FuncId × St × (List Lf → (Res → Option Res) → Option Res) := (11, a [], run)
theorem cx (K : Res → Option Res) : CtxOk Go.Proofs.Try.prog Γ0 byt0 eqs0 (X K) os := ⟨rfl, rfl, rfl, (fun p hp => by
  cases hp), rfl, rfl, rfl, rfl⟩
theorem tie (K : Res → Option Res) (a1 : List Int) : exec (X K) c (entry 6 [one (.tr 0 1 [.int .u8] (.ints a1))] [] []) (endK (X K)) = g a1 (fun r1 => K (m r1)) := by kernel_rfl
theorem runv {l : List Lf} {K : Res → Option Res} {r : Res} (h : run l K = some r) : ∃ a1, l = [.q (.ints a1)] ∧ g a1 (fun r1 => K (m r1)) = some r := by
  unfold run at h; split at h
  · exact ⟨_, rfl, h⟩
  · cases h
theorem ok : Con Go.Proofs.Try.prog con := con_of (fn := Go.Proofs.Try.f11) (c := c) (Fi := fi) (X := X) (fun_of laid (by kernel_rfl) (by kernel_rfl) (by kernel_rfl) rfl (by kernel_rfl) (by kernel_rfl) cx (fun _ => rfl) (fun _ => rfl) (fun K => by
    rw [show loopsOf c = [] from by kernel_rfl]; intro p hp
    cases hp)) fun xs rows boxes K r hl hr => by
  obtain ⟨a1, e, h⟩ := runv hr
  have := St.like_eq (y := a a1) hl (by kernel_rfl) e
  obtain ⟨rfl, rfl, rfl⟩ := argSt_inj this
  exact (tie K a1).trans h
end laws_big
namespace spec_l1New_i2
noncomputable def c : Code := bodyOf Go.Proofs.Try.f35
noncomputable def fi : Fin := ⟨Γ0, [(.tmp 2, 57)], [[1]], [], [], [(2, [.sl [.int .u8] 1, .int .i64, .int .i64], [0, 1, 1])]⟩
noncomputable def m (r1 : List Int) (r2 r3 : Int) : Res := ⟨[⟨false, [.bp 1000 0]⟩], [], [], [], [[.tr 2 2 [.int .u8] (.ints r1), .int .i64 r2, .int .i64 r3]]⟩
noncomputable def b0 : Code := codeAt c [1, 1, 0, 1, 0, 0]
noncomputable def s0 (x2 : List Int) (x3 x4 : Int) : St := ⟨mkT 32 [(0, one (.tr 2 1 [.int .u8] (.ints x2))), (3, one (.int .i64 x3)), (4, one (.int .i64 x4))], [], []⟩
noncomputable def l0s (x2 : List Int) (rec : Int → Int → Option Res) (k : Int → Option Res) (x3 x4 : Int) : Option Res :=
  bif decide (x4 < (x2.length : Int)) then (bif decide (x4 < 4000) then (bif decide (0 ≤ x4) && decide (x4 < (x2.length : Int)) then rec (arith.bits .and .i64 (IntKind.i64.wrap ((IntKind.i64.wrap ((IntKind.i64.wrap (x3 * 131)) + (IntKind.i64.wrap (x2.getD x4.toNat 0)))) + 7)) 1073741823) (IntKind.i64.wrap (x4 + 1))
      else none)
    else k x3)
  else k x3
noncomputable def l0 (x2 : List Int) (k : Int → Option Res) : Nat → Int → Int → Option Res
  | 0, _, _ => none
  | n + 1, x3, x4 => l0s x2 (fun x3 x4 => l0 x2 k n x3 x4) k x3 x4
noncomputable def o0 (x2 : List Int) (y2 : Int) : St := ⟨mkT 32 [(0, one (.tr 2 1 [.int .u8] (.ints x2))), (3, one (.int .i64 y2))], [], []⟩
noncomputable def p0 (K : Res → Option Res) : List Lf → (St → Option Res) → Option Res
  | [.q (.ints x2), .i x3, .i x4], k => l0 x2 (fun y2 => k (o0 x2 y2)) fuel x3 x4
  | _, _ => none
noncomputable def os : List (FuncId × St × (List Lf → (Res → Option Res) → Option Res)) := []
noncomputable def X (K : Res → Option Res) : Ctx := { Γ := Γ0, orc := orcOf os, io := [], share := [], mvl := [], bun := [], cut := [], own := [], cin := [(0, ⟨[0, 3, 4], [], [], [], [], []⟩)], cout := [(0, ⟨[0, 3], [], [], [], [], []⟩)], lp := lpOf [(0, s0 [] 0 0, p0 K)], kl := [], nk := true, eqs := eqs0, byt := byt0, fin := finK fi K }
noncomputable def g (a1 : List Int) (R : List Int → Int → Int → Option Res) : Option Res :=
  l0 a1 (fun y5 => 
  R a1 0 y5) fuel (IntKind.i64.wrap (18218 + (a1.length : Int))) 0
noncomputable def run : List Lf → (Res → Option Res) → Option Res
  | [.q (.ints a1)], K => g a1 (fun r1 r2 r3 => K (m r1 r2 r3))
  | _, _ => none
noncomputable def a (a1 : List Int) : St := argSt [one (.tr 2 1 [.int .u8] (.ints a1))] [] []
noncomputable def con : FuncId × St × (List Lf → (Res → Option Res) → Option Res) := (35, a [], run)
theorem cx (K : Res → Option Res) : CtxOk Go.Proofs.Try.prog Γ0 byt0 eqs0 (X K) os := ⟨rfl, rfl, rfl, (fun p hp => by
  cases hp), rfl, rfl, rfl, rfl⟩
theorem t0 (K : Res → Option Res) (k : St → Option Res) (it : St → (St → Option Res) → Option Res) (x2 : List Int) (x3 x4 : Int) : iterS (X K) 0 b0 it (s0 x2 x3 x4) k = l0s x2 (fun x3 x4 => it (s0 x2 x3 x4) k) (fun y2 => k (o0 x2 y2)) x3 x4 := by kernel_rfl
theorem i0 (K : Res → Option Res) (k : St → Option Res) (x2 : List Int) : ∀ (n : Nat) (x3 x4 : Int), iter (X K) 0 b0 n (s0 x2 x3 x4) k = l0 x2 (fun y2 => k (o0 x2 y2)) n x3 x4
  | 0, _, _ => rfl
  | n + 1, x3, x4 => by
    rw [iter_succ, t0, show (fun x3 x4 => iter (X K) 0 b0 n (s0 x2 x3 x4) k) = (fun x3 x4 => l0 x2 (fun y2 => k (o0 x2 y2)) n x3 x4) from funext fun x3 => funext fun x4 => i0 K k x2 n x3 x4]; rfl
theorem v0 {K : Res → Option Res} {l : List Lf} {k : St → Option Res} {r : Res} (h : p0 K l k = some r) : ∃ x2 x3 x4, l = [.q (.ints x2), .i x3, .i x4] ∧ l0 x2 (fun y2 => k (o0 x2 y2)) fuel x3 x4 = some r := by
  unfold p0 at h; split at h
  · exact ⟨_, _, _, rfl, h⟩
  · cases h
theorem w0 (K : Res → Option Res) : LpSound Go.Proofs.Try.prog (X K) 0 b0 := lp_ok ((cx K).ok laid) (by rw [show loopsOf b0 = [] from by kernel_rfl]; intro p hp; cases hp) rfl fun p hp hid => by
  rcases List.mem_cons.1 hp with rfl | hp
  · intro st k r h1 h2; obtain ⟨x2, x3, x4, e, h⟩ := v0 (K := K) h2; have := St.like_eq (y := s0 x2 x3 x4) h1 (by kernel_rfl) e; subst this; exact ⟨fuel, (i0 K k x2 fuel x3 x4).trans h⟩
  cases hp
theorem tie (K : Res → Option Res) (a1 : List Int) : exec (X K) c (entry 32 [one (.tr 2 1 [.int .u8] (.ints a1))] [] []) (endK (X K)) = g a1 (fun r1 r2 r3 => K (m r1 r2 r3)) := by kernel_rfl
theorem runv {l : List Lf} {K : Res → Option Res} {r : Res} (h : run l K = some r) : ∃ a1, l = [.q (.ints a1)] ∧ g a1 (fun r1 r2 r3 => K (m r1 r2 r3)) = some r := by
  unfold run at h; split at h
  · exact ⟨_, rfl, h⟩
  · cases h
theorem ok : Con Go.Proofs.Try.prog con := con_of (fn := Go.Proofs.Try.f35) (c := c) (Fi := fi) (X := X) (fun_of laid (by kernel_rfl) (by kernel_rfl) (by kernel_rfl) rfl (by kernel_rfl) (by kernel_rfl) cx (fun _ => rfl) (fun _ => rfl) (fun K => by
    rw [show loopsOf c = [(0, b0)] from by kernel_rfl]; intro p hp
    rcases List.mem_cons.1 hp with rfl | hp
    · exact w0 K
    cases hp)) fun xs rows boxes K r hl hr => by
  obtain ⟨a1, e, h⟩ := runv hr
  have := St.like_eq (y := a a1) hl (by kernel_rfl) e
  obtain ⟨rfl, rfl, rfl⟩ := argSt_inj this
  exact (tie K a1).trans h
end spec_l1New_i2
namespace spec_l1Byte
noncomputable def c : Code := bodyOf Go.Proofs.Try.f51
noncomputable def fi : Fin := ⟨Γ0, [(.tmp 2, 3)], [[1]], [], [([.sl [.int .u8] 1, .int .i64, .int .i64], [0, 1, 1])], []⟩
noncomputable def m (a1 : List Int) (r1 r3 r4 : Int) : Res := ⟨[⟨false, [.int .i64 r1]⟩], [], [], [[.tr 2 2 [.int .u8] (.ints a1), .int .i64 r3, .int .i64 r4]], []⟩
noncomputable def os : List (FuncId × St × (List Lf → (Res → Option Res) → Option Res)) := []
noncomputable def X (K : Res → Option Res) : Ctx := { Γ := Γ0, orc := orcOf os, io := [], share := [], mvl := [], bun := [], cut := [], own := [], cin := [], cout := [], lp := lpOf [], kl := [], nk := true, eqs := eqs0, byt := byt0, fin := finK fi K }
noncomputable def g (a1 : List Int) (a2 a3 : Int) (R : Int → Int → Int → Option Res) : Option Res :=
  bif decide (a2 < (a1.length : Int)) then (bif decide (0 ≤ a2) && decide (a2 < (a1.length : Int)) then R (arith.bits .and .i64 (IntKind.i64.wrap ((arith.bits .and .i64 (arith.bits .xor .i64 ((IntKind.i64.wrap ((IntKind.i64.wrap (a3 * 6364136223846793005)) + 1442695040888963407)).fdiv (2 ^ 33)) ((IntKind.i64.wrap ((IntKind.i64.wrap (a3 * 6364136223846793005)) + 1442695040888963407)).fdiv (2 ^ 45))) 255) + (IntKind.i64.wrap (a1.getD a2.toNat 0)))) 255) (IntKind.i64.wrap (a2 + 1)) (IntKind.i64.wrap ((IntKind.i64.wrap (a3 * 6364136223846793005)) + 1442695040888963407))
    else none)
  else R (arith.bits .and .i64 (arith.bits .xor .i64 ((IntKind.i64.wrap ((IntKind.i64.wrap (a3 * 6364136223846793005)) + 1442695040888963407)).fdiv (2 ^ 33)) ((IntKind.i64.wrap ((IntKind.i64.wrap (a3 * 6364136223846793005)) + 1442695040888963407)).fdiv (2 ^ 45))) 255) a2 (IntKind.i64.wrap ((IntKind.i64.wrap (a3 * 6364136223846793005)) + 1442695040888963407))
noncomputable def run : List Lf → (Res → Option Res) → Option Res
  | [.q (.ints a1), .i a2, .i a3], K => g a1 a2 a3 (fun r1 r3 r4 => K (m a1 r1 r3 r4))
  | _, _ => none
noncomputable def a (a1 : List Int) (a2 a3 : Int) : St := argSt [one (.bp 0 0)] [] [[.tr 2 2 [.int .u8] (.ints a1), .int .i64 a2, .int .i64 a3]]
noncomputable def con : FuncId × St × (List Lf → (Res → Option Res) → Option Res) := (51, a [] 0 0, run)
theorem cx (K : Res → Option Res) : CtxOk Go.Proofs.Try.prog Γ0 byt0 eqs0 (X K) os := ⟨rfl, rfl, rfl, (fun p hp => by
  cases hp), rfl, rfl, rfl, rfl⟩
theorem tie (K : Res → Option Res) (a1 : List Int) (a2 a3 : Int) : exec (X K) c (entry 58 [one (.bp 0 0)] [] [[.tr 2 2 [.int .u8] (.ints a1), .int .i64 a2, .int .i64 a3]]) (endK (X K)) = g a1 a2 a3 (fun r1 r3 r4 => K (m a1 r1 r3 r4)) := by kernel_rfl
theorem runv {l : List Lf} {K : Res → Option Res} {r : Res} (h : run l K = some r) : ∃ a1 a2 a3, l = [.q (.ints a1), .i a2, .i a3] ∧ g a1 a2 a3 (fun r1 r3 r4 => K (m a1 r1 r3 r4)) = some r := by
  unfold run at h; split at h
  · exact ⟨_, _, _, rfl, h⟩
  · cases h
theorem ok : Con Go.Proofs.Try.prog con := con_of (fn := Go.Proofs.Try.f51) (c := c) (Fi := fi) (X := X) (fun_of laid (by kernel_rfl) (by kernel_rfl) (by kernel_rfl) rfl (by kernel_rfl) (by kernel_rfl) cx (fun _ => rfl) (fun _ => rfl) (fun K => by
    rw [show loopsOf c = [] from by kernel_rfl]; intro p hp
    cases hp)) fun xs rows boxes K r hl hr => by
  obtain ⟨a1, a2, a3, e, h⟩ := runv hr
  have := St.like_eq (y := a a1 a2 a3) hl (by kernel_rfl) e
  obtain ⟨rfl, rfl, rfl⟩ := argSt_inj this
  exact (tie K a1 a2 a3).trans h
end spec_l1Byte
namespace spec_l1Below
noncomputable def c : Code := bodyOf Go.Proofs.Try.f36
noncomputable def fi : Fin := ⟨Γ0, [(.tmp 4, 3)], [[1]], [], [([.sl [.int .u8] 1, .int .i64, .int .i64], [0, 1, 1])], []⟩
noncomputable def m (a2 : List Int) (r1 r3 r4 : Int) : Res := ⟨[⟨false, [.int .i64 r1]⟩], [], [], [[.tr 2 2 [.int .u8] (.ints a2), .int .i64 r3, .int .i64 r4]], []⟩
noncomputable def os : List (FuncId × St × (List Lf → (Res → Option Res) → Option Res)) := [spec_l1Byte.con]
noncomputable def X (K : Res → Option Res) : Ctx := { Γ := Γ0, orc := orcOf os, io := [], share := [], mvl := [], bun := [], cut := [], own := [], cin := [], cout := [], lp := lpOf [], kl := [], nk := true, eqs := eqs0, byt := byt0, fin := finK fi K }
noncomputable def g (a1 : Int) (a2 : List Int) (a3 a4 : Int) (R : Int → Int → Int → Option Res) : Option Res :=
  bif decide (a1 ≤ 0) then R 0 a3 a4
  else bif decide (a1 ≤ 256) then (spec_l1Byte.g a2 a3 a4 fun r5 r6 r7 =>
    bif decide (a1 = 0) then none
    else R (r5.tmod a1) r6 r7)
  else (spec_l1Byte.g a2 a3 a4 fun r8 r9 r10 =>
  spec_l1Byte.g a2 r9 r10 fun r11 r12 r13 =>
  spec_l1Byte.g a2 r12 r13 fun r14 r15 r16 =>
  spec_l1Byte.g a2 r15 r16 fun r17 r18 r19 =>
  bif decide (a1 = 0) then none
  else R ((IntKind.i64.wrap ((IntKind.i64.wrap ((IntKind.i64.wrap ((IntKind.i64.wrap (r8 * 16777216)) + (IntKind.i64.wrap (r11 * 65536)))) + (IntKind.i64.wrap (r14 * 256)))) + r17)).tmod a1) r18 r19)
noncomputable def run : List Lf → (Res → Option Res) → Option Res
  | [.i a1, .q (.ints a2), .i a3, .i a4], K => g a1 a2 a3 a4 (fun r1 r3 r4 => K (m a2 r1 r3 r4))
  | _, _ => none
noncomputable def a (a1 : Int) (a2 : List Int) (a3 a4 : Int) : St := argSt [one (.bp 0 0), one (.int .i64 a1)] [] [[.tr 2 2 [.int .u8] (.ints a2), .int .i64 a3, .int .i64 a4]]
noncomputable def con : FuncId × St × (List Lf → (Res → Option Res) → Option Res) := (36, a 0 [] 0 0, run)
theorem cx (K : Res → Option Res) : CtxOk Go.Proofs.Try.prog Γ0 byt0 eqs0 (X K) os := ⟨rfl, rfl, rfl, (fun p hp => by
  rcases List.mem_cons.1 hp with rfl | hp
  · exact spec_l1Byte.ok
  cases hp), rfl, rfl, rfl, rfl⟩
theorem tie (K : Res → Option Res) (a1 : Int) (a2 : List Int) (a3 a4 : Int) : exec (X K) c (entry 37 [one (.bp 0 0), one (.int .i64 a1)] [] [[.tr 2 2 [.int .u8] (.ints a2), .int .i64 a3, .int .i64 a4]]) (endK (X K)) = g a1 a2 a3 a4 (fun r1 r3 r4 => K (m a2 r1 r3 r4)) := by kernel_rfl
theorem runv {l : List Lf} {K : Res → Option Res} {r : Res} (h : run l K = some r) : ∃ a1 a2 a3 a4, l = [.i a1, .q (.ints a2), .i a3, .i a4] ∧ g a1 a2 a3 a4 (fun r1 r3 r4 => K (m a2 r1 r3 r4)) = some r := by
  unfold run at h; split at h
  · exact ⟨_, _, _, _, rfl, h⟩
  · cases h
theorem ok : Con Go.Proofs.Try.prog con := con_of (fn := Go.Proofs.Try.f36) (c := c) (Fi := fi) (X := X) (fun_of laid (by kernel_rfl) (by kernel_rfl) (by kernel_rfl) rfl (by kernel_rfl) (by kernel_rfl) cx (fun _ => rfl) (fun _ => rfl) (fun K => by
    rw [show loopsOf c = [] from by kernel_rfl]; intro p hp
    cases hp)) fun xs rows boxes K r hl hr => by
  obtain ⟨a1, a2, a3, a4, e, h⟩ := runv hr
  have := St.like_eq (y := a a1 a2 a3 a4) hl (by kernel_rfl) e
  obtain ⟨rfl, rfl, rfl⟩ := argSt_inj this
  exact (tie K a1 a2 a3 a4).trans h
end spec_l1Below
namespace spec_DrawCodeText_i2
noncomputable def c : Code := bodyOf Go.Proofs.Try.f12
noncomputable def fi : Fin := ⟨Γ0, [(.tmp 2, 3)], [[1]], [], [], []⟩
noncomputable def m (r1 : Int) : Res := ⟨[⟨false, [.int .i64 r1]⟩], [], [], [], []⟩
noncomputable def os : List (FuncId × St × (List Lf → (Res → Option Res) → Option Res)) := [spec_l1New_i2.con, spec_l1Below.con]
noncomputable def X (K : Res → Option Res) : Ctx := { Γ := Γ0, orc := orcOf os, io := [(35, [⟨false, 2, 1⟩])], share := [], mvl := [], bun := [], cut := [], own := [], cin := [], cout := [], lp := lpOf [], kl := [], nk := true, eqs := eqs0, byt := byt0, fin := finK fi K }
noncomputable def g (a1 : List Int) (R : Int → Option Res) : Option Res :=
  spec_l1New_i2.g a1 fun r2 r3 r4 =>
  spec_l1Below.g 14 r2 r3 r4 fun r5 r6 r7 =>
  R (IntKind.i64.wrap (r5 - 1))
noncomputable def run : List Lf → (Res → Option Res) → Option Res
  | [.q (.ints a1)], K => g a1 (fun r1 => K (m r1))
  | _, _ => none
noncomputable def a (a1 : List Int) : St := argSt [one (.tr 2 1 [.int .u8] (.ints a1))] [] []
noncomputable def con : FuncId × St × (List Lf → (Res → Option Res) → Option Res) := (12, a [], run)
theorem cx (K : Res → Option Res) : CtxOk Go.Proofs.Try.prog Γ0 byt0 eqs0 (X K) os := ⟨rfl, rfl, rfl, (fun p hp => by
  rcases List.mem_cons.1 hp with rfl | hp
  · exact spec_l1New_i2.ok
  rcases List.mem_cons.1 hp with rfl | hp
  · exact spec_l1Below.ok
  cases hp), rfl, rfl, rfl, rfl⟩
theorem tie (K : Res → Option Res) (a1 : List Int) : exec (X K) c (entry 9 [one (.tr 2 1 [.int .u8] (.ints a1))] [] []) (endK (X K)) = g a1 (fun r1 => K (m r1)) := by kernel_rfl
theorem runv {l : List Lf} {K : Res → Option Res} {r : Res} (h : run l K = some r) : ∃ a1, l = [.q (.ints a1)] ∧ g a1 (fun r1 => K (m r1)) = some r := by
  unfold run at h; split at h
  · exact ⟨_, rfl, h⟩
  · cases h
theorem ok : Con Go.Proofs.Try.prog con := con_of (fn := Go.Proofs.Try.f12) (c := c) (Fi := fi) (X := X) (fun_of laid (by kernel_rfl) (by kernel_rfl) (by kernel_rfl) rfl (by kernel_rfl) (by kernel_rfl) cx (fun _ => rfl) (fun _ => rfl) (fun K => by
    rw [show loopsOf c = [] from by kernel_rfl]; intro p hp
    cases hp)) fun xs rows boxes K r hl hr => by
  obtain ⟨a1, e, h⟩ := runv hr
  have := St.like_eq (y := a a1) hl (by kernel_rfl) e
  obtain ⟨rfl, rfl, rfl⟩ := argSt_inj this
  exact (tie K a1).trans h
end spec_DrawCodeText_i2
namespace impl_within
noncomputable def c : Code := bodyOf Go.Proofs.Try.f34
noncomputable def fi : Fin := ⟨Γ0, [(.tmp 6, 4)], [[1]], [], [], []⟩
noncomputable def m (r1 : Bool) : Res := ⟨[⟨false, [.bool r1]⟩], [], [], [], []⟩
noncomputable def os : List (FuncId × St × (List Lf → (Res → Option Res) → Option Res)) := []
noncomputable def X (K : Res → Option Res) : Ctx := { Γ := Γ0, orc := orcOf os, io := [], share := [], mvl := [], bun := [], cut := [], own := [], cin := [], cout := [], lp := lpOf [], kl := [], nk := true, eqs := eqs0, byt := byt0, fin := finK fi K }
noncomputable def g (a1 a2 a3 : Int) (R : Bool → Option Res) : Option Res :=
  bif decide (a2 ≤ a1) then R (decide (a1 ≤ a3))
  else R false
noncomputable def run : List Lf → (Res → Option Res) → Option Res
  | [.i a1, .i a2, .i a3], K => g a1 a2 a3 (fun r1 => K (m r1))
  | _, _ => none
noncomputable def a (a1 a2 a3 : Int) : St := argSt [one (.int .i64 a1), one (.int .i64 a2), one (.int .i64 a3)] [] []
noncomputable def con : FuncId × St × (List Lf → (Res → Option Res) → Option Res) := (34, a 0 0 0, run)
theorem cx (K : Res → Option Res) : CtxOk Go.Proofs.Try.prog Γ0 byt0 eqs0 (X K) os := ⟨rfl, rfl, rfl, (fun p hp => by
  cases hp), rfl, rfl, rfl, rfl⟩
theorem tie (K : Res → Option Res) (a1 a2 a3 : Int) : exec (X K) c (entry 15 [one (.int .i64 a1), one (.int .i64 a2), one (.int .i64 a3)] [] []) (endK (X K)) = g a1 a2 a3 (fun r1 => K (m r1)) := by kernel_rfl
theorem runv {l : List Lf} {K : Res → Option Res} {r : Res} (h : run l K = some r) : ∃ a1 a2 a3, l = [.i a1, .i a2, .i a3] ∧ g a1 a2 a3 (fun r1 => K (m r1)) = some r := by
  unfold run at h; split at h
  · exact ⟨_, _, _, rfl, h⟩
  · cases h
theorem ok : Con Go.Proofs.Try.prog con := con_of (fn := Go.Proofs.Try.f34) (c := c) (Fi := fi) (X := X) (fun_of laid (by kernel_rfl) (by kernel_rfl) (by kernel_rfl) rfl (by kernel_rfl) (by kernel_rfl) cx (fun _ => rfl) (fun _ => rfl) (fun K => by
    rw [show loopsOf c = [] from by kernel_rfl]; intro p hp
    cases hp)) fun xs rows boxes K r hl hr => by
  obtain ⟨a1, a2, a3, e, h⟩ := runv hr
  have := St.like_eq (y := a a1 a2 a3) hl (by kernel_rfl) e
  obtain ⟨rfl, rfl, rfl⟩ := argSt_inj this
  exact (tie K a1 a2 a3).trans h
end impl_within
namespace impl_CodeText
noncomputable def c : Code := bodyOf Go.Proofs.Try.f10
noncomputable def fi : Fin := ⟨Γ0, [(.tmp 2, 9)], [[1]], [], [], []⟩
noncomputable def m (r1 : ByteArray) : Res := ⟨[⟨false, [.str r1]⟩], [], [], [], []⟩
noncomputable def os : List (FuncId × St × (List Lf → (Res → Option Res) → Option Res)) := [impl_within.con]
noncomputable def X (K : Res → Option Res) : Ctx := { Γ := Γ0, orc := orcOf os, io := [], share := [], mvl := [], bun := [], cut := [], own := [], cin := [], cout := [], lp := lpOf [], kl := [], nk := true, eqs := eqs0, byt := byt0, fin := finK fi K }
noncomputable def g (a1 : Int) (R : ByteArray → Option Res) : Option Res :=
  impl_within.g a1 0 10 fun r2 =>
  bif !r2 then R (⟨#[98, 97, 100]⟩ : ByteArray)
  else bif decide (0 ≤ a1) && decide (a1 < 11) then R (([(⟨#[111, 107]⟩ : ByteArray), (⟨#[98, 97, 100]⟩ : ByteArray), (⟨#[100, 111, 109, 97, 105, 110]⟩ : ByteArray), (⟨#[108, 101, 110, 103, 116, 104]⟩ : ByteArray), (⟨#[114, 97, 110, 107]⟩ : ByteArray), (⟨#[105, 110, 100, 101, 120]⟩ : ByteArray), (⟨#[108, 105, 109, 105, 116]⟩ : ByteArray), (⟨#[118, 97, 108, 117, 101]⟩ : ByteArray), (⟨#[115, 121, 110, 116, 97, 120]⟩ : ByteArray), (⟨#[102, 117, 108, 108]⟩ : ByteArray), (⟨#[115, 116, 101, 112, 115]⟩ : ByteArray)] : List ByteArray).getD a1.toNat ByteArray.empty)
  else none
noncomputable def run : List Lf → (Res → Option Res) → Option Res
  | [.i a1], K => g a1 (fun r1 => K (m r1))
  | _, _ => none
noncomputable def a (a1 : Int) : St := argSt [one (.int .i64 a1)] [] []
noncomputable def con : FuncId × St × (List Lf → (Res → Option Res) → Option Res) := (10, a 0, run)
theorem cx (K : Res → Option Res) : CtxOk Go.Proofs.Try.prog Γ0 byt0 eqs0 (X K) os := ⟨rfl, rfl, rfl, (fun p hp => by
  rcases List.mem_cons.1 hp with rfl | hp
  · exact impl_within.ok
  cases hp), rfl, rfl, rfl, rfl⟩
theorem tie (K : Res → Option Res) (a1 : Int) : exec (X K) c (entry 15 [one (.int .i64 a1)] [] []) (endK (X K)) = g a1 (fun r1 => K (m r1)) := by kernel_rfl
theorem runv {l : List Lf} {K : Res → Option Res} {r : Res} (h : run l K = some r) : ∃ a1, l = [.i a1] ∧ g a1 (fun r1 => K (m r1)) = some r := by
  unfold run at h; split at h
  · exact ⟨_, rfl, h⟩
  · cases h
theorem ok : Con Go.Proofs.Try.prog con := con_of (fn := Go.Proofs.Try.f10) (c := c) (Fi := fi) (X := X) (fun_of laid (by kernel_rfl) (by kernel_rfl) (by kernel_rfl) rfl (by kernel_rfl) (by kernel_rfl) cx (fun _ => rfl) (fun _ => rfl) (fun K => by
    rw [show loopsOf c = [] from by kernel_rfl]; intro p hp
    cases hp)) fun xs rows boxes K r hl hr => by
  obtain ⟨a1, e, h⟩ := runv hr
  have := St.like_eq (y := a a1) hl (by kernel_rfl) e
  obtain ⟨rfl, rfl, rfl⟩ := argSt_inj this
  exact (tie K a1).trans h
end impl_CodeText
namespace spec_l1In
noncomputable def c : Code := bodyOf Go.Proofs.Try.f33
noncomputable def fi : Fin := ⟨Γ0, [(.tmp 6, 4)], [[1]], [], [], []⟩
noncomputable def m (r1 : Bool) : Res := ⟨[⟨false, [.bool r1]⟩], [], [], [], []⟩
noncomputable def os : List (FuncId × St × (List Lf → (Res → Option Res) → Option Res)) := []
noncomputable def X (K : Res → Option Res) : Ctx := { Γ := Γ0, orc := orcOf os, io := [], share := [], mvl := [], bun := [], cut := [], own := [], cin := [], cout := [], lp := lpOf [], kl := [], nk := true, eqs := eqs0, byt := byt0, fin := finK fi K }
noncomputable def g (a1 a2 a3 : Int) (R : Bool → Option Res) : Option Res :=
  bif decide (a2 ≤ a1) then R (decide (a1 ≤ a3))
  else R false
noncomputable def run : List Lf → (Res → Option Res) → Option Res
  | [.i a1, .i a2, .i a3], K => g a1 a2 a3 (fun r1 => K (m r1))
  | _, _ => none
noncomputable def a (a1 a2 a3 : Int) : St := argSt [one (.int .i64 a1), one (.int .i64 a2), one (.int .i64 a3)] [] []
noncomputable def con : FuncId × St × (List Lf → (Res → Option Res) → Option Res) := (33, a 0 0 0, run)
theorem cx (K : Res → Option Res) : CtxOk Go.Proofs.Try.prog Γ0 byt0 eqs0 (X K) os := ⟨rfl, rfl, rfl, (fun p hp => by
  cases hp), rfl, rfl, rfl, rfl⟩
theorem tie (K : Res → Option Res) (a1 a2 a3 : Int) : exec (X K) c (entry 15 [one (.int .i64 a1), one (.int .i64 a2), one (.int .i64 a3)] [] []) (endK (X K)) = g a1 a2 a3 (fun r1 => K (m r1)) := by kernel_rfl
theorem runv {l : List Lf} {K : Res → Option Res} {r : Res} (h : run l K = some r) : ∃ a1 a2 a3, l = [.i a1, .i a2, .i a3] ∧ g a1 a2 a3 (fun r1 => K (m r1)) = some r := by
  unfold run at h; split at h
  · exact ⟨_, _, _, rfl, h⟩
  · cases h
theorem ok : Con Go.Proofs.Try.prog con := con_of (fn := Go.Proofs.Try.f33) (c := c) (Fi := fi) (X := X) (fun_of laid (by kernel_rfl) (by kernel_rfl) (by kernel_rfl) rfl (by kernel_rfl) (by kernel_rfl) cx (fun _ => rfl) (fun _ => rfl) (fun K => by
    rw [show loopsOf c = [] from by kernel_rfl]; intro p hp
    cases hp)) fun xs rows boxes K r hl hr => by
  obtain ⟨a1, a2, a3, e, h⟩ := runv hr
  have := St.like_eq (y := a a1 a2 a3) hl (by kernel_rfl) e
  obtain ⟨rfl, rfl, rfl⟩ := argSt_inj this
  exact (tie K a1 a2 a3).trans h
end spec_l1In
namespace spec_CodeText
noncomputable def c : Code := bodyOf Go.Proofs.Try.f9
noncomputable def fi : Fin := ⟨Γ0, [(.tmp 2, 9)], [[1]], [], [], []⟩
noncomputable def m (r1 : ByteArray) : Res := ⟨[⟨false, [.str r1]⟩], [], [], [], []⟩
noncomputable def os : List (FuncId × St × (List Lf → (Res → Option Res) → Option Res)) := [spec_l1In.con]
noncomputable def X (K : Res → Option Res) : Ctx := { Γ := Γ0, orc := orcOf os, io := [], share := [], mvl := [], bun := [], cut := [], own := [], cin := [], cout := [], lp := lpOf [], kl := [], nk := true, eqs := eqs0, byt := byt0, fin := finK fi K }
noncomputable def g (a1 : Int) (R : ByteArray → Option Res) : Option Res :=
  spec_l1In.g a1 0 10 fun r2 =>
  bif !r2 then R (⟨#[98, 97, 100]⟩ : ByteArray)
  else bif decide (0 ≤ a1) && decide (a1 < 11) then R (([(⟨#[111, 107]⟩ : ByteArray), (⟨#[98, 97, 100]⟩ : ByteArray), (⟨#[100, 111, 109, 97, 105, 110]⟩ : ByteArray), (⟨#[108, 101, 110, 103, 116, 104]⟩ : ByteArray), (⟨#[114, 97, 110, 107]⟩ : ByteArray), (⟨#[105, 110, 100, 101, 120]⟩ : ByteArray), (⟨#[108, 105, 109, 105, 116]⟩ : ByteArray), (⟨#[118, 97, 108, 117, 101]⟩ : ByteArray), (⟨#[115, 121, 110, 116, 97, 120]⟩ : ByteArray), (⟨#[102, 117, 108, 108]⟩ : ByteArray), (⟨#[115, 116, 101, 112, 115]⟩ : ByteArray)] : List ByteArray).getD a1.toNat ByteArray.empty)
  else none
noncomputable def run : List Lf → (Res → Option Res) → Option Res
  | [.i a1], K => g a1 (fun r1 => K (m r1))
  | _, _ => none
noncomputable def a (a1 : Int) : St := argSt [one (.int .i64 a1)] [] []
noncomputable def con : FuncId × St × (List Lf → (Res → Option Res) → Option Res) := (9, a 0, run)
theorem cx (K : Res → Option Res) : CtxOk Go.Proofs.Try.prog Γ0 byt0 eqs0 (X K) os := ⟨rfl, rfl, rfl, (fun p hp => by
  rcases List.mem_cons.1 hp with rfl | hp
  · exact spec_l1In.ok
  cases hp), rfl, rfl, rfl, rfl⟩
theorem tie (K : Res → Option Res) (a1 : Int) : exec (X K) c (entry 10 [one (.int .i64 a1)] [] []) (endK (X K)) = g a1 (fun r1 => K (m r1)) := by kernel_rfl
theorem runv {l : List Lf} {K : Res → Option Res} {r : Res} (h : run l K = some r) : ∃ a1, l = [.i a1] ∧ g a1 (fun r1 => K (m r1)) = some r := by
  unfold run at h; split at h
  · exact ⟨_, rfl, h⟩
  · cases h
theorem ok : Con Go.Proofs.Try.prog con := con_of (fn := Go.Proofs.Try.f9) (c := c) (Fi := fi) (X := X) (fun_of laid (by kernel_rfl) (by kernel_rfl) (by kernel_rfl) rfl (by kernel_rfl) (by kernel_rfl) cx (fun _ => rfl) (fun _ => rfl) (fun K => by
    rw [show loopsOf c = [] from by kernel_rfl]; intro p hp
    cases hp)) fun xs rows boxes K r hl hr => by
  obtain ⟨a1, e, h⟩ := runv hr
  have := St.like_eq (y := a a1) hl (by kernel_rfl) e
  obtain ⟨rfl, rfl, rfl⟩ := argSt_inj this
  exact (tie K a1).trans h
end spec_CodeText
namespace laws_FnCodeText_i2
noncomputable def c : Code := bodyOf Go.Proofs.Try.f4
noncomputable def fi : Fin := ⟨Γ0, [(.tmp 2, 4)], [[1]], [], [], []⟩
noncomputable def m (r1 : Bool) : Res := ⟨[⟨false, [.bool r1]⟩], [], [], [], []⟩
noncomputable def b0 : Code := codeAt c [1, 1, 1, 1, 1, 0, 1, 0, 0]
noncomputable def s0 (x6 : Int) (x7 : ByteArray) (x8 : Int) : St := ⟨mkT 51 [(3, one (.int .i64 x6)), (4, one (.str x7)), (5, one (.int .i64 x8))], [], []⟩
noncomputable def l0s (x6 : Int) (x7 : ByteArray) (rec : Int → Option Res) (k : Option Res) (R : Bool → Option Res) (x8 : Int) : Option Res :=
  bif decide (x8 ≤ 10) then (bif (x8 != x6) then (bif decide (0 ≤ x6) then (bif decide (x6 ≤ 10) then (impl_CodeText.g x8 fun r9 =>
          bif (r9.toList == x7.toList) then R false
          else rec (IntKind.i64.wrap (x8 + 1)))
        else rec (IntKind.i64.wrap (x8 + 1)))
      else rec (IntKind.i64.wrap (x8 + 1)))
    else rec (IntKind.i64.wrap (x8 + 1)))
  else k
noncomputable def l0 (x6 : Int) (x7 : ByteArray) (k : Option Res) (R : Bool → Option Res) : Nat → Int → Option Res
  | 0, _ => none
  | n + 1, x8 => l0s x6 x7 (fun x8 => l0 x6 x7 k R n x8) k R x8
noncomputable def o0 (x6 : Int) (x7 : ByteArray) : St := ⟨mkT 51 [(3, one (.int .i64 x6)), (4, one (.str x7))], [], []⟩
noncomputable def p0 (K : Res → Option Res) : List Lf → (St → Option Res) → Option Res
  | [.i x6, .s x7, .i x8], k => l0 x6 x7 (k (o0 x6 x7)) (fun r1 => K (m r1)) fuel x8
  | _, _ => none
noncomputable def os : List (FuncId × St × (List Lf → (Res → Option Res) → Option Res)) := [laws_big.con, spec_DrawCodeText_i2.con, impl_CodeText.con, spec_CodeText.con]
noncomputable def X (K : Res → Option Res) : Ctx := { Γ := Γ0, orc := orcOf os, io := [(12, [⟨false, 2, 1⟩])], share := [], mvl := [], bun := [], cut := [], own := [], cin := [(0, ⟨[3, 4, 5], [], [], [], [], []⟩)], cout := [(0, ⟨[3, 4], [], [], [], [], []⟩)], lp := lpOf [(0, s0 0 ByteArray.empty 0, p0 K)], kl := [], nk := true, eqs := eqs0, byt := byt0, fin := finK fi K }
noncomputable def g (a1 : List Int) (R : Bool → Option Res) : Option Res :=
  laws_big.g a1 fun r2 =>
  bif r2 then R true
  else (spec_DrawCodeText_i2.g a1 fun r3 =>
  impl_CodeText.g r3 fun r4 =>
  spec_CodeText.g r3 fun r5 =>
  bif !(r4.toList == r5.toList) then R false
  else bif (r4.toList == (⟨#[]⟩ : ByteArray).toList) then R false
  else (l0 r3 r4 (
  bif decide (0 ≤ r3) then (bif decide (r3 ≤ 10) then R true
    else R (r4.toList == (⟨#[98, 97, 100]⟩ : ByteArray).toList))
  else R (r4.toList == (⟨#[98, 97, 100]⟩ : ByteArray).toList)) R fuel 0))
noncomputable def run : List Lf → (Res → Option Res) → Option Res
  | [.q (.ints a1)], K => g a1 (fun r1 => K (m r1))
  | _, _ => none
noncomputable def a (a1 : List Int) : St := argSt [one (.tr 2 1 [.int .u8] (.ints a1))] [] []
noncomputable def con : FuncId × St × (List Lf → (Res → Option Res) → Option Res) := (4, a [], run)
theorem cx (K : Res → Option Res) : CtxOk Go.Proofs.Try.prog Γ0 byt0 eqs0 (X K) os := ⟨rfl, rfl, rfl, (fun p hp => by
  rcases List.mem_cons.1 hp with rfl | hp
  · exact laws_big.ok
  rcases List.mem_cons.1 hp with rfl | hp
  · exact spec_DrawCodeText_i2.ok
  rcases List.mem_cons.1 hp with rfl | hp
  · exact impl_CodeText.ok
  rcases List.mem_cons.1 hp with rfl | hp
  · exact spec_CodeText.ok
  cases hp), rfl, rfl, rfl, rfl⟩
theorem t0 (K : Res → Option Res) (k : St → Option Res) (it : St → (St → Option Res) → Option Res) (x6 : Int) (x7 : ByteArray) (x8 : Int) : iterS (X K) 0 b0 it (s0 x6 x7 x8) k = l0s x6 x7 (fun x8 => it (s0 x6 x7 x8) k) (k (o0 x6 x7)) (fun r1 => K (m r1)) x8 := by kernel_rfl
theorem i0 (K : Res → Option Res) (k : St → Option Res) (x6 : Int) (x7 : ByteArray) : ∀ (n : Nat) (x8 : Int), iter (X K) 0 b0 n (s0 x6 x7 x8) k = l0 x6 x7 (k (o0 x6 x7)) (fun r1 => K (m r1)) n x8
  | 0, _ => rfl
  | n + 1, x8 => by
    rw [iter_succ, t0, show (fun x8 => iter (X K) 0 b0 n (s0 x6 x7 x8) k) = (fun x8 => l0 x6 x7 (k (o0 x6 x7)) (fun r1 => K (m r1)) n x8) from funext fun x8 => i0 K k x6 x7 n x8]; rfl
theorem v0 {K : Res → Option Res} {l : List Lf} {k : St → Option Res} {r : Res} (h : p0 K l k = some r) : ∃ x6 x7 x8, l = [.i x6, .s x7, .i x8] ∧ l0 x6 x7 (k (o0 x6 x7)) (fun r1 => K (m r1)) fuel x8 = some r := by
  unfold p0 at h; split at h
  · exact ⟨_, _, _, rfl, h⟩
  · cases h
theorem w0 (K : Res → Option Res) : LpSound Go.Proofs.Try.prog (X K) 0 b0 := lp_ok ((cx K).ok laid) (by rw [show loopsOf b0 = [] from by kernel_rfl]; intro p hp; cases hp) rfl fun p hp hid => by
  rcases List.mem_cons.1 hp with rfl | hp
  · intro st k r h1 h2; obtain ⟨x6, x7, x8, e, h⟩ := v0 (K := K) h2; have := St.like_eq (y := s0 x6 x7 x8) h1 (by kernel_rfl) e; subst this; exact ⟨fuel, (i0 K k x6 x7 fuel x8).trans h⟩
  cases hp
theorem tie (K : Res → Option Res) (a1 : List Int) : exec (X K) c (entry 51 [one (.tr 2 1 [.int .u8] (.ints a1))] [] []) (endK (X K)) = g a1 (fun r1 => K (m r1)) := by kernel_rfl
theorem runv {l : List Lf} {K : Res → Option Res} {r : Res} (h : run l K = some r) : ∃ a1, l = [.q (.ints a1)] ∧ g a1 (fun r1 => K (m r1)) = some r := by
  unfold run at h; split at h
  · exact ⟨_, rfl, h⟩
  · cases h
theorem ok : Con Go.Proofs.Try.prog con := con_of (fn := Go.Proofs.Try.f4) (c := c) (Fi := fi) (X := X) (fun_of laid (by kernel_rfl) (by kernel_rfl) (by kernel_rfl) rfl (by kernel_rfl) (by kernel_rfl) cx (fun _ => rfl) (fun _ => rfl) (fun K => by
    rw [show loopsOf c = [(0, b0)] from by kernel_rfl]; intro p hp
    rcases List.mem_cons.1 hp with rfl | hp
    · exact w0 K
    cases hp)) fun xs rows boxes K r hl hr => by
  obtain ⟨a1, e, h⟩ := runv hr
  have := St.like_eq (y := a a1) hl (by kernel_rfl) e
  obtain ⟨rfl, rfl, rfl⟩ := argSt_inj this
  exact (tie K a1).trans h
end laws_FnCodeText_i2
end Go.Tv.F
