/- The law's functions, printed by a program of ours, each with its contract. They hold without condition. -/
import Derived.Test.YtdejjcgikcfgjaaDoorProg
import Derived.Test.YtdejjcgikcfgjaaDoorTokensShelf
import Derived.Test.YtdejjcgikcfgjaaDoorTvC
set_option linter.unusedVariables false
set_option linter.unusedSectionVars false
set_option linter.unusedSimpArgs false
set_option linter.unnecessarySimpa false
set_option maxRecDepth 100000
set_option autoImplicit false
namespace Go.Tv.F
open Go Go.Tv
instance envI : Env := envTab Go.Proofs.Tryd.prog
noncomputable def Γ0 : List (Nat × TI) := [(3, ⟨false, [.int .i64], []⟩),
 (4, ⟨false, [.bool], []⟩),
 (5, ⟨false, [.int .u8], []⟩),
 (9, ⟨false, [.str], []⟩),
 (22, ⟨false, [.sl [.int .u8] 1], []⟩),
 (24, ⟨false, [.sl [.int .i64, .int .i64] 16], []⟩),
 (27, ⟨false, [.fn], []⟩),
 (29, ⟨true, [.int .i64, .int .i64], [(0, 1, false), (1, 1, false)]⟩),
 (34, ⟨false, [.sl [.int .i64, .int .i64, .int .i64, .int .i64, .int .i64, .int .i64, .ints .i64] 72], []⟩),
 (36, ⟨true, [.sl [.int .i64, .int .i64, .int .i64, .int .i64, .int .i64, .int .i64, .ints .i64] 72], [(0, 1, false)]⟩),
 (39, ⟨false, [.sl [.int .i64, .int .i64, .int .i64, .int .i64, .int .i64, .int .i64, .ints .i64] 72], []⟩),
 (41, ⟨true, [.sl [.int .i64, .int .i64, .int .i64, .int .i64, .int .i64, .int .i64, .ints .i64] 72], [(0, 1, false)]⟩),
 (45, ⟨false, [.ptr], []⟩),
 (50, ⟨false, [.sl [.str] 16], []⟩),
 (53, ⟨false, [.fn], []⟩),
 (67, ⟨true, [.sl [.int .u8] 1, .int .i64, .int .i64], [(0, 1, false), (1, 1, false), (2, 1, false)]⟩),
 (86, ⟨true, [.int .i64, .int .i64, .int .i64], [(0, 1, false), (1, 1, false), (2, 1, false)]⟩),
 (87, ⟨false, [.sl [.int .i64] 8], []⟩),
 (89, ⟨true, [.int .i64, .int .i64, .int .i64, .int .i64, .int .i64, .int .i64, .sl [.int .i64] 8], [(0, 1, false), (1, 1, false), (2, 1, false), (3, 3, true), (6, 1, false)]⟩),
 (92, ⟨true, [.int .i64, .int .i64, .int .i64], [(0, 1, false), (1, 1, false), (2, 1, false)]⟩),
 (94, ⟨true, [.int .i64, .int .i64, .int .i64, .int .i64, .int .i64, .int .i64, .sl [.int .i64] 8], [(0, 1, false), (1, 1, false), (2, 1, false), (3, 3, true), (6, 1, false)]⟩),
 (98, ⟨false, [.fn], []⟩)]
noncomputable def byt0 : List TypeId := [22]
noncomputable def eqs0 : List TypeId := [29, 86, 92]
theorem laid : Laid Go.Proofs.Tryd.prog Γ0 byt0 eqs0 := ⟨by kernel_rfl, by kernel_rfl, by kernel_rfl, by kernel_rfl⟩
namespace laws_big
noncomputable def c : Code := bodyOf Go.Proofs.Tryd.f5
noncomputable def fi : Fin := ⟨Γ0, [(.tmp 2, 4)], [[1]], [], [], []⟩
noncomputable def m (r1 : Bool) : Res := ⟨[⟨false, [.bool r1]⟩], [], [], [], []⟩
noncomputable def os : List (FuncId × St × (List Lf → (Res → Option Res) → Option Res)) := []
noncomputable def X (K : Res → Option Res) : Ctx := { Γ := Γ0, orc := orcOf os, io := [], share := [], mvl := [], bun := [], cut := [], own := [], cin := [], cout := [], lp := lpOf [], kl := [], nk := true, eqs := eqs0, byt := byt0, fin := finK fi K }
noncomputable def b (a1 : List Int) (R : Bool → Option Res) : Option Res :=
 R (decide (1048576 < (a1.length : Int)))
theorem gx : ∃ x : List Int → (Bool → Option Res) → Option Res, x = b := ⟨_, rfl⟩
noncomputable def g : List Int → (Bool → Option Res) → Option Res := Classical.choose gx
theorem e : g = b := Classical.choose_spec gx
noncomputable def run : List Lf → (Res → Option Res) → Option Res
 | [.q (.ints a1)], K => g a1 (fun r1 => K (m r1))
 | _, _ => none
noncomputable def a (a1 : List Int) : St := argSt [one (.tr 0 1 [.int .u8] (.ints a1))] [] []
noncomputable def con : FuncId × St × (List Lf → (Res → Option Res) → Option Res) := (5, a [], run)
theorem cx (K : Res → Option Res) : CtxOk Go.Proofs.Tryd.prog Γ0 byt0 eqs0 (X K) os := ⟨rfl, rfl, rfl, (fun p hp => by
 cases hp), rfl, rfl, rfl, rfl⟩
theorem tie (K : Res → Option Res) (a1 : List Int) : exec (X K) c (entry 6 [one (.tr 0 1 [.int .u8] (.ints a1))] [] []) (endK (X K)) = g a1 (fun r1 => K (m r1)) := Eq.trans (b := b a1 (fun r1 => K (m r1))) (by kernel_rfl) (by rw [e])
theorem runv {l : List Lf} {K : Res → Option Res} {r : Res} (h : run l K = some r) : ∃ a1, l = [.q (.ints a1)] ∧ g a1 (fun r1 => K (m r1)) = some r := by
 unfold run at h; split at h
 ·exact ⟨_, rfl, h⟩
 ·cases h
theorem ok : Con Go.Proofs.Tryd.prog con := con_of (fn := Go.Proofs.Tryd.f5) (c := c) (Fi := fi) (X := X) (fun_of laid (by kernel_rfl) (by kernel_rfl) (by kernel_rfl) rfl (by kernel_rfl) (by kernel_rfl) cx (fun _ => rfl) (fun _ => rfl) (fun K => by
 rw [show loopsOf c = [] from by kernel_rfl]; intro p hp
 cases hp)) fun xs rows boxes K r hl hr => by
 obtain ⟨a1, e, h⟩ := runv hr
 have := St.like_eq (y := a a1) hl (by kernel_rfl) e
 obtain ⟨rfl, rfl, rfl⟩ := argSt_inj this
 exact (tie K a1).trans h
end laws_big
namespace spec_l1New
noncomputable def c : Code := bodyOf Go.Proofs.Tryd.f19
noncomputable def fi : Fin := ⟨Γ0, [(.tmp 2, 45)], [[1]], [], [], [(2, [.sl [.int .u8] 1, .int .i64, .int .i64], [0, 1, 1])]⟩
noncomputable def m (r1 : List Int) (r2 r3 : Int) : Res := ⟨[⟨false, [.bp 1000 0]⟩], [], [], [], [[.tr 2 2 [.int .u8] (.ints r1), .int .i64 r2, .int .i64 r3]]⟩
noncomputable def b0 : Code := codeAt c [1, 1, 0, 1, 0, 0]
noncomputable def s0 (x2 : List Int) (x3 x4 : Int) : St := ⟨mkT 32 [(0, one (.tr 2 1 [.int .u8] (.ints x2))), (3, one (.int .i64 x3)), (4, one (.int .i64 x4))], [], []⟩
noncomputable def l0s (x2 : List Int) (rec : Int → Int → Option Res) (k : Int → Option Res) (x3 x4 : Int) : Option Res :=
 bif decide (x4 < (x2.length : Int)) then (bif decide (x4 < 4000) then (bif decide (0 ≤ x4) && decide (x4 < (x2.length : Int)) then rec (arith.bits .and .i64 (IntKind.i64.wrap ((IntKind.i64.wrap ((IntKind.i64.wrap (x3 * 131)) + (IntKind.i64.wrap (x2.getD x4.toNat 0)))) + 7)) 1073741823) (IntKind.i64.wrap (x4 + 1))
  else none)
  else k x3)
 else k x3
noncomputable def l0 (x2 : List Int) (k : Int → Option Res) : Nat → Int → Int → Option Res
 | 0, _, _ => none
 | n + 1, x3, x4 => l0s x2 (fun x3 x4 => l0 x2 k n x3 x4) k x3 x4
noncomputable def o0 (x2 : List Int) (y2 : Int) : St := ⟨mkT 32 [(0, one (.tr 2 1 [.int .u8] (.ints x2))), (3, one (.int .i64 y2))], [], []⟩
noncomputable def p0 (K : Res → Option Res) : List Lf → (St → Option Res) → Option Res
 | [.q (.ints x2), .i x3, .i x4], k => l0 x2 (fun y2 => k (o0 x2 y2)) fuel x3 x4
 | _, _ => none
noncomputable def os : List (FuncId × St × (List Lf → (Res → Option Res) → Option Res)) := []
noncomputable def X (K : Res → Option Res) : Ctx := { Γ := Γ0, orc := orcOf os, io := [], share := [], mvl := [], bun := [], cut := [], own := [], cin := [(0, ⟨[0, 3, 4], [], [], [], [], []⟩)], cout := [(0, ⟨[0, 3], [], [], [], [], []⟩)], lp := lpOf [(0, s0 [] 0 0, p0 K)], kl := [], nk := true, eqs := eqs0, byt := byt0, fin := finK fi K }
noncomputable def b (a1 : List Int) (R : List Int → Int → Int → Option Res) : Option Res :=
 l0 a1 (fun y5 =>
 R a1 0 y5) fuel (IntKind.i64.wrap (18218 + (a1.length : Int))) 0
theorem gx : ∃ x : List Int → (List Int → Int → Int → Option Res) → Option Res, x = b := ⟨_, rfl⟩
noncomputable def g : List Int → (List Int → Int → Int → Option Res) → Option Res := Classical.choose gx
theorem e : g = b := Classical.choose_spec gx
noncomputable def run : List Lf → (Res → Option Res) → Option Res
 | [.q (.ints a1)], K => g a1 (fun r1 r2 r3 => K (m r1 r2 r3))
 | _, _ => none
noncomputable def a (a1 : List Int) : St := argSt [one (.tr 2 1 [.int .u8] (.ints a1))] [] []
noncomputable def con : FuncId × St × (List Lf → (Res → Option Res) → Option Res) := (19, a [], run)
theorem cx (K : Res → Option Res) : CtxOk Go.Proofs.Tryd.prog Γ0 byt0 eqs0 (X K) os := ⟨rfl, rfl, rfl, (fun p hp => by
 cases hp), rfl, rfl, rfl, rfl⟩
theorem t0 (K : Res → Option Res) (k : St → Option Res) (it : St → (St → Option Res) → Option Res) (x2 : List Int) (x3 x4 : Int) : iterS (X K) 0 b0 it (s0 x2 x3 x4) k = l0s x2 (fun x3 x4 => it (s0 x2 x3 x4) k) (fun y2 => k (o0 x2 y2)) x3 x4 := by kernel_rfl
theorem i0 (K : Res → Option Res) (k : St → Option Res) (x2 : List Int) : ∀ (n : Nat) (x3 x4 : Int), iter (X K) 0 b0 n (s0 x2 x3 x4) k = l0 x2 (fun y2 => k (o0 x2 y2)) n x3 x4
 | 0, _, _ => rfl
 | n + 1, x3, x4 => by
  rw [iter_succ, t0, show (fun x3 x4 => iter (X K) 0 b0 n (s0 x2 x3 x4) k) = (fun x3 x4 => l0 x2 (fun y2 => k (o0 x2 y2)) n x3 x4) from funext fun x3 => funext fun x4 => i0 K k x2 n x3 x4]; rfl
theorem v0 {K : Res → Option Res} {l : List Lf} {k : St → Option Res} {r : Res} (h : p0 K l k = some r) : ∃ x2 x3 x4, l = [.q (.ints x2), .i x3, .i x4] ∧ l0 x2 (fun y2 => k (o0 x2 y2)) fuel x3 x4 = some r := by
 unfold p0 at h; split at h
 ·exact ⟨_, _, _, rfl, h⟩
 ·cases h
theorem w0 (K : Res → Option Res) : LpSound Go.Proofs.Tryd.prog (X K) 0 b0 := lp_ok ((cx K).ok laid) (by rw [show loopsOf b0 = [] from by kernel_rfl]; intro p hp; cases hp) rfl fun p hp hid => by
 rcases List.mem_cons.1 hp with rfl | hp
 ·intro st k r h1 h2; obtain ⟨x2, x3, x4, e, h⟩ := v0 (K := K) h2; have := St.like_eq (y := s0 x2 x3 x4) h1 (by kernel_rfl) e; subst this; exact ⟨fuel, (i0 K k x2 fuel x3 x4).trans h⟩
 cases hp
theorem tie (K : Res → Option Res) (a1 : List Int) : exec (X K) c (entry 32 [one (.tr 2 1 [.int .u8] (.ints a1))] [] []) (endK (X K)) = g a1 (fun r1 r2 r3 => K (m r1 r2 r3)) := Eq.trans (b := b a1 (fun r1 r2 r3 => K (m r1 r2 r3))) (by kernel_rfl) (by rw [e])
theorem runv {l : List Lf} {K : Res → Option Res} {r : Res} (h : run l K = some r) : ∃ a1, l = [.q (.ints a1)] ∧ g a1 (fun r1 r2 r3 => K (m r1 r2 r3)) = some r := by
 unfold run at h; split at h
 ·exact ⟨_, rfl, h⟩
 ·cases h
theorem ok : Con Go.Proofs.Tryd.prog con := con_of (fn := Go.Proofs.Tryd.f19) (c := c) (Fi := fi) (X := X) (fun_of laid (by kernel_rfl) (by kernel_rfl) (by kernel_rfl) rfl (by kernel_rfl) (by kernel_rfl) cx (fun _ => rfl) (fun _ => rfl) (fun K => by
 rw [show loopsOf c = [(0, b0)] from by kernel_rfl]; intro p hp
 rcases List.mem_cons.1 hp with rfl | hp
 ·exact w0 K
 cases hp)) fun xs rows boxes K r hl hr => by
 obtain ⟨a1, e, h⟩ := runv hr
 have := St.like_eq (y := a a1) hl (by kernel_rfl) e
 obtain ⟨rfl, rfl, rfl⟩ := argSt_inj this
 exact (tie K a1).trans h
end spec_l1New
namespace spec_l1Byte
noncomputable def c : Code := bodyOf Go.Proofs.Tryd.f45
noncomputable def fi : Fin := ⟨Γ0, [(.tmp 2, 3)], [[1]], [], [([.sl [.int .u8] 1, .int .i64, .int .i64], [0, 1, 1])], []⟩
noncomputable def m (a1 : List Int) (r1 r3 r4 : Int) : Res := ⟨[⟨false, [.int .i64 r1]⟩], [], [], [[.tr 2 2 [.int .u8] (.ints a1), .int .i64 r3, .int .i64 r4]], []⟩
noncomputable def os : List (FuncId × St × (List Lf → (Res → Option Res) → Option Res)) := []
noncomputable def X (K : Res → Option Res) : Ctx := { Γ := Γ0, orc := orcOf os, io := [], share := [], mvl := [], bun := [], cut := [], own := [], cin := [], cout := [], lp := lpOf [], kl := [], nk := true, eqs := eqs0, byt := byt0, fin := finK fi K }
noncomputable def b (a1 : List Int) (a2 a3 : Int) (R : Int → Int → Int → Option Res) : Option Res :=
 bif decide (a2 < (a1.length : Int)) then (bif decide (0 ≤ a2) && decide (a2 < (a1.length : Int)) then R (arith.bits .and .i64 (IntKind.i64.wrap ((arith.bits .and .i64 (arith.bits .xor .i64 ((IntKind.i64.wrap ((IntKind.i64.wrap (a3 * 6364136223846793005)) + 1442695040888963407)).fdiv (2 ^ 33)) ((IntKind.i64.wrap ((IntKind.i64.wrap (a3 * 6364136223846793005)) + 1442695040888963407)).fdiv (2 ^ 45))) 255) + (IntKind.i64.wrap (a1.getD a2.toNat 0)))) 255) (IntKind.i64.wrap (a2 + 1)) (IntKind.i64.wrap ((IntKind.i64.wrap (a3 * 6364136223846793005)) + 1442695040888963407))
  else none)
 else R (arith.bits .and .i64 (arith.bits .xor .i64 ((IntKind.i64.wrap ((IntKind.i64.wrap (a3 * 6364136223846793005)) + 1442695040888963407)).fdiv (2 ^ 33)) ((IntKind.i64.wrap ((IntKind.i64.wrap (a3 * 6364136223846793005)) + 1442695040888963407)).fdiv (2 ^ 45))) 255) a2 (IntKind.i64.wrap ((IntKind.i64.wrap (a3 * 6364136223846793005)) + 1442695040888963407))
theorem gx : ∃ x : List Int → Int → Int → (Int → Int → Int → Option Res) → Option Res, x = b := ⟨_, rfl⟩
noncomputable def g : List Int → Int → Int → (Int → Int → Int → Option Res) → Option Res := Classical.choose gx
theorem e : g = b := Classical.choose_spec gx
noncomputable def run : List Lf → (Res → Option Res) → Option Res
 | [.q (.ints a1), .i a2, .i a3], K => g a1 a2 a3 (fun r1 r3 r4 => K (m a1 r1 r3 r4))
 | _, _ => none
noncomputable def a (a1 : List Int) (a2 a3 : Int) : St := argSt [one (.bp 0 0)] [] [[.tr 2 2 [.int .u8] (.ints a1), .int .i64 a2, .int .i64 a3]]
noncomputable def con : FuncId × St × (List Lf → (Res → Option Res) → Option Res) := (45, a [] 0 0, run)
theorem cx (K : Res → Option Res) : CtxOk Go.Proofs.Tryd.prog Γ0 byt0 eqs0 (X K) os := ⟨rfl, rfl, rfl, (fun p hp => by
 cases hp), rfl, rfl, rfl, rfl⟩
theorem tie (K : Res → Option Res) (a1 : List Int) (a2 a3 : Int) : exec (X K) c (entry 58 [one (.bp 0 0)] [] [[.tr 2 2 [.int .u8] (.ints a1), .int .i64 a2, .int .i64 a3]]) (endK (X K)) = g a1 a2 a3 (fun r1 r3 r4 => K (m a1 r1 r3 r4)) := Eq.trans (b := b a1 a2 a3 (fun r1 r3 r4 => K (m a1 r1 r3 r4))) (by kernel_rfl) (by rw [e])
theorem runv {l : List Lf} {K : Res → Option Res} {r : Res} (h : run l K = some r) : ∃ a1 a2 a3, l = [.q (.ints a1), .i a2, .i a3] ∧ g a1 a2 a3 (fun r1 r3 r4 => K (m a1 r1 r3 r4)) = some r := by
 unfold run at h; split at h
 ·exact ⟨_, _, _, rfl, h⟩
 ·cases h
theorem ok : Con Go.Proofs.Tryd.prog con := con_of (fn := Go.Proofs.Tryd.f45) (c := c) (Fi := fi) (X := X) (fun_of laid (by kernel_rfl) (by kernel_rfl) (by kernel_rfl) rfl (by kernel_rfl) (by kernel_rfl) cx (fun _ => rfl) (fun _ => rfl) (fun K => by
 rw [show loopsOf c = [] from by kernel_rfl]; intro p hp
 cases hp)) fun xs rows boxes K r hl hr => by
 obtain ⟨a1, a2, a3, e, h⟩ := runv hr
 have := St.like_eq (y := a a1 a2 a3) hl (by kernel_rfl) e
 obtain ⟨rfl, rfl, rfl⟩ := argSt_inj this
 exact (tie K a1 a2 a3).trans h
end spec_l1Byte
namespace spec_l1Below
noncomputable def c : Code := bodyOf Go.Proofs.Tryd.f21
noncomputable def fi : Fin := ⟨Γ0, [(.tmp 4, 3)], [[1]], [], [([.sl [.int .u8] 1, .int .i64, .int .i64], [0, 1, 1])], []⟩
noncomputable def m (a2 : List Int) (r1 r3 r4 : Int) : Res := ⟨[⟨false, [.int .i64 r1]⟩], [], [], [[.tr 2 2 [.int .u8] (.ints a2), .int .i64 r3, .int .i64 r4]], []⟩
noncomputable def os : List (FuncId × St × (List Lf → (Res → Option Res) → Option Res)) := [spec_l1Byte.con]
noncomputable def X (K : Res → Option Res) : Ctx := { Γ := Γ0, orc := orcOf os, io := [], share := [], mvl := [], bun := [], cut := [], own := [], cin := [], cout := [], lp := lpOf [], kl := [], nk := true, eqs := eqs0, byt := byt0, fin := finK fi K }
noncomputable def b (a1 : Int) (a2 : List Int) (a3 a4 : Int) (R : Int → Int → Int → Option Res) : Option Res :=
 bif decide (a1 ≤ 0) then R 0 a3 a4
 else bif decide (a1 ≤ 256) then (spec_l1Byte.g a2 a3 a4 fun r5 r6 r7 =>
  bif decide (a1 = 0) then none
  else R (r5.tmod a1) r6 r7)
 else (spec_l1Byte.g a2 a3 a4 fun r8 r9 r10 =>
 spec_l1Byte.g a2 r9 r10 fun r11 r12 r13 =>
 spec_l1Byte.g a2 r12 r13 fun r14 r15 r16 =>
 spec_l1Byte.g a2 r15 r16 fun r17 r18 r19 =>
 bif decide (a1 = 0) then none
 else R ((IntKind.i64.wrap ((IntKind.i64.wrap ((IntKind.i64.wrap ((IntKind.i64.wrap (r8 * 16777216)) + (IntKind.i64.wrap (r11 * 65536)))) + (IntKind.i64.wrap (r14 * 256)))) + r17)).tmod a1) r18 r19)
theorem gx : ∃ x : Int → List Int → Int → Int → (Int → Int → Int → Option Res) → Option Res, x = b := ⟨_, rfl⟩
noncomputable def g : Int → List Int → Int → Int → (Int → Int → Int → Option Res) → Option Res := Classical.choose gx
theorem e : g = b := Classical.choose_spec gx
noncomputable def run : List Lf → (Res → Option Res) → Option Res
 | [.i a1, .q (.ints a2), .i a3, .i a4], K => g a1 a2 a3 a4 (fun r1 r3 r4 => K (m a2 r1 r3 r4))
 | _, _ => none
noncomputable def a (a1 : Int) (a2 : List Int) (a3 a4 : Int) : St := argSt [one (.bp 0 0), one (.int .i64 a1)] [] [[.tr 2 2 [.int .u8] (.ints a2), .int .i64 a3, .int .i64 a4]]
noncomputable def con : FuncId × St × (List Lf → (Res → Option Res) → Option Res) := (21, a 0 [] 0 0, run)
theorem cx (K : Res → Option Res) : CtxOk Go.Proofs.Tryd.prog Γ0 byt0 eqs0 (X K) os := ⟨rfl, rfl, rfl, (fun p hp => by
 rcases List.mem_cons.1 hp with rfl | hp
 ·exact spec_l1Byte.ok
 cases hp), rfl, rfl, rfl, rfl⟩
theorem tie (K : Res → Option Res) (a1 : Int) (a2 : List Int) (a3 a4 : Int) : exec (X K) c (entry 37 [one (.bp 0 0), one (.int .i64 a1)] [] [[.tr 2 2 [.int .u8] (.ints a2), .int .i64 a3, .int .i64 a4]]) (endK (X K)) = g a1 a2 a3 a4 (fun r1 r3 r4 => K (m a2 r1 r3 r4)) := Eq.trans (b := b a1 a2 a3 a4 (fun r1 r3 r4 => K (m a2 r1 r3 r4))) (by kernel_rfl) (by rw [e])
theorem runv {l : List Lf} {K : Res → Option Res} {r : Res} (h : run l K = some r) : ∃ a1 a2 a3 a4, l = [.i a1, .q (.ints a2), .i a3, .i a4] ∧ g a1 a2 a3 a4 (fun r1 r3 r4 => K (m a2 r1 r3 r4)) = some r := by
 unfold run at h; split at h
 ·exact ⟨_, _, _, _, rfl, h⟩
 ·cases h
theorem ok : Con Go.Proofs.Tryd.prog con := con_of (fn := Go.Proofs.Tryd.f21) (c := c) (Fi := fi) (X := X) (fun_of laid (by kernel_rfl) (by kernel_rfl) (by kernel_rfl) rfl (by kernel_rfl) (by kernel_rfl) cx (fun _ => rfl) (fun _ => rfl) (fun K => by
 rw [show loopsOf c = [] from by kernel_rfl]; intro p hp
 cases hp)) fun xs rows boxes K r hl hr => by
 obtain ⟨a1, a2, a3, a4, e, h⟩ := runv hr
 have := St.like_eq (y := a a1 a2 a3 a4) hl (by kernel_rfl) e
 obtain ⟨rfl, rfl, rfl⟩ := argSt_inj this
 exact (tie K a1 a2 a3 a4).trans h
end spec_l1Below
namespace spec_l1Once
noncomputable def c : Code := bodyOf Go.Proofs.Tryd.f31
noncomputable def fi : Fin := ⟨Γ0, [(.tmp 4, 4)], [[1]], [], [([.sl [.int .u8] 1, .int .i64, .int .i64], [0, 1, 1])], []⟩
noncomputable def m (a2 : List Int) (r1 : Bool) (r3 r4 : Int) : Res := ⟨[⟨false, [.bool r1]⟩], [], [], [[.tr 2 2 [.int .u8] (.ints a2), .int .i64 r3, .int .i64 r4]], []⟩
noncomputable def os : List (FuncId × St × (List Lf → (Res → Option Res) → Option Res)) := [spec_l1Below.con]
noncomputable def X (K : Res → Option Res) : Ctx := { Γ := Γ0, orc := orcOf os, io := [], share := [], mvl := [], bun := [], cut := [], own := [], cin := [], cout := [], lp := lpOf [], kl := [], nk := true, eqs := eqs0, byt := byt0, fin := finK fi K }
noncomputable def b (a1 : Int) (a2 : List Int) (a3 a4 : Int) (R : Bool → Int → Int → Option Res) : Option Res :=
 spec_l1Below.g a1 a2 a3 a4 fun r5 r6 r7 =>
 R (r5 == 0) r6 r7
theorem gx : ∃ x : Int → List Int → Int → Int → (Bool → Int → Int → Option Res) → Option Res, x = b := ⟨_, rfl⟩
noncomputable def g : Int → List Int → Int → Int → (Bool → Int → Int → Option Res) → Option Res := Classical.choose gx
theorem e : g = b := Classical.choose_spec gx
noncomputable def run : List Lf → (Res → Option Res) → Option Res
 | [.i a1, .q (.ints a2), .i a3, .i a4], K => g a1 a2 a3 a4 (fun r1 r3 r4 => K (m a2 r1 r3 r4))
 | _, _ => none
noncomputable def a (a1 : Int) (a2 : List Int) (a3 a4 : Int) : St := argSt [one (.bp 0 0), one (.int .i64 a1)] [] [[.tr 2 2 [.int .u8] (.ints a2), .int .i64 a3, .int .i64 a4]]
noncomputable def con : FuncId × St × (List Lf → (Res → Option Res) → Option Res) := (31, a 0 [] 0 0, run)
theorem cx (K : Res → Option Res) : CtxOk Go.Proofs.Tryd.prog Γ0 byt0 eqs0 (X K) os := ⟨rfl, rfl, rfl, (fun p hp => by
 rcases List.mem_cons.1 hp with rfl | hp
 ·exact spec_l1Below.ok
 cases hp), rfl, rfl, rfl, rfl⟩
theorem tie (K : Res → Option Res) (a1 : Int) (a2 : List Int) (a3 a4 : Int) : exec (X K) c (entry 9 [one (.bp 0 0), one (.int .i64 a1)] [] [[.tr 2 2 [.int .u8] (.ints a2), .int .i64 a3, .int .i64 a4]]) (endK (X K)) = g a1 a2 a3 a4 (fun r1 r3 r4 => K (m a2 r1 r3 r4)) := Eq.trans (b := b a1 a2 a3 a4 (fun r1 r3 r4 => K (m a2 r1 r3 r4))) (by kernel_rfl) (by rw [e])
theorem runv {l : List Lf} {K : Res → Option Res} {r : Res} (h : run l K = some r) : ∃ a1 a2 a3 a4, l = [.i a1, .q (.ints a2), .i a3, .i a4] ∧ g a1 a2 a3 a4 (fun r1 r3 r4 => K (m a2 r1 r3 r4)) = some r := by
 unfold run at h; split at h
 ·exact ⟨_, _, _, _, rfl, h⟩
 ·cases h
theorem ok : Con Go.Proofs.Tryd.prog con := con_of (fn := Go.Proofs.Tryd.f31) (c := c) (Fi := fi) (X := X) (fun_of laid (by kernel_rfl) (by kernel_rfl) (by kernel_rfl) rfl (by kernel_rfl) (by kernel_rfl) cx (fun _ => rfl) (fun _ => rfl) (fun K => by
 rw [show loopsOf c = [] from by kernel_rfl]; intro p hp
 cases hp)) fun xs rows boxes K r hl hr => by
 obtain ⟨a1, a2, a3, a4, e, h⟩ := runv hr
 have := St.like_eq (y := a a1 a2 a3 a4) hl (by kernel_rfl) e
 obtain ⟨rfl, rfl, rfl⟩ := argSt_inj this
 exact (tie K a1 a2 a3 a4).trans h
end spec_l1Once
namespace spec_l1Pick
noncomputable def c : Code := bodyOf Go.Proofs.Tryd.f70
noncomputable def fi : Fin := ⟨Γ0, [(.tmp 4, 9)], [[1]], [], [([.sl [.int .u8] 1, .int .i64, .int .i64], [0, 1, 1])], []⟩
noncomputable def m (a2 : List Int) (r1 : ByteArray) (r3 r4 : Int) : Res := ⟨[⟨false, [.str r1]⟩], [], [], [[.tr 2 2 [.int .u8] (.ints a2), .int .i64 r3, .int .i64 r4]], []⟩
noncomputable def os : List (FuncId × St × (List Lf → (Res → Option Res) → Option Res)) := [spec_l1Below.con]
noncomputable def X (K : Res → Option Res) : Ctx := { Γ := Γ0, orc := orcOf os, io := [], share := [], mvl := [], bun := [], cut := [], own := [], cin := [], cout := [], lp := lpOf [], kl := [], nk := true, eqs := eqs0, byt := byt0, fin := finK fi K }
noncomputable def b (a1 : List ByteArray) (a2 : List Int) (a3 a4 : Int) (R : ByteArray → Int → Int → Option Res) : Option Res :=
 spec_l1Below.g (a1.length : Int) a2 a3 a4 fun r5 r6 r7 =>
 bif decide (0 ≤ r5) && decide (r5 < (a1.length : Int)) then R (a1.getD r5.toNat ByteArray.empty) r6 r7
 else none
theorem gx : ∃ x : List ByteArray → List Int → Int → Int → (ByteArray → Int → Int → Option Res) → Option Res, x = b := ⟨_, rfl⟩
noncomputable def g : List ByteArray → List Int → Int → Int → (ByteArray → Int → Int → Option Res) → Option Res := Classical.choose gx
theorem e : g = b := Classical.choose_spec gx
noncomputable def run : List Lf → (Res → Option Res) → Option Res
 | [.q (.strs a1), .q (.ints a2), .i a3, .i a4], K => g a1 a2 a3 a4 (fun r1 r3 r4 => K (m a2 r1 r3 r4))
 | _, _ => none
noncomputable def a (a1 : List ByteArray) (a2 : List Int) (a3 a4 : Int) : St := argSt [one (.bp 0 0), one (.tr 0 1 [.str] (.strs a1))] [] [[.tr 2 2 [.int .u8] (.ints a2), .int .i64 a3, .int .i64 a4]]
noncomputable def con : FuncId × St × (List Lf → (Res → Option Res) → Option Res) := (70, a [] [] 0 0, run)
theorem cx (K : Res → Option Res) : CtxOk Go.Proofs.Tryd.prog Γ0 byt0 eqs0 (X K) os := ⟨rfl, rfl, rfl, (fun p hp => by
 rcases List.mem_cons.1 hp with rfl | hp
 ·exact spec_l1Below.ok
 cases hp), rfl, rfl, rfl, rfl⟩
theorem tie (K : Res → Option Res) (a1 : List ByteArray) (a2 : List Int) (a3 a4 : Int) : exec (X K) c (entry 12 [one (.bp 0 0), one (.tr 0 1 [.str] (.strs a1))] [] [[.tr 2 2 [.int .u8] (.ints a2), .int .i64 a3, .int .i64 a4]]) (endK (X K)) = g a1 a2 a3 a4 (fun r1 r3 r4 => K (m a2 r1 r3 r4)) := Eq.trans (b := b a1 a2 a3 a4 (fun r1 r3 r4 => K (m a2 r1 r3 r4))) (by kernel_rfl) (by rw [e])
theorem runv {l : List Lf} {K : Res → Option Res} {r : Res} (h : run l K = some r) : ∃ a1 a2 a3 a4, l = [.q (.strs a1), .q (.ints a2), .i a3, .i a4] ∧ g a1 a2 a3 a4 (fun r1 r3 r4 => K (m a2 r1 r3 r4)) = some r := by
 unfold run at h; split at h
 ·exact ⟨_, _, _, _, rfl, h⟩
 ·cases h
theorem ok : Con Go.Proofs.Tryd.prog con := con_of (fn := Go.Proofs.Tryd.f70) (c := c) (Fi := fi) (X := X) (fun_of laid (by kernel_rfl) (by kernel_rfl) (by kernel_rfl) rfl (by kernel_rfl) (by kernel_rfl) cx (fun _ => rfl) (fun _ => rfl) (fun K => by
 rw [show loopsOf c = [] from by kernel_rfl]; intro p hp
 cases hp)) fun xs rows boxes K r hl hr => by
 obtain ⟨a1, a2, a3, a4, e, h⟩ := runv hr
 have := St.like_eq (y := a a1 a2 a3 a4) hl (by kernel_rfl) e
 obtain ⟨rfl, rfl, rfl⟩ := argSt_inj this
 exact (tie K a1 a2 a3 a4).trans h
end spec_l1Pick
namespace spec_l1PickInt
noncomputable def c : Code := bodyOf Go.Proofs.Tryd.f101
noncomputable def fi : Fin := ⟨Γ0, [(.tmp 4, 3)], [[1]], [], [([.sl [.int .u8] 1, .int .i64, .int .i64], [0, 1, 1])], []⟩
noncomputable def m (a2 : List Int) (r1 r3 r4 : Int) : Res := ⟨[⟨false, [.int .i64 r1]⟩], [], [], [[.tr 2 2 [.int .u8] (.ints a2), .int .i64 r3, .int .i64 r4]], []⟩
noncomputable def os : List (FuncId × St × (List Lf → (Res → Option Res) → Option Res)) := [spec_l1Below.con]
noncomputable def X (K : Res → Option Res) : Ctx := { Γ := Γ0, orc := orcOf os, io := [], share := [], mvl := [], bun := [], cut := [], own := [], cin := [], cout := [], lp := lpOf [], kl := [], nk := true, eqs := eqs0, byt := byt0, fin := finK fi K }
noncomputable def b (a1 a2 : List Int) (a3 a4 : Int) (R : Int → Int → Int → Option Res) : Option Res :=
 spec_l1Below.g (a1.length : Int) a2 a3 a4 fun r5 r6 r7 =>
 bif decide (0 ≤ r5) && decide (r5 < (a1.length : Int)) then R (a1.getD r5.toNat 0) r6 r7
 else none
theorem gx : ∃ x : List Int → List Int → Int → Int → (Int → Int → Int → Option Res) → Option Res, x = b := ⟨_, rfl⟩
noncomputable def g : List Int → List Int → Int → Int → (Int → Int → Int → Option Res) → Option Res := Classical.choose gx
theorem e : g = b := Classical.choose_spec gx
noncomputable def run : List Lf → (Res → Option Res) → Option Res
 | [.q (.ints a1), .q (.ints a2), .i a3, .i a4], K => g a1 a2 a3 a4 (fun r1 r3 r4 => K (m a2 r1 r3 r4))
 | _, _ => none
noncomputable def a (a1 a2 : List Int) (a3 a4 : Int) : St := argSt [one (.bp 0 0), one (.tr 0 1 [.int .i64] (.ints a1))] [] [[.tr 2 2 [.int .u8] (.ints a2), .int .i64 a3, .int .i64 a4]]
noncomputable def con : FuncId × St × (List Lf → (Res → Option Res) → Option Res) := (101, a [] [] 0 0, run)
theorem cx (K : Res → Option Res) : CtxOk Go.Proofs.Tryd.prog Γ0 byt0 eqs0 (X K) os := ⟨rfl, rfl, rfl, (fun p hp => by
 rcases List.mem_cons.1 hp with rfl | hp
 ·exact spec_l1Below.ok
 cases hp), rfl, rfl, rfl, rfl⟩
theorem tie (K : Res → Option Res) (a1 a2 : List Int) (a3 a4 : Int) : exec (X K) c (entry 12 [one (.bp 0 0), one (.tr 0 1 [.int .i64] (.ints a1))] [] [[.tr 2 2 [.int .u8] (.ints a2), .int .i64 a3, .int .i64 a4]]) (endK (X K)) = g a1 a2 a3 a4 (fun r1 r3 r4 => K (m a2 r1 r3 r4)) := Eq.trans (b := b a1 a2 a3 a4 (fun r1 r3 r4 => K (m a2 r1 r3 r4))) (by kernel_rfl) (by rw [e])
theorem runv {l : List Lf} {K : Res → Option Res} {r : Res} (h : run l K = some r) : ∃ a1 a2 a3 a4, l = [.q (.ints a1), .q (.ints a2), .i a3, .i a4] ∧ g a1 a2 a3 a4 (fun r1 r3 r4 => K (m a2 r1 r3 r4)) = some r := by
 unfold run at h; split at h
 ·exact ⟨_, _, _, _, rfl, h⟩
 ·cases h
theorem ok : Con Go.Proofs.Tryd.prog con := con_of (fn := Go.Proofs.Tryd.f101) (c := c) (Fi := fi) (X := X) (fun_of laid (by kernel_rfl) (by kernel_rfl) (by kernel_rfl) rfl (by kernel_rfl) (by kernel_rfl) cx (fun _ => rfl) (fun _ => rfl) (fun K => by
 rw [show loopsOf c = [] from by kernel_rfl]; intro p hp
 cases hp)) fun xs rows boxes K r hl hr => by
 obtain ⟨a1, a2, a3, a4, e, h⟩ := runv hr
 have := St.like_eq (y := a a1 a2 a3 a4) hl (by kernel_rfl) e
 obtain ⟨rfl, rfl, rfl⟩ := argSt_inj this
 exact (tie K a1 a2 a3 a4).trans h
end spec_l1PickInt
namespace spec_l1DrawNum
noncomputable def c : Code := bodyOf Go.Proofs.Tryd.f91
noncomputable def fi : Fin := ⟨Γ0, [(.tmp 2, 3)], [[1]], [], [([.sl [.int .u8] 1, .int .i64, .int .i64], [0, 1, 1])], []⟩
noncomputable def m (a1 : List Int) (r1 r3 r4 : Int) : Res := ⟨[⟨false, [.int .i64 r1]⟩], [], [], [[.tr 2 2 [.int .u8] (.ints a1), .int .i64 r3, .int .i64 r4]], []⟩
noncomputable def os : List (FuncId × St × (List Lf → (Res → Option Res) → Option Res)) := [spec_l1Once.con, spec_l1PickInt.con, spec_l1Below.con]
noncomputable def X (K : Res → Option Res) : Ctx := { Γ := Γ0, orc := orcOf os, io := [], share := [], mvl := [], bun := [], cut := [], own := [], cin := [], cout := [], lp := lpOf [], kl := [], nk := true, eqs := eqs0, byt := byt0, fin := finK fi K }
noncomputable def b (a1 : List Int) (a2 a3 : Int) (R : Int → Int → Int → Option Res) : Option Res :=
 spec_l1Once.g 12 a1 a2 a3 fun r4 r5 r6 =>
 bif r4 then (spec_l1PickInt.g ([1000000000000, (-1000000000000), 999999999999, 1000000, (-1000000), 1000001, 999999999999] : List Int) a1 r5 r6 fun r7 r8 r9 =>
  R r7 r8 r9)
 else (spec_l1Below.g 20 a1 r5 r6 fun r10 r11 r12 =>
 R (IntKind.i64.wrap (r10 - 6)) r11 r12)
theorem gx : ∃ x : List Int → Int → Int → (Int → Int → Int → Option Res) → Option Res, x = b := ⟨_, rfl⟩
noncomputable def g : List Int → Int → Int → (Int → Int → Int → Option Res) → Option Res := Classical.choose gx
theorem e : g = b := Classical.choose_spec gx
noncomputable def run : List Lf → (Res → Option Res) → Option Res
 | [.q (.ints a1), .i a2, .i a3], K => g a1 a2 a3 (fun r1 r3 r4 => K (m a1 r1 r3 r4))
 | _, _ => none
noncomputable def a (a1 : List Int) (a2 a3 : Int) : St := argSt [one (.bp 0 0)] [] [[.tr 2 2 [.int .u8] (.ints a1), .int .i64 a2, .int .i64 a3]]
noncomputable def con : FuncId × St × (List Lf → (Res → Option Res) → Option Res) := (91, a [] 0 0, run)
theorem cx (K : Res → Option Res) : CtxOk Go.Proofs.Tryd.prog Γ0 byt0 eqs0 (X K) os := ⟨rfl, rfl, rfl, (fun p hp => by
 rcases List.mem_cons.1 hp with rfl | hp
 ·exact spec_l1Once.ok
 rcases List.mem_cons.1 hp with rfl | hp
 ·exact spec_l1PickInt.ok
 rcases List.mem_cons.1 hp with rfl | hp
 ·exact spec_l1Below.ok
 cases hp), rfl, rfl, rfl, rfl⟩
theorem tie (K : Res → Option Res) (a1 : List Int) (a2 a3 : Int) : exec (X K) c (entry 11 [one (.bp 0 0)] [] [[.tr 2 2 [.int .u8] (.ints a1), .int .i64 a2, .int .i64 a3]]) (endK (X K)) = g a1 a2 a3 (fun r1 r3 r4 => K (m a1 r1 r3 r4)) := Eq.trans (b := b a1 a2 a3 (fun r1 r3 r4 => K (m a1 r1 r3 r4))) (by kernel_rfl) (by rw [e])
theorem runv {l : List Lf} {K : Res → Option Res} {r : Res} (h : run l K = some r) : ∃ a1 a2 a3, l = [.q (.ints a1), .i a2, .i a3] ∧ g a1 a2 a3 (fun r1 r3 r4 => K (m a1 r1 r3 r4)) = some r := by
 unfold run at h; split at h
 ·exact ⟨_, _, _, rfl, h⟩
 ·cases h
theorem ok : Con Go.Proofs.Tryd.prog con := con_of (fn := Go.Proofs.Tryd.f91) (c := c) (Fi := fi) (X := X) (fun_of laid (by kernel_rfl) (by kernel_rfl) (by kernel_rfl) rfl (by kernel_rfl) (by kernel_rfl) cx (fun _ => rfl) (fun _ => rfl) (fun K => by
 rw [show loopsOf c = [] from by kernel_rfl]; intro p hp
 cases hp)) fun xs rows boxes K r hl hr => by
 obtain ⟨a1, a2, a3, e, h⟩ := runv hr
 have := St.like_eq (y := a a1 a2 a3) hl (by kernel_rfl) e
 obtain ⟨rfl, rfl, rfl⟩ := argSt_inj this
 exact (tie K a1 a2 a3).trans h
end spec_l1DrawNum
-- GROUP spec_l8Digits
namespace spec_l8Digits
noncomputable def c : Code := bodyOf Go.Proofs.Tryd.f53
noncomputable def fi : Fin := ⟨Γ0, [(.tmp 2, 9)], [[1]], [], [], []⟩
noncomputable def m (r1 : ByteArray) : Res := ⟨[⟨false, [.str r1]⟩], [], [], [], []⟩
abbrev T : Type := Int → (ByteArray → Option Res) → Option Res
noncomputable def runz (h : T) : List Lf → (Res → Option Res) → Option Res
 | [.i a1], K => h a1 (fun r1 => K (m r1))
 | _, _ => none
noncomputable def a (a1 : Int) : St := argSt [one (.int .i64 a1)] [] []
noncomputable def conz (h : T) : FuncId × St × (List Lf → (Res → Option Res) → Option Res) := (53, a 0, runz h)
end spec_l8Digits
abbrev Z_spec_l8Digits : Type := spec_l8Digits.T
def Gd_spec_l8Digits (z : Z_spec_l8Digits) : Prop := Con Go.Proofs.Tryd.prog (spec_l8Digits.conz z)
namespace spec_l8Digits
noncomputable def b0 : Code := codeAt c [1, 1, 1, 1, 0, 0, 0]
noncomputable def s0 (x3 : Int) (x4 : ByteArray) : St := ⟨mkT 25 [(0, one (.int .i64 x3)), (3, one (.str x4))], [], []⟩
noncomputable def l0s  (rec : Int → ByteArray → Option Res) (k : ByteArray → Option Res) (x3 : Int) (x4 : ByteArray) : Option Res :=
 bif decide (0 < x3) then (bif decide ((strOf ([IntKind.u8.wrap (IntKind.i64.wrap (48 + (x3.tmod 10)))] : List Int)).size + x4.size ≤ 9223372036854775807) then rec (IntKind.i64.wrap (x3.tdiv 10)) ((strOf ([IntKind.u8.wrap (IntKind.i64.wrap (48 + (x3.tmod 10)))] : List Int)) ++ x4)
  else none)
 else k x4
noncomputable def l0  (k : ByteArray → Option Res) : Nat → Int → ByteArray → Option Res
 | 0, _, _ => none
 | n + 1, x3, x4 => l0s (fun x3 x4 => l0 k n x3 x4) k x3 x4
noncomputable def o0 (y1 : ByteArray) : St := ⟨mkT 25 [(3, one (.str y1))], [], []⟩
noncomputable def p0 (K : Res → Option Res) : List Lf → (St → Option Res) → Option Res
 | [.i x3, .s x4], k => l0 (fun y1 => k (o0 y1)) fuel x3 x4
 | _, _ => none
noncomputable def os (z : Z_spec_l8Digits) : List (FuncId × St × (List Lf → (Res → Option Res) → Option Res)) := [spec_l8Digits.conz z]
noncomputable def X (z : Z_spec_l8Digits) (K : Res → Option Res) : Ctx := { Γ := Γ0, orc := orcOf (os z), io := [], share := [], mvl := [], bun := [], cut := [], own := [], cin := [(0, ⟨[0, 3], [], [], [], [], []⟩)], cout := [(0, ⟨[3], [], [], [], [], []⟩)], lp := lpOf [(0, s0 0 ByteArray.empty, p0 K)], kl := [], nk := true, eqs := eqs0, byt := byt0, fin := finK fi K }
noncomputable def g (z : Z_spec_l8Digits) (a1 : Int) (R : ByteArray → Option Res) : Option Res :=
 bif decide (a1 < 0) then (z (IntKind.i64.wrap (0 - a1)) fun r2 =>
  bif decide (1 + r2.size ≤ 9223372036854775807) then R ((⟨#[95]⟩ : ByteArray) ++ r2)
  else none)
 else bif (a1 == 0) then R (⟨#[48]⟩ : ByteArray)
 else (l0 (fun y5 =>
 R y5) fuel a1 (⟨#[]⟩ : ByteArray))
theorem cx (z : Z_spec_l8Digits) (hz : Gd_spec_l8Digits z) (K : Res → Option Res) : CtxOk Go.Proofs.Tryd.prog Γ0 byt0 eqs0 (X z K) (os z) := ⟨rfl, rfl, rfl, (fun p hp => by
 rcases List.mem_cons.1 hp with rfl | hp
 ·exact hz
 cases hp), rfl, rfl, rfl, rfl⟩
theorem t0 (z : Z_spec_l8Digits) (K : Res → Option Res) (k : St → Option Res) (it : St → (St → Option Res) → Option Res) (x3 : Int) (x4 : ByteArray) : iterS (X z K) 0 b0 it (s0 x3 x4) k = l0s (fun x3 x4 => it (s0 x3 x4) k) (fun y1 => k (o0 y1)) x3 x4 := by kernel_rfl
theorem i0 (z : Z_spec_l8Digits) (K : Res → Option Res) (k : St → Option Res)  : ∀ (n : Nat) (x3 : Int) (x4 : ByteArray), iter (X z K) 0 b0 n (s0 x3 x4) k = l0 (fun y1 => k (o0 y1)) n x3 x4
 | 0, _, _ => rfl
 | n + 1, x3, x4 => by
  rw [iter_succ, t0 z, show (fun x3 x4 => iter (X z K) 0 b0 n (s0 x3 x4) k) = (fun x3 x4 => l0 (fun y1 => k (o0 y1)) n x3 x4) from funext fun x3 => funext fun x4 => i0 z K k n x3 x4]; rfl
theorem v0 {K : Res → Option Res} {l : List Lf} {k : St → Option Res} {r : Res} (h : p0 K l k = some r) : ∃ x3 x4, l = [.i x3, .s x4] ∧ l0 (fun y1 => k (o0 y1)) fuel x3 x4 = some r := by
 unfold p0 at h; split at h
 ·exact ⟨_, _, rfl, h⟩
 ·cases h
theorem w0 (z : Z_spec_l8Digits) (hz : Gd_spec_l8Digits z) (K : Res → Option Res) : LpSound Go.Proofs.Tryd.prog (X z K) 0 b0 := lp_ok (((cx z hz) K).ok laid) (by rw [show loopsOf b0 = [] from by kernel_rfl]; intro p hp; cases hp) rfl fun p hp hid => by
 rcases List.mem_cons.1 hp with rfl | hp
 ·intro st k r h1 h2; obtain ⟨x3, x4, e, h⟩ := v0 (K := K) h2; have := St.like_eq (y := s0 x3 x4) h1 (by kernel_rfl) e; subst this; exact ⟨fuel, (i0 z K k fuel x3 x4).trans h⟩
 cases hp
theorem tie (z : Z_spec_l8Digits) (K : Res → Option Res) (a1 : Int) : exec (X z K) c (entry 25 [one (.int .i64 a1)] [] []) (endK (X z K)) = (g z) a1 (fun r1 => K (m r1)) := by kernel_rfl
theorem runv (z : Z_spec_l8Digits) {l : List Lf} {K : Res → Option Res} {r : Res} (h : runz (g z) l K = some r) : ∃ a1, l = [.i a1] ∧ (g z) a1 (fun r1 => K (m r1)) = some r := by
 unfold runz at h; split at h
 ·exact ⟨_, rfl, h⟩
 ·cases h
theorem ok (z : Z_spec_l8Digits) (hz : Gd_spec_l8Digits z) : Con Go.Proofs.Tryd.prog (conz (g z)) := con_of (fn := Go.Proofs.Tryd.f53) (c := c) (Fi := fi) (X := X z) (fun_of laid (by kernel_rfl) (by kernel_rfl) (by kernel_rfl) rfl (by kernel_rfl) (by kernel_rfl) (cx z hz) (fun _ => rfl) (fun _ => rfl) (fun K => by
 rw [show loopsOf c = [(0, b0)] from by kernel_rfl]; intro p hp
 rcases List.mem_cons.1 hp with rfl | hp
 ·exact w0 z hz K
 cases hp)) fun xs rows boxes K r hl hr => by
 obtain ⟨a1, e, h⟩ := runv z hr
 have := St.like_eq (y := a a1) hl (by kernel_rfl) e
 obtain ⟨rfl, rfl, rfl⟩ := argSt_inj this
 exact (tie z K a1).trans h
end spec_l8Digits
noncomputable def rec_spec_l8Digits : Nat → Z_spec_l8Digits
 | 0 => (fun _ _ => none)
 | n + 1 => spec_l8Digits.g (rec_spec_l8Digits n)
theorem good_spec_l8Digits : ∀ n, Gd_spec_l8Digits (rec_spec_l8Digits n)
 | 0 => con_none (fun l K => by show spec_l8Digits.runz (fun _ _ => none) l K = none; unfold spec_l8Digits.runz; split <;> rfl)
 | n + 1 => spec_l8Digits.ok _ (good_spec_l8Digits n)
namespace spec_l8Digits
noncomputable def gn (n : Nat) (a1 : Int) (R : ByteArray → Option Res) : Option Res := (rec_spec_l8Digits n) a1 R
theorem Gx : ∃ x : T, x = gn fuel := ⟨_, rfl⟩
noncomputable def G : T := Classical.choose Gx
theorem Ge : G = gn fuel := Classical.choose_spec Gx
theorem gn_succ (n : Nat) (a1 : Int) (R : ByteArray → Option Res) : gn (n + 1) a1 R = g (rec_spec_l8Digits n) a1 R := rfl
noncomputable def con : FuncId × St × (List Lf → (Res → Option Res) → Option Res) := conz G
theorem okG : Con Go.Proofs.Tryd.prog con := by
 unfold con; rw [Ge]; exact (good_spec_l8Digits fuel)
end spec_l8Digits
-- END GROUP
namespace spec_l8DrawFun
noncomputable def c : Code := bodyOf Go.Proofs.Tryd.f71
noncomputable def fi : Fin := ⟨Γ0, [(.tmp 4, 9)], [[1]], [], [([.sl [.int .u8] 1, .int .i64, .int .i64], [0, 1, 1])], []⟩
noncomputable def m (a2 : List Int) (r1 : ByteArray) (r3 r4 : Int) : Res := ⟨[⟨false, [.str r1]⟩], [], [], [[.tr 2 2 [.int .u8] (.ints a2), .int .i64 r3, .int .i64 r4]], []⟩
noncomputable def os : List (FuncId × St × (List Lf → (Res → Option Res) → Option Res)) := [spec_l1Pick.con, spec_l1Once.con]
noncomputable def X (K : Res → Option Res) : Ctx := { Γ := Γ0, orc := orcOf os, io := [], share := [], mvl := [], bun := [], cut := [], own := [], cin := [], cout := [], lp := lpOf [], kl := [], nk := true, eqs := eqs0, byt := byt0, fin := finK fi K }
noncomputable def b (a1 : Bool) (a2 : List Int) (a3 a4 : Int) (R : ByteArray → Int → Int → Option Res) : Option Res :=
 spec_l1Pick.g ([(⟨#[43]⟩ : ByteArray), (⟨#[45]⟩ : ByteArray), (⟨#[42]⟩ : ByteArray), (⟨#[37]⟩ : ByteArray), (⟨#[124]⟩ : ByteArray), (⟨#[38]⟩ : ByteArray), (⟨#[94]⟩ : ByteArray), (⟨#[61]⟩ : ByteArray), (⟨#[60]⟩ : ByteArray), (⟨#[62]⟩ : ByteArray)] : List ByteArray) a2 a3 a4 fun r5 r6 r7 =>
 bif a1 then (spec_l1Once.g 6 a2 r6 r7 fun r8 r9 r10 =>
  bif r8 then (bif decide (2 + r5.size ≤ 9223372036854775807) then R ((⟨#[111, 32]⟩ : ByteArray) ++ r5) r9 r10
   else none)
  else bif a1 then (spec_l1Once.g 7 a2 r9 r10 fun r11 r12 r13 =>
   bif r11 then (bif decide (r5.size + 3 ≤ 9223372036854775807) then (spec_l1Pick.g ([(⟨#[43]⟩ : ByteArray), (⟨#[45]⟩ : ByteArray), (⟨#[42]⟩ : ByteArray), (⟨#[38]⟩ : ByteArray), (⟨#[94]⟩ : ByteArray), (⟨#[61]⟩ : ByteArray)] : List ByteArray) a2 r12 r13 fun r14 r15 r16 =>
    bif decide ((r5 ++ (⟨#[32, 46, 32]⟩ : ByteArray)).size + r14.size ≤ 9223372036854775807) then R ((r5 ++ (⟨#[32, 46, 32]⟩ : ByteArray)) ++ r14) r15 r16
    else none)
    else none)
   else bif a1 then (spec_l1Once.g 2 a2 r12 r13 fun r17 r18 r19 =>
    bif r17 then R r5 r18 r19
    else bif a1 then (spec_l1Pick.g ([(⟨#[35]⟩ : ByteArray), (⟨#[44]⟩ : ByteArray), (⟨#[116]⟩ : ByteArray), (⟨#[100]⟩ : ByteArray), (⟨#[114]⟩ : ByteArray), (⟨#[64]⟩ : ByteArray), (⟨#[63]⟩ : ByteArray), (⟨#[36]⟩ : ByteArray), (⟨#[101]⟩ : ByteArray)] : List ByteArray) a2 r18 r19 fun r20 r21 r22 =>
     R r20 r21 r22)
    else (spec_l1Once.g 4 a2 r18 r19 fun r23 r24 r25 =>
    bif r23 then (bif decide (r5.size + 1 ≤ 9223372036854775807) then (spec_l1Pick.g ([(⟨#[47]⟩ : ByteArray), (⟨#[92]⟩ : ByteArray)] : List ByteArray) a2 r24 r25 fun r26 r27 r28 =>
     bif decide ((r5 ++ (⟨#[32]⟩ : ByteArray)).size + r26.size ≤ 9223372036854775807) then R ((r5 ++ (⟨#[32]⟩ : ByteArray)) ++ r26) r27 r28
     else none)
     else none)
    else (spec_l1Pick.g ([(⟨#[105]⟩ : ByteArray), (⟨#[35]⟩ : ByteArray), (⟨#[44]⟩ : ByteArray), (⟨#[114]⟩ : ByteArray), (⟨#[122]⟩ : ByteArray), (⟨#[103]⟩ : ByteArray), (⟨#[43]⟩ : ByteArray), (⟨#[45]⟩ : ByteArray), (⟨#[42]⟩ : ByteArray), (⟨#[124]⟩ : ByteArray), (⟨#[126]⟩ : ByteArray)] : List ByteArray) a2 r24 r25 fun r29 r30 r31 =>
    R r29 r30 r31)))
   else bif a1 then (spec_l1Pick.g ([(⟨#[35]⟩ : ByteArray), (⟨#[44]⟩ : ByteArray), (⟨#[116]⟩ : ByteArray), (⟨#[100]⟩ : ByteArray), (⟨#[114]⟩ : ByteArray), (⟨#[64]⟩ : ByteArray), (⟨#[63]⟩ : ByteArray), (⟨#[36]⟩ : ByteArray), (⟨#[101]⟩ : ByteArray)] : List ByteArray) a2 r12 r13 fun r32 r33 r34 =>
    R r32 r33 r34)
   else (spec_l1Once.g 4 a2 r12 r13 fun r35 r36 r37 =>
   bif r35 then (bif decide (r5.size + 1 ≤ 9223372036854775807) then (spec_l1Pick.g ([(⟨#[47]⟩ : ByteArray), (⟨#[92]⟩ : ByteArray)] : List ByteArray) a2 r36 r37 fun r38 r39 r40 =>
    bif decide ((r5 ++ (⟨#[32]⟩ : ByteArray)).size + r38.size ≤ 9223372036854775807) then R ((r5 ++ (⟨#[32]⟩ : ByteArray)) ++ r38) r39 r40
    else none)
    else none)
   else (spec_l1Pick.g ([(⟨#[105]⟩ : ByteArray), (⟨#[35]⟩ : ByteArray), (⟨#[44]⟩ : ByteArray), (⟨#[114]⟩ : ByteArray), (⟨#[122]⟩ : ByteArray), (⟨#[103]⟩ : ByteArray), (⟨#[43]⟩ : ByteArray), (⟨#[45]⟩ : ByteArray), (⟨#[42]⟩ : ByteArray), (⟨#[124]⟩ : ByteArray), (⟨#[126]⟩ : ByteArray)] : List ByteArray) a2 r36 r37 fun r41 r42 r43 =>
   R r41 r42 r43)))
  else bif a1 then (spec_l1Once.g 2 a2 r9 r10 fun r44 r45 r46 =>
   bif r44 then R r5 r45 r46
   else bif a1 then (spec_l1Pick.g ([(⟨#[35]⟩ : ByteArray), (⟨#[44]⟩ : ByteArray), (⟨#[116]⟩ : ByteArray), (⟨#[100]⟩ : ByteArray), (⟨#[114]⟩ : ByteArray), (⟨#[64]⟩ : ByteArray), (⟨#[63]⟩ : ByteArray), (⟨#[36]⟩ : ByteArray), (⟨#[101]⟩ : ByteArray)] : List ByteArray) a2 r45 r46 fun r47 r48 r49 =>
    R r47 r48 r49)
   else (spec_l1Once.g 4 a2 r45 r46 fun r50 r51 r52 =>
   bif r50 then (bif decide (r5.size + 1 ≤ 9223372036854775807) then (spec_l1Pick.g ([(⟨#[47]⟩ : ByteArray), (⟨#[92]⟩ : ByteArray)] : List ByteArray) a2 r51 r52 fun r53 r54 r55 =>
    bif decide ((r5 ++ (⟨#[32]⟩ : ByteArray)).size + r53.size ≤ 9223372036854775807) then R ((r5 ++ (⟨#[32]⟩ : ByteArray)) ++ r53) r54 r55
    else none)
    else none)
   else (spec_l1Pick.g ([(⟨#[105]⟩ : ByteArray), (⟨#[35]⟩ : ByteArray), (⟨#[44]⟩ : ByteArray), (⟨#[114]⟩ : ByteArray), (⟨#[122]⟩ : ByteArray), (⟨#[103]⟩ : ByteArray), (⟨#[43]⟩ : ByteArray), (⟨#[45]⟩ : ByteArray), (⟨#[42]⟩ : ByteArray), (⟨#[124]⟩ : ByteArray), (⟨#[126]⟩ : ByteArray)] : List ByteArray) a2 r51 r52 fun r56 r57 r58 =>
   R r56 r57 r58)))
  else bif a1 then (spec_l1Pick.g ([(⟨#[35]⟩ : ByteArray), (⟨#[44]⟩ : ByteArray), (⟨#[116]⟩ : ByteArray), (⟨#[100]⟩ : ByteArray), (⟨#[114]⟩ : ByteArray), (⟨#[64]⟩ : ByteArray), (⟨#[63]⟩ : ByteArray), (⟨#[36]⟩ : ByteArray), (⟨#[101]⟩ : ByteArray)] : List ByteArray) a2 r9 r10 fun r59 r60 r61 =>
   R r59 r60 r61)
  else (spec_l1Once.g 4 a2 r9 r10 fun r62 r63 r64 =>
  bif r62 then (bif decide (r5.size + 1 ≤ 9223372036854775807) then (spec_l1Pick.g ([(⟨#[47]⟩ : ByteArray), (⟨#[92]⟩ : ByteArray)] : List ByteArray) a2 r63 r64 fun r65 r66 r67 =>
   bif decide ((r5 ++ (⟨#[32]⟩ : ByteArray)).size + r65.size ≤ 9223372036854775807) then R ((r5 ++ (⟨#[32]⟩ : ByteArray)) ++ r65) r66 r67
   else none)
   else none)
  else (spec_l1Pick.g ([(⟨#[105]⟩ : ByteArray), (⟨#[35]⟩ : ByteArray), (⟨#[44]⟩ : ByteArray), (⟨#[114]⟩ : ByteArray), (⟨#[122]⟩ : ByteArray), (⟨#[103]⟩ : ByteArray), (⟨#[43]⟩ : ByteArray), (⟨#[45]⟩ : ByteArray), (⟨#[42]⟩ : ByteArray), (⟨#[124]⟩ : ByteArray), (⟨#[126]⟩ : ByteArray)] : List ByteArray) a2 r63 r64 fun r68 r69 r70 =>
  R r68 r69 r70)))
 else bif a1 then (spec_l1Once.g 7 a2 r6 r7 fun r71 r72 r73 =>
  bif r71 then (bif decide (r5.size + 3 ≤ 9223372036854775807) then (spec_l1Pick.g ([(⟨#[43]⟩ : ByteArray), (⟨#[45]⟩ : ByteArray), (⟨#[42]⟩ : ByteArray), (⟨#[38]⟩ : ByteArray), (⟨#[94]⟩ : ByteArray), (⟨#[61]⟩ : ByteArray)] : List ByteArray) a2 r72 r73 fun r74 r75 r76 =>
   bif decide ((r5 ++ (⟨#[32, 46, 32]⟩ : ByteArray)).size + r74.size ≤ 9223372036854775807) then R ((r5 ++ (⟨#[32, 46, 32]⟩ : ByteArray)) ++ r74) r75 r76
   else none)
   else none)
  else bif a1 then (spec_l1Once.g 2 a2 r72 r73 fun r77 r78 r79 =>
   bif r77 then R r5 r78 r79
   else bif a1 then (spec_l1Pick.g ([(⟨#[35]⟩ : ByteArray), (⟨#[44]⟩ : ByteArray), (⟨#[116]⟩ : ByteArray), (⟨#[100]⟩ : ByteArray), (⟨#[114]⟩ : ByteArray), (⟨#[64]⟩ : ByteArray), (⟨#[63]⟩ : ByteArray), (⟨#[36]⟩ : ByteArray), (⟨#[101]⟩ : ByteArray)] : List ByteArray) a2 r78 r79 fun r80 r81 r82 =>
    R r80 r81 r82)
   else (spec_l1Once.g 4 a2 r78 r79 fun r83 r84 r85 =>
   bif r83 then (bif decide (r5.size + 1 ≤ 9223372036854775807) then (spec_l1Pick.g ([(⟨#[47]⟩ : ByteArray), (⟨#[92]⟩ : ByteArray)] : List ByteArray) a2 r84 r85 fun r86 r87 r88 =>
    bif decide ((r5 ++ (⟨#[32]⟩ : ByteArray)).size + r86.size ≤ 9223372036854775807) then R ((r5 ++ (⟨#[32]⟩ : ByteArray)) ++ r86) r87 r88
    else none)
    else none)
   else (spec_l1Pick.g ([(⟨#[105]⟩ : ByteArray), (⟨#[35]⟩ : ByteArray), (⟨#[44]⟩ : ByteArray), (⟨#[114]⟩ : ByteArray), (⟨#[122]⟩ : ByteArray), (⟨#[103]⟩ : ByteArray), (⟨#[43]⟩ : ByteArray), (⟨#[45]⟩ : ByteArray), (⟨#[42]⟩ : ByteArray), (⟨#[124]⟩ : ByteArray), (⟨#[126]⟩ : ByteArray)] : List ByteArray) a2 r84 r85 fun r89 r90 r91 =>
   R r89 r90 r91)))
  else bif a1 then (spec_l1Pick.g ([(⟨#[35]⟩ : ByteArray), (⟨#[44]⟩ : ByteArray), (⟨#[116]⟩ : ByteArray), (⟨#[100]⟩ : ByteArray), (⟨#[114]⟩ : ByteArray), (⟨#[64]⟩ : ByteArray), (⟨#[63]⟩ : ByteArray), (⟨#[36]⟩ : ByteArray), (⟨#[101]⟩ : ByteArray)] : List ByteArray) a2 r72 r73 fun r92 r93 r94 =>
   R r92 r93 r94)
  else (spec_l1Once.g 4 a2 r72 r73 fun r95 r96 r97 =>
  bif r95 then (bif decide (r5.size + 1 ≤ 9223372036854775807) then (spec_l1Pick.g ([(⟨#[47]⟩ : ByteArray), (⟨#[92]⟩ : ByteArray)] : List ByteArray) a2 r96 r97 fun r98 r99 r100 =>
   bif decide ((r5 ++ (⟨#[32]⟩ : ByteArray)).size + r98.size ≤ 9223372036854775807) then R ((r5 ++ (⟨#[32]⟩ : ByteArray)) ++ r98) r99 r100
   else none)
   else none)
  else (spec_l1Pick.g ([(⟨#[105]⟩ : ByteArray), (⟨#[35]⟩ : ByteArray), (⟨#[44]⟩ : ByteArray), (⟨#[114]⟩ : ByteArray), (⟨#[122]⟩ : ByteArray), (⟨#[103]⟩ : ByteArray), (⟨#[43]⟩ : ByteArray), (⟨#[45]⟩ : ByteArray), (⟨#[42]⟩ : ByteArray), (⟨#[124]⟩ : ByteArray), (⟨#[126]⟩ : ByteArray)] : List ByteArray) a2 r96 r97 fun r101 r102 r103 =>
  R r101 r102 r103)))
 else bif a1 then (spec_l1Once.g 2 a2 r6 r7 fun r104 r105 r106 =>
  bif r104 then R r5 r105 r106
  else bif a1 then (spec_l1Pick.g ([(⟨#[35]⟩ : ByteArray), (⟨#[44]⟩ : ByteArray), (⟨#[116]⟩ : ByteArray), (⟨#[100]⟩ : ByteArray), (⟨#[114]⟩ : ByteArray), (⟨#[64]⟩ : ByteArray), (⟨#[63]⟩ : ByteArray), (⟨#[36]⟩ : ByteArray), (⟨#[101]⟩ : ByteArray)] : List ByteArray) a2 r105 r106 fun r107 r108 r109 =>
   R r107 r108 r109)
  else (spec_l1Once.g 4 a2 r105 r106 fun r110 r111 r112 =>
  bif r110 then (bif decide (r5.size + 1 ≤ 9223372036854775807) then (spec_l1Pick.g ([(⟨#[47]⟩ : ByteArray), (⟨#[92]⟩ : ByteArray)] : List ByteArray) a2 r111 r112 fun r113 r114 r115 =>
   bif decide ((r5 ++ (⟨#[32]⟩ : ByteArray)).size + r113.size ≤ 9223372036854775807) then R ((r5 ++ (⟨#[32]⟩ : ByteArray)) ++ r113) r114 r115
   else none)
   else none)
  else (spec_l1Pick.g ([(⟨#[105]⟩ : ByteArray), (⟨#[35]⟩ : ByteArray), (⟨#[44]⟩ : ByteArray), (⟨#[114]⟩ : ByteArray), (⟨#[122]⟩ : ByteArray), (⟨#[103]⟩ : ByteArray), (⟨#[43]⟩ : ByteArray), (⟨#[45]⟩ : ByteArray), (⟨#[42]⟩ : ByteArray), (⟨#[124]⟩ : ByteArray), (⟨#[126]⟩ : ByteArray)] : List ByteArray) a2 r111 r112 fun r116 r117 r118 =>
  R r116 r117 r118)))
 else bif a1 then (spec_l1Pick.g ([(⟨#[35]⟩ : ByteArray), (⟨#[44]⟩ : ByteArray), (⟨#[116]⟩ : ByteArray), (⟨#[100]⟩ : ByteArray), (⟨#[114]⟩ : ByteArray), (⟨#[64]⟩ : ByteArray), (⟨#[63]⟩ : ByteArray), (⟨#[36]⟩ : ByteArray), (⟨#[101]⟩ : ByteArray)] : List ByteArray) a2 r6 r7 fun r119 r120 r121 =>
  R r119 r120 r121)
 else (spec_l1Once.g 4 a2 r6 r7 fun r122 r123 r124 =>
 bif r122 then (bif decide (r5.size + 1 ≤ 9223372036854775807) then (spec_l1Pick.g ([(⟨#[47]⟩ : ByteArray), (⟨#[92]⟩ : ByteArray)] : List ByteArray) a2 r123 r124 fun r125 r126 r127 =>
  bif decide ((r5 ++ (⟨#[32]⟩ : ByteArray)).size + r125.size ≤ 9223372036854775807) then R ((r5 ++ (⟨#[32]⟩ : ByteArray)) ++ r125) r126 r127
  else none)
  else none)
 else (spec_l1Pick.g ([(⟨#[105]⟩ : ByteArray), (⟨#[35]⟩ : ByteArray), (⟨#[44]⟩ : ByteArray), (⟨#[114]⟩ : ByteArray), (⟨#[122]⟩ : ByteArray), (⟨#[103]⟩ : ByteArray), (⟨#[43]⟩ : ByteArray), (⟨#[45]⟩ : ByteArray), (⟨#[42]⟩ : ByteArray), (⟨#[124]⟩ : ByteArray), (⟨#[126]⟩ : ByteArray)] : List ByteArray) a2 r123 r124 fun r128 r129 r130 =>
 R r128 r129 r130))
theorem gx : ∃ x : Bool → List Int → Int → Int → (ByteArray → Int → Int → Option Res) → Option Res, x = b := ⟨_, rfl⟩
noncomputable def g : Bool → List Int → Int → Int → (ByteArray → Int → Int → Option Res) → Option Res := Classical.choose gx
theorem e : g = b := Classical.choose_spec gx
noncomputable def run : List Lf → (Res → Option Res) → Option Res
 | [.b a1, .q (.ints a2), .i a3, .i a4], K => g a1 a2 a3 a4 (fun r1 r3 r4 => K (m a2 r1 r3 r4))
 | _, _ => none
noncomputable def a (a1 : Bool) (a2 : List Int) (a3 a4 : Int) : St := argSt [one (.bp 0 0), one (.bool a1)] [] [[.tr 2 2 [.int .u8] (.ints a2), .int .i64 a3, .int .i64 a4]]
noncomputable def con : FuncId × St × (List Lf → (Res → Option Res) → Option Res) := (71, a false [] 0 0, run)
theorem cx (K : Res → Option Res) : CtxOk Go.Proofs.Tryd.prog Γ0 byt0 eqs0 (X K) os := ⟨rfl, rfl, rfl, (fun p hp => by
 rcases List.mem_cons.1 hp with rfl | hp
 ·exact spec_l1Pick.ok
 rcases List.mem_cons.1 hp with rfl | hp
 ·exact spec_l1Once.ok
 cases hp), rfl, rfl, rfl, rfl⟩
theorem tie (K : Res → Option Res) (a1 : Bool) (a2 : List Int) (a3 a4 : Int) : exec (X K) c (entry 53 [one (.bp 0 0), one (.bool a1)] [] [[.tr 2 2 [.int .u8] (.ints a2), .int .i64 a3, .int .i64 a4]]) (endK (X K)) = g a1 a2 a3 a4 (fun r1 r3 r4 => K (m a2 r1 r3 r4)) := Eq.trans (b := b a1 a2 a3 a4 (fun r1 r3 r4 => K (m a2 r1 r3 r4))) (by kernel_rfl) (by rw [e])
theorem runv {l : List Lf} {K : Res → Option Res} {r : Res} (h : run l K = some r) : ∃ a1 a2 a3 a4, l = [.b a1, .q (.ints a2), .i a3, .i a4] ∧ g a1 a2 a3 a4 (fun r1 r3 r4 => K (m a2 r1 r3 r4)) = some r := by
 unfold run at h; split at h
 ·exact ⟨_, _, _, _, rfl, h⟩
 ·cases h
theorem ok : Con Go.Proofs.Tryd.prog con := con_of (fn := Go.Proofs.Tryd.f71) (c := c) (Fi := fi) (X := X) (fun_of laid (by kernel_rfl) (by kernel_rfl) (by kernel_rfl) rfl (by kernel_rfl) (by kernel_rfl) cx (fun _ => rfl) (fun _ => rfl) (fun K => by
 rw [show loopsOf c = [] from by kernel_rfl]; intro p hp
 cases hp)) fun xs rows boxes K r hl hr => by
 obtain ⟨a1, a2, a3, a4, e, h⟩ := runv hr
 have := St.like_eq (y := a a1 a2 a3 a4) hl (by kernel_rfl) e
 obtain ⟨rfl, rfl, rfl⟩ := argSt_inj this
 exact (tie K a1 a2 a3 a4).trans h
end spec_l8DrawFun
-- GROUP spec_l8DrawOperand spec_l8DrawLine
namespace spec_l8DrawOperand
noncomputable def c : Code := bodyOf Go.Proofs.Tryd.f69
noncomputable def fi : Fin := ⟨Γ0, [(.tmp 4, 9)], [[1]], [], [([.sl [.int .u8] 1, .int .i64, .int .i64], [0, 1, 1])], []⟩
noncomputable def m (r1 : ByteArray) (r2 : List Int) (r3 r4 : Int) : Res := ⟨[⟨false, [.str r1]⟩], [], [], [[.tr 2 2 [.int .u8] (.ints r2), .int .i64 r3, .int .i64 r4]], []⟩
abbrev T : Type := Int → List Int → Int → Int → (ByteArray → List Int → Int → Int → Option Res) → Option Res
noncomputable def runz (h : T) : List Lf → (Res → Option Res) → Option Res
 | [.i a1, .q (.ints a2), .i a3, .i a4], K => h a1 a2 a3 a4 (fun r1 r2 r3 r4 => K (m r1 r2 r3 r4))
 | _, _ => none
noncomputable def a (a1 : Int) (a2 : List Int) (a3 a4 : Int) : St := argSt [one (.bp 0 0), one (.int .i64 a1)] [] [[.tr 2 2 [.int .u8] (.ints a2), .int .i64 a3, .int .i64 a4]]
noncomputable def conz (h : T) : FuncId × St × (List Lf → (Res → Option Res) → Option Res) := (69, a 0 [] 0 0, runz h)
end spec_l8DrawOperand
namespace spec_l8DrawLine
noncomputable def c : Code := bodyOf Go.Proofs.Tryd.f43
noncomputable def fi : Fin := ⟨Γ0, [(.tmp 4, 9)], [[1]], [], [([.sl [.int .u8] 1, .int .i64, .int .i64], [0, 1, 1])], []⟩
noncomputable def m (r1 : ByteArray) (r2 : List Int) (r3 r4 : Int) : Res := ⟨[⟨false, [.str r1]⟩], [], [], [[.tr 2 2 [.int .u8] (.ints r2), .int .i64 r3, .int .i64 r4]], []⟩
abbrev T : Type := Int → List Int → Int → Int → (ByteArray → List Int → Int → Int → Option Res) → Option Res
noncomputable def runz (h : T) : List Lf → (Res → Option Res) → Option Res
 | [.i a1, .q (.ints a2), .i a3, .i a4], K => h a1 a2 a3 a4 (fun r1 r2 r3 r4 => K (m r1 r2 r3 r4))
 | _, _ => none
noncomputable def a (a1 : Int) (a2 : List Int) (a3 a4 : Int) : St := argSt [one (.bp 0 0), one (.int .i64 a1)] [] [[.tr 2 2 [.int .u8] (.ints a2), .int .i64 a3, .int .i64 a4]]
noncomputable def conz (h : T) : FuncId × St × (List Lf → (Res → Option Res) → Option Res) := (43, a 0 [] 0 0, runz h)
end spec_l8DrawLine
abbrev Z_spec_l8DrawOperand : Type := spec_l8DrawOperand.T × spec_l8DrawLine.T
def Gd_spec_l8DrawOperand (z : Z_spec_l8DrawOperand) : Prop := Con Go.Proofs.Tryd.prog (spec_l8DrawOperand.conz z.1) ∧ Con Go.Proofs.Tryd.prog (spec_l8DrawLine.conz z.2)
namespace spec_l8DrawOperand
noncomputable def b0 : Code := codeAt c [1, 1, 1, 1, 0, 1, 0, 0]
noncomputable def s0 (x22 : ByteArray) (x23 : Int) (x24 : List Int) (x25 x26 : Int) : St := ⟨mkT 46 [(0, one (.bp 0 0)), (5, one (.str x22)), (6, one (.int .i64 x23))], [], [(0, [.tr 2 2 [.int .u8] (.ints x24), .int .i64 x25, .int .i64 x26])]⟩
noncomputable def l0s (x24 : List Int) (rec : ByteArray → Int → Int → Int → Option Res) (k : ByteArray → Int → Int → Option Res) (x22 : ByteArray) (x23 x25 x26 : Int) : Option Res :=
 spec_l1Below.g 4 x24 x25 x26 fun r27 r28 r29 =>
 bif decide (x23 < r27) then (bif decide (x22.size + 1 ≤ 9223372036854775807) then (spec_l1Below.g 9 x24 r28 r29 fun r30 r31 r32 =>
  spec_l8Digits.G (IntKind.i64.wrap (r30 - 2)) fun r33 =>
  bif decide ((x22 ++ (⟨#[32]⟩ : ByteArray)).size + r33.size ≤ 9223372036854775807) then rec ((x22 ++ (⟨#[32]⟩ : ByteArray)) ++ r33) (IntKind.i64.wrap (x23 + 1)) r31 r32
  else none)
  else none)
 else k x22 r28 r29
noncomputable def l0 (x24 : List Int) (k : ByteArray → Int → Int → Option Res) : Nat → ByteArray → Int → Int → Int → Option Res
 | 0, _, _, _, _ => none
 | n + 1, x22, x23, x25, x26 => l0s x24 (fun x22 x23 x25 x26 => l0 x24 k n x22 x23 x25 x26) k x22 x23 x25 x26
noncomputable def o0 (x24 : List Int) (y1 : ByteArray) (y3 y4 : Int) : St := ⟨mkT 46 [(0, one (.bp 0 0)), (5, one (.str y1))], [], [(0, [.tr 2 2 [.int .u8] (.ints x24), .int .i64 y3, .int .i64 y4])]⟩
noncomputable def p0 (K : Res → Option Res) : List Lf → (St → Option Res) → Option Res
 | [.s x22, .i x23, .q (.ints x24), .i x25, .i x26], k => l0 x24 (fun y1 y3 y4 => k (o0 x24 y1 y3 y4)) fuel x22 x23 x25 x26
 | _, _ => none
noncomputable def os (z : Z_spec_l8DrawOperand) : List (FuncId × St × (List Lf → (Res → Option Res) → Option Res)) := [spec_l1Once.con, spec_l8DrawLine.conz z.2, spec_l1Pick.con, spec_l1DrawNum.con, spec_l8Digits.con, spec_l1Below.con]
noncomputable def X (z : Z_spec_l8DrawOperand) (K : Res → Option Res) : Ctx := { Γ := Γ0, orc := orcOf (os z), io := [], share := [], mvl := [], bun := [], cut := [], own := [], cin := [(0, ⟨[0, 5, 6], [], [0], [], [], []⟩)], cout := [(0, ⟨[0, 5], [], [0], [], [], []⟩)], lp := lpOf [(0, s0 ByteArray.empty 0 [] 0 0, p0 K)], kl := [], nk := true, eqs := eqs0, byt := byt0, fin := finK fi K }
noncomputable def g (z : Z_spec_l8DrawOperand) (a1 : Int) (a2 : List Int) (a3 a4 : Int) (R : ByteArray → List Int → Int → Int → Option Res) : Option Res :=
 bif decide (0 < a1) then (spec_l1Once.g 4 a2 a3 a4 fun r5 r6 r7 =>
  bif r5 then (z.2 (IntKind.i64.wrap (a1 - 1)) a2 r6 r7 fun r8 r9 r10 r11 =>
   bif decide (2 + r8.size ≤ 9223372036854775807) then (bif decide (((⟨#[40, 32]⟩ : ByteArray) ++ r8).size + 2 ≤ 9223372036854775807) then R (((⟨#[40, 32]⟩ : ByteArray) ++ r8) ++ (⟨#[32, 41]⟩ : ByteArray)) r9 r10 r11
    else none)
   else none)
  else (spec_l1Once.g 3 a2 r6 r7 fun r12 r13 r14 =>
  bif r12 then (spec_l1Pick.g ([(⟨#[65]⟩ : ByteArray), (⟨#[66]⟩ : ByteArray), (⟨#[67]⟩ : ByteArray)] : List ByteArray) a2 r13 r14 fun r15 r16 r17 =>
   R r15 a2 r16 r17)
  else (spec_l1DrawNum.g a2 r13 r14 fun r18 r19 r20 =>
  spec_l8Digits.G r18 fun r21 =>
  l0 a2 (fun y34 y35 y36 =>
  spec_l1Once.g 4 a2 y35 y36 fun r37 r38 r39 =>
  bif r37 then (spec_l1Pick.g ([(⟨#[50]⟩ : ByteArray), (⟨#[51]⟩ : ByteArray), (⟨#[49]⟩ : ByteArray), (⟨#[48]⟩ : ByteArray), (⟨#[50, 32, 50]⟩ : ByteArray), (⟨#[50, 32, 51]⟩ : ByteArray)] : List ByteArray) a2 r38 r39 fun r40 r41 r42 =>
   R r40 a2 r41 r42)
  else R y34 a2 r38 r39) fuel r21 0 r19 r20)))
 else (spec_l1Once.g 3 a2 a3 a4 fun r43 r44 r45 =>
 bif r43 then (spec_l1Pick.g ([(⟨#[65]⟩ : ByteArray), (⟨#[66]⟩ : ByteArray), (⟨#[67]⟩ : ByteArray)] : List ByteArray) a2 r44 r45 fun r46 r47 r48 =>
  R r46 a2 r47 r48)
 else (spec_l1DrawNum.g a2 r44 r45 fun r49 r50 r51 =>
 spec_l8Digits.G r49 fun r52 =>
 l0 a2 (fun y53 y54 y55 =>
 spec_l1Once.g 4 a2 y54 y55 fun r56 r57 r58 =>
 bif r56 then (spec_l1Pick.g ([(⟨#[50]⟩ : ByteArray), (⟨#[51]⟩ : ByteArray), (⟨#[49]⟩ : ByteArray), (⟨#[48]⟩ : ByteArray), (⟨#[50, 32, 50]⟩ : ByteArray), (⟨#[50, 32, 51]⟩ : ByteArray)] : List ByteArray) a2 r57 r58 fun r59 r60 r61 =>
  R r59 a2 r60 r61)
 else R y53 a2 r57 r58) fuel r52 0 r50 r51))
theorem cx (z : Z_spec_l8DrawOperand) (hz : Gd_spec_l8DrawOperand z) (K : Res → Option Res) : CtxOk Go.Proofs.Tryd.prog Γ0 byt0 eqs0 (X z K) (os z) := ⟨rfl, rfl, rfl, (fun p hp => by
 rcases List.mem_cons.1 hp with rfl | hp
 ·exact spec_l1Once.ok
 rcases List.mem_cons.1 hp with rfl | hp
 ·exact hz.2
 rcases List.mem_cons.1 hp with rfl | hp
 ·exact spec_l1Pick.ok
 rcases List.mem_cons.1 hp with rfl | hp
 ·exact spec_l1DrawNum.ok
 rcases List.mem_cons.1 hp with rfl | hp
 ·exact spec_l8Digits.okG
 rcases List.mem_cons.1 hp with rfl | hp
 ·exact spec_l1Below.ok
 cases hp), rfl, rfl, rfl, rfl⟩
theorem t0 (z : Z_spec_l8DrawOperand) (K : Res → Option Res) (k : St → Option Res) (it : St → (St → Option Res) → Option Res) (x22 : ByteArray) (x23 : Int) (x24 : List Int) (x25 x26 : Int) : iterS (X z K) 0 b0 it (s0 x22 x23 x24 x25 x26) k = l0s x24 (fun x22 x23 x25 x26 => it (s0 x22 x23 x24 x25 x26) k) (fun y1 y3 y4 => k (o0 x24 y1 y3 y4)) x22 x23 x25 x26 := by kernel_rfl
theorem i0 (z : Z_spec_l8DrawOperand) (K : Res → Option Res) (k : St → Option Res) (x24 : List Int) : ∀ (n : Nat) (x22 : ByteArray) (x23 x25 x26 : Int), iter (X z K) 0 b0 n (s0 x22 x23 x24 x25 x26) k = l0 x24 (fun y1 y3 y4 => k (o0 x24 y1 y3 y4)) n x22 x23 x25 x26
 | 0, _, _, _, _ => rfl
 | n + 1, x22, x23, x25, x26 => by
  rw [iter_succ, t0 z, show (fun x22 x23 x25 x26 => iter (X z K) 0 b0 n (s0 x22 x23 x24 x25 x26) k) = (fun x22 x23 x25 x26 => l0 x24 (fun y1 y3 y4 => k (o0 x24 y1 y3 y4)) n x22 x23 x25 x26) from funext fun x22 => funext fun x23 => funext fun x25 => funext fun x26 => i0 z K k x24 n x22 x23 x25 x26]; rfl
theorem v0 {K : Res → Option Res} {l : List Lf} {k : St → Option Res} {r : Res} (h : p0 K l k = some r) : ∃ x22 x23 x24 x25 x26, l = [.s x22, .i x23, .q (.ints x24), .i x25, .i x26] ∧ l0 x24 (fun y1 y3 y4 => k (o0 x24 y1 y3 y4)) fuel x22 x23 x25 x26 = some r := by
 unfold p0 at h; split at h
 ·exact ⟨_, _, _, _, _, rfl, h⟩
 ·cases h
theorem w0 (z : Z_spec_l8DrawOperand) (hz : Gd_spec_l8DrawOperand z) (K : Res → Option Res) : LpSound Go.Proofs.Tryd.prog (X z K) 0 b0 := lp_ok (((cx z hz) K).ok laid) (by rw [show loopsOf b0 = [] from by kernel_rfl]; intro p hp; cases hp) rfl fun p hp hid => by
 rcases List.mem_cons.1 hp with rfl | hp
 ·intro st k r h1 h2; obtain ⟨x22, x23, x24, x25, x26, e, h⟩ := v0 (K := K) h2; have := St.like_eq (y := s0 x22 x23 x24 x25 x26) h1 (by kernel_rfl) e; subst this; exact ⟨fuel, (i0 z K k x24 fuel x22 x23 x25 x26).trans h⟩
 cases hp
theorem tie (z : Z_spec_l8DrawOperand) (K : Res → Option Res) (a1 : Int) (a2 : List Int) (a3 a4 : Int) : exec (X z K) c (entry 46 [one (.bp 0 0), one (.int .i64 a1)] [] [[.tr 2 2 [.int .u8] (.ints a2), .int .i64 a3, .int .i64 a4]]) (endK (X z K)) = (g z) a1 a2 a3 a4 (fun r1 r2 r3 r4 => K (m r1 r2 r3 r4)) := by kernel_rfl
theorem runv (z : Z_spec_l8DrawOperand) {l : List Lf} {K : Res → Option Res} {r : Res} (h : runz (g z) l K = some r) : ∃ a1 a2 a3 a4, l = [.i a1, .q (.ints a2), .i a3, .i a4] ∧ (g z) a1 a2 a3 a4 (fun r1 r2 r3 r4 => K (m r1 r2 r3 r4)) = some r := by
 unfold runz at h; split at h
 ·exact ⟨_, _, _, _, rfl, h⟩
 ·cases h
theorem ok (z : Z_spec_l8DrawOperand) (hz : Gd_spec_l8DrawOperand z) : Con Go.Proofs.Tryd.prog (conz (g z)) := con_of (fn := Go.Proofs.Tryd.f69) (c := c) (Fi := fi) (X := X z) (fun_of laid (by kernel_rfl) (by kernel_rfl) (by kernel_rfl) rfl (by kernel_rfl) (by kernel_rfl) (cx z hz) (fun _ => rfl) (fun _ => rfl) (fun K => by
 rw [show loopsOf c = [(0, b0)] from by kernel_rfl]; intro p hp
 rcases List.mem_cons.1 hp with rfl | hp
 ·exact w0 z hz K
 cases hp)) fun xs rows boxes K r hl hr => by
 obtain ⟨a1, a2, a3, a4, e, h⟩ := runv z hr
 have := St.like_eq (y := a a1 a2 a3 a4) hl (by kernel_rfl) e
 obtain ⟨rfl, rfl, rfl⟩ := argSt_inj this
 exact (tie z K a1 a2 a3 a4).trans h
end spec_l8DrawOperand
namespace spec_l8DrawLine
noncomputable def os (z : Z_spec_l8DrawOperand) : List (FuncId × St × (List Lf → (Res → Option Res) → Option Res)) := [spec_l8DrawOperand.conz z.1, spec_l1Below.con, spec_l1Pick.con, spec_l8DrawLine.conz z.2, spec_l8DrawFun.con]
noncomputable def X (z : Z_spec_l8DrawOperand) (K : Res → Option Res) : Ctx := { Γ := Γ0, orc := orcOf (os z), io := [], share := [], mvl := [], bun := [], cut := [], own := [], cin := [], cout := [], lp := lpOf [], kl := [], nk := true, eqs := eqs0, byt := byt0, fin := finK fi K }
noncomputable def g (z : Z_spec_l8DrawOperand) (a1 : Int) (a2 : List Int) (a3 a4 : Int) (R : ByteArray → List Int → Int → Int → Option Res) : Option Res :=
 bif decide (a1 ≤ 0) then (z.1 0 a2 a3 a4 fun r5 r6 r7 r8 =>
  R r5 r6 r7 r8)
 else (spec_l1Below.g 8 a2 a3 a4 fun r9 r10 r11 =>
 bif (r9 == 0) then (spec_l1Pick.g ([(⟨#[65]⟩ : ByteArray), (⟨#[66]⟩ : ByteArray), (⟨#[67]⟩ : ByteArray)] : List ByteArray) a2 r10 r11 fun r12 r13 r14 =>
  bif decide (r12.size + 3 ≤ 9223372036854775807) then (z.2 (IntKind.i64.wrap (a1 - 1)) a2 r13 r14 fun r15 r16 r17 r18 =>
   bif decide ((r12 ++ (⟨#[32, 58, 32]⟩ : ByteArray)).size + r15.size ≤ 9223372036854775807) then R ((r12 ++ (⟨#[32, 58, 32]⟩ : ByteArray)) ++ r15) r16 r17 r18
   else none)
  else none)
 else bif (r9 == 1) then (spec_l8DrawFun.g false a2 r10 r11 fun r19 r20 r21 =>
  bif decide (r19.size + 1 ≤ 9223372036854775807) then (z.2 (IntKind.i64.wrap (a1 - 1)) a2 r20 r21 fun r22 r23 r24 r25 =>
   bif decide ((r19 ++ (⟨#[32]⟩ : ByteArray)).size + r22.size ≤ 9223372036854775807) then R ((r19 ++ (⟨#[32]⟩ : ByteArray)) ++ r22) r23 r24 r25
   else none)
  else none)
 else bif (r9 == 2) then (spec_l8DrawFun.g false a2 r10 r11 fun r26 r27 r28 =>
  bif decide (r26.size + 1 ≤ 9223372036854775807) then (z.2 (IntKind.i64.wrap (a1 - 1)) a2 r27 r28 fun r29 r30 r31 r32 =>
   bif decide ((r26 ++ (⟨#[32]⟩ : ByteArray)).size + r29.size ≤ 9223372036854775807) then R ((r26 ++ (⟨#[32]⟩ : ByteArray)) ++ r29) r30 r31 r32
   else none)
  else none)
 else bif (r9 == 3) then (z.1 (IntKind.i64.wrap (a1 - 1)) a2 r10 r11 fun r33 r34 r35 r36 =>
  bif decide (r33.size + 1 ≤ 9223372036854775807) then (spec_l8DrawFun.g true r34 r35 r36 fun r37 r38 r39 =>
   bif decide ((r33 ++ (⟨#[32]⟩ : ByteArray)).size + r37.size ≤ 9223372036854775807) then (bif decide (((r33 ++ (⟨#[32]⟩ : ByteArray)) ++ r37).size + 1 ≤ 9223372036854775807) then (z.2 (IntKind.i64.wrap (a1 - 1)) r34 r38 r39 fun r40 r41 r42 r43 =>
    bif decide ((((r33 ++ (⟨#[32]⟩ : ByteArray)) ++ r37) ++ (⟨#[32]⟩ : ByteArray)).size + r40.size ≤ 9223372036854775807) then R ((((r33 ++ (⟨#[32]⟩ : ByteArray)) ++ r37) ++ (⟨#[32]⟩ : ByteArray)) ++ r40) r41 r42 r43
    else none)
    else none)
   else none)
  else none)
 else bif (r9 == 4) then (z.1 (IntKind.i64.wrap (a1 - 1)) a2 r10 r11 fun r44 r45 r46 r47 =>
  bif decide (r44.size + 1 ≤ 9223372036854775807) then (spec_l8DrawFun.g true r45 r46 r47 fun r48 r49 r50 =>
   bif decide ((r44 ++ (⟨#[32]⟩ : ByteArray)).size + r48.size ≤ 9223372036854775807) then (bif decide (((r44 ++ (⟨#[32]⟩ : ByteArray)) ++ r48).size + 1 ≤ 9223372036854775807) then (z.2 (IntKind.i64.wrap (a1 - 1)) r45 r49 r50 fun r51 r52 r53 r54 =>
    bif decide ((((r44 ++ (⟨#[32]⟩ : ByteArray)) ++ r48) ++ (⟨#[32]⟩ : ByteArray)).size + r51.size ≤ 9223372036854775807) then R ((((r44 ++ (⟨#[32]⟩ : ByteArray)) ++ r48) ++ (⟨#[32]⟩ : ByteArray)) ++ r51) r52 r53 r54
    else none)
    else none)
   else none)
  else none)
 else bif (r9 == 5) then (z.1 (IntKind.i64.wrap (a1 - 1)) a2 r10 r11 fun r55 r56 r57 r58 =>
  bif decide (r55.size + 1 ≤ 9223372036854775807) then (spec_l8DrawFun.g true r56 r57 r58 fun r59 r60 r61 =>
   bif decide ((r55 ++ (⟨#[32]⟩ : ByteArray)).size + r59.size ≤ 9223372036854775807) then (bif decide (((r55 ++ (⟨#[32]⟩ : ByteArray)) ++ r59).size + 1 ≤ 9223372036854775807) then (z.2 (IntKind.i64.wrap (a1 - 1)) r56 r60 r61 fun r62 r63 r64 r65 =>
    bif decide ((((r55 ++ (⟨#[32]⟩ : ByteArray)) ++ r59) ++ (⟨#[32]⟩ : ByteArray)).size + r62.size ≤ 9223372036854775807) then R ((((r55 ++ (⟨#[32]⟩ : ByteArray)) ++ r59) ++ (⟨#[32]⟩ : ByteArray)) ++ r62) r63 r64 r65
    else none)
    else none)
   else none)
  else none)
 else bif (r9 == 6) then (spec_l1Pick.g ([(⟨#[43, 32, 47, 32, 105, 32, 53]⟩ : ByteArray), (⟨#[50, 32, 51, 32, 35, 32, 105, 32, 54]⟩ : ByteArray), (⟨#[65, 32, 58, 32, 105, 32, 52]⟩ : ByteArray), (⟨#[65, 32, 43, 32, 65, 32, 58, 32, 105, 32, 51]⟩ : ByteArray), (⟨#[40, 32, 105, 32, 51, 32, 41, 32, 111, 32, 42, 32, 105, 32, 52]⟩ : ByteArray), (⟨#[65, 32, 43, 32, 46, 32, 42, 32, 66]⟩ : ByteArray), (⟨#[66, 32, 58, 32, 50, 32, 50, 32, 35, 32, 105, 32, 52]⟩ : ByteArray), (⟨#[103, 32, 51, 32, 49, 32, 50]⟩ : ByteArray), (⟨#[43, 32, 92, 32, 105, 32, 54]⟩ : ByteArray), (⟨#[49, 32, 43, 32, 65, 32, 42, 32, 50, 32, 45, 32, 65]⟩ : ByteArray), (⟨#[126, 32, 65, 32, 61, 32, 66]⟩ : ByteArray), (⟨#[65, 32, 64, 32, 66]⟩ : ByteArray)] : List ByteArray) a2 r10 r11 fun r66 r67 r68 =>
  R r66 a2 r67 r68)
 else (z.1 (IntKind.i64.wrap (a1 - 1)) a2 r10 r11 fun r69 r70 r71 r72 =>
 R r69 r70 r71 r72))
theorem cx (z : Z_spec_l8DrawOperand) (hz : Gd_spec_l8DrawOperand z) (K : Res → Option Res) : CtxOk Go.Proofs.Tryd.prog Γ0 byt0 eqs0 (X z K) (os z) := ⟨rfl, rfl, rfl, (fun p hp => by
 rcases List.mem_cons.1 hp with rfl | hp
 ·exact hz.1
 rcases List.mem_cons.1 hp with rfl | hp
 ·exact spec_l1Below.ok
 rcases List.mem_cons.1 hp with rfl | hp
 ·exact spec_l1Pick.ok
 rcases List.mem_cons.1 hp with rfl | hp
 ·exact hz.2
 rcases List.mem_cons.1 hp with rfl | hp
 ·exact spec_l8DrawFun.ok
 cases hp), rfl, rfl, rfl, rfl⟩
theorem tie (z : Z_spec_l8DrawOperand) (K : Res → Option Res) (a1 : Int) (a2 : List Int) (a3 a4 : Int) : exec (X z K) c (entry 60 [one (.bp 0 0), one (.int .i64 a1)] [] [[.tr 2 2 [.int .u8] (.ints a2), .int .i64 a3, .int .i64 a4]]) (endK (X z K)) = (g z) a1 a2 a3 a4 (fun r1 r2 r3 r4 => K (m r1 r2 r3 r4)) := by kernel_rfl
theorem runv (z : Z_spec_l8DrawOperand) {l : List Lf} {K : Res → Option Res} {r : Res} (h : runz (g z) l K = some r) : ∃ a1 a2 a3 a4, l = [.i a1, .q (.ints a2), .i a3, .i a4] ∧ (g z) a1 a2 a3 a4 (fun r1 r2 r3 r4 => K (m r1 r2 r3 r4)) = some r := by
 unfold runz at h; split at h
 ·exact ⟨_, _, _, _, rfl, h⟩
 ·cases h
theorem ok (z : Z_spec_l8DrawOperand) (hz : Gd_spec_l8DrawOperand z) : Con Go.Proofs.Tryd.prog (conz (g z)) := con_of (fn := Go.Proofs.Tryd.f43) (c := c) (Fi := fi) (X := X z) (fun_of laid (by kernel_rfl) (by kernel_rfl) (by kernel_rfl) rfl (by kernel_rfl) (by kernel_rfl) (cx z hz) (fun _ => rfl) (fun _ => rfl) (fun K => by
 rw [show loopsOf c = [] from by kernel_rfl]; intro p hp
 cases hp)) fun xs rows boxes K r hl hr => by
 obtain ⟨a1, a2, a3, a4, e, h⟩ := runv z hr
 have := St.like_eq (y := a a1 a2 a3 a4) hl (by kernel_rfl) e
 obtain ⟨rfl, rfl, rfl⟩ := argSt_inj this
 exact (tie z K a1 a2 a3 a4).trans h
end spec_l8DrawLine
noncomputable def rec_spec_l8DrawOperand : Nat → Z_spec_l8DrawOperand
 | 0 => ((fun _ _ _ _ _ => none), (fun _ _ _ _ _ => none))
 | n + 1 => (spec_l8DrawOperand.g (rec_spec_l8DrawOperand n), spec_l8DrawLine.g (rec_spec_l8DrawOperand n))
theorem good_spec_l8DrawOperand : ∀ n, Gd_spec_l8DrawOperand (rec_spec_l8DrawOperand n)
 | 0 => ⟨con_none (fun l K => by show spec_l8DrawOperand.runz (fun _ _ _ _ _ => none) l K = none; unfold spec_l8DrawOperand.runz; split <;> rfl), con_none (fun l K => by show spec_l8DrawLine.runz (fun _ _ _ _ _ => none) l K = none; unfold spec_l8DrawLine.runz; split <;> rfl)⟩
 | n + 1 => ⟨spec_l8DrawOperand.ok _ (good_spec_l8DrawOperand n), spec_l8DrawLine.ok _ (good_spec_l8DrawOperand n)⟩
namespace spec_l8DrawOperand
noncomputable def gn (n : Nat) (a1 : Int) (a2 : List Int) (a3 a4 : Int) (R : ByteArray → List Int → Int → Int → Option Res) : Option Res := (rec_spec_l8DrawOperand n).1 a1 a2 a3 a4 R
theorem Gx : ∃ x : T, x = gn fuel := ⟨_, rfl⟩
noncomputable def G : T := Classical.choose Gx
theorem Ge : G = gn fuel := Classical.choose_spec Gx
theorem gn_succ (n : Nat) (a1 : Int) (a2 : List Int) (a3 a4 : Int) (R : ByteArray → List Int → Int → Int → Option Res) : gn (n + 1) a1 a2 a3 a4 R = g (rec_spec_l8DrawOperand n) a1 a2 a3 a4 R := rfl
noncomputable def con : FuncId × St × (List Lf → (Res → Option Res) → Option Res) := conz G
theorem okG : Con Go.Proofs.Tryd.prog con := by
 unfold con; rw [Ge]; exact (good_spec_l8DrawOperand fuel).1
end spec_l8DrawOperand
namespace spec_l8DrawLine
noncomputable def gn (n : Nat) (a1 : Int) (a2 : List Int) (a3 a4 : Int) (R : ByteArray → List Int → Int → Int → Option Res) : Option Res := (rec_spec_l8DrawOperand n).2 a1 a2 a3 a4 R
theorem Gx : ∃ x : T, x = gn fuel := ⟨_, rfl⟩
noncomputable def G : T := Classical.choose Gx
theorem Ge : G = gn fuel := Classical.choose_spec Gx
theorem gn_succ (n : Nat) (a1 : Int) (a2 : List Int) (a3 a4 : Int) (R : ByteArray → List Int → Int → Int → Option Res) : gn (n + 1) a1 a2 a3 a4 R = g (rec_spec_l8DrawOperand n) a1 a2 a3 a4 R := rfl
noncomputable def con : FuncId × St × (List Lf → (Res → Option Res) → Option Res) := conz G
theorem okG : Con Go.Proofs.Tryd.prog con := by
 unfold con; rw [Ge]; exact (good_spec_l8DrawOperand fuel).2
end spec_l8DrawLine
-- END GROUP
namespace spec_l1Min
noncomputable def c : Code := bodyOf Go.Proofs.Tryd.f56
noncomputable def fi : Fin := ⟨Γ0, [(.tmp 4, 3)], [[1]], [], [], []⟩
noncomputable def m (r1 : Int) : Res := ⟨[⟨false, [.int .i64 r1]⟩], [], [], [], []⟩
noncomputable def os : List (FuncId × St × (List Lf → (Res → Option Res) → Option Res)) := []
noncomputable def X (K : Res → Option Res) : Ctx := { Γ := Γ0, orc := orcOf os, io := [], share := [], mvl := [], bun := [], cut := [], own := [], cin := [], cout := [], lp := lpOf [], kl := [], nk := true, eqs := eqs0, byt := byt0, fin := finK fi K }
noncomputable def b (a1 a2 : Int) (R : Int → Option Res) : Option Res :=
 bif decide (a1 < a2) then R a1
 else R a2
theorem gx : ∃ x : Int → Int → (Int → Option Res) → Option Res, x = b := ⟨_, rfl⟩
noncomputable def g : Int → Int → (Int → Option Res) → Option Res := Classical.choose gx
theorem e : g = b := Classical.choose_spec gx
noncomputable def run : List Lf → (Res → Option Res) → Option Res
 | [.i a1, .i a2], K => g a1 a2 (fun r1 => K (m r1))
 | _, _ => none
noncomputable def a (a1 a2 : Int) : St := argSt [one (.int .i64 a1), one (.int .i64 a2)] [] []
noncomputable def con : FuncId × St × (List Lf → (Res → Option Res) → Option Res) := (56, a 0 0, run)
theorem cx (K : Res → Option Res) : CtxOk Go.Proofs.Tryd.prog Γ0 byt0 eqs0 (X K) os := ⟨rfl, rfl, rfl, (fun p hp => by
 cases hp), rfl, rfl, rfl, rfl⟩
theorem tie (K : Res → Option Res) (a1 a2 : Int) : exec (X K) c (entry 10 [one (.int .i64 a1), one (.int .i64 a2)] [] []) (endK (X K)) = g a1 a2 (fun r1 => K (m r1)) := Eq.trans (b := b a1 a2 (fun r1 => K (m r1))) (by kernel_rfl) (by rw [e])
theorem runv {l : List Lf} {K : Res → Option Res} {r : Res} (h : run l K = some r) : ∃ a1 a2, l = [.i a1, .i a2] ∧ g a1 a2 (fun r1 => K (m r1)) = some r := by
 unfold run at h; split at h
 ·exact ⟨_, _, rfl, h⟩
 ·cases h
theorem ok : Con Go.Proofs.Tryd.prog con := con_of (fn := Go.Proofs.Tryd.f56) (c := c) (Fi := fi) (X := X) (fun_of laid (by kernel_rfl) (by kernel_rfl) (by kernel_rfl) rfl (by kernel_rfl) (by kernel_rfl) cx (fun _ => rfl) (fun _ => rfl) (fun K => by
 rw [show loopsOf c = [] from by kernel_rfl]; intro p hp
 cases hp)) fun xs rows boxes K r hl hr => by
 obtain ⟨a1, a2, e, h⟩ := runv hr
 have := St.like_eq (y := a a1 a2) hl (by kernel_rfl) e
 obtain ⟨rfl, rfl, rfl⟩ := argSt_inj this
 exact (tie K a1 a2).trans h
end spec_l1Min
namespace spec_l8Dent
noncomputable def c : Code := bodyOf Go.Proofs.Tryd.f44
noncomputable def fi : Fin := ⟨Γ0, [(.tmp 6, 9)], [[1]], [], [([.sl [.int .u8] 1, .int .i64, .int .i64], [0, 1, 1])], []⟩
noncomputable def m (a3 : List Int) (r1 : ByteArray) (r3 r4 : Int) : Res := ⟨[⟨false, [.str r1]⟩], [], [], [[.tr 2 2 [.int .u8] (.ints a3), .int .i64 r3, .int .i64 r4]], []⟩
noncomputable def os : List (FuncId × St × (List Lf → (Res → Option Res) → Option Res)) := [spec_l1Below.con, spec_l1Pick.con, spec_l1Min.con]
noncomputable def X (K : Res → Option Res) : Ctx := { Γ := Γ0, orc := orcOf os, io := [], share := [], mvl := [], bun := [], cut := [], own := [], cin := [], cout := [], lp := lpOf [], kl := [], nk := true, eqs := eqs0, byt := byt0, fin := finK fi K }
noncomputable def b (a1 : ByteArray) (a2 : List ByteArray) (a3 : List Int) (a4 a5 : Int) (R : ByteArray → Int → Int → Option Res) : Option Res :=
 spec_l1Below.g (IntKind.i64.wrap ((a1.size : Int) + 1)) a3 a4 a5 fun r6 r7 r8 =>
 spec_l1Below.g 3 a3 r7 r8 fun r9 r10 r11 =>
 bif (r9 == 0) then (bif decide (0 ≤ r6) && decide (r6 ≤ (a1.size : Int)) then R (a1.extract 0 r6.toNat) r10 r11
  else none)
 else bif (r9 == 1) then (bif decide (0 ≤ r6) && decide (r6 ≤ (a1.size : Int)) then (spec_l1Pick.g a2 a3 r10 r11 fun r12 r13 r14 =>
  bif decide ((a1.extract 0 r6.toNat).size + r12.size ≤ 9223372036854775807) then (spec_l1Min.g (IntKind.i64.wrap (r6 + 1)) (a1.size : Int) fun r15 =>
   bif decide (0 ≤ r15) && decide (r15 ≤ (a1.size : Int)) then (bif decide (((a1.extract 0 r6.toNat) ++ r12).size + (a1.extract r15.toNat a1.size).size ≤ 9223372036854775807) then R (((a1.extract 0 r6.toNat) ++ r12) ++ (a1.extract r15.toNat a1.size)) r13 r14
    else none)
   else none)
  else none)
  else none)
 else bif decide (0 ≤ r6) && decide (r6 ≤ (a1.size : Int)) then (spec_l1Pick.g a2 a3 r10 r11 fun r16 r17 r18 =>
  bif decide ((a1.extract 0 r6.toNat).size + r16.size ≤ 9223372036854775807) then (bif decide (0 ≤ r6) && decide (r6 ≤ (a1.size : Int)) then (bif decide (((a1.extract 0 r6.toNat) ++ r16).size + (a1.extract r6.toNat a1.size).size ≤ 9223372036854775807) then R (((a1.extract 0 r6.toNat) ++ r16) ++ (a1.extract r6.toNat a1.size)) r17 r18
   else none)
   else none)
  else none)
 else none
theorem gx : ∃ x : ByteArray → List ByteArray → List Int → Int → Int → (ByteArray → Int → Int → Option Res) → Option Res, x = b := ⟨_, rfl⟩
noncomputable def g : ByteArray → List ByteArray → List Int → Int → Int → (ByteArray → Int → Int → Option Res) → Option Res := Classical.choose gx
theorem e : g = b := Classical.choose_spec gx
noncomputable def run : List Lf → (Res → Option Res) → Option Res
 | [.s a1, .q (.strs a2), .q (.ints a3), .i a4, .i a5], K => g a1 a2 a3 a4 a5 (fun r1 r3 r4 => K (m a3 r1 r3 r4))
 | _, _ => none
noncomputable def a (a1 : ByteArray) (a2 : List ByteArray) (a3 : List Int) (a4 a5 : Int) : St := argSt [one (.bp 0 0), one (.str a1), one (.tr 0 1 [.str] (.strs a2))] [] [[.tr 2 2 [.int .u8] (.ints a3), .int .i64 a4, .int .i64 a5]]
noncomputable def con : FuncId × St × (List Lf → (Res → Option Res) → Option Res) := (44, a ByteArray.empty [] [] 0 0, run)
theorem cx (K : Res → Option Res) : CtxOk Go.Proofs.Tryd.prog Γ0 byt0 eqs0 (X K) os := ⟨rfl, rfl, rfl, (fun p hp => by
 rcases List.mem_cons.1 hp with rfl | hp
 ·exact spec_l1Below.ok
 rcases List.mem_cons.1 hp with rfl | hp
 ·exact spec_l1Pick.ok
 rcases List.mem_cons.1 hp with rfl | hp
 ·exact spec_l1Min.ok
 cases hp), rfl, rfl, rfl, rfl⟩
theorem tie (K : Res → Option Res) (a1 : ByteArray) (a2 : List ByteArray) (a3 : List Int) (a4 a5 : Int) : exec (X K) c (entry 48 [one (.bp 0 0), one (.str a1), one (.tr 0 1 [.str] (.strs a2))] [] [[.tr 2 2 [.int .u8] (.ints a3), .int .i64 a4, .int .i64 a5]]) (endK (X K)) = g a1 a2 a3 a4 a5 (fun r1 r3 r4 => K (m a3 r1 r3 r4)) := Eq.trans (b := b a1 a2 a3 a4 a5 (fun r1 r3 r4 => K (m a3 r1 r3 r4))) (by kernel_rfl) (by rw [e])
theorem runv {l : List Lf} {K : Res → Option Res} {r : Res} (h : run l K = some r) : ∃ a1 a2 a3 a4 a5, l = [.s a1, .q (.strs a2), .q (.ints a3), .i a4, .i a5] ∧ g a1 a2 a3 a4 a5 (fun r1 r3 r4 => K (m a3 r1 r3 r4)) = some r := by
 unfold run at h; split at h
 ·exact ⟨_, _, _, _, _, rfl, h⟩
 ·cases h
theorem ok : Con Go.Proofs.Tryd.prog con := con_of (fn := Go.Proofs.Tryd.f44) (c := c) (Fi := fi) (X := X) (fun_of laid (by kernel_rfl) (by kernel_rfl) (by kernel_rfl) rfl (by kernel_rfl) (by kernel_rfl) cx (fun _ => rfl) (fun _ => rfl) (fun K => by
 rw [show loopsOf c = [] from by kernel_rfl]; intro p hp
 cases hp)) fun xs rows boxes K r hl hr => by
 obtain ⟨a1, a2, a3, a4, a5, e, h⟩ := runv hr
 have := St.like_eq (y := a a1 a2 a3 a4 a5) hl (by kernel_rfl) e
 obtain ⟨rfl, rfl, rfl⟩ := argSt_inj this
 exact (tie K a1 a2 a3 a4 a5).trans h
end spec_l8Dent
namespace spec_l8DrawText
noncomputable def c : Code := bodyOf Go.Proofs.Tryd.f20
noncomputable def fi : Fin := ⟨Γ0, [(.tmp 2, 9)], [[1]], [], [([.sl [.int .u8] 1, .int .i64, .int .i64], [0, 1, 1])], []⟩
noncomputable def m (r1 : ByteArray) (r2 : List Int) (r3 r4 : Int) : Res := ⟨[⟨false, [.str r1]⟩], [], [], [[.tr 2 2 [.int .u8] (.ints r2), .int .i64 r3, .int .i64 r4]], []⟩
noncomputable def os : List (FuncId × St × (List Lf → (Res → Option Res) → Option Res)) := [spec_l8DrawLine.con, spec_l1Once.con, spec_l8Dent.con]
noncomputable def X (K : Res → Option Res) : Ctx := { Γ := Γ0, orc := orcOf os, io := [], share := [], mvl := [], bun := [], cut := [], own := [], cin := [], cout := [], lp := lpOf [], kl := [], nk := true, eqs := eqs0, byt := byt0, fin := finK fi K }
noncomputable def b (a1 : List Int) (a2 a3 : Int) (R : ByteArray → List Int → Int → Int → Option Res) : Option Res :=
 spec_l8DrawLine.G 4 a1 a2 a3 fun r4 r5 r6 r7 =>
 spec_l1Once.g 3 r5 r6 r7 fun r8 r9 r10 =>
 bif r8 then (spec_l8Dent.g r4 ([(⟨#[43]⟩ : ByteArray), (⟨#[45]⟩ : ByteArray), (⟨#[47]⟩ : ByteArray), (⟨#[40]⟩ : ByteArray), (⟨#[41]⟩ : ByteArray), (⟨#[58]⟩ : ByteArray), (⟨#[65]⟩ : ByteArray), (⟨#[53]⟩ : ByteArray), (⟨#[32]⟩ : ByteArray), (⟨#[95]⟩ : ByteArray), (⟨#[111]⟩ : ByteArray), (⟨#[46]⟩ : ByteArray), (⟨#[120]⟩ : ByteArray), (⟨#[35]⟩ : ByteArray), (⟨#[49, 48, 48, 48, 48, 48, 48, 48, 48, 48, 48, 48, 49]⟩ : ByteArray)] : List ByteArray) r5 r9 r10 fun r11 r12 r13 =>
  R r11 r5 r12 r13)
 else R r4 r5 r9 r10
theorem gx : ∃ x : List Int → Int → Int → (ByteArray → List Int → Int → Int → Option Res) → Option Res, x = b := ⟨_, rfl⟩
noncomputable def g : List Int → Int → Int → (ByteArray → List Int → Int → Int → Option Res) → Option Res := Classical.choose gx
theorem e : g = b := Classical.choose_spec gx
noncomputable def run : List Lf → (Res → Option Res) → Option Res
 | [.q (.ints a1), .i a2, .i a3], K => g a1 a2 a3 (fun r1 r2 r3 r4 => K (m r1 r2 r3 r4))
 | _, _ => none
noncomputable def a (a1 : List Int) (a2 a3 : Int) : St := argSt [one (.bp 0 0)] [] [[.tr 2 2 [.int .u8] (.ints a1), .int .i64 a2, .int .i64 a3]]
noncomputable def con : FuncId × St × (List Lf → (Res → Option Res) → Option Res) := (20, a [] 0 0, run)
theorem cx (K : Res → Option Res) : CtxOk Go.Proofs.Tryd.prog Γ0 byt0 eqs0 (X K) os := ⟨rfl, rfl, rfl, (fun p hp => by
 rcases List.mem_cons.1 hp with rfl | hp
 ·exact spec_l8DrawLine.okG
 rcases List.mem_cons.1 hp with rfl | hp
 ·exact spec_l1Once.ok
 rcases List.mem_cons.1 hp with rfl | hp
 ·exact spec_l8Dent.ok
 cases hp), rfl, rfl, rfl, rfl⟩
theorem tie (K : Res → Option Res) (a1 : List Int) (a2 a3 : Int) : exec (X K) c (entry 13 [one (.bp 0 0)] [] [[.tr 2 2 [.int .u8] (.ints a1), .int .i64 a2, .int .i64 a3]]) (endK (X K)) = g a1 a2 a3 (fun r1 r2 r3 r4 => K (m r1 r2 r3 r4)) := Eq.trans (b := b a1 a2 a3 (fun r1 r2 r3 r4 => K (m r1 r2 r3 r4))) (by kernel_rfl) (by rw [e])
theorem runv {l : List Lf} {K : Res → Option Res} {r : Res} (h : run l K = some r) : ∃ a1 a2 a3, l = [.q (.ints a1), .i a2, .i a3] ∧ g a1 a2 a3 (fun r1 r2 r3 r4 => K (m r1 r2 r3 r4)) = some r := by
 unfold run at h; split at h
 ·exact ⟨_, _, _, rfl, h⟩
 ·cases h
theorem ok : Con Go.Proofs.Tryd.prog con := con_of (fn := Go.Proofs.Tryd.f20) (c := c) (Fi := fi) (X := X) (fun_of laid (by kernel_rfl) (by kernel_rfl) (by kernel_rfl) rfl (by kernel_rfl) (by kernel_rfl) cx (fun _ => rfl) (fun _ => rfl) (fun K => by
 rw [show loopsOf c = [] from by kernel_rfl]; intro p hp
 cases hp)) fun xs rows boxes K r hl hr => by
 obtain ⟨a1, a2, a3, e, h⟩ := runv hr
 have := St.like_eq (y := a a1 a2 a3) hl (by kernel_rfl) e
 obtain ⟨rfl, rfl, rfl⟩ := argSt_inj this
 exact (tie K a1 a2 a3).trans h
end spec_l8DrawText
namespace spec_l8Digit
noncomputable def c : Code := bodyOf Go.Proofs.Tryd.f32
noncomputable def fi : Fin := ⟨Γ0, [(.tmp 4, 4)], [[1]], [], [], []⟩
noncomputable def m (r1 : Bool) : Res := ⟨[⟨false, [.bool r1]⟩], [], [], [], []⟩
noncomputable def os : List (FuncId × St × (List Lf → (Res → Option Res) → Option Res)) := []
noncomputable def X (K : Res → Option Res) : Ctx := { Γ := Γ0, orc := orcOf os, io := [], share := [], mvl := [], bun := [], cut := [], own := [], cin := [], cout := [], lp := lpOf [], kl := [], nk := true, eqs := eqs0, byt := byt0, fin := finK fi K }
noncomputable def b (a1 : ByteArray) (a2 : Int) (R : Bool → Option Res) : Option Res :=
 bif decide (a2 < (a1.size : Int)) then (bif decide (0 ≤ a2) && decide (a2 < (a1.size : Int)) then (bif decide (48 ≤ (bytesOf a1).getD a2.toNat 0) then (bif decide (0 ≤ a2) && decide (a2 < (a1.size : Int)) then R (decide ((bytesOf a1).getD a2.toNat 0 ≤ 57))
  else none)
  else R false)
  else none)
 else R false
theorem gx : ∃ x : ByteArray → Int → (Bool → Option Res) → Option Res, x = b := ⟨_, rfl⟩
noncomputable def g : ByteArray → Int → (Bool → Option Res) → Option Res := Classical.choose gx
theorem e : g = b := Classical.choose_spec gx
noncomputable def run : List Lf → (Res → Option Res) → Option Res
 | [.s a1, .i a2], K => g a1 a2 (fun r1 => K (m r1))
 | _, _ => none
noncomputable def a (a1 : ByteArray) (a2 : Int) : St := argSt [one (.str a1), one (.int .i64 a2)] [] []
noncomputable def con : FuncId × St × (List Lf → (Res → Option Res) → Option Res) := (32, a ByteArray.empty 0, run)
theorem cx (K : Res → Option Res) : CtxOk Go.Proofs.Tryd.prog Γ0 byt0 eqs0 (X K) os := ⟨rfl, rfl, rfl, (fun p hp => by
 cases hp), rfl, rfl, rfl, rfl⟩
theorem tie (K : Res → Option Res) (a1 : ByteArray) (a2 : Int) : exec (X K) c (entry 21 [one (.str a1), one (.int .i64 a2)] [] []) (endK (X K)) = g a1 a2 (fun r1 => K (m r1)) := Eq.trans (b := b a1 a2 (fun r1 => K (m r1))) (by kernel_rfl) (by rw [e])
theorem runv {l : List Lf} {K : Res → Option Res} {r : Res} (h : run l K = some r) : ∃ a1 a2, l = [.s a1, .i a2] ∧ g a1 a2 (fun r1 => K (m r1)) = some r := by
 unfold run at h; split at h
 ·exact ⟨_, _, rfl, h⟩
 ·cases h
theorem ok : Con Go.Proofs.Tryd.prog con := con_of (fn := Go.Proofs.Tryd.f32) (c := c) (Fi := fi) (X := X) (fun_of laid (by kernel_rfl) (by kernel_rfl) (by kernel_rfl) rfl (by kernel_rfl) (by kernel_rfl) cx (fun _ => rfl) (fun _ => rfl) (fun K => by
 rw [show loopsOf c = [] from by kernel_rfl]; intro p hp
 cases hp)) fun xs rows boxes K r hl hr => by
 obtain ⟨a1, a2, e, h⟩ := runv hr
 have := St.like_eq (y := a a1 a2) hl (by kernel_rfl) e
 obtain ⟨rfl, rfl, rfl⟩ := argSt_inj this
 exact (tie K a1 a2).trans h
end spec_l8Digit
namespace spec_l1In
noncomputable def c : Code := bodyOf Go.Proofs.Tryd.f34
noncomputable def fi : Fin := ⟨Γ0, [(.tmp 6, 4)], [[1]], [], [], []⟩
noncomputable def m (r1 : Bool) : Res := ⟨[⟨false, [.bool r1]⟩], [], [], [], []⟩
noncomputable def os : List (FuncId × St × (List Lf → (Res → Option Res) → Option Res)) := []
noncomputable def X (K : Res → Option Res) : Ctx := { Γ := Γ0, orc := orcOf os, io := [], share := [], mvl := [], bun := [], cut := [], own := [], cin := [], cout := [], lp := lpOf [], kl := [], nk := true, eqs := eqs0, byt := byt0, fin := finK fi K }
noncomputable def b (a1 a2 a3 : Int) (R : Bool → Option Res) : Option Res :=
 bif decide (a2 ≤ a1) then R (decide (a1 ≤ a3))
 else R false
theorem gx : ∃ x : Int → Int → Int → (Bool → Option Res) → Option Res, x = b := ⟨_, rfl⟩
noncomputable def g : Int → Int → Int → (Bool → Option Res) → Option Res := Classical.choose gx
theorem e : g = b := Classical.choose_spec gx
noncomputable def run : List Lf → (Res → Option Res) → Option Res
 | [.i a1, .i a2, .i a3], K => g a1 a2 a3 (fun r1 => K (m r1))
 | _, _ => none
noncomputable def a (a1 a2 a3 : Int) : St := argSt [one (.int .i64 a1), one (.int .i64 a2), one (.int .i64 a3)] [] []
noncomputable def con : FuncId × St × (List Lf → (Res → Option Res) → Option Res) := (34, a 0 0 0, run)
theorem cx (K : Res → Option Res) : CtxOk Go.Proofs.Tryd.prog Γ0 byt0 eqs0 (X K) os := ⟨rfl, rfl, rfl, (fun p hp => by
 cases hp), rfl, rfl, rfl, rfl⟩
theorem tie (K : Res → Option Res) (a1 a2 a3 : Int) : exec (X K) c (entry 15 [one (.int .i64 a1), one (.int .i64 a2), one (.int .i64 a3)] [] []) (endK (X K)) = g a1 a2 a3 (fun r1 => K (m r1)) := Eq.trans (b := b a1 a2 a3 (fun r1 => K (m r1))) (by kernel_rfl) (by rw [e])
theorem runv {l : List Lf} {K : Res → Option Res} {r : Res} (h : run l K = some r) : ∃ a1 a2 a3, l = [.i a1, .i a2, .i a3] ∧ g a1 a2 a3 (fun r1 => K (m r1)) = some r := by
 unfold run at h; split at h
 ·exact ⟨_, _, _, rfl, h⟩
 ·cases h
theorem ok : Con Go.Proofs.Tryd.prog con := con_of (fn := Go.Proofs.Tryd.f34) (c := c) (Fi := fi) (X := X) (fun_of laid (by kernel_rfl) (by kernel_rfl) (by kernel_rfl) rfl (by kernel_rfl) (by kernel_rfl) cx (fun _ => rfl) (fun _ => rfl) (fun K => by
 rw [show loopsOf c = [] from by kernel_rfl]; intro p hp
 cases hp)) fun xs rows boxes K r hl hr => by
 obtain ⟨a1, a2, a3, e, h⟩ := runv hr
 have := St.like_eq (y := a a1 a2 a3) hl (by kernel_rfl) e
 obtain ⟨rfl, rfl, rfl⟩ := argSt_inj this
 exact (tie K a1 a2 a3).trans h
end spec_l1In
namespace spec_NumOk
noncomputable def c : Code := bodyOf Go.Proofs.Tryd.f57
noncomputable def fi : Fin := ⟨Γ0, [(.tmp 2, 4)], [[1]], [], [], []⟩
noncomputable def m (r1 : Bool) : Res := ⟨[⟨false, [.bool r1]⟩], [], [], [], []⟩
noncomputable def os : List (FuncId × St × (List Lf → (Res → Option Res) → Option Res)) := [spec_l1In.con]
noncomputable def X (K : Res → Option Res) : Ctx := { Γ := Γ0, orc := orcOf os, io := [], share := [], mvl := [], bun := [], cut := [], own := [], cin := [], cout := [], lp := lpOf [], kl := [], nk := true, eqs := eqs0, byt := byt0, fin := finK fi K }
noncomputable def b (a1 : Int) (R : Bool → Option Res) : Option Res :=
 spec_l1In.g a1 (-1000000000000) 1000000000000 fun r2 =>
 R r2
theorem gx : ∃ x : Int → (Bool → Option Res) → Option Res, x = b := ⟨_, rfl⟩
noncomputable def g : Int → (Bool → Option Res) → Option Res := Classical.choose gx
theorem e : g = b := Classical.choose_spec gx
noncomputable def run : List Lf → (Res → Option Res) → Option Res
 | [.i a1], K => g a1 (fun r1 => K (m r1))
 | _, _ => none
noncomputable def a (a1 : Int) : St := argSt [one (.int .i64 a1)] [] []
noncomputable def con : FuncId × St × (List Lf → (Res → Option Res) → Option Res) := (57, a 0, run)
theorem cx (K : Res → Option Res) : CtxOk Go.Proofs.Tryd.prog Γ0 byt0 eqs0 (X K) os := ⟨rfl, rfl, rfl, (fun p hp => by
 rcases List.mem_cons.1 hp with rfl | hp
 ·exact spec_l1In.ok
 cases hp), rfl, rfl, rfl, rfl⟩
theorem tie (K : Res → Option Res) (a1 : Int) : exec (X K) c (entry 5 [one (.int .i64 a1)] [] []) (endK (X K)) = g a1 (fun r1 => K (m r1)) := Eq.trans (b := b a1 (fun r1 => K (m r1))) (by kernel_rfl) (by rw [e])
theorem runv {l : List Lf} {K : Res → Option Res} {r : Res} (h : run l K = some r) : ∃ a1, l = [.i a1] ∧ g a1 (fun r1 => K (m r1)) = some r := by
 unfold run at h; split at h
 ·exact ⟨_, rfl, h⟩
 ·cases h
theorem ok : Con Go.Proofs.Tryd.prog con := con_of (fn := Go.Proofs.Tryd.f57) (c := c) (Fi := fi) (X := X) (fun_of laid (by kernel_rfl) (by kernel_rfl) (by kernel_rfl) rfl (by kernel_rfl) (by kernel_rfl) cx (fun _ => rfl) (fun _ => rfl) (fun K => by
 rw [show loopsOf c = [] from by kernel_rfl]; intro p hp
 cases hp)) fun xs rows boxes K r hl hr => by
 obtain ⟨a1, e, h⟩ := runv hr
 have := St.like_eq (y := a a1) hl (by kernel_rfl) e
 obtain ⟨rfl, rfl, rfl⟩ := argSt_inj this
 exact (tie K a1).trans h
end spec_NumOk
namespace spec_l8Num
noncomputable def c : Code := bodyOf Go.Proofs.Tryd.f33
noncomputable def fi : Fin := ⟨Γ0, [(.tmp 4, 3), (.tmp 5, 3), (.tmp 6, 3)], [[1], [1], [1]], [], [], []⟩
noncomputable def m (r1 r2 r3 : Int) : Res := ⟨[⟨false, [.int .i64 r1]⟩, ⟨false, [.int .i64 r2]⟩, ⟨false, [.int .i64 r3]⟩], [], [], [], []⟩
noncomputable def b0 : Code := codeAt c [1, 1, 1, 1, 1, 0, 0, 0]
noncomputable def s0 (x4 : ByteArray) (x5 : Int) (x6 : Bool) (x7 : Int) : St := ⟨mkT 44 [(0, one (.str x4)), (1, one (.int .i64 x5)), (7, one (.bool x6)), (8, one (.int .i64 x7))], [], []⟩
noncomputable def l0s (x4 : ByteArray) (x6 : Bool) (rec : Int → Int → Option Res) (k : Int → Int → Option Res) (x5 x7 : Int) : Option Res :=
 spec_l8Digit.g x4 x5 fun r8 =>
 bif r8 then (bif decide (0 ≤ x5) && decide (x5 < (x4.size : Int)) then (spec_l1Min.g (IntKind.i64.wrap ((IntKind.i64.wrap ((IntKind.i64.wrap (10 * x7)) + (IntKind.i64.wrap ((bytesOf x4).getD x5.toNat 0)))) - 48)) 1000000000001 fun r9 =>
  rec (IntKind.i64.wrap (x5 + 1)) r9)
  else none)
 else k x5 x7
noncomputable def l0 (x4 : ByteArray) (x6 : Bool) (k : Int → Int → Option Res) : Nat → Int → Int → Option Res
 | 0, _, _ => none
 | n + 1, x5, x7 => l0s x4 x6 (fun x5 x7 => l0 x4 x6 k n x5 x7) k x5 x7
noncomputable def o0 (x4 : ByteArray) (x6 : Bool) (y1 y3 : Int) : St := ⟨mkT 44 [(1, one (.int .i64 y1)), (7, one (.bool x6)), (8, one (.int .i64 y3))], [], []⟩
noncomputable def p0 (K : Res → Option Res) : List Lf → (St → Option Res) → Option Res
 | [.s x4, .i x5, .b x6, .i x7], k => l0 x4 x6 (fun y1 y3 => k (o0 x4 x6 y1 y3)) fuel x5 x7
 | _, _ => none
noncomputable def os : List (FuncId × St × (List Lf → (Res → Option Res) → Option Res)) := [spec_l8Digit.con, spec_l1Min.con, spec_NumOk.con]
noncomputable def X (K : Res → Option Res) : Ctx := { Γ := Γ0, orc := orcOf os, io := [], share := [], mvl := [], bun := [], cut := [], own := [], cin := [(0, ⟨[0, 1, 7, 8], [], [], [], [], []⟩)], cout := [(0, ⟨[1, 7, 8], [], [], [], [], []⟩)], lp := lpOf [(0, s0 ByteArray.empty 0 false 0, p0 K)], kl := [], nk := true, eqs := eqs0, byt := byt0, fin := finK fi K }
noncomputable def b (a1 : ByteArray) (a2 : Int) (R : Int → Int → Int → Option Res) : Option Res :=
 bif decide (0 ≤ a2) && decide (a2 < (a1.size : Int)) then (bif ((bytesOf a1).getD a2.toNat 0 == 95) then (spec_l8Digit.g a1 (IntKind.i64.wrap (a2 + 1)) fun r3 =>
  bif !r3 then R 0 (IntKind.i64.wrap (a2 + 1)) 8
  else (l0 a1 ((bytesOf a1).getD a2.toNat 0 == 95) (fun y10 y11 =>
  spec_NumOk.g y11 fun r12 =>
  bif !r12 then R 0 y10 6
  else bif ((bytesOf a1).getD a2.toNat 0 == 95) then R (IntKind.i64.wrap (0 - y11)) y10 0
  else R y11 y10 0) fuel (IntKind.i64.wrap (a2 + 1)) 0))
  else (spec_l8Digit.g a1 a2 fun r13 =>
  bif !r13 then R 0 a2 8
  else (l0 a1 ((bytesOf a1).getD a2.toNat 0 == 95) (fun y14 y15 =>
  spec_NumOk.g y15 fun r16 =>
  bif !r16 then R 0 y14 6
  else bif ((bytesOf a1).getD a2.toNat 0 == 95) then R (IntKind.i64.wrap (0 - y15)) y14 0
  else R y15 y14 0) fuel a2 0)))
 else none
theorem gx : ∃ x : ByteArray → Int → (Int → Int → Int → Option Res) → Option Res, x = b := ⟨_, rfl⟩
noncomputable def g : ByteArray → Int → (Int → Int → Int → Option Res) → Option Res := Classical.choose gx
theorem e : g = b := Classical.choose_spec gx
noncomputable def run : List Lf → (Res → Option Res) → Option Res
 | [.s a1, .i a2], K => g a1 a2 (fun r1 r2 r3 => K (m r1 r2 r3))
 | _, _ => none
noncomputable def a (a1 : ByteArray) (a2 : Int) : St := argSt [one (.str a1), one (.int .i64 a2)] [] []
noncomputable def con : FuncId × St × (List Lf → (Res → Option Res) → Option Res) := (33, a ByteArray.empty 0, run)
theorem cx (K : Res → Option Res) : CtxOk Go.Proofs.Tryd.prog Γ0 byt0 eqs0 (X K) os := ⟨rfl, rfl, rfl, (fun p hp => by
 rcases List.mem_cons.1 hp with rfl | hp
 ·exact spec_l8Digit.ok
 rcases List.mem_cons.1 hp with rfl | hp
 ·exact spec_l1Min.ok
 rcases List.mem_cons.1 hp with rfl | hp
 ·exact spec_NumOk.ok
 cases hp), rfl, rfl, rfl, rfl⟩
theorem t0 (K : Res → Option Res) (k : St → Option Res) (it : St → (St → Option Res) → Option Res) (x4 : ByteArray) (x5 : Int) (x6 : Bool) (x7 : Int) : iterS (X K) 0 b0 it (s0 x4 x5 x6 x7) k = l0s x4 x6 (fun x5 x7 => it (s0 x4 x5 x6 x7) k) (fun y1 y3 => k (o0 x4 x6 y1 y3)) x5 x7 := by kernel_rfl
theorem i0 (K : Res → Option Res) (k : St → Option Res) (x4 : ByteArray) (x6 : Bool) : ∀ (n : Nat) (x5 x7 : Int), iter (X K) 0 b0 n (s0 x4 x5 x6 x7) k = l0 x4 x6 (fun y1 y3 => k (o0 x4 x6 y1 y3)) n x5 x7
 | 0, _, _ => rfl
 | n + 1, x5, x7 => by
  rw [iter_succ, t0, show (fun x5 x7 => iter (X K) 0 b0 n (s0 x4 x5 x6 x7) k) = (fun x5 x7 => l0 x4 x6 (fun y1 y3 => k (o0 x4 x6 y1 y3)) n x5 x7) from funext fun x5 => funext fun x7 => i0 K k x4 x6 n x5 x7]; rfl
theorem v0 {K : Res → Option Res} {l : List Lf} {k : St → Option Res} {r : Res} (h : p0 K l k = some r) : ∃ x4 x5 x6 x7, l = [.s x4, .i x5, .b x6, .i x7] ∧ l0 x4 x6 (fun y1 y3 => k (o0 x4 x6 y1 y3)) fuel x5 x7 = some r := by
 unfold p0 at h; split at h
 ·exact ⟨_, _, _, _, rfl, h⟩
 ·cases h
theorem w0 (K : Res → Option Res) : LpSound Go.Proofs.Tryd.prog (X K) 0 b0 := lp_ok ((cx K).ok laid) (by rw [show loopsOf b0 = [] from by kernel_rfl]; intro p hp; cases hp) rfl fun p hp hid => by
 rcases List.mem_cons.1 hp with rfl | hp
 ·intro st k r h1 h2; obtain ⟨x4, x5, x6, x7, e, h⟩ := v0 (K := K) h2; have := St.like_eq (y := s0 x4 x5 x6 x7) h1 (by kernel_rfl) e; subst this; exact ⟨fuel, (i0 K k x4 x6 fuel x5 x7).trans h⟩
 cases hp
theorem tie (K : Res → Option Res) (a1 : ByteArray) (a2 : Int) : exec (X K) c (entry 44 [one (.str a1), one (.int .i64 a2)] [] []) (endK (X K)) = g a1 a2 (fun r1 r2 r3 => K (m r1 r2 r3)) := Eq.trans (b := b a1 a2 (fun r1 r2 r3 => K (m r1 r2 r3))) (by kernel_rfl) (by rw [e])
theorem runv {l : List Lf} {K : Res → Option Res} {r : Res} (h : run l K = some r) : ∃ a1 a2, l = [.s a1, .i a2] ∧ g a1 a2 (fun r1 r2 r3 => K (m r1 r2 r3)) = some r := by
 unfold run at h; split at h
 ·exact ⟨_, _, rfl, h⟩
 ·cases h
theorem ok : Con Go.Proofs.Tryd.prog con := con_of (fn := Go.Proofs.Tryd.f33) (c := c) (Fi := fi) (X := X) (fun_of laid (by kernel_rfl) (by kernel_rfl) (by kernel_rfl) rfl (by kernel_rfl) (by kernel_rfl) cx (fun _ => rfl) (fun _ => rfl) (fun K => by
 rw [show loopsOf c = [(0, b0)] from by kernel_rfl]; intro p hp
 rcases List.mem_cons.1 hp with rfl | hp
 ·exact w0 K
 cases hp)) fun xs rows boxes K r hl hr => by
 obtain ⟨a1, a2, e, h⟩ := runv hr
 have := St.like_eq (y := a a1 a2) hl (by kernel_rfl) e
 obtain ⟨rfl, rfl, rfl⟩ := argSt_inj this
 exact (tie K a1 a2).trans h
end spec_l8Num
namespace spec_l8Sign
noncomputable def c : Code := bodyOf Go.Proofs.Tryd.f35
noncomputable def fi : Fin := ⟨Γ0, [(.tmp 2, 4)], [[1]], [], [], []⟩
noncomputable def m (r1 : Bool) : Res := ⟨[⟨false, [.bool r1]⟩], [], [], [], []⟩
noncomputable def b0 : Code := codeAt c [1, 1, 0, 1, 0, 0]
noncomputable def s0 (x2 : Int) (x3 : ByteArray) (x4 : Int) : St := ⟨mkT 17 [(0, one (.int .i64 x2)), (3, one (.str x3)), (4, one (.int .i64 x4))], [], []⟩
noncomputable def l0s (x2 : Int) (x3 : ByteArray) (rec : Int → Option Res) (k : Option Res) (R : Bool → Option Res) (x4 : Int) : Option Res :=
 bif decide (x4 < (x3.size : Int)) then (bif decide (0 ≤ x4) && decide (x4 < (x3.size : Int)) then (bif (IntKind.i64.wrap ((bytesOf x3).getD x4.toNat 0) == x2) then R true
  else rec (IntKind.i64.wrap (x4 + 1)))
  else none)
 else k
noncomputable def l0 (x2 : Int) (x3 : ByteArray) (k : Option Res) (R : Bool → Option Res) : Nat → Int → Option Res
 | 0, _ => none
 | n + 1, x4 => l0s x2 x3 (fun x4 => l0 x2 x3 k R n x4) k R x4
noncomputable def o0 (x2 : Int) (x3 : ByteArray) : St := ⟨mkT 17 [], [], []⟩
noncomputable def p0 (K : Res → Option Res) : List Lf → (St → Option Res) → Option Res
 | [.i x2, .s x3, .i x4], k => l0 x2 x3 (k (o0 x2 x3)) (fun r1 => K (m r1)) fuel x4
 | _, _ => none
noncomputable def os : List (FuncId × St × (List Lf → (Res → Option Res) → Option Res)) := []
noncomputable def X (K : Res → Option Res) : Ctx := { Γ := Γ0, orc := orcOf os, io := [], share := [], mvl := [], bun := [], cut := [], own := [], cin := [(0, ⟨[0, 3, 4], [], [], [], [], []⟩)], cout := [(0, ⟨[], [], [], [], [], []⟩)], lp := lpOf [(0, s0 0 ByteArray.empty 0, p0 K)], kl := [], nk := true, eqs := eqs0, byt := byt0, fin := finK fi K }
noncomputable def b (a1 : Int) (R : Bool → Option Res) : Option Res :=
 l0 a1 (⟨#[43, 45, 42, 37, 124, 38, 94, 61, 60, 62, 126, 105, 35, 44, 116, 100, 114, 122, 64, 63, 103, 36, 101, 47, 92, 46, 111]⟩ : ByteArray) (
 R false) R fuel 0
theorem gx : ∃ x : Int → (Bool → Option Res) → Option Res, x = b := ⟨_, rfl⟩
noncomputable def g : Int → (Bool → Option Res) → Option Res := Classical.choose gx
theorem e : g = b := Classical.choose_spec gx
noncomputable def run : List Lf → (Res → Option Res) → Option Res
 | [.i a1], K => g a1 (fun r1 => K (m r1))
 | _, _ => none
noncomputable def a (a1 : Int) : St := argSt [one (.int .i64 a1)] [] []
noncomputable def con : FuncId × St × (List Lf → (Res → Option Res) → Option Res) := (35, a 0, run)
theorem cx (K : Res → Option Res) : CtxOk Go.Proofs.Tryd.prog Γ0 byt0 eqs0 (X K) os := ⟨rfl, rfl, rfl, (fun p hp => by
 cases hp), rfl, rfl, rfl, rfl⟩
theorem t0 (K : Res → Option Res) (k : St → Option Res) (it : St → (St → Option Res) → Option Res) (x2 : Int) (x3 : ByteArray) (x4 : Int) : iterS (X K) 0 b0 it (s0 x2 x3 x4) k = l0s x2 x3 (fun x4 => it (s0 x2 x3 x4) k) (k (o0 x2 x3)) (fun r1 => K (m r1)) x4 := by kernel_rfl
theorem i0 (K : Res → Option Res) (k : St → Option Res) (x2 : Int) (x3 : ByteArray) : ∀ (n : Nat) (x4 : Int), iter (X K) 0 b0 n (s0 x2 x3 x4) k = l0 x2 x3 (k (o0 x2 x3)) (fun r1 => K (m r1)) n x4
 | 0, _ => rfl
 | n + 1, x4 => by
  rw [iter_succ, t0, show (fun x4 => iter (X K) 0 b0 n (s0 x2 x3 x4) k) = (fun x4 => l0 x2 x3 (k (o0 x2 x3)) (fun r1 => K (m r1)) n x4) from funext fun x4 => i0 K k x2 x3 n x4]; rfl
theorem v0 {K : Res → Option Res} {l : List Lf} {k : St → Option Res} {r : Res} (h : p0 K l k = some r) : ∃ x2 x3 x4, l = [.i x2, .s x3, .i x4] ∧ l0 x2 x3 (k (o0 x2 x3)) (fun r1 => K (m r1)) fuel x4 = some r := by
 unfold p0 at h; split at h
 ·exact ⟨_, _, _, rfl, h⟩
 ·cases h
theorem w0 (K : Res → Option Res) : LpSound Go.Proofs.Tryd.prog (X K) 0 b0 := lp_ok ((cx K).ok laid) (by rw [show loopsOf b0 = [] from by kernel_rfl]; intro p hp; cases hp) rfl fun p hp hid => by
 rcases List.mem_cons.1 hp with rfl | hp
 ·intro st k r h1 h2; obtain ⟨x2, x3, x4, e, h⟩ := v0 (K := K) h2; have := St.like_eq (y := s0 x2 x3 x4) h1 (by kernel_rfl) e; subst this; exact ⟨fuel, (i0 K k x2 x3 fuel x4).trans h⟩
 cases hp
theorem tie (K : Res → Option Res) (a1 : Int) : exec (X K) c (entry 17 [one (.int .i64 a1)] [] []) (endK (X K)) = g a1 (fun r1 => K (m r1)) := Eq.trans (b := b a1 (fun r1 => K (m r1))) (by kernel_rfl) (by rw [e])
theorem runv {l : List Lf} {K : Res → Option Res} {r : Res} (h : run l K = some r) : ∃ a1, l = [.i a1] ∧ g a1 (fun r1 => K (m r1)) = some r := by
 unfold run at h; split at h
 ·exact ⟨_, rfl, h⟩
 ·cases h
theorem ok : Con Go.Proofs.Tryd.prog con := con_of (fn := Go.Proofs.Tryd.f35) (c := c) (Fi := fi) (X := X) (fun_of laid (by kernel_rfl) (by kernel_rfl) (by kernel_rfl) rfl (by kernel_rfl) (by kernel_rfl) cx (fun _ => rfl) (fun _ => rfl) (fun K => by
 rw [show loopsOf c = [(0, b0)] from by kernel_rfl]; intro p hp
 rcases List.mem_cons.1 hp with rfl | hp
 ·exact w0 K
 cases hp)) fun xs rows boxes K r hl hr => by
 obtain ⟨a1, e, h⟩ := runv hr
 have := St.like_eq (y := a a1) hl (by kernel_rfl) e
 obtain ⟨rfl, rfl, rfl⟩ := argSt_inj this
 exact (tie K a1).trans h
end spec_l8Sign
namespace spec_Lex
noncomputable def c : Code := bodyOf Go.Proofs.Tryd.f13
noncomputable def fi : Fin := ⟨Γ0, [(.tmp 2, 24), (.tmp 3, 3), (.tmp 4, 3)], [[1], [1], [1]], [], [], []⟩
noncomputable def m (r1 : List (List Cl)) (r2 r3 : Int) : Res := ⟨[⟨false, [.ow 1000]⟩, ⟨false, [.int .i64 r2]⟩, ⟨false, [.int .i64 r3]⟩], [], [⟨[.int .i64, .int .i64], .cells r1, true, 0⟩], [], []⟩
noncomputable def b0 : Code := codeAt c [1, 1, 1, 1, 0, 0, 0]
noncomputable def s0 (x2 : ByteArray) (x3 : Int) (x4 : List (List Cl)) : St := ⟨mkT 90 [(0, one (.str x2)), (5, one (.ow 3048)), (6, one (.int .i64 x3))], [(3048, ⟨[.int .i64, .int .i64], .cells x4, true, 0⟩)], []⟩
noncomputable def l0s (x2 : ByteArray) (rec : Int → List (List Cl) → Option Res) (k : List (List Cl) → Option Res) (R : List (List Cl) → Int → Int → Option Res) (x3 : Int) (x4 : List (List Cl)) : Option Res :=
 bif decide (x3 < (x2.size : Int)) then (bif decide (0 ≤ x3) && decide (x3 < (x2.size : Int)) then (bif (IntKind.i64.wrap ((bytesOf x2).getD x3.toNat 0) == 32) then rec (IntKind.i64.wrap (x3 + 1)) x4
  else (spec_l8Digit.g x2 x3 fun r5 =>
  bif r5 then (spec_l8Num.g x2 x3 fun r6 r7 r8 =>
   bif (r8 != 0) then R ([] : List (List Cl)) r8 x3
   else bif decide ((x4.length + 1) * 16 ≤ 140737488355328) then rec r7 (x4 ++ ([[.i 1, .i r6]] : List (List Cl)))
   else none)
  else bif (IntKind.i64.wrap ((bytesOf x2).getD x3.toNat 0) == 95) then (spec_l8Num.g x2 x3 fun r9 r10 r11 =>
   bif (r11 != 0) then R ([] : List (List Cl)) r11 x3
   else bif decide ((x4.length + 1) * 16 ≤ 140737488355328) then rec r10 (x4 ++ ([[.i 1, .i r9]] : List (List Cl)))
   else none)
  else (spec_l1In.g (IntKind.i64.wrap ((bytesOf x2).getD x3.toNat 0)) 65 90 fun r12 =>
  bif r12 then (bif decide ((x4.length + 1) * 16 ≤ 140737488355328) then rec (IntKind.i64.wrap (x3 + 1)) (x4 ++ ([[.i 2, .i (IntKind.i64.wrap ((IntKind.i64.wrap ((bytesOf x2).getD x3.toNat 0)) - 65))]] : List (List Cl)))
   else none)
  else bif (IntKind.i64.wrap ((bytesOf x2).getD x3.toNat 0) == 40) then (bif decide ((x4.length + 1) * 16 ≤ 140737488355328) then rec (IntKind.i64.wrap (x3 + 1)) (x4 ++ ([[.i 4, .i 0]] : List (List Cl)))
   else none)
  else bif (IntKind.i64.wrap ((bytesOf x2).getD x3.toNat 0) == 41) then (bif decide ((x4.length + 1) * 16 ≤ 140737488355328) then rec (IntKind.i64.wrap (x3 + 1)) (x4 ++ ([[.i 5, .i 0]] : List (List Cl)))
   else none)
  else bif (IntKind.i64.wrap ((bytesOf x2).getD x3.toNat 0) == 58) then (bif decide ((x4.length + 1) * 16 ≤ 140737488355328) then rec (IntKind.i64.wrap (x3 + 1)) (x4 ++ ([[.i 6, .i 0]] : List (List Cl)))
   else none)
  else (spec_l8Sign.g (IntKind.i64.wrap ((bytesOf x2).getD x3.toNat 0)) fun r13 =>
  bif r13 then (bif decide ((x4.length + 1) * 16 ≤ 140737488355328) then rec (IntKind.i64.wrap (x3 + 1)) (x4 ++ ([[.i 3, .i (IntKind.i64.wrap ((bytesOf x2).getD x3.toNat 0))]] : List (List Cl)))
   else none)
  else R ([] : List (List Cl)) 8 x3))))
  else none)
 else k x4
noncomputable def l0 (x2 : ByteArray) (k : List (List Cl) → Option Res) (R : List (List Cl) → Int → Int → Option Res) : Nat → Int → List (List Cl) → Option Res
 | 0, _, _ => none
 | n + 1, x3, x4 => l0s x2 (fun x3 x4 => l0 x2 k R n x3 x4) k R x3 x4
noncomputable def o0 (x2 : ByteArray) (y2 : List (List Cl)) : St := ⟨mkT 90 [(0, one (.str x2)), (5, one (.ow 3048))], [(3048, ⟨[.int .i64, .int .i64], .cells y2, true, 0⟩)], []⟩
noncomputable def p0 (K : Res → Option Res) : List Lf → (St → Option Res) → Option Res
 | [.s x2, .i x3, .q (.cells x4)], k => l0 x2 (fun y2 => k (o0 x2 y2)) (fun r1 r2 r3 => K (m r1 r2 r3)) fuel x3 x4
 | _, _ => none
noncomputable def os : List (FuncId × St × (List Lf → (Res → Option Res) → Option Res)) := [spec_l8Digit.con, spec_l8Num.con, spec_l1In.con, spec_l8Sign.con]
noncomputable def X (K : Res → Option Res) : Ctx := { Γ := Γ0, orc := orcOf os, io := [], share := [], mvl := [], bun := [], cut := [], own := [], cin := [(0, ⟨[0, 5, 6], [(3048, 3048), (58392, 3048)], [], [], [], []⟩)], cout := [(0, ⟨[0, 5], [(3048, 3048)], [], [], [], []⟩)], lp := lpOf [(0, s0 ByteArray.empty 0 [], p0 K)], kl := [], nk := true, eqs := eqs0, byt := byt0, fin := finK fi K }
noncomputable def b (a1 : ByteArray) (R : List (List Cl) → Int → Int → Option Res) : Option Res :=
 bif decide (300 < (a1.size : Int)) then R ([] : List (List Cl)) 6 0
 else (l0 a1 (fun y14 =>
 R y14 0 (a1.size : Int)) R fuel 0 ([] : List (List Cl)))
theorem gx : ∃ x : ByteArray → (List (List Cl) → Int → Int → Option Res) → Option Res, x = b := ⟨_, rfl⟩
noncomputable def g : ByteArray → (List (List Cl) → Int → Int → Option Res) → Option Res := Classical.choose gx
theorem e : g = b := Classical.choose_spec gx
noncomputable def run : List Lf → (Res → Option Res) → Option Res
 | [.s a1], K => g a1 (fun r1 r2 r3 => K (m r1 r2 r3))
 | _, _ => none
noncomputable def a (a1 : ByteArray) : St := argSt [one (.str a1)] [] []
noncomputable def con : FuncId × St × (List Lf → (Res → Option Res) → Option Res) := (13, a ByteArray.empty, run)
theorem cx (K : Res → Option Res) : CtxOk Go.Proofs.Tryd.prog Γ0 byt0 eqs0 (X K) os := ⟨rfl, rfl, rfl, (fun p hp => by
 rcases List.mem_cons.1 hp with rfl | hp
 ·exact spec_l8Digit.ok
 rcases List.mem_cons.1 hp with rfl | hp
 ·exact spec_l8Num.ok
 rcases List.mem_cons.1 hp with rfl | hp
 ·exact spec_l1In.ok
 rcases List.mem_cons.1 hp with rfl | hp
 ·exact spec_l8Sign.ok
 cases hp), rfl, rfl, rfl, rfl⟩
theorem t0 (K : Res → Option Res) (k : St → Option Res) (it : St → (St → Option Res) → Option Res) (x2 : ByteArray) (x3 : Int) (x4 : List (List Cl)) : iterS (X K) 0 b0 it (s0 x2 x3 x4) k = l0s x2 (fun x3 x4 => it (s0 x2 x3 x4) k) (fun y2 => k (o0 x2 y2)) (fun r1 r2 r3 => K (m r1 r2 r3)) x3 x4 := by kernel_rfl
theorem i0 (K : Res → Option Res) (k : St → Option Res) (x2 : ByteArray) : ∀ (n : Nat) (x3 : Int) (x4 : List (List Cl)), iter (X K) 0 b0 n (s0 x2 x3 x4) k = l0 x2 (fun y2 => k (o0 x2 y2)) (fun r1 r2 r3 => K (m r1 r2 r3)) n x3 x4
 | 0, _, _ => rfl
 | n + 1, x3, x4 => by
  rw [iter_succ, t0, show (fun x3 x4 => iter (X K) 0 b0 n (s0 x2 x3 x4) k) = (fun x3 x4 => l0 x2 (fun y2 => k (o0 x2 y2)) (fun r1 r2 r3 => K (m r1 r2 r3)) n x3 x4) from funext fun x3 => funext fun x4 => i0 K k x2 n x3 x4]; rfl
theorem v0 {K : Res → Option Res} {l : List Lf} {k : St → Option Res} {r : Res} (h : p0 K l k = some r) : ∃ x2 x3 x4, l = [.s x2, .i x3, .q (.cells x4)] ∧ l0 x2 (fun y2 => k (o0 x2 y2)) (fun r1 r2 r3 => K (m r1 r2 r3)) fuel x3 x4 = some r := by
 unfold p0 at h; split at h
 ·exact ⟨_, _, _, rfl, h⟩
 ·cases h
theorem w0 (K : Res → Option Res) : LpSound Go.Proofs.Tryd.prog (X K) 0 b0 := lp_ok ((cx K).ok laid) (by rw [show loopsOf b0 = [] from by kernel_rfl]; intro p hp; cases hp) rfl fun p hp hid => by
 rcases List.mem_cons.1 hp with rfl | hp
 ·intro st k r h1 h2; obtain ⟨x2, x3, x4, e, h⟩ := v0 (K := K) h2; have := St.like_eq (y := s0 x2 x3 x4) h1 (by kernel_rfl) e; subst this; exact ⟨fuel, (i0 K k x2 fuel x3 x4).trans h⟩
 cases hp
theorem tie (K : Res → Option Res) (a1 : ByteArray) : exec (X K) c (entry 90 [one (.str a1)] [] []) (endK (X K)) = g a1 (fun r1 r2 r3 => K (m r1 r2 r3)) := Eq.trans (b := b a1 (fun r1 r2 r3 => K (m r1 r2 r3))) (by kernel_rfl) (by rw [e])
theorem runv {l : List Lf} {K : Res → Option Res} {r : Res} (h : run l K = some r) : ∃ a1, l = [.s a1] ∧ g a1 (fun r1 r2 r3 => K (m r1 r2 r3)) = some r := by
 unfold run at h; split at h
 ·exact ⟨_, rfl, h⟩
 ·cases h
theorem ok : Con Go.Proofs.Tryd.prog con := con_of (fn := Go.Proofs.Tryd.f13) (c := c) (Fi := fi) (X := X) (fun_of laid (by kernel_rfl) (by kernel_rfl) (by kernel_rfl) rfl (by kernel_rfl) (by kernel_rfl) cx (fun _ => rfl) (fun _ => rfl) (fun K => by
 rw [show loopsOf c = [(0, b0)] from by kernel_rfl]; intro p hp
 rcases List.mem_cons.1 hp with rfl | hp
 ·exact w0 K
 cases hp)) fun xs rows boxes K r hl hr => by
 obtain ⟨a1, e, h⟩ := runv hr
 have := St.like_eq (y := a a1) hl (by kernel_rfl) e
 obtain ⟨rfl, rfl, rfl⟩ := argSt_inj this
 exact (tie K a1).trans h
end spec_Lex
namespace spec_DrawTokenText
noncomputable def c : Code := bodyOf Go.Proofs.Tryd.f6
noncomputable def fi : Fin := ⟨Γ0, [(.tmp 2, 24)], [[1]], [], [], []⟩
noncomputable def m (r1 : List (List Cl)) : Res := ⟨[⟨false, [.ow 1000]⟩], [], [⟨[.int .i64, .int .i64], .cells r1, true, 0⟩], [], []⟩
noncomputable def b1 : Code := codeAt c [1, 1, 1, 0, 1, 0, 1, 1, 1, 0, 1, 1, 0, 0]
noncomputable def s1 (x24 : Int) (x25 : List (List Cl)) : St := ⟨mkT 46 [(4, one (.ow 15384)), (7, one (.int .i64 x24))], [(15384, ⟨[.int .i64, .int .i64], .cells x25, true, 0⟩)], []⟩
noncomputable def l1s  (rec : Int → List (List Cl) → Option Res) (k : List (List Cl) → Option Res) (x24 : Int) (x25 : List (List Cl)) : Option Res :=
 bif decide (x24 < (x25.length : Int)) then (bif decide (0 ≤ x24) && decide (x24 < (x25.length : Int)) then rec (IntKind.i64.wrap (x24 + 1)) (x25.set x24.toNat (splice (x25.getD x24.toNat []) 0 [.i 1]))
  else none)
 else k x25
noncomputable def l1  (k : List (List Cl) → Option Res) : Nat → Int → List (List Cl) → Option Res
 | 0, _, _ => none
 | n + 1, x24, x25 => l1s (fun x24 x25 => l1 k n x24 x25) k x24 x25
noncomputable def o1 (y1 : List (List Cl)) : St := ⟨mkT 46 [(4, one (.ow 15384))], [(15384, ⟨[.int .i64, .int .i64], .cells y1, true, 0⟩)], []⟩
noncomputable def p1 (K : Res → Option Res) : List Lf → (St → Option Res) → Option Res
 | [.i x24, .q (.cells x25)], k => l1 (fun y1 => k (o1 y1)) fuel x24 x25
 | _, _ => none
noncomputable def os : List (FuncId × St × (List Lf → (Res → Option Res) → Option Res)) := [spec_l1New.con, spec_l8DrawText.con, spec_Lex.con, spec_l1Below.con]
noncomputable def X (K : Res → Option Res) : Ctx := { Γ := Γ0, orc := orcOf os, io := [(19, [⟨false, 2, 1⟩])], share := [], mvl := [], bun := [], cut := [], own := [], cin := [(1, ⟨[4, 7], [(15384, 15384)], [], [], [], []⟩)], cout := [(1, ⟨[4], [(15384, 15384)], [], [], [], []⟩)], lp := lpOf [(1, s1 0 [], p1 K)], kl := [], nk := true, eqs := eqs0, byt := byt0, fin := finK fi K }
noncomputable def b (a1 : List Int) (R : List (List Cl) → Option Res) : Option Res :=
 spec_l1New.g a1 fun r2 r3 r4 =>
 spec_l8DrawText.g r2 r3 r4 fun r5 r6 r7 r8 =>
 spec_Lex.g r5 fun r9 r10 r11 =>
 spec_l1Below.g 15 r6 r7 r8 fun r12 r13 r14 =>
 bif (r12 == 0) then (spec_l1Below.g 8 r6 r13 r14 fun r15 r16 r17 =>
  spec_l1Below.g 40 r6 r16 r17 fun r18 r19 r20 =>
  bif decide ((r9.length + 1) * 16 ≤ 140737488355328) then R (r9 ++ ([[.i r15, .i r18]] : List (List Cl)))
  else none)
 else bif (r12 == 1) then (spec_l1Below.g 2 r6 r13 r14 fun r21 r22 r23 =>
  bif decide (IntKind.i64.wrap (300 + r21) = IntKind.i64.wrap (300 + r21)) && decide (0 ≤ IntKind.i64.wrap (300 + r21)) && decide (IntKind.i64.wrap (300 + r21) * 16 ≤ 140737488355328) then (l1 (fun y26 =>
   R y26) fuel 0 (List.replicate ((IntKind.i64.wrap (300 + r21)).toNat) [.i 0, .i 0]))
  else none)
 else R r9
theorem gx : ∃ x : List Int → (List (List Cl) → Option Res) → Option Res, x = b := ⟨_, rfl⟩
noncomputable def g : List Int → (List (List Cl) → Option Res) → Option Res := Classical.choose gx
theorem e : g = b := Classical.choose_spec gx
noncomputable def run : List Lf → (Res → Option Res) → Option Res
 | [.q (.ints a1)], K => g a1 (fun r1 => K (m r1))
 | _, _ => none
noncomputable def a (a1 : List Int) : St := argSt [one (.tr 2 1 [.int .u8] (.ints a1))] [] []
noncomputable def con : FuncId × St × (List Lf → (Res → Option Res) → Option Res) := (6, a [], run)
theorem cx (K : Res → Option Res) : CtxOk Go.Proofs.Tryd.prog Γ0 byt0 eqs0 (X K) os := ⟨rfl, rfl, rfl, (fun p hp => by
 rcases List.mem_cons.1 hp with rfl | hp
 ·exact spec_l1New.ok
 rcases List.mem_cons.1 hp with rfl | hp
 ·exact spec_l8DrawText.ok
 rcases List.mem_cons.1 hp with rfl | hp
 ·exact spec_Lex.ok
 rcases List.mem_cons.1 hp with rfl | hp
 ·exact spec_l1Below.ok
 cases hp), rfl, rfl, rfl, rfl⟩
theorem t1 (K : Res → Option Res) (k : St → Option Res) (it : St → (St → Option Res) → Option Res) (x24 : Int) (x25 : List (List Cl)) : iterS (X K) 1 b1 it (s1 x24 x25) k = l1s (fun x24 x25 => it (s1 x24 x25) k) (fun y1 => k (o1 y1)) x24 x25 := by kernel_rfl
theorem i1 (K : Res → Option Res) (k : St → Option Res)  : ∀ (n : Nat) (x24 : Int) (x25 : List (List Cl)), iter (X K) 1 b1 n (s1 x24 x25) k = l1 (fun y1 => k (o1 y1)) n x24 x25
 | 0, _, _ => rfl
 | n + 1, x24, x25 => by
  rw [iter_succ, t1, show (fun x24 x25 => iter (X K) 1 b1 n (s1 x24 x25) k) = (fun x24 x25 => l1 (fun y1 => k (o1 y1)) n x24 x25) from funext fun x24 => funext fun x25 => i1 K k n x24 x25]; rfl
theorem v1 {K : Res → Option Res} {l : List Lf} {k : St → Option Res} {r : Res} (h : p1 K l k = some r) : ∃ x24 x25, l = [.i x24, .q (.cells x25)] ∧ l1 (fun y1 => k (o1 y1)) fuel x24 x25 = some r := by
 unfold p1 at h; split at h
 ·exact ⟨_, _, rfl, h⟩
 ·cases h
theorem w1 (K : Res → Option Res) : LpSound Go.Proofs.Tryd.prog (X K) 1 b1 := lp_ok ((cx K).ok laid) (by rw [show loopsOf b1 = [] from by kernel_rfl]; intro p hp; cases hp) rfl fun p hp hid => by
 rcases List.mem_cons.1 hp with rfl | hp
 ·intro st k r h1 h2; obtain ⟨x24, x25, e, h⟩ := v1 (K := K) h2; have := St.like_eq (y := s1 x24 x25) h1 (by kernel_rfl) e; subst this; exact ⟨fuel, (i1 K k fuel x24 x25).trans h⟩
 cases hp
theorem tie (K : Res → Option Res) (a1 : List Int) : exec (X K) c (entry 46 [one (.tr 2 1 [.int .u8] (.ints a1))] [] []) (endK (X K)) = g a1 (fun r1 => K (m r1)) := Eq.trans (b := b a1 (fun r1 => K (m r1))) (by kernel_rfl) (by rw [e])
theorem runv {l : List Lf} {K : Res → Option Res} {r : Res} (h : run l K = some r) : ∃ a1, l = [.q (.ints a1)] ∧ g a1 (fun r1 => K (m r1)) = some r := by
 unfold run at h; split at h
 ·exact ⟨_, rfl, h⟩
 ·cases h
theorem ok : Con Go.Proofs.Tryd.prog con := con_of (fn := Go.Proofs.Tryd.f6) (c := c) (Fi := fi) (X := X) (fun_of laid (by kernel_rfl) (by kernel_rfl) (by kernel_rfl) rfl (by kernel_rfl) (by kernel_rfl) cx (fun _ => rfl) (fun _ => rfl) (fun K => by
 rw [show loopsOf c = [(1, b1)] from by kernel_rfl]; intro p hp
 rcases List.mem_cons.1 hp with rfl | hp
 ·exact w1 K
 cases hp)) fun xs rows boxes K r hl hr => by
 obtain ⟨a1, e, h⟩ := runv hr
 have := St.like_eq (y := a a1) hl (by kernel_rfl) e
 obtain ⟨rfl, rfl, rfl⟩ := argSt_inj this
 exact (tie K a1).trans h
end spec_DrawTokenText
namespace impl_within
noncomputable def c : Code := bodyOf Go.Proofs.Tryd.f28
noncomputable def fi : Fin := ⟨Γ0, [(.tmp 6, 4)], [[1]], [], [], []⟩
noncomputable def m (r1 : Bool) : Res := ⟨[⟨false, [.bool r1]⟩], [], [], [], []⟩
noncomputable def os : List (FuncId × St × (List Lf → (Res → Option Res) → Option Res)) := []
noncomputable def X (K : Res → Option Res) : Ctx := { Γ := Γ0, orc := orcOf os, io := [], share := [], mvl := [], bun := [], cut := [], own := [], cin := [], cout := [], lp := lpOf [], kl := [], nk := true, eqs := eqs0, byt := byt0, fin := finK fi K }
noncomputable def b (a1 a2 a3 : Int) (R : Bool → Option Res) : Option Res :=
 bif decide (a2 ≤ a1) then R (decide (a1 ≤ a3))
 else R false
theorem gx : ∃ x : Int → Int → Int → (Bool → Option Res) → Option Res, x = b := ⟨_, rfl⟩
noncomputable def g : Int → Int → Int → (Bool → Option Res) → Option Res := Classical.choose gx
theorem e : g = b := Classical.choose_spec gx
noncomputable def run : List Lf → (Res → Option Res) → Option Res
 | [.i a1, .i a2, .i a3], K => g a1 a2 a3 (fun r1 => K (m r1))
 | _, _ => none
noncomputable def a (a1 a2 a3 : Int) : St := argSt [one (.int .i64 a1), one (.int .i64 a2), one (.int .i64 a3)] [] []
noncomputable def con : FuncId × St × (List Lf → (Res → Option Res) → Option Res) := (28, a 0 0 0, run)
theorem cx (K : Res → Option Res) : CtxOk Go.Proofs.Tryd.prog Γ0 byt0 eqs0 (X K) os := ⟨rfl, rfl, rfl, (fun p hp => by
 cases hp), rfl, rfl, rfl, rfl⟩
theorem tie (K : Res → Option Res) (a1 a2 a3 : Int) : exec (X K) c (entry 15 [one (.int .i64 a1), one (.int .i64 a2), one (.int .i64 a3)] [] []) (endK (X K)) = g a1 a2 a3 (fun r1 => K (m r1)) := Eq.trans (b := b a1 a2 a3 (fun r1 => K (m r1))) (by kernel_rfl) (by rw [e])
theorem runv {l : List Lf} {K : Res → Option Res} {r : Res} (h : run l K = some r) : ∃ a1 a2 a3, l = [.i a1, .i a2, .i a3] ∧ g a1 a2 a3 (fun r1 => K (m r1)) = some r := by
 unfold run at h; split at h
 ·exact ⟨_, _, _, rfl, h⟩
 ·cases h
theorem ok : Con Go.Proofs.Tryd.prog con := con_of (fn := Go.Proofs.Tryd.f28) (c := c) (Fi := fi) (X := X) (fun_of laid (by kernel_rfl) (by kernel_rfl) (by kernel_rfl) rfl (by kernel_rfl) (by kernel_rfl) cx (fun _ => rfl) (fun _ => rfl) (fun K => by
 rw [show loopsOf c = [] from by kernel_rfl]; intro p hp
 cases hp)) fun xs rows boxes K r hl hr => by
 obtain ⟨a1, a2, a3, e, h⟩ := runv hr
 have := St.like_eq (y := a a1 a2 a3) hl (by kernel_rfl) e
 obtain ⟨rfl, rfl, rfl⟩ := argSt_inj this
 exact (tie K a1 a2 a3).trans h
end impl_within
namespace impl_NumOk
noncomputable def c : Code := bodyOf Go.Proofs.Tryd.f27
noncomputable def fi : Fin := ⟨Γ0, [(.tmp 2, 4)], [[1]], [], [], []⟩
noncomputable def m (r1 : Bool) : Res := ⟨[⟨false, [.bool r1]⟩], [], [], [], []⟩
noncomputable def os : List (FuncId × St × (List Lf → (Res → Option Res) → Option Res)) := [impl_within.con]
noncomputable def X (K : Res → Option Res) : Ctx := { Γ := Γ0, orc := orcOf os, io := [], share := [], mvl := [], bun := [], cut := [], own := [], cin := [], cout := [], lp := lpOf [], kl := [], nk := true, eqs := eqs0, byt := byt0, fin := finK fi K }
noncomputable def b (a1 : Int) (R : Bool → Option Res) : Option Res :=
 impl_within.g a1 (-1000000000000) 1000000000000 fun r2 =>
 R r2
theorem gx : ∃ x : Int → (Bool → Option Res) → Option Res, x = b := ⟨_, rfl⟩
noncomputable def g : Int → (Bool → Option Res) → Option Res := Classical.choose gx
theorem e : g = b := Classical.choose_spec gx
noncomputable def run : List Lf → (Res → Option Res) → Option Res
 | [.i a1], K => g a1 (fun r1 => K (m r1))
 | _, _ => none
noncomputable def a (a1 : Int) : St := argSt [one (.int .i64 a1)] [] []
noncomputable def con : FuncId × St × (List Lf → (Res → Option Res) → Option Res) := (27, a 0, run)
theorem cx (K : Res → Option Res) : CtxOk Go.Proofs.Tryd.prog Γ0 byt0 eqs0 (X K) os := ⟨rfl, rfl, rfl, (fun p hp => by
 rcases List.mem_cons.1 hp with rfl | hp
 ·exact impl_within.ok
 cases hp), rfl, rfl, rfl, rfl⟩
theorem tie (K : Res → Option Res) (a1 : Int) : exec (X K) c (entry 5 [one (.int .i64 a1)] [] []) (endK (X K)) = g a1 (fun r1 => K (m r1)) := Eq.trans (b := b a1 (fun r1 => K (m r1))) (by kernel_rfl) (by rw [e])
theorem runv {l : List Lf} {K : Res → Option Res} {r : Res} (h : run l K = some r) : ∃ a1, l = [.i a1] ∧ g a1 (fun r1 => K (m r1)) = some r := by
 unfold run at h; split at h
 ·exact ⟨_, rfl, h⟩
 ·cases h
theorem ok : Con Go.Proofs.Tryd.prog con := con_of (fn := Go.Proofs.Tryd.f27) (c := c) (Fi := fi) (X := X) (fun_of laid (by kernel_rfl) (by kernel_rfl) (by kernel_rfl) rfl (by kernel_rfl) (by kernel_rfl) cx (fun _ => rfl) (fun _ => rfl) (fun K => by
 rw [show loopsOf c = [] from by kernel_rfl]; intro p hp
 cases hp)) fun xs rows boxes K r hl hr => by
 obtain ⟨a1, e, h⟩ := runv hr
 have := St.like_eq (y := a a1) hl (by kernel_rfl) e
 obtain ⟨rfl, rfl, rfl⟩ := argSt_inj this
 exact (tie K a1).trans h
end impl_NumOk
namespace impl_hasSign
noncomputable def c : Code := bodyOf Go.Proofs.Tryd.f29
noncomputable def fi : Fin := ⟨Γ0, [(.tmp 4, 4)], [[1]], [], [], []⟩
noncomputable def m (r1 : Bool) : Res := ⟨[⟨false, [.bool r1]⟩], [], [], [], []⟩
noncomputable def b0 : Code := codeAt c [1, 0, 1, 0, 0]
noncomputable def s0 (x3 : ByteArray) (x4 x5 : Int) : St := ⟨mkT 18 [(0, one (.str x3)), (1, one (.int .i64 x4)), (5, one (.int .i64 x5))], [], []⟩
noncomputable def l0s (x3 : ByteArray) (x4 : Int) (rec : Int → Option Res) (k : Option Res) (R : Bool → Option Res) (x5 : Int) : Option Res :=
 bif decide (x5 < (x3.size : Int)) then (bif decide (0 ≤ x5) && decide (x5 < (x3.size : Int)) then (bif (IntKind.i64.wrap ((bytesOf x3).getD x5.toNat 0) == x4) then R true
  else rec (IntKind.i64.wrap (x5 + 1)))
  else none)
 else k
noncomputable def l0 (x3 : ByteArray) (x4 : Int) (k : Option Res) (R : Bool → Option Res) : Nat → Int → Option Res
 | 0, _ => none
 | n + 1, x5 => l0s x3 x4 (fun x5 => l0 x3 x4 k R n x5) k R x5
noncomputable def o0 (x3 : ByteArray) (x4 : Int) : St := ⟨mkT 18 [], [], []⟩
noncomputable def p0 (K : Res → Option Res) : List Lf → (St → Option Res) → Option Res
 | [.s x3, .i x4, .i x5], k => l0 x3 x4 (k (o0 x3 x4)) (fun r1 => K (m r1)) fuel x5
 | _, _ => none
noncomputable def os : List (FuncId × St × (List Lf → (Res → Option Res) → Option Res)) := []
noncomputable def X (K : Res → Option Res) : Ctx := { Γ := Γ0, orc := orcOf os, io := [], share := [], mvl := [], bun := [], cut := [], own := [], cin := [(0, ⟨[0, 1, 5], [], [], [], [], []⟩)], cout := [(0, ⟨[], [], [], [], [], []⟩)], lp := lpOf [(0, s0 ByteArray.empty 0 0, p0 K)], kl := [], nk := true, eqs := eqs0, byt := byt0, fin := finK fi K }
noncomputable def b (a1 : ByteArray) (a2 : Int) (R : Bool → Option Res) : Option Res :=
 l0 a1 a2 (
 R false) R fuel 0
theorem gx : ∃ x : ByteArray → Int → (Bool → Option Res) → Option Res, x = b := ⟨_, rfl⟩
noncomputable def g : ByteArray → Int → (Bool → Option Res) → Option Res := Classical.choose gx
theorem e : g = b := Classical.choose_spec gx
noncomputable def run : List Lf → (Res → Option Res) → Option Res
 | [.s a1, .i a2], K => g a1 a2 (fun r1 => K (m r1))
 | _, _ => none
noncomputable def a (a1 : ByteArray) (a2 : Int) : St := argSt [one (.str a1), one (.int .i64 a2)] [] []
noncomputable def con : FuncId × St × (List Lf → (Res → Option Res) → Option Res) := (29, a ByteArray.empty 0, run)
theorem cx (K : Res → Option Res) : CtxOk Go.Proofs.Tryd.prog Γ0 byt0 eqs0 (X K) os := ⟨rfl, rfl, rfl, (fun p hp => by
 cases hp), rfl, rfl, rfl, rfl⟩
theorem t0 (K : Res → Option Res) (k : St → Option Res) (it : St → (St → Option Res) → Option Res) (x3 : ByteArray) (x4 x5 : Int) : iterS (X K) 0 b0 it (s0 x3 x4 x5) k = l0s x3 x4 (fun x5 => it (s0 x3 x4 x5) k) (k (o0 x3 x4)) (fun r1 => K (m r1)) x5 := by kernel_rfl
theorem i0 (K : Res → Option Res) (k : St → Option Res) (x3 : ByteArray) (x4 : Int) : ∀ (n : Nat) (x5 : Int), iter (X K) 0 b0 n (s0 x3 x4 x5) k = l0 x3 x4 (k (o0 x3 x4)) (fun r1 => K (m r1)) n x5
 | 0, _ => rfl
 | n + 1, x5 => by
  rw [iter_succ, t0, show (fun x5 => iter (X K) 0 b0 n (s0 x3 x4 x5) k) = (fun x5 => l0 x3 x4 (k (o0 x3 x4)) (fun r1 => K (m r1)) n x5) from funext fun x5 => i0 K k x3 x4 n x5]; rfl
theorem v0 {K : Res → Option Res} {l : List Lf} {k : St → Option Res} {r : Res} (h : p0 K l k = some r) : ∃ x3 x4 x5, l = [.s x3, .i x4, .i x5] ∧ l0 x3 x4 (k (o0 x3 x4)) (fun r1 => K (m r1)) fuel x5 = some r := by
 unfold p0 at h; split at h
 ·exact ⟨_, _, _, rfl, h⟩
 ·cases h
theorem w0 (K : Res → Option Res) : LpSound Go.Proofs.Tryd.prog (X K) 0 b0 := lp_ok ((cx K).ok laid) (by rw [show loopsOf b0 = [] from by kernel_rfl]; intro p hp; cases hp) rfl fun p hp hid => by
 rcases List.mem_cons.1 hp with rfl | hp
 ·intro st k r h1 h2; obtain ⟨x3, x4, x5, e, h⟩ := v0 (K := K) h2; have := St.like_eq (y := s0 x3 x4 x5) h1 (by kernel_rfl) e; subst this; exact ⟨fuel, (i0 K k x3 x4 fuel x5).trans h⟩
 cases hp
theorem tie (K : Res → Option Res) (a1 : ByteArray) (a2 : Int) : exec (X K) c (entry 18 [one (.str a1), one (.int .i64 a2)] [] []) (endK (X K)) = g a1 a2 (fun r1 => K (m r1)) := Eq.trans (b := b a1 a2 (fun r1 => K (m r1))) (by kernel_rfl) (by rw [e])
theorem runv {l : List Lf} {K : Res → Option Res} {r : Res} (h : run l K = some r) : ∃ a1 a2, l = [.s a1, .i a2] ∧ g a1 a2 (fun r1 => K (m r1)) = some r := by
 unfold run at h; split at h
 ·exact ⟨_, _, rfl, h⟩
 ·cases h
theorem ok : Con Go.Proofs.Tryd.prog con := con_of (fn := Go.Proofs.Tryd.f29) (c := c) (Fi := fi) (X := X) (fun_of laid (by kernel_rfl) (by kernel_rfl) (by kernel_rfl) rfl (by kernel_rfl) (by kernel_rfl) cx (fun _ => rfl) (fun _ => rfl) (fun K => by
 rw [show loopsOf c = [(0, b0)] from by kernel_rfl]; intro p hp
 rcases List.mem_cons.1 hp with rfl | hp
 ·exact w0 K
 cases hp)) fun xs rows boxes K r hl hr => by
 obtain ⟨a1, a2, e, h⟩ := runv hr
 have := St.like_eq (y := a a1 a2) hl (by kernel_rfl) e
 obtain ⟨rfl, rfl, rfl⟩ := argSt_inj this
 exact (tie K a1 a2).trans h
end impl_hasSign
namespace impl_TokenOk
noncomputable def c : Code := bodyOf Go.Proofs.Tryd.f9
noncomputable def fi : Fin := ⟨Γ0, [(.tmp 2, 4)], [[1]], [], [], []⟩
noncomputable def m (r1 : Bool) : Res := ⟨[⟨false, [.bool r1]⟩], [], [], [], []⟩
noncomputable def os : List (FuncId × St × (List Lf → (Res → Option Res) → Option Res)) := [impl_NumOk.con, impl_within.con, impl_hasSign.con]
noncomputable def X (K : Res → Option Res) : Ctx := { Γ := Γ0, orc := orcOf os, io := [], share := [], mvl := [], bun := [], cut := [], own := [], cin := [], cout := [], lp := lpOf [], kl := [], nk := true, eqs := eqs0, byt := byt0, fin := finK fi K }
noncomputable def b (a1 a2 : Int) (R : Bool → Option Res) : Option Res :=
 bif (a1 == 1) then (impl_NumOk.g a2 fun r3 =>
  R r3)
 else bif (a1 == 2) then (impl_within.g a2 0 25 fun r4 =>
  R r4)
 else bif (a1 == 3) then (impl_hasSign.g (⟨#[43, 45, 42, 37, 124, 38, 94, 61, 60, 62, 126, 105, 35, 44, 116, 100, 114, 122, 64, 63, 103, 36, 101, 47, 92, 46, 111]⟩ : ByteArray) a2 fun r5 =>
  R r5)
 else bif (a1 == 4) then R (a2 == 0)
 else bif (a1 == 5) then R (a2 == 0)
 else bif (a1 == 6) then R (a2 == 0)
 else R false
theorem gx : ∃ x : Int → Int → (Bool → Option Res) → Option Res, x = b := ⟨_, rfl⟩
noncomputable def g : Int → Int → (Bool → Option Res) → Option Res := Classical.choose gx
theorem e : g = b := Classical.choose_spec gx
noncomputable def run : List Lf → (Res → Option Res) → Option Res
 | [.i a1, .i a2], K => g a1 a2 (fun r1 => K (m r1))
 | _, _ => none
noncomputable def a (a1 a2 : Int) : St := argSt [.v ⟨true, [.int .i64 a1, .int .i64 a2]⟩] [] []
noncomputable def con : FuncId × St × (List Lf → (Res → Option Res) → Option Res) := (9, a 0 0, run)
theorem cx (K : Res → Option Res) : CtxOk Go.Proofs.Tryd.prog Γ0 byt0 eqs0 (X K) os := ⟨rfl, rfl, rfl, (fun p hp => by
 rcases List.mem_cons.1 hp with rfl | hp
 ·exact impl_NumOk.ok
 rcases List.mem_cons.1 hp with rfl | hp
 ·exact impl_within.ok
 rcases List.mem_cons.1 hp with rfl | hp
 ·exact impl_hasSign.ok
 cases hp), rfl, rfl, rfl, rfl⟩
theorem tie (K : Res → Option Res) (a1 a2 : Int) : exec (X K) c (entry 27 [.v ⟨true, [.int .i64 a1, .int .i64 a2]⟩] [] []) (endK (X K)) = g a1 a2 (fun r1 => K (m r1)) := Eq.trans (b := b a1 a2 (fun r1 => K (m r1))) (by kernel_rfl) (by rw [e])
theorem runv {l : List Lf} {K : Res → Option Res} {r : Res} (h : run l K = some r) : ∃ a1 a2, l = [.i a1, .i a2] ∧ g a1 a2 (fun r1 => K (m r1)) = some r := by
 unfold run at h; split at h
 ·exact ⟨_, _, rfl, h⟩
 ·cases h
theorem ok : Con Go.Proofs.Tryd.prog con := con_of (fn := Go.Proofs.Tryd.f9) (c := c) (Fi := fi) (X := X) (fun_of laid (by kernel_rfl) (by kernel_rfl) (by kernel_rfl) rfl (by kernel_rfl) (by kernel_rfl) cx (fun _ => rfl) (fun _ => rfl) (fun K => by
 rw [show loopsOf c = [] from by kernel_rfl]; intro p hp
 cases hp)) fun xs rows boxes K r hl hr => by
 obtain ⟨a1, a2, e, h⟩ := runv hr
 have := St.like_eq (y := a a1 a2) hl (by kernel_rfl) e
 obtain ⟨rfl, rfl, rfl⟩ := argSt_inj this
 exact (tie K a1 a2).trans h
end impl_TokenOk
namespace impl_tokensOk_1
noncomputable def c : Code := bodyOf Go.Proofs.Tryd.f47
noncomputable def fi : Fin := ⟨Γ0, [(.tmp 2, 4)], [[1]], [], [], []⟩
noncomputable def m (r1 : Bool) : Res := ⟨[⟨false, [.bool r1]⟩], [], [], [], []⟩
noncomputable def os : List (FuncId × St × (List Lf → (Res → Option Res) → Option Res)) := [impl_TokenOk.con]
noncomputable def X (K : Res → Option Res) : Ctx := { Γ := Γ0, orc := orcOf os, io := [], share := [], mvl := [], bun := [], cut := [], own := [], cin := [], cout := [], lp := lpOf [], kl := [], nk := true, eqs := eqs0, byt := byt0, fin := finK fi K }
noncomputable def b (a1 a2 : Int) (R : Bool → Option Res) : Option Res :=
 impl_TokenOk.g a1 a2 fun r3 =>
 R (!r3)
theorem gx : ∃ x : Int → Int → (Bool → Option Res) → Option Res, x = b := ⟨_, rfl⟩
noncomputable def g : Int → Int → (Bool → Option Res) → Option Res := Classical.choose gx
theorem e : g = b := Classical.choose_spec gx
noncomputable def run : List Lf → (Res → Option Res) → Option Res
 | [.i a1, .i a2], K => g a1 a2 (fun r1 => K (m r1))
 | _, _ => none
noncomputable def a (a1 a2 : Int) : St := argSt [.v ⟨true, [.int .i64 a1, .int .i64 a2]⟩] [] []
noncomputable def con : FuncId × St × (List Lf → (Res → Option Res) → Option Res) := (47, a 0 0, run)
theorem cx (K : Res → Option Res) : CtxOk Go.Proofs.Tryd.prog Γ0 byt0 eqs0 (X K) os := ⟨rfl, rfl, rfl, (fun p hp => by
 rcases List.mem_cons.1 hp with rfl | hp
 ·exact impl_TokenOk.ok
 cases hp), rfl, rfl, rfl, rfl⟩
theorem tie (K : Res → Option Res) (a1 a2 : Int) : exec (X K) c (entry 6 [.v ⟨true, [.int .i64 a1, .int .i64 a2]⟩] [] []) (endK (X K)) = g a1 a2 (fun r1 => K (m r1)) := Eq.trans (b := b a1 a2 (fun r1 => K (m r1))) (by kernel_rfl) (by rw [e])
theorem runv {l : List Lf} {K : Res → Option Res} {r : Res} (h : run l K = some r) : ∃ a1 a2, l = [.i a1, .i a2] ∧ g a1 a2 (fun r1 => K (m r1)) = some r := by
 unfold run at h; split at h
 ·exact ⟨_, _, rfl, h⟩
 ·cases h
theorem ok : Con Go.Proofs.Tryd.prog con := con_of (fn := Go.Proofs.Tryd.f47) (c := c) (Fi := fi) (X := X) (fun_of laid (by kernel_rfl) (by kernel_rfl) (by kernel_rfl) rfl (by kernel_rfl) (by kernel_rfl) cx (fun _ => rfl) (fun _ => rfl) (fun K => by
 rw [show loopsOf c = [] from by kernel_rfl]; intro p hp
 cases hp)) fun xs rows boxes K r hl hr => by
 obtain ⟨a1, a2, e, h⟩ := runv hr
 have := St.like_eq (y := a a1 a2) hl (by kernel_rfl) e
 obtain ⟨rfl, rfl, rfl⟩ := argSt_inj this
 exact (tie K a1 a2).trans h
end impl_tokensOk_1
namespace slices_IndexFunc_impl_Token_impl_Token
noncomputable def c : Code := bodyOf Go.Proofs.Tryd.f72
noncomputable def fi : Fin := ⟨Γ0, [(.tmp 4, 3)], [[1]], [], [], []⟩
noncomputable def m (r1 : Int) : Res := ⟨[⟨false, [.int .i64 r1]⟩], [], [], [], []⟩
noncomputable def b0 : Code := codeAt c [1, 0, 1, 0, 0]
noncomputable def s0 (x2 : List (List Cl)) (x3 x4 : Int) : St := ⟨mkT 19 [(0, one (.tr 0 1 [.int .i64, .int .i64] (.cells x2))), (1, one (.fn 47 [])), (7, one (.int .i64 x3)), (8, one (.int .i64 x4))], [], []⟩
noncomputable def l0s (x2 : List (List Cl)) (x3 : Int) (rec : Int → Option Res) (k : Option Res) (R : Int → Option Res) (x4 : Int) : Option Res :=
 bif decide (x4 < x3) then (bif decide (0 ≤ x4) && decide (x4 < (x2.length : Int)) then (impl_tokensOk_1.g (((x2.getD x4.toNat []).getD 0 (.i 0)).toI) (((x2.getD x4.toNat []).getD 1 (.i 0)).toI) fun r5 =>
  bif r5 then R x4
  else rec (IntKind.i64.wrap (x4 + 1)))
  else none)
 else k
noncomputable def l0 (x2 : List (List Cl)) (x3 : Int) (k : Option Res) (R : Int → Option Res) : Nat → Int → Option Res
 | 0, _ => none
 | n + 1, x4 => l0s x2 x3 (fun x4 => l0 x2 x3 k R n x4) k R x4
noncomputable def o0 (x2 : List (List Cl)) (x3 : Int) : St := ⟨mkT 19 [], [], []⟩
noncomputable def p0 (K : Res → Option Res) : List Lf → (St → Option Res) → Option Res
 | [.q (.cells x2), .i x3, .i x4], k => l0 x2 x3 (k (o0 x2 x3)) (fun r1 => K (m r1)) fuel x4
 | _, _ => none
noncomputable def os : List (FuncId × St × (List Lf → (Res → Option Res) → Option Res)) := [impl_tokensOk_1.con]
noncomputable def X (K : Res → Option Res) : Ctx := { Γ := Γ0, orc := orcOf os, io := [], share := [], mvl := [], bun := [], cut := [], own := [], cin := [(0, ⟨[0, 1, 7, 8], [], [], [], [], []⟩)], cout := [(0, ⟨[], [], [], [], [], []⟩)], lp := lpOf [(0, s0 [] 0 0, p0 K)], kl := [], nk := true, eqs := eqs0, byt := byt0, fin := finK fi K }
noncomputable def b (a1 : List (List Cl)) (R : Int → Option Res) : Option Res :=
 l0 a1 (a1.length : Int) (
 R (-1)) R fuel 0
theorem gx : ∃ x : List (List Cl) → (Int → Option Res) → Option Res, x = b := ⟨_, rfl⟩
noncomputable def g : List (List Cl) → (Int → Option Res) → Option Res := Classical.choose gx
theorem e : g = b := Classical.choose_spec gx
noncomputable def run : List Lf → (Res → Option Res) → Option Res
 | [.q (.cells a1)], K => g a1 (fun r1 => K (m r1))
 | _, _ => none
noncomputable def a (a1 : List (List Cl)) : St := argSt [one (.tr 0 1 [.int .i64, .int .i64] (.cells a1)), one (.fn 47 [])] [] []
noncomputable def con : FuncId × St × (List Lf → (Res → Option Res) → Option Res) := (72, a [], run)
theorem cx (K : Res → Option Res) : CtxOk Go.Proofs.Tryd.prog Γ0 byt0 eqs0 (X K) os := ⟨rfl, rfl, rfl, (fun p hp => by
 rcases List.mem_cons.1 hp with rfl | hp
 ·exact impl_tokensOk_1.ok
 cases hp), rfl, rfl, rfl, rfl⟩
theorem t0 (K : Res → Option Res) (k : St → Option Res) (it : St → (St → Option Res) → Option Res) (x2 : List (List Cl)) (x3 x4 : Int) : iterS (X K) 0 b0 it (s0 x2 x3 x4) k = l0s x2 x3 (fun x4 => it (s0 x2 x3 x4) k) (k (o0 x2 x3)) (fun r1 => K (m r1)) x4 := by kernel_rfl
theorem i0 (K : Res → Option Res) (k : St → Option Res) (x2 : List (List Cl)) (x3 : Int) : ∀ (n : Nat) (x4 : Int), iter (X K) 0 b0 n (s0 x2 x3 x4) k = l0 x2 x3 (k (o0 x2 x3)) (fun r1 => K (m r1)) n x4
 | 0, _ => rfl
 | n + 1, x4 => by
  rw [iter_succ, t0, show (fun x4 => iter (X K) 0 b0 n (s0 x2 x3 x4) k) = (fun x4 => l0 x2 x3 (k (o0 x2 x3)) (fun r1 => K (m r1)) n x4) from funext fun x4 => i0 K k x2 x3 n x4]; rfl
theorem v0 {K : Res → Option Res} {l : List Lf} {k : St → Option Res} {r : Res} (h : p0 K l k = some r) : ∃ x2 x3 x4, l = [.q (.cells x2), .i x3, .i x4] ∧ l0 x2 x3 (k (o0 x2 x3)) (fun r1 => K (m r1)) fuel x4 = some r := by
 unfold p0 at h; split at h
 ·exact ⟨_, _, _, rfl, h⟩
 ·cases h
theorem w0 (K : Res → Option Res) : LpSound Go.Proofs.Tryd.prog (X K) 0 b0 := lp_ok ((cx K).ok laid) (by rw [show loopsOf b0 = [] from by kernel_rfl]; intro p hp; cases hp) rfl fun p hp hid => by
 rcases List.mem_cons.1 hp with rfl | hp
 ·intro st k r h1 h2; obtain ⟨x2, x3, x4, e, h⟩ := v0 (K := K) h2; have := St.like_eq (y := s0 x2 x3 x4) h1 (by kernel_rfl) e; subst this; exact ⟨fuel, (i0 K k x2 x3 fuel x4).trans h⟩
 cases hp
theorem tie (K : Res → Option Res) (a1 : List (List Cl)) : exec (X K) c (entry 19 [one (.tr 0 1 [.int .i64, .int .i64] (.cells a1)), one (.fn 47 [])] [] []) (endK (X K)) = g a1 (fun r1 => K (m r1)) := Eq.trans (b := b a1 (fun r1 => K (m r1))) (by kernel_rfl) (by rw [e])
theorem runv {l : List Lf} {K : Res → Option Res} {r : Res} (h : run l K = some r) : ∃ a1, l = [.q (.cells a1)] ∧ g a1 (fun r1 => K (m r1)) = some r := by
 unfold run at h; split at h
 ·exact ⟨_, rfl, h⟩
 ·cases h
theorem ok : Con Go.Proofs.Tryd.prog con := con_of (fn := Go.Proofs.Tryd.f72) (c := c) (Fi := fi) (X := X) (fun_of laid (by kernel_rfl) (by kernel_rfl) (by kernel_rfl) rfl (by kernel_rfl) (by kernel_rfl) cx (fun _ => rfl) (fun _ => rfl) (fun K => by
 rw [show loopsOf c = [(0, b0)] from by kernel_rfl]; intro p hp
 rcases List.mem_cons.1 hp with rfl | hp
 ·exact w0 K
 cases hp)) fun xs rows boxes K r hl hr => by
 obtain ⟨a1, e, h⟩ := runv hr
 have := St.like_eq (y := a a1) hl (by kernel_rfl) e
 obtain ⟨rfl, rfl, rfl⟩ := argSt_inj this
 exact (tie K a1).trans h
end slices_IndexFunc_impl_Token_impl_Token
namespace slices_ContainsFunc_impl_Token_impl_Token
noncomputable def c : Code := bodyOf Go.Proofs.Tryd.f46
noncomputable def fi : Fin := ⟨Γ0, [(.tmp 4, 4)], [[1]], [], [], []⟩
noncomputable def m (r1 : Bool) : Res := ⟨[⟨false, [.bool r1]⟩], [], [], [], []⟩
noncomputable def os : List (FuncId × St × (List Lf → (Res → Option Res) → Option Res)) := [slices_IndexFunc_impl_Token_impl_Token.con]
noncomputable def X (K : Res → Option Res) : Ctx := { Γ := Γ0, orc := orcOf os, io := [], share := [], mvl := [], bun := [], cut := [], own := [], cin := [], cout := [], lp := lpOf [], kl := [], nk := true, eqs := eqs0, byt := byt0, fin := finK fi K }
noncomputable def b (a1 : List (List Cl)) (R : Bool → Option Res) : Option Res :=
 slices_IndexFunc_impl_Token_impl_Token.g a1 fun r2 =>
 R (decide (0 ≤ r2))
theorem gx : ∃ x : List (List Cl) → (Bool → Option Res) → Option Res, x = b := ⟨_, rfl⟩
noncomputable def g : List (List Cl) → (Bool → Option Res) → Option Res := Classical.choose gx
theorem e : g = b := Classical.choose_spec gx
noncomputable def run : List Lf → (Res → Option Res) → Option Res
 | [.q (.cells a1)], K => g a1 (fun r1 => K (m r1))
 | _, _ => none
noncomputable def a (a1 : List (List Cl)) : St := argSt [one (.tr 0 1 [.int .i64, .int .i64] (.cells a1)), one (.fn 47 [])] [] []
noncomputable def con : FuncId × St × (List Lf → (Res → Option Res) → Option Res) := (46, a [], run)
theorem cx (K : Res → Option Res) : CtxOk Go.Proofs.Tryd.prog Γ0 byt0 eqs0 (X K) os := ⟨rfl, rfl, rfl, (fun p hp => by
 rcases List.mem_cons.1 hp with rfl | hp
 ·exact slices_IndexFunc_impl_Token_impl_Token.ok
 cases hp), rfl, rfl, rfl, rfl⟩
theorem tie (K : Res → Option Res) (a1 : List (List Cl)) : exec (X K) c (entry 9 [one (.tr 0 1 [.int .i64, .int .i64] (.cells a1)), one (.fn 47 [])] [] []) (endK (X K)) = g a1 (fun r1 => K (m r1)) := Eq.trans (b := b a1 (fun r1 => K (m r1))) (by kernel_rfl) (by rw [e])
theorem runv {l : List Lf} {K : Res → Option Res} {r : Res} (h : run l K = some r) : ∃ a1, l = [.q (.cells a1)] ∧ g a1 (fun r1 => K (m r1)) = some r := by
 unfold run at h; split at h
 ·exact ⟨_, rfl, h⟩
 ·cases h
theorem ok : Con Go.Proofs.Tryd.prog con := con_of (fn := Go.Proofs.Tryd.f46) (c := c) (Fi := fi) (X := X) (fun_of laid (by kernel_rfl) (by kernel_rfl) (by kernel_rfl) rfl (by kernel_rfl) (by kernel_rfl) cx (fun _ => rfl) (fun _ => rfl) (fun K => by
 rw [show loopsOf c = [] from by kernel_rfl]; intro p hp
 cases hp)) fun xs rows boxes K r hl hr => by
 obtain ⟨a1, e, h⟩ := runv hr
 have := St.like_eq (y := a a1) hl (by kernel_rfl) e
 obtain ⟨rfl, rfl, rfl⟩ := argSt_inj this
 exact (tie K a1).trans h
end slices_ContainsFunc_impl_Token_impl_Token
namespace impl_tokensOk
noncomputable def c : Code := bodyOf Go.Proofs.Tryd.f22
noncomputable def fi : Fin := ⟨Γ0, [(.tmp 2, 4)], [[1]], [], [], []⟩
noncomputable def m (r1 : Bool) : Res := ⟨[⟨false, [.bool r1]⟩], [], [], [], []⟩
noncomputable def os : List (FuncId × St × (List Lf → (Res → Option Res) → Option Res)) := [slices_ContainsFunc_impl_Token_impl_Token.con]
noncomputable def X (K : Res → Option Res) : Ctx := { Γ := Γ0, orc := orcOf os, io := [], share := [], mvl := [], bun := [], cut := [], own := [], cin := [], cout := [], lp := lpOf [], kl := [], nk := true, eqs := eqs0, byt := byt0, fin := finK fi K }
noncomputable def b (a1 : List (List Cl)) (R : Bool → Option Res) : Option Res :=
 bif decide ((a1.length : Int) ≤ 300) then (slices_ContainsFunc_impl_Token_impl_Token.g a1 fun r2 =>
  R (!r2))
 else R false
theorem gx : ∃ x : List (List Cl) → (Bool → Option Res) → Option Res, x = b := ⟨_, rfl⟩
noncomputable def g : List (List Cl) → (Bool → Option Res) → Option Res := Classical.choose gx
theorem e : g = b := Classical.choose_spec gx
noncomputable def run : List Lf → (Res → Option Res) → Option Res
 | [.q (.cells a1)], K => g a1 (fun r1 => K (m r1))
 | _, _ => none
noncomputable def a (a1 : List (List Cl)) : St := argSt [one (.tr 0 1 [.int .i64, .int .i64] (.cells a1))] [] []
noncomputable def con : FuncId × St × (List Lf → (Res → Option Res) → Option Res) := (22, a [], run)
theorem cx (K : Res → Option Res) : CtxOk Go.Proofs.Tryd.prog Γ0 byt0 eqs0 (X K) os := ⟨rfl, rfl, rfl, (fun p hp => by
 rcases List.mem_cons.1 hp with rfl | hp
 ·exact slices_ContainsFunc_impl_Token_impl_Token.ok
 cases hp), rfl, rfl, rfl, rfl⟩
theorem tie (K : Res → Option Res) (a1 : List (List Cl)) : exec (X K) c (entry 11 [one (.tr 0 1 [.int .i64, .int .i64] (.cells a1))] [] []) (endK (X K)) = g a1 (fun r1 => K (m r1)) := Eq.trans (b := b a1 (fun r1 => K (m r1))) (by kernel_rfl) (by rw [e])
theorem runv {l : List Lf} {K : Res → Option Res} {r : Res} (h : run l K = some r) : ∃ a1, l = [.q (.cells a1)] ∧ g a1 (fun r1 => K (m r1)) = some r := by
 unfold run at h; split at h
 ·exact ⟨_, rfl, h⟩
 ·cases h
theorem ok : Con Go.Proofs.Tryd.prog con := con_of (fn := Go.Proofs.Tryd.f22) (c := c) (Fi := fi) (X := X) (fun_of laid (by kernel_rfl) (by kernel_rfl) (by kernel_rfl) rfl (by kernel_rfl) (by kernel_rfl) cx (fun _ => rfl) (fun _ => rfl) (fun K => by
 rw [show loopsOf c = [] from by kernel_rfl]; intro p hp
 cases hp)) fun xs rows boxes K r hl hr => by
 obtain ⟨a1, e, h⟩ := runv hr
 have := St.like_eq (y := a a1) hl (by kernel_rfl) e
 obtain ⟨rfl, rfl, rfl⟩ := argSt_inj this
 exact (tie K a1).trans h
end impl_tokensOk
namespace strconv_Itoa
theorem is : ItoaIs Go.Proofs.Tryd.prog 73 := fun n h0 h1 w ht => Go.Proofs.Tryd.strconv_Itoa n h0 h1 w ht
noncomputable def g (a1 : Int) (R : ByteArray → Option Res) : Option Res := itoaG a1 R
noncomputable def con : FuncId × St × (List Lf → (Res → Option Res) → Option Res) := itoaC 73
theorem ok : Con Go.Proofs.Tryd.prog con := con_itoa (fn := Go.Proofs.Tryd.f73) (by kernel_rfl) (by kernel_rfl) (by kernel_rfl) is
end strconv_Itoa
namespace impl_ShowNum
noncomputable def c : Code := bodyOf Go.Proofs.Tryd.f48
noncomputable def fi : Fin := ⟨Γ0, [(.tmp 2, 9)], [[1]], [], [], []⟩
noncomputable def m (r1 : ByteArray) : Res := ⟨[⟨false, [.str r1]⟩], [], [], [], []⟩
noncomputable def os : List (FuncId × St × (List Lf → (Res → Option Res) → Option Res)) := [impl_NumOk.con, strconv_Itoa.con]
noncomputable def X (K : Res → Option Res) : Ctx := { Γ := Γ0, orc := orcOf os, io := [], share := [], mvl := [], bun := [], cut := [], own := [], cin := [], cout := [], lp := lpOf [], kl := [], nk := true, eqs := eqs0, byt := byt0, fin := finK fi K }
noncomputable def b (a1 : Int) (R : ByteArray → Option Res) : Option Res :=
 impl_NumOk.g a1 fun r2 =>
 bif !r2 then R (⟨#[]⟩ : ByteArray)
 else bif decide (a1 < 0) then (strconv_Itoa.g (IntKind.i64.wrap (0 - a1)) fun r3 =>
  bif decide (1 + r3.size ≤ 9223372036854775807) then R ((⟨#[95]⟩ : ByteArray) ++ r3)
  else none)
 else (strconv_Itoa.g a1 fun r4 =>
 R r4)
theorem gx : ∃ x : Int → (ByteArray → Option Res) → Option Res, x = b := ⟨_, rfl⟩
noncomputable def g : Int → (ByteArray → Option Res) → Option Res := Classical.choose gx
theorem e : g = b := Classical.choose_spec gx
noncomputable def run : List Lf → (Res → Option Res) → Option Res
 | [.i a1], K => g a1 (fun r1 => K (m r1))
 | _, _ => none
noncomputable def a (a1 : Int) : St := argSt [one (.int .i64 a1)] [] []
noncomputable def con : FuncId × St × (List Lf → (Res → Option Res) → Option Res) := (48, a 0, run)
theorem cx (K : Res → Option Res) : CtxOk Go.Proofs.Tryd.prog Γ0 byt0 eqs0 (X K) os := ⟨rfl, rfl, rfl, (fun p hp => by
 rcases List.mem_cons.1 hp with rfl | hp
 ·exact impl_NumOk.ok
 rcases List.mem_cons.1 hp with rfl | hp
 ·exact strconv_Itoa.ok
 cases hp), rfl, rfl, rfl, rfl⟩
theorem tie (K : Res → Option Res) (a1 : Int) : exec (X K) c (entry 14 [one (.int .i64 a1)] [] []) (endK (X K)) = g a1 (fun r1 => K (m r1)) := Eq.trans (b := b a1 (fun r1 => K (m r1))) (by kernel_rfl) (by rw [e])
theorem runv {l : List Lf} {K : Res → Option Res} {r : Res} (h : run l K = some r) : ∃ a1, l = [.i a1] ∧ g a1 (fun r1 => K (m r1)) = some r := by
 unfold run at h; split at h
 ·exact ⟨_, rfl, h⟩
 ·cases h
theorem ok : Con Go.Proofs.Tryd.prog con := con_of (fn := Go.Proofs.Tryd.f48) (c := c) (Fi := fi) (X := X) (fun_of laid (by kernel_rfl) (by kernel_rfl) (by kernel_rfl) rfl (by kernel_rfl) (by kernel_rfl) cx (fun _ => rfl) (fun _ => rfl) (fun K => by
 rw [show loopsOf c = [] from by kernel_rfl]; intro p hp
 cases hp)) fun xs rows boxes K r hl hr => by
 obtain ⟨a1, e, h⟩ := runv hr
 have := St.like_eq (y := a a1) hl (by kernel_rfl) e
 obtain ⟨rfl, rfl, rfl⟩ := argSt_inj this
 exact (tie K a1).trans h
end impl_ShowNum
namespace impl_tokenText
noncomputable def c : Code := bodyOf Go.Proofs.Tryd.f23
noncomputable def fi : Fin := ⟨Γ0, [(.tmp 2, 9)], [[1]], [], [], []⟩
noncomputable def m (r1 : ByteArray) : Res := ⟨[⟨false, [.str r1]⟩], [], [], [], []⟩
noncomputable def os : List (FuncId × St × (List Lf → (Res → Option Res) → Option Res)) := [impl_ShowNum.con]
noncomputable def X (K : Res → Option Res) : Ctx := { Γ := Γ0, orc := orcOf os, io := [], share := [], mvl := [], bun := [], cut := [], own := [], cin := [], cout := [], lp := lpOf [], kl := [], nk := true, eqs := eqs0, byt := byt0, fin := finK fi K }
noncomputable def b (a1 a2 : Int) (R : ByteArray → Option Res) : Option Res :=
 bif (a1 == 1) then (impl_ShowNum.g a2 fun r3 =>
  R r3)
 else bif (a1 == 2) then R (strOf ([IntKind.u8.wrap (IntKind.i64.wrap (65 + a2))] : List Int))
 else bif (a1 == 3) then R (strOf ([IntKind.u8.wrap a2] : List Int))
 else bif decide (0 ≤ IntKind.i64.wrap (a1 - 4)) && decide (IntKind.i64.wrap (a1 - 4) < 3) then R (([(⟨#[40]⟩ : ByteArray), (⟨#[41]⟩ : ByteArray), (⟨#[58]⟩ : ByteArray)] : List ByteArray).getD ((IntKind.i64.wrap (a1 - 4)).toNat) ByteArray.empty)
 else none
theorem gx : ∃ x : Int → Int → (ByteArray → Option Res) → Option Res, x = b := ⟨_, rfl⟩
noncomputable def g : Int → Int → (ByteArray → Option Res) → Option Res := Classical.choose gx
theorem e : g = b := Classical.choose_spec gx
noncomputable def run : List Lf → (Res → Option Res) → Option Res
 | [.i a1, .i a2], K => g a1 a2 (fun r1 => K (m r1))
 | _, _ => none
noncomputable def a (a1 a2 : Int) : St := argSt [.v ⟨true, [.int .i64 a1, .int .i64 a2]⟩] [] []
noncomputable def con : FuncId × St × (List Lf → (Res → Option Res) → Option Res) := (23, a 0 0, run)
theorem cx (K : Res → Option Res) : CtxOk Go.Proofs.Tryd.prog Γ0 byt0 eqs0 (X K) os := ⟨rfl, rfl, rfl, (fun p hp => by
 rcases List.mem_cons.1 hp with rfl | hp
 ·exact impl_ShowNum.ok
 cases hp), rfl, rfl, rfl, rfl⟩
theorem tie (K : Res → Option Res) (a1 a2 : Int) : exec (X K) c (entry 31 [.v ⟨true, [.int .i64 a1, .int .i64 a2]⟩] [] []) (endK (X K)) = g a1 a2 (fun r1 => K (m r1)) := Eq.trans (b := b a1 a2 (fun r1 => K (m r1))) (by kernel_rfl) (by rw [e])
theorem runv {l : List Lf} {K : Res → Option Res} {r : Res} (h : run l K = some r) : ∃ a1 a2, l = [.i a1, .i a2] ∧ g a1 a2 (fun r1 => K (m r1)) = some r := by
 unfold run at h; split at h
 ·exact ⟨_, _, rfl, h⟩
 ·cases h
theorem ok : Con Go.Proofs.Tryd.prog con := con_of (fn := Go.Proofs.Tryd.f23) (c := c) (Fi := fi) (X := X) (fun_of laid (by kernel_rfl) (by kernel_rfl) (by kernel_rfl) rfl (by kernel_rfl) (by kernel_rfl) cx (fun _ => rfl) (fun _ => rfl) (fun K => by
 rw [show loopsOf c = [] from by kernel_rfl]; intro p hp
 cases hp)) fun xs rows boxes K r hl hr => by
 obtain ⟨a1, a2, e, h⟩ := runv hr
 have := St.like_eq (y := a a1 a2) hl (by kernel_rfl) e
 obtain ⟨rfl, rfl, rfl⟩ := argSt_inj this
 exact (tie K a1 a2).trans h
end impl_tokenText
namespace strings_Join
theorem is : JoinIs Go.Proofs.Tryd.prog 24 := ⟨fun a c sep w => Go.Proofs.Tryd.strings_Join_none a c sep w, fun bk o c xs sep w h1 h2 h3 h4 h5 => Go.Proofs.Tryd.strings_Join bk o c xs sep w h1 h2 h3 h4 h5⟩
noncomputable def g (a1 : List ByteArray) (a2 : ByteArray) (R : ByteArray → Option Res) : Option Res := joinG a1 a2 R
noncomputable def con : FuncId × St × (List Lf → (Res → Option Res) → Option Res) := joinC 24 0 1
theorem ok : Con Go.Proofs.Tryd.prog con := con_join 0 1 (fn := Go.Proofs.Tryd.f24) (by kernel_rfl) (by kernel_rfl) (by kernel_rfl) is
end strings_Join
namespace impl_TokenText
noncomputable def c : Code := bodyOf Go.Proofs.Tryd.f7
noncomputable def fi : Fin := ⟨Γ0, [(.tmp 2, 9)], [[1]], [], [], []⟩
noncomputable def m (r1 : ByteArray) : Res := ⟨[⟨false, [.str r1]⟩], [], [], [], []⟩
noncomputable def b0 : Code := codeAt c [1, 1, 1, 0, 1, 0, 0]
noncomputable def s0 (x3 : List (List Cl)) (x4 x5 : Int) (x6 : List ByteArray) : St := ⟨mkT 23 [(3, one (.ow 7152)), (9, one (.tr 0 1 [.int .i64, .int .i64] (.cells x3))), (10, one (.int .i64 x4)), (11, one (.int .i64 x5))], [(7152, ⟨[.str], .strs x6, true, 0⟩)], []⟩
noncomputable def l0s (x3 : List (List Cl)) (x4 : Int) (rec : Int → List ByteArray → Option Res) (k : List ByteArray → Option Res) (x5 : Int) (x6 : List ByteArray) : Option Res :=
 bif decide (x5 < x4) then (bif decide (0 ≤ x5) && decide (x5 < (x3.length : Int)) then (impl_tokenText.g (((x3.getD x5.toNat []).getD 0 (.i 0)).toI) (((x3.getD x5.toNat []).getD 1 (.i 0)).toI) fun r7 =>
  bif decide ((x6.length + 1) * 16 ≤ 140737488355328) then rec (IntKind.i64.wrap (x5 + 1)) (x6 ++ ([r7] : List ByteArray))
  else none)
  else none)
 else k x6
noncomputable def l0 (x3 : List (List Cl)) (x4 : Int) (k : List ByteArray → Option Res) : Nat → Int → List ByteArray → Option Res
 | 0, _, _ => none
 | n + 1, x5, x6 => l0s x3 x4 (fun x5 x6 => l0 x3 x4 k n x5 x6) k x5 x6
noncomputable def o0 (x3 : List (List Cl)) (x4 : Int) (y1 : List ByteArray) : St := ⟨mkT 23 [(3, one (.ow 7152))], [(7152, ⟨[.str], .strs y1, true, 0⟩)], []⟩
noncomputable def p0 (K : Res → Option Res) : List Lf → (St → Option Res) → Option Res
 | [.q (.cells x3), .i x4, .i x5, .q (.strs x6)], k => l0 x3 x4 (fun y1 => k (o0 x3 x4 y1)) fuel x5 x6
 | _, _ => none
noncomputable def os : List (FuncId × St × (List Lf → (Res → Option Res) → Option Res)) := [impl_tokensOk.con, impl_tokenText.con, strings_Join.con]
noncomputable def X (K : Res → Option Res) : Ctx := { Γ := Γ0, orc := orcOf os, io := [], share := [], mvl := [], bun := [], cut := [], own := [(3, 0, 0, [.str])], cin := [(0, ⟨[3, 9, 10, 11], [(7152, 7152), (15400, 7152)], [], [], [], []⟩)], cout := [(0, ⟨[3], [(7152, 7152)], [], [], [], []⟩)], lp := lpOf [(0, s0 [] 0 0 [], p0 K)], kl := [], nk := true, eqs := eqs0, byt := byt0, fin := finK fi K }
noncomputable def b (a1 : List (List Cl)) (R : ByteArray → Option Res) : Option Res :=
 impl_tokensOk.g a1 fun r2 =>
 bif !r2 then R (⟨#[]⟩ : ByteArray)
 else (l0 a1 (a1.length : Int) (fun y8 =>
 strings_Join.g y8 (⟨#[32]⟩ : ByteArray) fun r9 =>
 R r9) fuel 0 ([] : List ByteArray))
theorem gx : ∃ x : List (List Cl) → (ByteArray → Option Res) → Option Res, x = b := ⟨_, rfl⟩
noncomputable def g : List (List Cl) → (ByteArray → Option Res) → Option Res := Classical.choose gx
theorem e : g = b := Classical.choose_spec gx
noncomputable def run : List Lf → (Res → Option Res) → Option Res
 | [.q (.cells a1)], K => g a1 (fun r1 => K (m r1))
 | _, _ => none
noncomputable def a (a1 : List (List Cl)) : St := argSt [one (.tr 0 1 [.int .i64, .int .i64] (.cells a1))] [] []
noncomputable def con : FuncId × St × (List Lf → (Res → Option Res) → Option Res) := (7, a [], run)
theorem cx (K : Res → Option Res) : CtxOk Go.Proofs.Tryd.prog Γ0 byt0 eqs0 (X K) os := ⟨rfl, rfl, rfl, (fun p hp => by
 rcases List.mem_cons.1 hp with rfl | hp
 ·exact impl_tokensOk.ok
 rcases List.mem_cons.1 hp with rfl | hp
 ·exact impl_tokenText.ok
 rcases List.mem_cons.1 hp with rfl | hp
 ·exact strings_Join.ok
 cases hp), rfl, rfl, rfl, rfl⟩
theorem t0 (K : Res → Option Res) (k : St → Option Res) (it : St → (St → Option Res) → Option Res) (x3 : List (List Cl)) (x4 x5 : Int) (x6 : List ByteArray) : iterS (X K) 0 b0 it (s0 x3 x4 x5 x6) k = l0s x3 x4 (fun x5 x6 => it (s0 x3 x4 x5 x6) k) (fun y1 => k (o0 x3 x4 y1)) x5 x6 := by kernel_rfl
theorem i0 (K : Res → Option Res) (k : St → Option Res) (x3 : List (List Cl)) (x4 : Int) : ∀ (n : Nat) (x5 : Int) (x6 : List ByteArray), iter (X K) 0 b0 n (s0 x3 x4 x5 x6) k = l0 x3 x4 (fun y1 => k (o0 x3 x4 y1)) n x5 x6
 | 0, _, _ => rfl
 | n + 1, x5, x6 => by
  rw [iter_succ, t0, show (fun x5 x6 => iter (X K) 0 b0 n (s0 x3 x4 x5 x6) k) = (fun x5 x6 => l0 x3 x4 (fun y1 => k (o0 x3 x4 y1)) n x5 x6) from funext fun x5 => funext fun x6 => i0 K k x3 x4 n x5 x6]; rfl
theorem v0 {K : Res → Option Res} {l : List Lf} {k : St → Option Res} {r : Res} (h : p0 K l k = some r) : ∃ x3 x4 x5 x6, l = [.q (.cells x3), .i x4, .i x5, .q (.strs x6)] ∧ l0 x3 x4 (fun y1 => k (o0 x3 x4 y1)) fuel x5 x6 = some r := by
 unfold p0 at h; split at h
 ·exact ⟨_, _, _, _, rfl, h⟩
 ·cases h
theorem w0 (K : Res → Option Res) : LpSound Go.Proofs.Tryd.prog (X K) 0 b0 := lp_ok ((cx K).ok laid) (by rw [show loopsOf b0 = [] from by kernel_rfl]; intro p hp; cases hp) rfl fun p hp hid => by
 rcases List.mem_cons.1 hp with rfl | hp
 ·intro st k r h1 h2; obtain ⟨x3, x4, x5, x6, e, h⟩ := v0 (K := K) h2; have := St.like_eq (y := s0 x3 x4 x5 x6) h1 (by kernel_rfl) e; subst this; exact ⟨fuel, (i0 K k x3 x4 fuel x5 x6).trans h⟩
 cases hp
theorem tie (K : Res → Option Res) (a1 : List (List Cl)) : exec (X K) c (entry 23 [one (.tr 0 1 [.int .i64, .int .i64] (.cells a1))] [] []) (endK (X K)) = g a1 (fun r1 => K (m r1)) := Eq.trans (b := b a1 (fun r1 => K (m r1))) (by kernel_rfl) (by rw [e])
theorem runv {l : List Lf} {K : Res → Option Res} {r : Res} (h : run l K = some r) : ∃ a1, l = [.q (.cells a1)] ∧ g a1 (fun r1 => K (m r1)) = some r := by
 unfold run at h; split at h
 ·exact ⟨_, rfl, h⟩
 ·cases h
theorem ok : Con Go.Proofs.Tryd.prog con := con_of (fn := Go.Proofs.Tryd.f7) (c := c) (Fi := fi) (X := X) (fun_of laid (by kernel_rfl) (by kernel_rfl) (by kernel_rfl) rfl (by kernel_rfl) (by kernel_rfl) cx (fun _ => rfl) (fun _ => rfl) (fun K => by
 rw [show loopsOf c = [(0, b0)] from by kernel_rfl]; intro p hp
 rcases List.mem_cons.1 hp with rfl | hp
 ·exact w0 K
 cases hp)) fun xs rows boxes K r hl hr => by
 obtain ⟨a1, e, h⟩ := runv hr
 have := St.like_eq (y := a a1) hl (by kernel_rfl) e
 obtain ⟨rfl, rfl, rfl⟩ := argSt_inj this
 exact (tie K a1).trans h
end impl_TokenText
namespace spec_TokenOk
noncomputable def c : Code := bodyOf Go.Proofs.Tryd.f52
noncomputable def fi : Fin := ⟨Γ0, [(.tmp 2, 4)], [[1]], [], [], []⟩
noncomputable def m (r1 : Bool) : Res := ⟨[⟨false, [.bool r1]⟩], [], [], [], []⟩
noncomputable def os : List (FuncId × St × (List Lf → (Res → Option Res) → Option Res)) := [spec_NumOk.con, spec_l1In.con, spec_l8Sign.con]
noncomputable def X (K : Res → Option Res) : Ctx := { Γ := Γ0, orc := orcOf os, io := [], share := [], mvl := [], bun := [], cut := [], own := [], cin := [], cout := [], lp := lpOf [], kl := [], nk := true, eqs := eqs0, byt := byt0, fin := finK fi K }
noncomputable def b (a1 a2 : Int) (R : Bool → Option Res) : Option Res :=
 bif (a1 == 1) then (spec_NumOk.g a2 fun r3 =>
  R r3)
 else bif (a1 == 2) then (spec_l1In.g a2 0 25 fun r4 =>
  R r4)
 else bif (a1 == 3) then (spec_l8Sign.g a2 fun r5 =>
  R r5)
 else bif (a1 == 4) then R (a2 == 0)
 else bif (a1 == 5) then R (a2 == 0)
 else bif (a1 == 6) then R (a2 == 0)
 else R false
theorem gx : ∃ x : Int → Int → (Bool → Option Res) → Option Res, x = b := ⟨_, rfl⟩
noncomputable def g : Int → Int → (Bool → Option Res) → Option Res := Classical.choose gx
theorem e : g = b := Classical.choose_spec gx
noncomputable def run : List Lf → (Res → Option Res) → Option Res
 | [.i a1, .i a2], K => g a1 a2 (fun r1 => K (m r1))
 | _, _ => none
noncomputable def a (a1 a2 : Int) : St := argSt [.v ⟨true, [.int .i64 a1, .int .i64 a2]⟩] [] []
noncomputable def con : FuncId × St × (List Lf → (Res → Option Res) → Option Res) := (52, a 0 0, run)
theorem cx (K : Res → Option Res) : CtxOk Go.Proofs.Tryd.prog Γ0 byt0 eqs0 (X K) os := ⟨rfl, rfl, rfl, (fun p hp => by
 rcases List.mem_cons.1 hp with rfl | hp
 ·exact spec_NumOk.ok
 rcases List.mem_cons.1 hp with rfl | hp
 ·exact spec_l1In.ok
 rcases List.mem_cons.1 hp with rfl | hp
 ·exact spec_l8Sign.ok
 cases hp), rfl, rfl, rfl, rfl⟩
theorem tie (K : Res → Option Res) (a1 a2 : Int) : exec (X K) c (entry 27 [.v ⟨true, [.int .i64 a1, .int .i64 a2]⟩] [] []) (endK (X K)) = g a1 a2 (fun r1 => K (m r1)) := Eq.trans (b := b a1 a2 (fun r1 => K (m r1))) (by kernel_rfl) (by rw [e])
theorem runv {l : List Lf} {K : Res → Option Res} {r : Res} (h : run l K = some r) : ∃ a1 a2, l = [.i a1, .i a2] ∧ g a1 a2 (fun r1 => K (m r1)) = some r := by
 unfold run at h; split at h
 ·exact ⟨_, _, rfl, h⟩
 ·cases h
theorem ok : Con Go.Proofs.Tryd.prog con := con_of (fn := Go.Proofs.Tryd.f52) (c := c) (Fi := fi) (X := X) (fun_of laid (by kernel_rfl) (by kernel_rfl) (by kernel_rfl) rfl (by kernel_rfl) (by kernel_rfl) cx (fun _ => rfl) (fun _ => rfl) (fun K => by
 rw [show loopsOf c = [] from by kernel_rfl]; intro p hp
 cases hp)) fun xs rows boxes K r hl hr => by
 obtain ⟨a1, a2, e, h⟩ := runv hr
 have := St.like_eq (y := a a1 a2) hl (by kernel_rfl) e
 obtain ⟨rfl, rfl, rfl⟩ := argSt_inj this
 exact (tie K a1 a2).trans h
end spec_TokenOk
namespace spec_l8Tokens
noncomputable def c : Code := bodyOf Go.Proofs.Tryd.f25
noncomputable def fi : Fin := ⟨Γ0, [(.tmp 2, 4)], [[1]], [], [], []⟩
noncomputable def m (r1 : Bool) : Res := ⟨[⟨false, [.bool r1]⟩], [], [], [], []⟩
noncomputable def b0 : Code := codeAt c [1, 0, 1, 0, 0]
noncomputable def s0 (x2 : List (List Cl)) (x3 : Int) : St := ⟨mkT 19 [(0, one (.tr 0 1 [.int .i64, .int .i64] (.cells x2))), (3, one (.int .i64 x3))], [], []⟩
noncomputable def l0s (x2 : List (List Cl)) (rec : Int → Option Res) (k : Option Res) (R : Bool → Option Res) (x3 : Int) : Option Res :=
 bif decide (x3 < (x2.length : Int)) then (bif decide (0 ≤ x3) && decide (x3 < (x2.length : Int)) then (spec_TokenOk.g (((x2.getD x3.toNat []).getD 0 (.i 0)).toI) (((x2.getD x3.toNat []).getD 1 (.i 0)).toI) fun r4 =>
  bif !r4 then R false
  else rec (IntKind.i64.wrap (x3 + 1)))
  else none)
 else k
noncomputable def l0 (x2 : List (List Cl)) (k : Option Res) (R : Bool → Option Res) : Nat → Int → Option Res
 | 0, _ => none
 | n + 1, x3 => l0s x2 (fun x3 => l0 x2 k R n x3) k R x3
noncomputable def o0 (x2 : List (List Cl)) : St := ⟨mkT 19 [(0, one (.tr 0 1 [.int .i64, .int .i64] (.cells x2)))], [], []⟩
noncomputable def p0 (K : Res → Option Res) : List Lf → (St → Option Res) → Option Res
 | [.q (.cells x2), .i x3], k => l0 x2 (k (o0 x2)) (fun r1 => K (m r1)) fuel x3
 | _, _ => none
noncomputable def os : List (FuncId × St × (List Lf → (Res → Option Res) → Option Res)) := [spec_TokenOk.con]
noncomputable def X (K : Res → Option Res) : Ctx := { Γ := Γ0, orc := orcOf os, io := [], share := [], mvl := [], bun := [], cut := [], own := [], cin := [(0, ⟨[0, 3], [], [], [], [], []⟩)], cout := [(0, ⟨[0], [], [], [], [], []⟩)], lp := lpOf [(0, s0 [] 0, p0 K)], kl := [], nk := true, eqs := eqs0, byt := byt0, fin := finK fi K }
noncomputable def b (a1 : List (List Cl)) (R : Bool → Option Res) : Option Res :=
 l0 a1 (
 R (decide ((a1.length : Int) ≤ 300))) R fuel 0
theorem gx : ∃ x : List (List Cl) → (Bool → Option Res) → Option Res, x = b := ⟨_, rfl⟩
noncomputable def g : List (List Cl) → (Bool → Option Res) → Option Res := Classical.choose gx
theorem e : g = b := Classical.choose_spec gx
noncomputable def run : List Lf → (Res → Option Res) → Option Res
 | [.q (.cells a1)], K => g a1 (fun r1 => K (m r1))
 | _, _ => none
noncomputable def a (a1 : List (List Cl)) : St := argSt [one (.tr 0 1 [.int .i64, .int .i64] (.cells a1))] [] []
noncomputable def con : FuncId × St × (List Lf → (Res → Option Res) → Option Res) := (25, a [], run)
theorem cx (K : Res → Option Res) : CtxOk Go.Proofs.Tryd.prog Γ0 byt0 eqs0 (X K) os := ⟨rfl, rfl, rfl, (fun p hp => by
 rcases List.mem_cons.1 hp with rfl | hp
 ·exact spec_TokenOk.ok
 cases hp), rfl, rfl, rfl, rfl⟩
theorem t0 (K : Res → Option Res) (k : St → Option Res) (it : St → (St → Option Res) → Option Res) (x2 : List (List Cl)) (x3 : Int) : iterS (X K) 0 b0 it (s0 x2 x3) k = l0s x2 (fun x3 => it (s0 x2 x3) k) (k (o0 x2)) (fun r1 => K (m r1)) x3 := by kernel_rfl
theorem i0 (K : Res → Option Res) (k : St → Option Res) (x2 : List (List Cl)) : ∀ (n : Nat) (x3 : Int), iter (X K) 0 b0 n (s0 x2 x3) k = l0 x2 (k (o0 x2)) (fun r1 => K (m r1)) n x3
 | 0, _ => rfl
 | n + 1, x3 => by
  rw [iter_succ, t0, show (fun x3 => iter (X K) 0 b0 n (s0 x2 x3) k) = (fun x3 => l0 x2 (k (o0 x2)) (fun r1 => K (m r1)) n x3) from funext fun x3 => i0 K k x2 n x3]; rfl
theorem v0 {K : Res → Option Res} {l : List Lf} {k : St → Option Res} {r : Res} (h : p0 K l k = some r) : ∃ x2 x3, l = [.q (.cells x2), .i x3] ∧ l0 x2 (k (o0 x2)) (fun r1 => K (m r1)) fuel x3 = some r := by
 unfold p0 at h; split at h
 ·exact ⟨_, _, rfl, h⟩
 ·cases h
theorem w0 (K : Res → Option Res) : LpSound Go.Proofs.Tryd.prog (X K) 0 b0 := lp_ok ((cx K).ok laid) (by rw [show loopsOf b0 = [] from by kernel_rfl]; intro p hp; cases hp) rfl fun p hp hid => by
 rcases List.mem_cons.1 hp with rfl | hp
 ·intro st k r h1 h2; obtain ⟨x2, x3, e, h⟩ := v0 (K := K) h2; have := St.like_eq (y := s0 x2 x3) h1 (by kernel_rfl) e; subst this; exact ⟨fuel, (i0 K k x2 fuel x3).trans h⟩
 cases hp
theorem tie (K : Res → Option Res) (a1 : List (List Cl)) : exec (X K) c (entry 19 [one (.tr 0 1 [.int .i64, .int .i64] (.cells a1))] [] []) (endK (X K)) = g a1 (fun r1 => K (m r1)) := Eq.trans (b := b a1 (fun r1 => K (m r1))) (by kernel_rfl) (by rw [e])
theorem runv {l : List Lf} {K : Res → Option Res} {r : Res} (h : run l K = some r) : ∃ a1, l = [.q (.cells a1)] ∧ g a1 (fun r1 => K (m r1)) = some r := by
 unfold run at h; split at h
 ·exact ⟨_, rfl, h⟩
 ·cases h
theorem ok : Con Go.Proofs.Tryd.prog con := con_of (fn := Go.Proofs.Tryd.f25) (c := c) (Fi := fi) (X := X) (fun_of laid (by kernel_rfl) (by kernel_rfl) (by kernel_rfl) rfl (by kernel_rfl) (by kernel_rfl) cx (fun _ => rfl) (fun _ => rfl) (fun K => by
 rw [show loopsOf c = [(0, b0)] from by kernel_rfl]; intro p hp
 rcases List.mem_cons.1 hp with rfl | hp
 ·exact w0 K
 cases hp)) fun xs rows boxes K r hl hr => by
 obtain ⟨a1, e, h⟩ := runv hr
 have := St.like_eq (y := a a1) hl (by kernel_rfl) e
 obtain ⟨rfl, rfl, rfl⟩ := argSt_inj this
 exact (tie K a1).trans h
end spec_l8Tokens
namespace spec_l8One
noncomputable def c : Code := bodyOf Go.Proofs.Tryd.f26
noncomputable def fi : Fin := ⟨Γ0, [(.tmp 2, 9)], [[1]], [], [], []⟩
noncomputable def m (r1 : ByteArray) : Res := ⟨[⟨false, [.str r1]⟩], [], [], [], []⟩
noncomputable def os : List (FuncId × St × (List Lf → (Res → Option Res) → Option Res)) := [spec_l8Digits.con]
noncomputable def X (K : Res → Option Res) : Ctx := { Γ := Γ0, orc := orcOf os, io := [], share := [], mvl := [], bun := [], cut := [], own := [], cin := [], cout := [], lp := lpOf [], kl := [], nk := true, eqs := eqs0, byt := byt0, fin := finK fi K }
noncomputable def b (a1 a2 : Int) (R : ByteArray → Option Res) : Option Res :=
 bif (a1 == 1) then (spec_l8Digits.G a2 fun r3 =>
  R r3)
 else bif (a1 == 2) then R (strOf ([IntKind.u8.wrap (IntKind.i64.wrap (65 + a2))] : List Int))
 else bif (a1 == 3) then R (strOf ([IntKind.u8.wrap a2] : List Int))
 else bif (a1 == 4) then R (⟨#[40]⟩ : ByteArray)
 else bif (a1 == 5) then R (⟨#[41]⟩ : ByteArray)
 else R (⟨#[58]⟩ : ByteArray)
theorem gx : ∃ x : Int → Int → (ByteArray → Option Res) → Option Res, x = b := ⟨_, rfl⟩
noncomputable def g : Int → Int → (ByteArray → Option Res) → Option Res := Classical.choose gx
theorem e : g = b := Classical.choose_spec gx
noncomputable def run : List Lf → (Res → Option Res) → Option Res
 | [.i a1, .i a2], K => g a1 a2 (fun r1 => K (m r1))
 | _, _ => none
noncomputable def a (a1 a2 : Int) : St := argSt [.v ⟨true, [.int .i64 a1, .int .i64 a2]⟩] [] []
noncomputable def con : FuncId × St × (List Lf → (Res → Option Res) → Option Res) := (26, a 0 0, run)
theorem cx (K : Res → Option Res) : CtxOk Go.Proofs.Tryd.prog Γ0 byt0 eqs0 (X K) os := ⟨rfl, rfl, rfl, (fun p hp => by
 rcases List.mem_cons.1 hp with rfl | hp
 ·exact spec_l8Digits.okG
 cases hp), rfl, rfl, rfl, rfl⟩
theorem tie (K : Res → Option Res) (a1 a2 : Int) : exec (X K) c (entry 29 [.v ⟨true, [.int .i64 a1, .int .i64 a2]⟩] [] []) (endK (X K)) = g a1 a2 (fun r1 => K (m r1)) := Eq.trans (b := b a1 a2 (fun r1 => K (m r1))) (by kernel_rfl) (by rw [e])
theorem runv {l : List Lf} {K : Res → Option Res} {r : Res} (h : run l K = some r) : ∃ a1 a2, l = [.i a1, .i a2] ∧ g a1 a2 (fun r1 => K (m r1)) = some r := by
 unfold run at h; split at h
 ·exact ⟨_, _, rfl, h⟩
 ·cases h
theorem ok : Con Go.Proofs.Tryd.prog con := con_of (fn := Go.Proofs.Tryd.f26) (c := c) (Fi := fi) (X := X) (fun_of laid (by kernel_rfl) (by kernel_rfl) (by kernel_rfl) rfl (by kernel_rfl) (by kernel_rfl) cx (fun _ => rfl) (fun _ => rfl) (fun K => by
 rw [show loopsOf c = [] from by kernel_rfl]; intro p hp
 cases hp)) fun xs rows boxes K r hl hr => by
 obtain ⟨a1, a2, e, h⟩ := runv hr
 have := St.like_eq (y := a a1 a2) hl (by kernel_rfl) e
 obtain ⟨rfl, rfl, rfl⟩ := argSt_inj this
 exact (tie K a1 a2).trans h
end spec_l8One
namespace spec_TokenText
noncomputable def c : Code := bodyOf Go.Proofs.Tryd.f8
noncomputable def fi : Fin := ⟨Γ0, [(.tmp 2, 9)], [[1]], [], [], []⟩
noncomputable def m (r1 : ByteArray) : Res := ⟨[⟨false, [.str r1]⟩], [], [], [], []⟩
noncomputable def b0 : Code := codeAt c [1, 1, 1, 0, 1, 0, 0]
noncomputable def s0 (x3 : List (List Cl)) (x4 : ByteArray) (x5 : Int) : St := ⟨mkT 27 [(0, one (.tr 0 1 [.int .i64, .int .i64] (.cells x3))), (3, one (.str x4)), (4, one (.int .i64 x5))], [], []⟩
noncomputable def l0s (x3 : List (List Cl)) (rec : ByteArray → Int → Option Res) (k : ByteArray → Option Res) (x4 : ByteArray) (x5 : Int) : Option Res :=
 bif decide (x5 < (x3.length : Int)) then (bif decide (0 < x5) then (bif decide (x4.size + 1 ≤ 9223372036854775807) then (bif decide (0 ≤ x5) && decide (x5 < (x3.length : Int)) then (spec_l8One.g (((x3.getD x5.toNat []).getD 0 (.i 0)).toI) (((x3.getD x5.toNat []).getD 1 (.i 0)).toI) fun r6 =>
  bif decide ((x4 ++ (⟨#[32]⟩ : ByteArray)).size + r6.size ≤ 9223372036854775807) then rec ((x4 ++ (⟨#[32]⟩ : ByteArray)) ++ r6) (IntKind.i64.wrap (x5 + 1))
  else none)
  else none)
  else none)
  else bif decide (0 ≤ x5) && decide (x5 < (x3.length : Int)) then (spec_l8One.g (((x3.getD x5.toNat []).getD 0 (.i 0)).toI) (((x3.getD x5.toNat []).getD 1 (.i 0)).toI) fun r7 =>
   bif decide (x4.size + r7.size ≤ 9223372036854775807) then rec (x4 ++ r7) (IntKind.i64.wrap (x5 + 1))
   else none)
  else none)
 else k x4
noncomputable def l0 (x3 : List (List Cl)) (k : ByteArray → Option Res) : Nat → ByteArray → Int → Option Res
 | 0, _, _ => none
 | n + 1, x4, x5 => l0s x3 (fun x4 x5 => l0 x3 k n x4 x5) k x4 x5
noncomputable def o0 (x3 : List (List Cl)) (y1 : ByteArray) : St := ⟨mkT 27 [(3, one (.str y1))], [], []⟩
noncomputable def p0 (K : Res → Option Res) : List Lf → (St → Option Res) → Option Res
 | [.q (.cells x3), .s x4, .i x5], k => l0 x3 (fun y1 => k (o0 x3 y1)) fuel x4 x5
 | _, _ => none
noncomputable def os : List (FuncId × St × (List Lf → (Res → Option Res) → Option Res)) := [spec_l8Tokens.con, spec_l8One.con]
noncomputable def X (K : Res → Option Res) : Ctx := { Γ := Γ0, orc := orcOf os, io := [], share := [], mvl := [], bun := [], cut := [], own := [], cin := [(0, ⟨[0, 3, 4], [], [], [], [], []⟩)], cout := [(0, ⟨[3], [], [], [], [], []⟩)], lp := lpOf [(0, s0 [] ByteArray.empty 0, p0 K)], kl := [], nk := true, eqs := eqs0, byt := byt0, fin := finK fi K }
noncomputable def b (a1 : List (List Cl)) (R : ByteArray → Option Res) : Option Res :=
 spec_l8Tokens.g a1 fun r2 =>
 bif !r2 then R (⟨#[]⟩ : ByteArray)
 else (l0 a1 (fun y8 =>
 R y8) fuel (⟨#[]⟩ : ByteArray) 0)
theorem gx : ∃ x : List (List Cl) → (ByteArray → Option Res) → Option Res, x = b := ⟨_, rfl⟩
noncomputable def g : List (List Cl) → (ByteArray → Option Res) → Option Res := Classical.choose gx
theorem e : g = b := Classical.choose_spec gx
noncomputable def run : List Lf → (Res → Option Res) → Option Res
 | [.q (.cells a1)], K => g a1 (fun r1 => K (m r1))
 | _, _ => none
noncomputable def a (a1 : List (List Cl)) : St := argSt [one (.tr 0 1 [.int .i64, .int .i64] (.cells a1))] [] []
noncomputable def con : FuncId × St × (List Lf → (Res → Option Res) → Option Res) := (8, a [], run)
theorem cx (K : Res → Option Res) : CtxOk Go.Proofs.Tryd.prog Γ0 byt0 eqs0 (X K) os := ⟨rfl, rfl, rfl, (fun p hp => by
 rcases List.mem_cons.1 hp with rfl | hp
 ·exact spec_l8Tokens.ok
 rcases List.mem_cons.1 hp with rfl | hp
 ·exact spec_l8One.ok
 cases hp), rfl, rfl, rfl, rfl⟩
theorem t0 (K : Res → Option Res) (k : St → Option Res) (it : St → (St → Option Res) → Option Res) (x3 : List (List Cl)) (x4 : ByteArray) (x5 : Int) : iterS (X K) 0 b0 it (s0 x3 x4 x5) k = l0s x3 (fun x4 x5 => it (s0 x3 x4 x5) k) (fun y1 => k (o0 x3 y1)) x4 x5 := by kernel_rfl
theorem i0 (K : Res → Option Res) (k : St → Option Res) (x3 : List (List Cl)) : ∀ (n : Nat) (x4 : ByteArray) (x5 : Int), iter (X K) 0 b0 n (s0 x3 x4 x5) k = l0 x3 (fun y1 => k (o0 x3 y1)) n x4 x5
 | 0, _, _ => rfl
 | n + 1, x4, x5 => by
  rw [iter_succ, t0, show (fun x4 x5 => iter (X K) 0 b0 n (s0 x3 x4 x5) k) = (fun x4 x5 => l0 x3 (fun y1 => k (o0 x3 y1)) n x4 x5) from funext fun x4 => funext fun x5 => i0 K k x3 n x4 x5]; rfl
theorem v0 {K : Res → Option Res} {l : List Lf} {k : St → Option Res} {r : Res} (h : p0 K l k = some r) : ∃ x3 x4 x5, l = [.q (.cells x3), .s x4, .i x5] ∧ l0 x3 (fun y1 => k (o0 x3 y1)) fuel x4 x5 = some r := by
 unfold p0 at h; split at h
 ·exact ⟨_, _, _, rfl, h⟩
 ·cases h
theorem w0 (K : Res → Option Res) : LpSound Go.Proofs.Tryd.prog (X K) 0 b0 := lp_ok ((cx K).ok laid) (by rw [show loopsOf b0 = [] from by kernel_rfl]; intro p hp; cases hp) rfl fun p hp hid => by
 rcases List.mem_cons.1 hp with rfl | hp
 ·intro st k r h1 h2; obtain ⟨x3, x4, x5, e, h⟩ := v0 (K := K) h2; have := St.like_eq (y := s0 x3 x4 x5) h1 (by kernel_rfl) e; subst this; exact ⟨fuel, (i0 K k x3 fuel x4 x5).trans h⟩
 cases hp
theorem tie (K : Res → Option Res) (a1 : List (List Cl)) : exec (X K) c (entry 27 [one (.tr 0 1 [.int .i64, .int .i64] (.cells a1))] [] []) (endK (X K)) = g a1 (fun r1 => K (m r1)) := Eq.trans (b := b a1 (fun r1 => K (m r1))) (by kernel_rfl) (by rw [e])
theorem runv {l : List Lf} {K : Res → Option Res} {r : Res} (h : run l K = some r) : ∃ a1, l = [.q (.cells a1)] ∧ g a1 (fun r1 => K (m r1)) = some r := by
 unfold run at h; split at h
 ·exact ⟨_, rfl, h⟩
 ·cases h
theorem ok : Con Go.Proofs.Tryd.prog con := con_of (fn := Go.Proofs.Tryd.f8) (c := c) (Fi := fi) (X := X) (fun_of laid (by kernel_rfl) (by kernel_rfl) (by kernel_rfl) rfl (by kernel_rfl) (by kernel_rfl) cx (fun _ => rfl) (fun _ => rfl) (fun K => by
 rw [show loopsOf c = [(0, b0)] from by kernel_rfl]; intro p hp
 rcases List.mem_cons.1 hp with rfl | hp
 ·exact w0 K
 cases hp)) fun xs rows boxes K r hl hr => by
 obtain ⟨a1, e, h⟩ := runv hr
 have := St.like_eq (y := a a1) hl (by kernel_rfl) e
 obtain ⟨rfl, rfl, rfl⟩ := argSt_inj this
 exact (tie K a1).trans h
end spec_TokenText
namespace impl_isDigit
noncomputable def c : Code := bodyOf Go.Proofs.Tryd.f54
noncomputable def fi : Fin := ⟨Γ0, [(.tmp 2, 4)], [[1]], [], [], []⟩
noncomputable def m (r1 : Bool) : Res := ⟨[⟨false, [.bool r1]⟩], [], [], [], []⟩
noncomputable def os : List (FuncId × St × (List Lf → (Res → Option Res) → Option Res)) := []
noncomputable def X (K : Res → Option Res) : Ctx := { Γ := Γ0, orc := orcOf os, io := [], share := [], mvl := [], bun := [], cut := [], own := [], cin := [], cout := [], lp := lpOf [], kl := [], nk := true, eqs := eqs0, byt := byt0, fin := finK fi K }
noncomputable def b (a1 : Int) (R : Bool → Option Res) : Option Res :=
 bif decide (48 ≤ a1) then R (decide (a1 ≤ 57))
 else R false
theorem gx : ∃ x : Int → (Bool → Option Res) → Option Res, x = b := ⟨_, rfl⟩
noncomputable def g : Int → (Bool → Option Res) → Option Res := Classical.choose gx
theorem e : g = b := Classical.choose_spec gx
noncomputable def run : List Lf → (Res → Option Res) → Option Res
 | [.i a1], K => g a1 (fun r1 => K (m r1))
 | _, _ => none
noncomputable def a (a1 : Int) : St := argSt [one (.int .u8 a1)] [] []
noncomputable def con : FuncId × St × (List Lf → (Res → Option Res) → Option Res) := (54, a 0, run)
theorem cx (K : Res → Option Res) : CtxOk Go.Proofs.Tryd.prog Γ0 byt0 eqs0 (X K) os := ⟨rfl, rfl, rfl, (fun p hp => by
 cases hp), rfl, rfl, rfl, rfl⟩
theorem tie (K : Res → Option Res) (a1 : Int) : exec (X K) c (entry 9 [one (.int .u8 a1)] [] []) (endK (X K)) = g a1 (fun r1 => K (m r1)) := Eq.trans (b := b a1 (fun r1 => K (m r1))) (by kernel_rfl) (by rw [e])
theorem runv {l : List Lf} {K : Res → Option Res} {r : Res} (h : run l K = some r) : ∃ a1, l = [.i a1] ∧ g a1 (fun r1 => K (m r1)) = some r := by
 unfold run at h; split at h
 ·exact ⟨_, rfl, h⟩
 ·cases h
theorem ok : Con Go.Proofs.Tryd.prog con := con_of (fn := Go.Proofs.Tryd.f54) (c := c) (Fi := fi) (X := X) (fun_of laid (by kernel_rfl) (by kernel_rfl) (by kernel_rfl) rfl (by kernel_rfl) (by kernel_rfl) cx (fun _ => rfl) (fun _ => rfl) (fun K => by
 rw [show loopsOf c = [] from by kernel_rfl]; intro p hp
 cases hp)) fun xs rows boxes K r hl hr => by
 obtain ⟨a1, e, h⟩ := runv hr
 have := St.like_eq (y := a a1) hl (by kernel_rfl) e
 obtain ⟨rfl, rfl, rfl⟩ := argSt_inj this
 exact (tie K a1).trans h
end impl_isDigit
namespace impl_lexNum
noncomputable def c : Code := bodyOf Go.Proofs.Tryd.f55
noncomputable def fi : Fin := ⟨Γ0, [(.cell 4 29, 29), (.tmp 5, 3), (.tmp 6, 3)], [[1, 1], [1], [1]], [], [], []⟩
noncomputable def m (r1 r2 r3 r4 : Int) : Res := ⟨[⟨true, [.int .i64 r1, .int .i64 r2]⟩, ⟨false, [.int .i64 r3]⟩, ⟨false, [.int .i64 r4]⟩], [], [], [], []⟩
noncomputable def b0 : Code := codeAt c [1, 1, 1, 1, 1, 0, 0, 0]
noncomputable def s0 (x3 : ByteArray) (x4 x5 x6 x7 x8 x9 : Int) : St := ⟨mkT 59 [(0, one (.str x3)), (1, one (.int .i64 x4)), (4, one (.bp 1000 0)), (7, one (.int .i64 x5)), (8, one (.int .i64 x6)), (9, one (.int .i64 x7))], [], [(1000, [.int .i64 x8, .int .i64 x9])]⟩
noncomputable def l0s (x3 : ByteArray) (x4 x5 x8 x9 : Int) (rec : Int → Int → Option Res) (k : Int → Int → Option Res) (x6 x7 : Int) : Option Res :=
 bif decide (x6 < (x3.size : Int)) then (bif decide (0 ≤ x6) && decide (x6 < (x3.size : Int)) then (impl_isDigit.g ((bytesOf x3).getD x6.toNat 0) fun r10 =>
  bif r10 then (bif decide (0 ≤ x6) && decide (x6 < (x3.size : Int)) then rec (IntKind.i64.wrap (x6 + 1)) (minmax false (IntKind.i64.wrap ((IntKind.i64.wrap (10 * x7)) + (IntKind.i64.wrap (IntKind.u8.wrap (((bytesOf x3).getD x6.toNat 0) - 48))))) 1000000000001)
   else none)
  else k x6 x7)
  else none)
 else k x6 x7
noncomputable def l0 (x3 : ByteArray) (x4 x5 x8 x9 : Int) (k : Int → Int → Option Res) : Nat → Int → Int → Option Res
 | 0, _, _ => none
 | n + 1, x6, x7 => l0s x3 x4 x5 x8 x9 (fun x6 x7 => l0 x3 x4 x5 x8 x9 k n x6 x7) k x6 x7
noncomputable def o0 (x3 : ByteArray) (x4 x5 x8 x9 y3 y4 : Int) : St := ⟨mkT 59 [(1, one (.int .i64 x4)), (4, one (.bp 1000 0)), (7, one (.int .i64 x5)), (8, one (.int .i64 y3)), (9, one (.int .i64 y4))], [], [(1000, [.int .i64 x8, .int .i64 x9])]⟩
noncomputable def p0 (K : Res → Option Res) : List Lf → (St → Option Res) → Option Res
 | [.s x3, .i x4, .i x5, .i x6, .i x7, .i x8, .i x9], k => l0 x3 x4 x5 x8 x9 (fun y3 y4 => k (o0 x3 x4 x5 x8 x9 y3 y4)) fuel x6 x7
 | _, _ => none
noncomputable def os : List (FuncId × St × (List Lf → (Res → Option Res) → Option Res)) := [impl_isDigit.con]
noncomputable def X (K : Res → Option Res) : Ctx := { Γ := Γ0, orc := orcOf os, io := [], share := [], mvl := [], bun := [], cut := [], own := [], cin := [(0, ⟨[0, 1, 4, 7, 8, 9], [], [1000], [], [], []⟩)], cout := [(0, ⟨[1, 4, 7, 8, 9], [], [1000], [], [], []⟩)], lp := lpOf [(0, s0 ByteArray.empty 0 0 0 0 0 0, p0 K)], kl := [], nk := true, eqs := eqs0, byt := byt0, fin := finK fi K }
noncomputable def b (a1 : ByteArray) (a2 : Int) (R : Int → Int → Int → Int → Option Res) : Option Res :=
 bif decide (0 ≤ a2) && decide (a2 < (a1.size : Int)) then (bif ((bytesOf a1).getD a2.toNat 0 == 95) then (l0 a1 a2 (IntKind.i64.wrap (a2 + 1)) 0 0 (fun y11 y12 =>
  bif (y11 == IntKind.i64.wrap (a2 + 1)) then R 0 0 a2 8
  else bif decide (1000000000000 < y12) then R 0 0 a2 6
  else bif decide (a2 < IntKind.i64.wrap (a2 + 1)) then R 1 (IntKind.i64.wrap (0 - y12)) y11 0
  else R 1 y12 y11 0) fuel (IntKind.i64.wrap (a2 + 1)) 0)
  else (l0 a1 a2 a2 0 0 (fun y13 y14 =>
  bif (y13 == a2) then R 0 0 a2 8
  else bif decide (1000000000000 < y14) then R 0 0 a2 6
  else bif decide (a2 < a2) then R 1 (IntKind.i64.wrap (0 - y14)) y13 0
  else R 1 y14 y13 0) fuel a2 0))
 else none
theorem gx : ∃ x : ByteArray → Int → (Int → Int → Int → Int → Option Res) → Option Res, x = b := ⟨_, rfl⟩
noncomputable def g : ByteArray → Int → (Int → Int → Int → Int → Option Res) → Option Res := Classical.choose gx
theorem e : g = b := Classical.choose_spec gx
noncomputable def run : List Lf → (Res → Option Res) → Option Res
 | [.s a1, .i a2], K => g a1 a2 (fun r1 r2 r3 r4 => K (m r1 r2 r3 r4))
 | _, _ => none
noncomputable def a (a1 : ByteArray) (a2 : Int) : St := argSt [one (.str a1), one (.int .i64 a2)] [] []
noncomputable def con : FuncId × St × (List Lf → (Res → Option Res) → Option Res) := (55, a ByteArray.empty 0, run)
theorem cx (K : Res → Option Res) : CtxOk Go.Proofs.Tryd.prog Γ0 byt0 eqs0 (X K) os := ⟨rfl, rfl, rfl, (fun p hp => by
 rcases List.mem_cons.1 hp with rfl | hp
 ·exact impl_isDigit.ok
 cases hp), rfl, rfl, rfl, rfl⟩
theorem t0 (K : Res → Option Res) (k : St → Option Res) (it : St → (St → Option Res) → Option Res) (x3 : ByteArray) (x4 x5 x6 x7 x8 x9 : Int) : iterS (X K) 0 b0 it (s0 x3 x4 x5 x6 x7 x8 x9) k = l0s x3 x4 x5 x8 x9 (fun x6 x7 => it (s0 x3 x4 x5 x6 x7 x8 x9) k) (fun y3 y4 => k (o0 x3 x4 x5 x8 x9 y3 y4)) x6 x7 := by kernel_rfl
theorem i0 (K : Res → Option Res) (k : St → Option Res) (x3 : ByteArray) (x4 x5 x8 x9 : Int) : ∀ (n : Nat) (x6 x7 : Int), iter (X K) 0 b0 n (s0 x3 x4 x5 x6 x7 x8 x9) k = l0 x3 x4 x5 x8 x9 (fun y3 y4 => k (o0 x3 x4 x5 x8 x9 y3 y4)) n x6 x7
 | 0, _, _ => rfl
 | n + 1, x6, x7 => by
  rw [iter_succ, t0, show (fun x6 x7 => iter (X K) 0 b0 n (s0 x3 x4 x5 x6 x7 x8 x9) k) = (fun x6 x7 => l0 x3 x4 x5 x8 x9 (fun y3 y4 => k (o0 x3 x4 x5 x8 x9 y3 y4)) n x6 x7) from funext fun x6 => funext fun x7 => i0 K k x3 x4 x5 x8 x9 n x6 x7]; rfl
theorem v0 {K : Res → Option Res} {l : List Lf} {k : St → Option Res} {r : Res} (h : p0 K l k = some r) : ∃ x3 x4 x5 x6 x7 x8 x9, l = [.s x3, .i x4, .i x5, .i x6, .i x7, .i x8, .i x9] ∧ l0 x3 x4 x5 x8 x9 (fun y3 y4 => k (o0 x3 x4 x5 x8 x9 y3 y4)) fuel x6 x7 = some r := by
 unfold p0 at h; split at h
 ·exact ⟨_, _, _, _, _, _, _, rfl, h⟩
 ·cases h
theorem w0 (K : Res → Option Res) : LpSound Go.Proofs.Tryd.prog (X K) 0 b0 := lp_ok ((cx K).ok laid) (by rw [show loopsOf b0 = [] from by kernel_rfl]; intro p hp; cases hp) rfl fun p hp hid => by
 rcases List.mem_cons.1 hp with rfl | hp
 ·intro st k r h1 h2; obtain ⟨x3, x4, x5, x6, x7, x8, x9, e, h⟩ := v0 (K := K) h2; have := St.like_eq (y := s0 x3 x4 x5 x6 x7 x8 x9) h1 (by kernel_rfl) e; subst this; exact ⟨fuel, (i0 K k x3 x4 x5 x8 x9 fuel x6 x7).trans h⟩
 cases hp
theorem tie (K : Res → Option Res) (a1 : ByteArray) (a2 : Int) : exec (X K) c (entry 59 [one (.str a1), one (.int .i64 a2)] [] []) (endK (X K)) = g a1 a2 (fun r1 r2 r3 r4 => K (m r1 r2 r3 r4)) := Eq.trans (b := b a1 a2 (fun r1 r2 r3 r4 => K (m r1 r2 r3 r4))) (by kernel_rfl) (by rw [e])
theorem runv {l : List Lf} {K : Res → Option Res} {r : Res} (h : run l K = some r) : ∃ a1 a2, l = [.s a1, .i a2] ∧ g a1 a2 (fun r1 r2 r3 r4 => K (m r1 r2 r3 r4)) = some r := by
 unfold run at h; split at h
 ·exact ⟨_, _, rfl, h⟩
 ·cases h
theorem ok : Con Go.Proofs.Tryd.prog con := con_of (fn := Go.Proofs.Tryd.f55) (c := c) (Fi := fi) (X := X) (fun_of laid (by kernel_rfl) (by kernel_rfl) (by kernel_rfl) rfl (by kernel_rfl) (by kernel_rfl) cx (fun _ => rfl) (fun _ => rfl) (fun K => by
 rw [show loopsOf c = [(0, b0)] from by kernel_rfl]; intro p hp
 rcases List.mem_cons.1 hp with rfl | hp
 ·exact w0 K
 cases hp)) fun xs rows boxes K r hl hr => by
 obtain ⟨a1, a2, e, h⟩ := runv hr
 have := St.like_eq (y := a a1 a2) hl (by kernel_rfl) e
 obtain ⟨rfl, rfl, rfl⟩ := argSt_inj this
 exact (tie K a1 a2).trans h
end impl_lexNum
namespace impl_lexOne
noncomputable def c : Code := bodyOf Go.Proofs.Tryd.f30
noncomputable def fi : Fin := ⟨Γ0, [(.cell 4 29, 29), (.tmp 5, 3), (.tmp 6, 3)], [[1, 1], [1], [1]], [], [], []⟩
noncomputable def m (r1 r2 r3 r4 : Int) : Res := ⟨[⟨true, [.int .i64 r1, .int .i64 r2]⟩, ⟨false, [.int .i64 r3]⟩, ⟨false, [.int .i64 r4]⟩], [], [], [], []⟩
noncomputable def os : List (FuncId × St × (List Lf → (Res → Option Res) → Option Res)) := [impl_isDigit.con, impl_lexNum.con, impl_hasSign.con]
noncomputable def X (K : Res → Option Res) : Ctx := { Γ := Γ0, orc := orcOf os, io := [], share := [], mvl := [], bun := [], cut := [], own := [], cin := [], cout := [], lp := lpOf [], kl := [], nk := true, eqs := eqs0, byt := byt0, fin := finK fi K }
noncomputable def b (a1 : ByteArray) (a2 : Int) (R : Int → Int → Int → Int → Option Res) : Option Res :=
 bif decide (0 ≤ a2) && decide (a2 < (a1.size : Int)) then (impl_isDigit.g ((bytesOf a1).getD a2.toNat 0) fun r3 =>
  bif r3 then (impl_lexNum.g a1 a2 fun r4 r5 r6 r7 =>
   R r4 r5 r6 r7)
  else bif ((bytesOf a1).getD a2.toNat 0 == 95) then (impl_lexNum.g a1 a2 fun r8 r9 r10 r11 =>
   R r8 r9 r10 r11)
  else bif decide (65 ≤ (bytesOf a1).getD a2.toNat 0) then (bif decide ((bytesOf a1).getD a2.toNat 0 ≤ 90) then R 2 (IntKind.i64.wrap (IntKind.u8.wrap (((bytesOf a1).getD a2.toNat 0) - 65))) (IntKind.i64.wrap (a2 + 1)) 0
   else bif ((bytesOf a1).getD a2.toNat 0 == 40) then R 4 0 (IntKind.i64.wrap (a2 + 1)) 0
   else bif ((bytesOf a1).getD a2.toNat 0 == 41) then R 5 0 (IntKind.i64.wrap (a2 + 1)) 0
   else bif ((bytesOf a1).getD a2.toNat 0 == 58) then R 6 0 (IntKind.i64.wrap (a2 + 1)) 0
   else (impl_hasSign.g (⟨#[43, 45, 42, 37, 124, 38, 94, 61, 60, 62, 126, 105, 35, 44, 116, 100, 114, 122, 64, 63, 103, 36, 101, 47, 92, 46, 111]⟩ : ByteArray) (IntKind.i64.wrap ((bytesOf a1).getD a2.toNat 0)) fun r12 =>
   bif r12 then R 3 (IntKind.i64.wrap ((bytesOf a1).getD a2.toNat 0)) (IntKind.i64.wrap (a2 + 1)) 0
   else R 0 0 a2 8))
  else bif ((bytesOf a1).getD a2.toNat 0 == 40) then R 4 0 (IntKind.i64.wrap (a2 + 1)) 0
  else bif ((bytesOf a1).getD a2.toNat 0 == 41) then R 5 0 (IntKind.i64.wrap (a2 + 1)) 0
  else bif ((bytesOf a1).getD a2.toNat 0 == 58) then R 6 0 (IntKind.i64.wrap (a2 + 1)) 0
  else (impl_hasSign.g (⟨#[43, 45, 42, 37, 124, 38, 94, 61, 60, 62, 126, 105, 35, 44, 116, 100, 114, 122, 64, 63, 103, 36, 101, 47, 92, 46, 111]⟩ : ByteArray) (IntKind.i64.wrap ((bytesOf a1).getD a2.toNat 0)) fun r13 =>
  bif r13 then R 3 (IntKind.i64.wrap ((bytesOf a1).getD a2.toNat 0)) (IntKind.i64.wrap (a2 + 1)) 0
  else R 0 0 a2 8))
 else none
theorem gx : ∃ x : ByteArray → Int → (Int → Int → Int → Int → Option Res) → Option Res, x = b := ⟨_, rfl⟩
noncomputable def g : ByteArray → Int → (Int → Int → Int → Int → Option Res) → Option Res := Classical.choose gx
theorem e : g = b := Classical.choose_spec gx
noncomputable def run : List Lf → (Res → Option Res) → Option Res
 | [.s a1, .i a2], K => g a1 a2 (fun r1 r2 r3 r4 => K (m r1 r2 r3 r4))
 | _, _ => none
noncomputable def a (a1 : ByteArray) (a2 : Int) : St := argSt [one (.str a1), one (.int .i64 a2)] [] []
noncomputable def con : FuncId × St × (List Lf → (Res → Option Res) → Option Res) := (30, a ByteArray.empty 0, run)
theorem cx (K : Res → Option Res) : CtxOk Go.Proofs.Tryd.prog Γ0 byt0 eqs0 (X K) os := ⟨rfl, rfl, rfl, (fun p hp => by
 rcases List.mem_cons.1 hp with rfl | hp
 ·exact impl_isDigit.ok
 rcases List.mem_cons.1 hp with rfl | hp
 ·exact impl_lexNum.ok
 rcases List.mem_cons.1 hp with rfl | hp
 ·exact impl_hasSign.ok
 cases hp), rfl, rfl, rfl, rfl⟩
theorem tie (K : Res → Option Res) (a1 : ByteArray) (a2 : Int) : exec (X K) c (entry 61 [one (.str a1), one (.int .i64 a2)] [] []) (endK (X K)) = g a1 a2 (fun r1 r2 r3 r4 => K (m r1 r2 r3 r4)) := Eq.trans (b := b a1 a2 (fun r1 r2 r3 r4 => K (m r1 r2 r3 r4))) (by kernel_rfl) (by rw [e])
theorem runv {l : List Lf} {K : Res → Option Res} {r : Res} (h : run l K = some r) : ∃ a1 a2, l = [.s a1, .i a2] ∧ g a1 a2 (fun r1 r2 r3 r4 => K (m r1 r2 r3 r4)) = some r := by
 unfold run at h; split at h
 ·exact ⟨_, _, rfl, h⟩
 ·cases h
theorem ok : Con Go.Proofs.Tryd.prog con := con_of (fn := Go.Proofs.Tryd.f30) (c := c) (Fi := fi) (X := X) (fun_of laid (by kernel_rfl) (by kernel_rfl) (by kernel_rfl) rfl (by kernel_rfl) (by kernel_rfl) cx (fun _ => rfl) (fun _ => rfl) (fun K => by
 rw [show loopsOf c = [] from by kernel_rfl]; intro p hp
 cases hp)) fun xs rows boxes K r hl hr => by
 obtain ⟨a1, a2, e, h⟩ := runv hr
 have := St.like_eq (y := a a1 a2) hl (by kernel_rfl) e
 obtain ⟨rfl, rfl, rfl⟩ := argSt_inj this
 exact (tie K a1 a2).trans h
end impl_lexOne
namespace impl_Lex
noncomputable def c : Code := bodyOf Go.Proofs.Tryd.f10
noncomputable def fi : Fin := ⟨Γ0, [(.tmp 2, 24), (.tmp 3, 3), (.tmp 4, 3)], [[1], [1], [1]], [], [], []⟩
noncomputable def m (r1 : List (List Cl)) (r2 r3 : Int) : Res := ⟨[⟨false, [.ow 1000]⟩, ⟨false, [.int .i64 r2]⟩, ⟨false, [.int .i64 r3]⟩], [], [⟨[.int .i64, .int .i64], .cells r1, true, 0⟩], [], []⟩
noncomputable def b0 : Code := codeAt c [1, 1, 1, 0, 1, 0, 0]
noncomputable def s0 (x2 : ByteArray) (x3 : Int) (x4 : List (List Cl)) : St := ⟨mkT 42 [(0, one (.str x2)), (5, one (.ow 7152)), (6, one (.int .i64 x3))], [(7152, ⟨[.int .i64, .int .i64], .cells x4, true, 0⟩)], []⟩
noncomputable def l0s (x2 : ByteArray) (rec : Int → List (List Cl) → Option Res) (k : List (List Cl) → Option Res) (R : List (List Cl) → Int → Int → Option Res) (x3 : Int) (x4 : List (List Cl)) : Option Res :=
 bif decide (x3 < (x2.size : Int)) then (bif decide (0 ≤ x3) && decide (x3 < (x2.size : Int)) then (bif ((bytesOf x2).getD x3.toNat 0 == 32) then rec (IntKind.i64.wrap (x3 + 1)) x4
  else (impl_lexOne.g x2 x3 fun r5 r6 r7 r8 =>
  bif (r8 != 0) then R ([] : List (List Cl)) r8 x3
  else bif decide ((x4.length + 1) * 16 ≤ 140737488355328) then rec r7 (x4 ++ ([[.i r5, .i r6]] : List (List Cl)))
  else none))
  else none)
 else k x4
noncomputable def l0 (x2 : ByteArray) (k : List (List Cl) → Option Res) (R : List (List Cl) → Int → Int → Option Res) : Nat → Int → List (List Cl) → Option Res
 | 0, _, _ => none
 | n + 1, x3, x4 => l0s x2 (fun x3 x4 => l0 x2 k R n x3 x4) k R x3 x4
noncomputable def o0 (x2 : ByteArray) (y2 : List (List Cl)) : St := ⟨mkT 42 [(0, one (.str x2)), (5, one (.ow 7152))], [(7152, ⟨[.int .i64, .int .i64], .cells y2, true, 0⟩)], []⟩
noncomputable def p0 (K : Res → Option Res) : List Lf → (St → Option Res) → Option Res
 | [.s x2, .i x3, .q (.cells x4)], k => l0 x2 (fun y2 => k (o0 x2 y2)) (fun r1 r2 r3 => K (m r1 r2 r3)) fuel x3 x4
 | _, _ => none
noncomputable def os : List (FuncId × St × (List Lf → (Res → Option Res) → Option Res)) := [impl_lexOne.con]
noncomputable def X (K : Res → Option Res) : Ctx := { Γ := Γ0, orc := orcOf os, io := [], share := [], mvl := [], bun := [], cut := [], own := [(3, 0, 0, [.int .i64, .int .i64])], cin := [(0, ⟨[0, 5, 6], [(7152, 7152), (23576, 7152)], [], [], [], []⟩)], cout := [(0, ⟨[0, 5], [(7152, 7152)], [], [], [], []⟩)], lp := lpOf [(0, s0 ByteArray.empty 0 [], p0 K)], kl := [], nk := true, eqs := eqs0, byt := byt0, fin := finK fi K }
noncomputable def b (a1 : ByteArray) (R : List (List Cl) → Int → Int → Option Res) : Option Res :=
 bif decide (300 < (a1.size : Int)) then R ([] : List (List Cl)) 6 0
 else (l0 a1 (fun y9 =>
 R y9 0 (a1.size : Int)) R fuel 0 ([] : List (List Cl)))
theorem gx : ∃ x : ByteArray → (List (List Cl) → Int → Int → Option Res) → Option Res, x = b := ⟨_, rfl⟩
noncomputable def g : ByteArray → (List (List Cl) → Int → Int → Option Res) → Option Res := Classical.choose gx
theorem e : g = b := Classical.choose_spec gx
noncomputable def run : List Lf → (Res → Option Res) → Option Res
 | [.s a1], K => g a1 (fun r1 r2 r3 => K (m r1 r2 r3))
 | _, _ => none
noncomputable def a (a1 : ByteArray) : St := argSt [one (.str a1)] [] []
noncomputable def con : FuncId × St × (List Lf → (Res → Option Res) → Option Res) := (10, a ByteArray.empty, run)
theorem cx (K : Res → Option Res) : CtxOk Go.Proofs.Tryd.prog Γ0 byt0 eqs0 (X K) os := ⟨rfl, rfl, rfl, (fun p hp => by
 rcases List.mem_cons.1 hp with rfl | hp
 ·exact impl_lexOne.ok
 cases hp), rfl, rfl, rfl, rfl⟩
theorem t0 (K : Res → Option Res) (k : St → Option Res) (it : St → (St → Option Res) → Option Res) (x2 : ByteArray) (x3 : Int) (x4 : List (List Cl)) : iterS (X K) 0 b0 it (s0 x2 x3 x4) k = l0s x2 (fun x3 x4 => it (s0 x2 x3 x4) k) (fun y2 => k (o0 x2 y2)) (fun r1 r2 r3 => K (m r1 r2 r3)) x3 x4 := by kernel_rfl
theorem i0 (K : Res → Option Res) (k : St → Option Res) (x2 : ByteArray) : ∀ (n : Nat) (x3 : Int) (x4 : List (List Cl)), iter (X K) 0 b0 n (s0 x2 x3 x4) k = l0 x2 (fun y2 => k (o0 x2 y2)) (fun r1 r2 r3 => K (m r1 r2 r3)) n x3 x4
 | 0, _, _ => rfl
 | n + 1, x3, x4 => by
  rw [iter_succ, t0, show (fun x3 x4 => iter (X K) 0 b0 n (s0 x2 x3 x4) k) = (fun x3 x4 => l0 x2 (fun y2 => k (o0 x2 y2)) (fun r1 r2 r3 => K (m r1 r2 r3)) n x3 x4) from funext fun x3 => funext fun x4 => i0 K k x2 n x3 x4]; rfl
theorem v0 {K : Res → Option Res} {l : List Lf} {k : St → Option Res} {r : Res} (h : p0 K l k = some r) : ∃ x2 x3 x4, l = [.s x2, .i x3, .q (.cells x4)] ∧ l0 x2 (fun y2 => k (o0 x2 y2)) (fun r1 r2 r3 => K (m r1 r2 r3)) fuel x3 x4 = some r := by
 unfold p0 at h; split at h
 ·exact ⟨_, _, _, rfl, h⟩
 ·cases h
theorem w0 (K : Res → Option Res) : LpSound Go.Proofs.Tryd.prog (X K) 0 b0 := lp_ok ((cx K).ok laid) (by rw [show loopsOf b0 = [] from by kernel_rfl]; intro p hp; cases hp) rfl fun p hp hid => by
 rcases List.mem_cons.1 hp with rfl | hp
 ·intro st k r h1 h2; obtain ⟨x2, x3, x4, e, h⟩ := v0 (K := K) h2; have := St.like_eq (y := s0 x2 x3 x4) h1 (by kernel_rfl) e; subst this; exact ⟨fuel, (i0 K k x2 fuel x3 x4).trans h⟩
 cases hp
theorem tie (K : Res → Option Res) (a1 : ByteArray) : exec (X K) c (entry 42 [one (.str a1)] [] []) (endK (X K)) = g a1 (fun r1 r2 r3 => K (m r1 r2 r3)) := Eq.trans (b := b a1 (fun r1 r2 r3 => K (m r1 r2 r3))) (by kernel_rfl) (by rw [e])
theorem runv {l : List Lf} {K : Res → Option Res} {r : Res} (h : run l K = some r) : ∃ a1, l = [.s a1] ∧ g a1 (fun r1 r2 r3 => K (m r1 r2 r3)) = some r := by
 unfold run at h; split at h
 ·exact ⟨_, rfl, h⟩
 ·cases h
theorem ok : Con Go.Proofs.Tryd.prog con := con_of (fn := Go.Proofs.Tryd.f10) (c := c) (Fi := fi) (X := X) (fun_of laid (by kernel_rfl) (by kernel_rfl) (by kernel_rfl) rfl (by kernel_rfl) (by kernel_rfl) cx (fun _ => rfl) (fun _ => rfl) (fun K => by
 rw [show loopsOf c = [(0, b0)] from by kernel_rfl]; intro p hp
 rcases List.mem_cons.1 hp with rfl | hp
 ·exact w0 K
 cases hp)) fun xs rows boxes K r hl hr => by
 obtain ⟨a1, e, h⟩ := runv hr
 have := St.like_eq (y := a a1) hl (by kernel_rfl) e
 obtain ⟨rfl, rfl, rfl⟩ := argSt_inj this
 exact (tie K a1).trans h
end impl_Lex
namespace laws_sameTokens
noncomputable def c : Code := bodyOf Go.Proofs.Tryd.f11
noncomputable def fi : Fin := ⟨Γ0, [(.tmp 4, 4)], [[1]], [], [], []⟩
noncomputable def m (r1 : Bool) : Res := ⟨[⟨false, [.bool r1]⟩], [], [], [], []⟩
noncomputable def b0 : Code := codeAt c [1, 1, 0, 1, 0, 0]
noncomputable def s0 (x3 x4 : List (List Cl)) (x5 : Int) : St := ⟨mkT 26 [(0, one (.tr 0 1 [.int .i64, .int .i64] (.cells x3))), (1, one (.tr 0 1 [.int .i64, .int .i64] (.cells x4))), (5, one (.int .i64 x5))], [], []⟩
noncomputable def l0s (x3 x4 : List (List Cl)) (rec : Int → Option Res) (k : Option Res) (R : Bool → Option Res) (x5 : Int) : Option Res :=
 bif decide (x5 < (x3.length : Int)) then (bif decide (0 ≤ x5) && decide (x5 < (x3.length : Int)) then (bif decide (0 ≤ x5) && decide (x5 < (x4.length : Int)) then (bif !((((x3.getD x5.toNat []).getD 0 (.i 0)).toI == ((x4.getD x5.toNat []).getD 0 (.i 0)).toI) && ((((x3.getD x5.toNat []).getD 1 (.i 0)).toI == ((x4.getD x5.toNat []).getD 1 (.i 0)).toI) && true)) then R false
  else rec (IntKind.i64.wrap (x5 + 1)))
  else none)
  else none)
 else k
noncomputable def l0 (x3 x4 : List (List Cl)) (k : Option Res) (R : Bool → Option Res) : Nat → Int → Option Res
 | 0, _ => none
 | n + 1, x5 => l0s x3 x4 (fun x5 => l0 x3 x4 k R n x5) k R x5
noncomputable def o0 (x3 x4 : List (List Cl)) : St := ⟨mkT 26 [], [], []⟩
noncomputable def p0 (K : Res → Option Res) : List Lf → (St → Option Res) → Option Res
 | [.q (.cells x3), .q (.cells x4), .i x5], k => l0 x3 x4 (k (o0 x3 x4)) (fun r1 => K (m r1)) fuel x5
 | _, _ => none
noncomputable def os : List (FuncId × St × (List Lf → (Res → Option Res) → Option Res)) := []
noncomputable def X (K : Res → Option Res) : Ctx := { Γ := Γ0, orc := orcOf os, io := [], share := [], mvl := [], bun := [], cut := [], own := [], cin := [(0, ⟨[0, 1, 5], [], [], [], [], []⟩)], cout := [(0, ⟨[], [], [], [], [], []⟩)], lp := lpOf [(0, s0 [] [] 0, p0 K)], kl := [], nk := true, eqs := eqs0, byt := byt0, fin := finK fi K }
noncomputable def b (a1 a2 : List (List Cl)) (R : Bool → Option Res) : Option Res :=
 bif ((a1.length : Int) != (a2.length : Int)) then R false
 else (l0 a1 a2 (
 R true) R fuel 0)
theorem gx : ∃ x : List (List Cl) → List (List Cl) → (Bool → Option Res) → Option Res, x = b := ⟨_, rfl⟩
noncomputable def g : List (List Cl) → List (List Cl) → (Bool → Option Res) → Option Res := Classical.choose gx
theorem e : g = b := Classical.choose_spec gx
noncomputable def run : List Lf → (Res → Option Res) → Option Res
 | [.q (.cells a1), .q (.cells a2)], K => g a1 a2 (fun r1 => K (m r1))
 | _, _ => none
noncomputable def a (a1 a2 : List (List Cl)) : St := argSt [one (.tr 0 1 [.int .i64, .int .i64] (.cells a1)), one (.tr 0 1 [.int .i64, .int .i64] (.cells a2))] [] []
noncomputable def con : FuncId × St × (List Lf → (Res → Option Res) → Option Res) := (11, a [] [], run)
theorem cx (K : Res → Option Res) : CtxOk Go.Proofs.Tryd.prog Γ0 byt0 eqs0 (X K) os := ⟨rfl, rfl, rfl, (fun p hp => by
 cases hp), rfl, rfl, rfl, rfl⟩
theorem t0 (K : Res → Option Res) (k : St → Option Res) (it : St → (St → Option Res) → Option Res) (x3 x4 : List (List Cl)) (x5 : Int) : iterS (X K) 0 b0 it (s0 x3 x4 x5) k = l0s x3 x4 (fun x5 => it (s0 x3 x4 x5) k) (k (o0 x3 x4)) (fun r1 => K (m r1)) x5 := by kernel_rfl
theorem i0 (K : Res → Option Res) (k : St → Option Res) (x3 x4 : List (List Cl)) : ∀ (n : Nat) (x5 : Int), iter (X K) 0 b0 n (s0 x3 x4 x5) k = l0 x3 x4 (k (o0 x3 x4)) (fun r1 => K (m r1)) n x5
 | 0, _ => rfl
 | n + 1, x5 => by
  rw [iter_succ, t0, show (fun x5 => iter (X K) 0 b0 n (s0 x3 x4 x5) k) = (fun x5 => l0 x3 x4 (k (o0 x3 x4)) (fun r1 => K (m r1)) n x5) from funext fun x5 => i0 K k x3 x4 n x5]; rfl
theorem v0 {K : Res → Option Res} {l : List Lf} {k : St → Option Res} {r : Res} (h : p0 K l k = some r) : ∃ x3 x4 x5, l = [.q (.cells x3), .q (.cells x4), .i x5] ∧ l0 x3 x4 (k (o0 x3 x4)) (fun r1 => K (m r1)) fuel x5 = some r := by
 unfold p0 at h; split at h
 ·exact ⟨_, _, _, rfl, h⟩
 ·cases h
theorem w0 (K : Res → Option Res) : LpSound Go.Proofs.Tryd.prog (X K) 0 b0 := lp_ok ((cx K).ok laid) (by rw [show loopsOf b0 = [] from by kernel_rfl]; intro p hp; cases hp) rfl fun p hp hid => by
 rcases List.mem_cons.1 hp with rfl | hp
 ·intro st k r h1 h2; obtain ⟨x3, x4, x5, e, h⟩ := v0 (K := K) h2; have := St.like_eq (y := s0 x3 x4 x5) h1 (by kernel_rfl) e; subst this; exact ⟨fuel, (i0 K k x3 x4 fuel x5).trans h⟩
 cases hp
theorem tie (K : Res → Option Res) (a1 a2 : List (List Cl)) : exec (X K) c (entry 26 [one (.tr 0 1 [.int .i64, .int .i64] (.cells a1)), one (.tr 0 1 [.int .i64, .int .i64] (.cells a2))] [] []) (endK (X K)) = g a1 a2 (fun r1 => K (m r1)) := Eq.trans (b := b a1 a2 (fun r1 => K (m r1))) (by kernel_rfl) (by rw [e])
theorem runv {l : List Lf} {K : Res → Option Res} {r : Res} (h : run l K = some r) : ∃ a1 a2, l = [.q (.cells a1), .q (.cells a2)] ∧ g a1 a2 (fun r1 => K (m r1)) = some r := by
 unfold run at h; split at h
 ·exact ⟨_, _, rfl, h⟩
 ·cases h
theorem ok : Con Go.Proofs.Tryd.prog con := con_of (fn := Go.Proofs.Tryd.f11) (c := c) (Fi := fi) (X := X) (fun_of laid (by kernel_rfl) (by kernel_rfl) (by kernel_rfl) rfl (by kernel_rfl) (by kernel_rfl) cx (fun _ => rfl) (fun _ => rfl) (fun K => by
 rw [show loopsOf c = [(0, b0)] from by kernel_rfl]; intro p hp
 rcases List.mem_cons.1 hp with rfl | hp
 ·exact w0 K
 cases hp)) fun xs rows boxes K r hl hr => by
 obtain ⟨a1, a2, e, h⟩ := runv hr
 have := St.like_eq (y := a a1 a2) hl (by kernel_rfl) e
 obtain ⟨rfl, rfl, rfl⟩ := argSt_inj this
 exact (tie K a1 a2).trans h
end laws_sameTokens
namespace spec_DrawLex
noncomputable def c : Code := bodyOf Go.Proofs.Tryd.f12
noncomputable def fi : Fin := ⟨Γ0, [(.tmp 2, 9)], [[1]], [], [], []⟩
noncomputable def m (r1 : ByteArray) : Res := ⟨[⟨false, [.str r1]⟩], [], [], [], []⟩
noncomputable def b0 : Code := codeAt c [1, 1, 1, 0, 1, 0, 1, 0, 0]
noncomputable def s0 (x12 : ByteArray) (x13 : List Int) (x14 x15 : Int) : St := ⟨mkT 20 [(3, one (.bp 3065 0)), (4, one (.str x12))], [], [(3065, [.tr 2 2 [.int .u8] (.ints x13), .int .i64 x14, .int .i64 x15])]⟩
noncomputable def l0s (x13 : List Int) (rec : ByteArray → Int → Int → Option Res) (k : ByteArray → Option Res) (x12 : ByteArray) (x14 x15 : Int) : Option Res :=
 spec_l1Below.g 2 x13 x14 x15 fun r16 r17 r18 =>
 bif decide ((x12.size : Int) < IntKind.i64.wrap (300 + r16)) then (bif decide (x12.size + 1 ≤ 9223372036854775807) then rec (x12 ++ (⟨#[49]⟩ : ByteArray)) r17 r18
  else none)
 else k x12
noncomputable def l0 (x13 : List Int) (k : ByteArray → Option Res) : Nat → ByteArray → Int → Int → Option Res
 | 0, _, _, _ => none
 | n + 1, x12, x14, x15 => l0s x13 (fun x12 x14 x15 => l0 x13 k n x12 x14 x15) k x12 x14 x15
noncomputable def o0 (x13 : List Int) (y1 : ByteArray) : St := ⟨mkT 20 [(4, one (.str y1))], [], []⟩
noncomputable def p0 (K : Res → Option Res) : List Lf → (St → Option Res) → Option Res
 | [.s x12, .q (.ints x13), .i x14, .i x15], k => l0 x13 (fun y1 => k (o0 x13 y1)) fuel x12 x14 x15
 | _, _ => none
noncomputable def os : List (FuncId × St × (List Lf → (Res → Option Res) → Option Res)) := [spec_l1New.con, spec_l8DrawText.con, spec_l1Once.con, spec_l1Below.con]
noncomputable def X (K : Res → Option Res) : Ctx := { Γ := Γ0, orc := orcOf os, io := [(19, [⟨false, 2, 1⟩])], share := [], mvl := [], bun := [], cut := [], own := [], cin := [(0, ⟨[3, 4], [], [3065], [], [], []⟩)], cout := [(0, ⟨[4], [], [], [], [], []⟩)], lp := lpOf [(0, s0 ByteArray.empty [] 0 0, p0 K)], kl := [], nk := true, eqs := eqs0, byt := byt0, fin := finK fi K }
noncomputable def b (a1 : List Int) (R : ByteArray → Option Res) : Option Res :=
 spec_l1New.g a1 fun r2 r3 r4 =>
 spec_l8DrawText.g r2 r3 r4 fun r5 r6 r7 r8 =>
 spec_l1Once.g 40 r6 r7 r8 fun r9 r10 r11 =>
 bif r9 then (l0 r6 (fun y19 =>
  R y19) fuel (⟨#[]⟩ : ByteArray) r10 r11)
 else R r5
theorem gx : ∃ x : List Int → (ByteArray → Option Res) → Option Res, x = b := ⟨_, rfl⟩
noncomputable def g : List Int → (ByteArray → Option Res) → Option Res := Classical.choose gx
theorem e : g = b := Classical.choose_spec gx
noncomputable def run : List Lf → (Res → Option Res) → Option Res
 | [.q (.ints a1)], K => g a1 (fun r1 => K (m r1))
 | _, _ => none
noncomputable def a (a1 : List Int) : St := argSt [one (.tr 2 1 [.int .u8] (.ints a1))] [] []
noncomputable def con : FuncId × St × (List Lf → (Res → Option Res) → Option Res) := (12, a [], run)
theorem cx (K : Res → Option Res) : CtxOk Go.Proofs.Tryd.prog Γ0 byt0 eqs0 (X K) os := ⟨rfl, rfl, rfl, (fun p hp => by
 rcases List.mem_cons.1 hp with rfl | hp
 ·exact spec_l1New.ok
 rcases List.mem_cons.1 hp with rfl | hp
 ·exact spec_l8DrawText.ok
 rcases List.mem_cons.1 hp with rfl | hp
 ·exact spec_l1Once.ok
 rcases List.mem_cons.1 hp with rfl | hp
 ·exact spec_l1Below.ok
 cases hp), rfl, rfl, rfl, rfl⟩
theorem t0 (K : Res → Option Res) (k : St → Option Res) (it : St → (St → Option Res) → Option Res) (x12 : ByteArray) (x13 : List Int) (x14 x15 : Int) : iterS (X K) 0 b0 it (s0 x12 x13 x14 x15) k = l0s x13 (fun x12 x14 x15 => it (s0 x12 x13 x14 x15) k) (fun y1 => k (o0 x13 y1)) x12 x14 x15 := by kernel_rfl
theorem i0 (K : Res → Option Res) (k : St → Option Res) (x13 : List Int) : ∀ (n : Nat) (x12 : ByteArray) (x14 x15 : Int), iter (X K) 0 b0 n (s0 x12 x13 x14 x15) k = l0 x13 (fun y1 => k (o0 x13 y1)) n x12 x14 x15
 | 0, _, _, _ => rfl
 | n + 1, x12, x14, x15 => by
  rw [iter_succ, t0, show (fun x12 x14 x15 => iter (X K) 0 b0 n (s0 x12 x13 x14 x15) k) = (fun x12 x14 x15 => l0 x13 (fun y1 => k (o0 x13 y1)) n x12 x14 x15) from funext fun x12 => funext fun x14 => funext fun x15 => i0 K k x13 n x12 x14 x15]; rfl
theorem v0 {K : Res → Option Res} {l : List Lf} {k : St → Option Res} {r : Res} (h : p0 K l k = some r) : ∃ x12 x13 x14 x15, l = [.s x12, .q (.ints x13), .i x14, .i x15] ∧ l0 x13 (fun y1 => k (o0 x13 y1)) fuel x12 x14 x15 = some r := by
 unfold p0 at h; split at h
 ·exact ⟨_, _, _, _, rfl, h⟩
 ·cases h
theorem w0 (K : Res → Option Res) : LpSound Go.Proofs.Tryd.prog (X K) 0 b0 := lp_ok ((cx K).ok laid) (by rw [show loopsOf b0 = [] from by kernel_rfl]; intro p hp; cases hp) rfl fun p hp hid => by
 rcases List.mem_cons.1 hp with rfl | hp
 ·intro st k r h1 h2; obtain ⟨x12, x13, x14, x15, e, h⟩ := v0 (K := K) h2; have := St.like_eq (y := s0 x12 x13 x14 x15) h1 (by kernel_rfl) e; subst this; exact ⟨fuel, (i0 K k x13 fuel x12 x14 x15).trans h⟩
 cases hp
theorem tie (K : Res → Option Res) (a1 : List Int) : exec (X K) c (entry 20 [one (.tr 2 1 [.int .u8] (.ints a1))] [] []) (endK (X K)) = g a1 (fun r1 => K (m r1)) := Eq.trans (b := b a1 (fun r1 => K (m r1))) (by kernel_rfl) (by rw [e])
theorem runv {l : List Lf} {K : Res → Option Res} {r : Res} (h : run l K = some r) : ∃ a1, l = [.q (.ints a1)] ∧ g a1 (fun r1 => K (m r1)) = some r := by
 unfold run at h; split at h
 ·exact ⟨_, rfl, h⟩
 ·cases h
theorem ok : Con Go.Proofs.Tryd.prog con := con_of (fn := Go.Proofs.Tryd.f12) (c := c) (Fi := fi) (X := X) (fun_of laid (by kernel_rfl) (by kernel_rfl) (by kernel_rfl) rfl (by kernel_rfl) (by kernel_rfl) cx (fun _ => rfl) (fun _ => rfl) (fun K => by
 rw [show loopsOf c = [(0, b0)] from by kernel_rfl]; intro p hp
 rcases List.mem_cons.1 hp with rfl | hp
 ·exact w0 K
 cases hp)) fun xs rows boxes K r hl hr => by
 obtain ⟨a1, e, h⟩ := runv hr
 have := St.like_eq (y := a a1) hl (by kernel_rfl) e
 obtain ⟨rfl, rfl, rfl⟩ := argSt_inj this
 exact (tie K a1).trans h
end spec_DrawLex
namespace laws_FnTokens
noncomputable def c : Code := bodyOf Go.Proofs.Tryd.f3
noncomputable def fi : Fin := ⟨Γ0, [(.tmp 2, 4)], [[1]], [], [], []⟩
noncomputable def m (r1 : Bool) : Res := ⟨[⟨false, [.bool r1]⟩], [], [], [], []⟩
noncomputable def b0 : Code := codeAt c [1, 1, 1, 1, 1, 1, 0, 1, 0, 0]
noncomputable def s0 (x6 : List Int) (x7 : ByteArray) (x8 : Bool) (x9 : Int) (x10 : List (List Cl)) : St := ⟨mkT 131 [(0, one (.tr 2 1 [.int .u8] (.ints x6))), (3, one (.ow 7161)), (4, one (.str x7)), (5, one (.bool x8)), (6, one (.int .i64 x9))], [(7161, ⟨[.int .i64, .int .i64], .cells x10, true, 0⟩)], []⟩
noncomputable def l0s (x6 : List Int) (x7 : ByteArray) (x10 : List (List Cl)) (rec : Bool → Int → Option Res) (k : Bool → Option Res) (x8 : Bool) (x9 : Int) : Option Res :=
 bif decide (x9 < (x10.length : Int)) then (bif x8 then (bif decide (0 ≤ x9) && decide (x9 < (x10.length : Int)) then (impl_TokenOk.g (((x10.getD x9.toNat []).getD 0 (.i 0)).toI) (((x10.getD x9.toNat []).getD 1 (.i 0)).toI) fun r11 =>
  rec r11 (IntKind.i64.wrap (x9 + 1)))
  else none)
  else rec false (IntKind.i64.wrap (x9 + 1)))
 else k x8
noncomputable def l0 (x6 : List Int) (x7 : ByteArray) (x10 : List (List Cl)) (k : Bool → Option Res) : Nat → Bool → Int → Option Res
 | 0, _, _ => none
 | n + 1, x8, x9 => l0s x6 x7 x10 (fun x8 x9 => l0 x6 x7 x10 k n x8 x9) k x8 x9
noncomputable def o0 (x6 : List Int) (x7 : ByteArray) (x10 : List (List Cl)) (y3 : Bool) : St := ⟨mkT 131 [(0, one (.tr 2 1 [.int .u8] (.ints x6))), (3, one (.ow 7161)), (4, one (.str x7)), (5, one (.bool y3))], [(7161, ⟨[.int .i64, .int .i64], .cells x10, true, 0⟩)], []⟩
noncomputable def p0 (K : Res → Option Res) : List Lf → (St → Option Res) → Option Res
 | [.q (.ints x6), .s x7, .b x8, .i x9, .q (.cells x10)], k => l0 x6 x7 x10 (fun y3 => k (o0 x6 x7 x10 y3)) fuel x8 x9
 | _, _ => none
noncomputable def os : List (FuncId × St × (List Lf → (Res → Option Res) → Option Res)) := [laws_big.con, spec_DrawTokenText.con, impl_TokenText.con, spec_TokenText.con, impl_TokenOk.con, impl_Lex.con, laws_sameTokens.con, spec_DrawLex.con, spec_Lex.con]
noncomputable def X (K : Res → Option Res) : Ctx := { Γ := Γ0, orc := orcOf os, io := [(6, [⟨false, 2, 1⟩]), (12, [⟨false, 2, 1⟩])], share := [], mvl := [], bun := [], cut := [], own := [], cin := [(0, ⟨[0, 3, 4, 5, 6], [(7161, 7161)], [], [], [], []⟩)], cout := [(0, ⟨[0, 3, 4, 5], [(7161, 7161)], [], [], [], []⟩)], lp := lpOf [(0, s0 [] ByteArray.empty false 0 [], p0 K)], kl := [], nk := true, eqs := eqs0, byt := byt0, fin := finK fi K }
noncomputable def b (a1 : List Int) (R : Bool → Option Res) : Option Res :=
 laws_big.g a1 fun r2 =>
 bif r2 then R true
 else (spec_DrawTokenText.g a1 fun r3 =>
 impl_TokenText.g r3 fun r4 =>
 spec_TokenText.g r3 fun r5 =>
 bif !(r4.toList == r5.toList) then R false
 else (l0 a1 r4 r3 (fun y12 =>
 bif y12 then (bif decide ((r4.size : Int) ≤ 300) then (impl_Lex.g r4 fun r13 r14 r15 =>
  bif (r14 != 0) then R false
  else bif (r15 != (r4.size : Int)) then R false
  else (laws_sameTokens.g r13 r3 fun r16 =>
  bif !r16 then R false
  else (spec_DrawLex.g a1 fun r17 =>
  impl_Lex.g r17 fun r18 r19 r20 =>
  spec_Lex.g r17 fun r21 r22 r23 =>
  bif (r19 != r22) then R false
  else bif (r20 != r23) then R false
  else bif decide (r20 < 0) then R false
  else bif decide ((r17.size : Int) < r20) then R false
  else bif (r19 != 0) then R ((r18.length : Int) == 0)
  else (impl_TokenText.g r18 fun r24 =>
  impl_Lex.g r24 fun r25 r26 r27 =>
  bif decide (300 < (r24.size : Int)) then R true
  else bif (r26 == 0) then (laws_sameTokens.g r25 r18 fun r28 =>
   R r28)
  else R false))))
  else (spec_DrawLex.g a1 fun r29 =>
  impl_Lex.g r29 fun r30 r31 r32 =>
  spec_Lex.g r29 fun r33 r34 r35 =>
  bif (r31 != r34) then R false
  else bif (r32 != r35) then R false
  else bif decide (r32 < 0) then R false
  else bif decide ((r29.size : Int) < r32) then R false
  else bif (r31 != 0) then R ((r30.length : Int) == 0)
  else (impl_TokenText.g r30 fun r36 =>
  impl_Lex.g r36 fun r37 r38 r39 =>
  bif decide (300 < (r36.size : Int)) then R true
  else bif (r38 == 0) then (laws_sameTokens.g r37 r30 fun r40 =>
   R r40)
  else R false)))
 else (spec_DrawLex.g a1 fun r41 =>
 impl_Lex.g r41 fun r42 r43 r44 =>
 spec_Lex.g r41 fun r45 r46 r47 =>
 bif (r43 != r46) then R false
 else bif (r44 != r47) then R false
 else bif decide (r44 < 0) then R false
 else bif decide ((r41.size : Int) < r44) then R false
 else bif (r43 != 0) then R ((r42.length : Int) == 0)
 else (impl_TokenText.g r42 fun r48 =>
 impl_Lex.g r48 fun r49 r50 r51 =>
 bif decide (300 < (r48.size : Int)) then R true
 else bif (r50 == 0) then (laws_sameTokens.g r49 r42 fun r52 =>
  R r52)
 else R false))) fuel (decide ((r3.length : Int) ≤ 300)) 0))
theorem gx : ∃ x : List Int → (Bool → Option Res) → Option Res, x = b := ⟨_, rfl⟩
noncomputable def g : List Int → (Bool → Option Res) → Option Res := Classical.choose gx
theorem e : g = b := Classical.choose_spec gx
noncomputable def run : List Lf → (Res → Option Res) → Option Res
 | [.q (.ints a1)], K => g a1 (fun r1 => K (m r1))
 | _, _ => none
noncomputable def a (a1 : List Int) : St := argSt [one (.tr 2 1 [.int .u8] (.ints a1))] [] []
noncomputable def con : FuncId × St × (List Lf → (Res → Option Res) → Option Res) := (3, a [], run)
theorem cx (K : Res → Option Res) : CtxOk Go.Proofs.Tryd.prog Γ0 byt0 eqs0 (X K) os := ⟨rfl, rfl, rfl, (fun p hp => by
 rcases List.mem_cons.1 hp with rfl | hp
 ·exact laws_big.ok
 rcases List.mem_cons.1 hp with rfl | hp
 ·exact spec_DrawTokenText.ok
 rcases List.mem_cons.1 hp with rfl | hp
 ·exact impl_TokenText.ok
 rcases List.mem_cons.1 hp with rfl | hp
 ·exact spec_TokenText.ok
 rcases List.mem_cons.1 hp with rfl | hp
 ·exact impl_TokenOk.ok
 rcases List.mem_cons.1 hp with rfl | hp
 ·exact impl_Lex.ok
 rcases List.mem_cons.1 hp with rfl | hp
 ·exact laws_sameTokens.ok
 rcases List.mem_cons.1 hp with rfl | hp
 ·exact spec_DrawLex.ok
 rcases List.mem_cons.1 hp with rfl | hp
 ·exact spec_Lex.ok
 cases hp), rfl, rfl, rfl, rfl⟩
theorem t0 (K : Res → Option Res) (k : St → Option Res) (it : St → (St → Option Res) → Option Res) (x6 : List Int) (x7 : ByteArray) (x8 : Bool) (x9 : Int) (x10 : List (List Cl)) : iterS (X K) 0 b0 it (s0 x6 x7 x8 x9 x10) k = l0s x6 x7 x10 (fun x8 x9 => it (s0 x6 x7 x8 x9 x10) k) (fun y3 => k (o0 x6 x7 x10 y3)) x8 x9 := by kernel_rfl
theorem i0 (K : Res → Option Res) (k : St → Option Res) (x6 : List Int) (x7 : ByteArray) (x10 : List (List Cl)) : ∀ (n : Nat) (x8 : Bool) (x9 : Int), iter (X K) 0 b0 n (s0 x6 x7 x8 x9 x10) k = l0 x6 x7 x10 (fun y3 => k (o0 x6 x7 x10 y3)) n x8 x9
 | 0, _, _ => rfl
 | n + 1, x8, x9 => by
  rw [iter_succ, t0, show (fun x8 x9 => iter (X K) 0 b0 n (s0 x6 x7 x8 x9 x10) k) = (fun x8 x9 => l0 x6 x7 x10 (fun y3 => k (o0 x6 x7 x10 y3)) n x8 x9) from funext fun x8 => funext fun x9 => i0 K k x6 x7 x10 n x8 x9]; rfl
theorem v0 {K : Res → Option Res} {l : List Lf} {k : St → Option Res} {r : Res} (h : p0 K l k = some r) : ∃ x6 x7 x8 x9 x10, l = [.q (.ints x6), .s x7, .b x8, .i x9, .q (.cells x10)] ∧ l0 x6 x7 x10 (fun y3 => k (o0 x6 x7 x10 y3)) fuel x8 x9 = some r := by
 unfold p0 at h; split at h
 ·exact ⟨_, _, _, _, _, rfl, h⟩
 ·cases h
theorem w0 (K : Res → Option Res) : LpSound Go.Proofs.Tryd.prog (X K) 0 b0 := lp_ok ((cx K).ok laid) (by rw [show loopsOf b0 = [] from by kernel_rfl]; intro p hp; cases hp) rfl fun p hp hid => by
 rcases List.mem_cons.1 hp with rfl | hp
 ·intro st k r h1 h2; obtain ⟨x6, x7, x8, x9, x10, e, h⟩ := v0 (K := K) h2; have := St.like_eq (y := s0 x6 x7 x8 x9 x10) h1 (by kernel_rfl) e; subst this; exact ⟨fuel, (i0 K k x6 x7 x10 fuel x8 x9).trans h⟩
 cases hp
theorem tie (K : Res → Option Res) (a1 : List Int) : exec (X K) c (entry 131 [one (.tr 2 1 [.int .u8] (.ints a1))] [] []) (endK (X K)) = g a1 (fun r1 => K (m r1)) := Eq.trans (b := b a1 (fun r1 => K (m r1))) (by kernel_rfl) (by rw [e])
theorem runv {l : List Lf} {K : Res → Option Res} {r : Res} (h : run l K = some r) : ∃ a1, l = [.q (.ints a1)] ∧ g a1 (fun r1 => K (m r1)) = some r := by
 unfold run at h; split at h
 ·exact ⟨_, rfl, h⟩
 ·cases h
theorem ok : Con Go.Proofs.Tryd.prog con := con_of (fn := Go.Proofs.Tryd.f3) (c := c) (Fi := fi) (X := X) (fun_of laid (by kernel_rfl) (by kernel_rfl) (by kernel_rfl) rfl (by kernel_rfl) (by kernel_rfl) cx (fun _ => rfl) (fun _ => rfl) (fun K => by
 rw [show loopsOf c = [(0, b0)] from by kernel_rfl]; intro p hp
 rcases List.mem_cons.1 hp with rfl | hp
 ·exact w0 K
 cases hp)) fun xs rows boxes K r hl hr => by
 obtain ⟨a1, e, h⟩ := runv hr
 have := St.like_eq (y := a a1) hl (by kernel_rfl) e
 obtain ⟨rfl, rfl, rfl⟩ := argSt_inj this
 exact (tie K a1).trans h
end laws_FnTokens
end Go.Tv.F
