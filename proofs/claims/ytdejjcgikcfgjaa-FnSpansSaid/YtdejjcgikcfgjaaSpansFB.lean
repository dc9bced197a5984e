/- The law's functions, printed by a program of ours, each with its contract. They hold without condition. -/
import Derived.Test.YtdejjcgikcfgjaaSpansFA
set_option linter.unusedVariables false
set_option linter.unusedSectionVars false
set_option linter.unusedSimpArgs false
set_option linter.unnecessarySimpa false
set_option maxRecDepth 100000
set_option autoImplicit false
namespace Go.Tv.F
open Go Go.Tv
namespace impl_CodeOk
noncomputable def c : Code := bodyOf Go.Proofs.Try.f18
noncomputable def fi : Fin := ⟨Γ0, [(.tmp 2, 4)], [[1]], [], [], []⟩
noncomputable def m (r1 : Bool) : Res := ⟨[⟨false, [.bool r1]⟩], [], [], [], []⟩
noncomputable def os : List (FuncId × St × (List Lf → (Res → Option Res) → Option Res)) := [impl_within.con, slices_ContainsFunc_impl_Instr_impl_Instr.con, impl_deep.con]
noncomputable def X (K : Res → Option Res) : Ctx := { Γ := Γ0, orc := orcOf os, io := [], share := [], opn := [], shr := [], bun := [], cut := [], own := [], cin := [], cout := [], lp := lpOf [], kl := Env.kl, nk := true, eqs := eqs0, byt := byt0, fin := finK fi K }
noncomputable def b (a1 : List (List Cl)) (R : Bool → Option Res) : Option Res :=
 impl_within.g (a1.length : Int) 1 60 fun r2 =>
 bif !r2 then R false
 else (slices_ContainsFunc_impl_Instr_impl_Instr.g a1 fun r3 =>
 bif r3 then R false
 else (impl_deep.g a1 fun r4 r5 =>
 bif r5 then (bif decide (0 ≤ (a1.length : Int)) && decide ((a1.length : Int) < (r4.length : Int)) then R (r4.getD ((a1.length : Int).toNat) 0 == 1)
  else none)
 else R false))
theorem gx : ∃ x : List (List Cl) → (Bool → Option Res) → Option Res, x = b := ⟨_, rfl⟩
noncomputable def g : List (List Cl) → (Bool → Option Res) → Option Res := Classical.choose gx
theorem e : g = b := Classical.choose_spec gx
noncomputable def run : List Lf → (Res → Option Res) → Option Res
 | [.q (.cells a1)], K => g a1 (fun r1 => K (m r1))
 | _, _ => none
noncomputable def a (a1 : List (List Cl)) : St := argSt [one (.tr 0 1 [.int .i64, .int .i64, .int .i64, .int .i64, .int .i64, .ints .i64] (.cells a1))] [] []
noncomputable def con : FuncId × St × (List Lf → (Res → Option Res) → Option Res) := (18, a [], run)
theorem cx (K : Res → Option Res) : CtxOk Go.Proofs.Try.prog Γ0 byt0 eqs0 (X K) os := ⟨rfl, rfl, rfl, (fun p hp => by
 rcases List.mem_cons.1 hp with rfl | hp
 ·exact impl_within.ok
 rcases List.mem_cons.1 hp with rfl | hp
 ·exact slices_ContainsFunc_impl_Instr_impl_Instr.ok
 rcases List.mem_cons.1 hp with rfl | hp
 ·exact impl_deep.ok
 cases hp), rfl, rfl, rfl⟩
theorem tie (K : Res → Option Res) (a1 : List (List Cl)) : exec (X K) c (entry 27 [one (.tr 0 1 [.int .i64, .int .i64, .int .i64, .int .i64, .int .i64, .ints .i64] (.cells a1))] [] []) (endK (X K)) = g a1 (fun r1 => K (m r1)) := Eq.trans (b := b a1 (fun r1 => K (m r1))) (by kernel_rfl) (by rw [e])
theorem runv {l : List Lf} {K : Res → Option Res} {r : Res} (h : run l K = some r) : ∃ a1, l = [.q (.cells a1)] ∧ g a1 (fun r1 => K (m r1)) = some r := by
 unfold run at h; split at h
 ·exact ⟨_, rfl, h⟩
 ·cases h
theorem ok : Con Go.Proofs.Try.prog con := con_of (fn := Go.Proofs.Try.f18) (c := c) (Fi := fi) (X := X) (fun_of laid (by kernel_rfl) (by kernel_rfl) (by kernel_rfl) rfl (by kernel_rfl) (by kernel_rfl) cx (fun _ => rfl) (fun _ => rfl) (fun K => by
 rw [show loopsOf c = [] from by kernel_rfl]; intro p hp
 cases hp)) fun xs rows boxes K r hl hr => by
 obtain ⟨a1, e, h⟩ := runv hr
 have := St.like_eq (y := a a1) hl (by kernel_rfl) e
 obtain ⟨rfl, rfl, rfl⟩ := argSt_inj this
 exact (tie K a1).trans h
end impl_CodeOk
namespace spec_l11Instr
noncomputable def c : Code := bodyOf Go.Proofs.Try.f43
noncomputable def fi : Fin := ⟨Γ0, [(.tmp 2, 4)], [[1]], [], [], []⟩
noncomputable def m (r1 : Bool) : Res := ⟨[⟨false, [.bool r1]⟩], [], [], [], []⟩
noncomputable def os : List (FuncId × St × (List Lf → (Res → Option Res) → Option Res)) := [spec_l9Nums.con, spec_l1In.con, spec_FunOne.con, spec_FunTwo.con]
noncomputable def X (K : Res → Option Res) : Ctx := { Γ := Γ0, orc := orcOf os, io := [], share := [], opn := [], shr := [], bun := [], cut := [], own := [], cin := [], cout := [], lp := lpOf [], kl := Env.kl, nk := true, eqs := eqs0, byt := byt0, fin := finK fi K }
noncomputable def b (a1 a2 a3 a4 a5 : Int) (a6 : List Int) (R : Bool → Option Res) : Option Res :=
 bif (a1 == 1) then (bif (a2 == 0) then (bif ((a3 == 0) && ((a4 == 0) && ((a5 == 0) && true))) then (spec_l9Nums.g a6 fun r7 =>
  R r7)
  else R false)
  else R false)
 else bif (a1 == 2) then (spec_l1In.g a2 0 25 fun r8 =>
  bif r8 then (bif ((a3 == 0) && ((a4 == 0) && ((a5 == 0) && true))) then R ((a6.length : Int) == 0)
   else R false)
  else R false)
 else bif (a1 == 3) then (spec_l1In.g a2 0 25 fun r9 =>
  bif r9 then (bif ((a3 == 0) && ((a4 == 0) && ((a5 == 0) && true))) then R ((a6.length : Int) == 0)
   else R false)
  else R false)
 else bif (a1 == 4) then (bif (a2 == 0) then (spec_FunOne.g a3 a4 a5 fun r10 =>
  bif r10 then R ((a6.length : Int) == 0)
  else R false)
  else R false)
 else bif (a1 == 5) then (bif (a2 == 0) then (spec_FunTwo.g a3 a4 a5 fun r11 =>
  bif r11 then R ((a6.length : Int) == 0)
  else R false)
  else R false)
 else R false
theorem gx : ∃ x : Int → Int → Int → Int → Int → List Int → (Bool → Option Res) → Option Res, x = b := ⟨_, rfl⟩
noncomputable def g : Int → Int → Int → Int → Int → List Int → (Bool → Option Res) → Option Res := Classical.choose gx
theorem e : g = b := Classical.choose_spec gx
noncomputable def run : List Lf → (Res → Option Res) → Option Res
 | [.i a1, .i a2, .i a3, .i a4, .i a5, .q (.ints a6)], K => g a1 a2 a3 a4 a5 a6 (fun r1 => K (m r1))
 | _, _ => none
noncomputable def a (a1 a2 a3 a4 a5 : Int) (a6 : List Int) : St := argSt [.v ⟨true, [.int .i64 a1, .int .i64 a2, .int .i64 a3, .int .i64 a4, .int .i64 a5, .tr 0 1 [.int .i64] (.ints a6)]⟩] [] []
noncomputable def con : FuncId × St × (List Lf → (Res → Option Res) → Option Res) := (43, a 0 0 0 0 0 [], run)
theorem cx (K : Res → Option Res) : CtxOk Go.Proofs.Try.prog Γ0 byt0 eqs0 (X K) os := ⟨rfl, rfl, rfl, (fun p hp => by
 rcases List.mem_cons.1 hp with rfl | hp
 ·exact spec_l9Nums.ok
 rcases List.mem_cons.1 hp with rfl | hp
 ·exact spec_l1In.ok
 rcases List.mem_cons.1 hp with rfl | hp
 ·exact spec_FunOne.ok
 rcases List.mem_cons.1 hp with rfl | hp
 ·exact spec_FunTwo.ok
 cases hp), rfl, rfl, rfl⟩
theorem tie (K : Res → Option Res) (a1 a2 a3 a4 a5 : Int) (a6 : List Int) : exec (X K) c (entry 73 [.v ⟨true, [.int .i64 a1, .int .i64 a2, .int .i64 a3, .int .i64 a4, .int .i64 a5, .tr 0 1 [.int .i64] (.ints a6)]⟩] [] []) (endK (X K)) = g a1 a2 a3 a4 a5 a6 (fun r1 => K (m r1)) := Eq.trans (b := b a1 a2 a3 a4 a5 a6 (fun r1 => K (m r1))) (by kernel_rfl) (by rw [e])
theorem runv {l : List Lf} {K : Res → Option Res} {r : Res} (h : run l K = some r) : ∃ a1 a2 a3 a4 a5 a6, l = [.i a1, .i a2, .i a3, .i a4, .i a5, .q (.ints a6)] ∧ g a1 a2 a3 a4 a5 a6 (fun r1 => K (m r1)) = some r := by
 unfold run at h; split at h
 ·exact ⟨_, _, _, _, _, _, rfl, h⟩
 ·cases h
theorem ok : Con Go.Proofs.Try.prog con := con_of (fn := Go.Proofs.Try.f43) (c := c) (Fi := fi) (X := X) (fun_of laid (by kernel_rfl) (by kernel_rfl) (by kernel_rfl) rfl (by kernel_rfl) (by kernel_rfl) cx (fun _ => rfl) (fun _ => rfl) (fun K => by
 rw [show loopsOf c = [] from by kernel_rfl]; intro p hp
 cases hp)) fun xs rows boxes K r hl hr => by
 obtain ⟨a1, a2, a3, a4, a5, a6, e, h⟩ := runv hr
 have := St.like_eq (y := a a1 a2 a3 a4 a5 a6) hl (by kernel_rfl) e
 obtain ⟨rfl, rfl, rfl⟩ := argSt_inj this
 exact (tie K a1 a2 a3 a4 a5 a6).trans h
end spec_l11Instr
namespace spec_l11Takes
noncomputable def c : Code := bodyOf Go.Proofs.Try.f57
noncomputable def fi : Fin := ⟨Γ0, [(.tmp 2, 3), (.tmp 3, 3)], [[1], [1]], [], [], []⟩
noncomputable def m (r1 r2 : Int) : Res := ⟨[⟨false, [.int .i64 r1]⟩, ⟨false, [.int .i64 r2]⟩], [], [], [], []⟩
noncomputable def os : List (FuncId × St × (List Lf → (Res → Option Res) → Option Res)) := []
noncomputable def X (K : Res → Option Res) : Ctx := { Γ := Γ0, orc := orcOf os, io := [], share := [], opn := [], shr := [], bun := [], cut := [], own := [], cin := [], cout := [], lp := lpOf [], kl := Env.kl, nk := true, eqs := eqs0, byt := byt0, fin := finK fi K }
noncomputable def b (a1 a2 a3 a4 a5 : Int) (a6 : List Int) (R : Int → Int → Option Res) : Option Res :=
 bif (a1 == 1) then R 0 1
 else bif (a1 == 2) then R 0 1
 else bif (a1 == 5) then R 2 (-1)
 else R 1 0
theorem gx : ∃ x : Int → Int → Int → Int → Int → List Int → (Int → Int → Option Res) → Option Res, x = b := ⟨_, rfl⟩
noncomputable def g : Int → Int → Int → Int → Int → List Int → (Int → Int → Option Res) → Option Res := Classical.choose gx
theorem e : g = b := Classical.choose_spec gx
noncomputable def run : List Lf → (Res → Option Res) → Option Res
 | [.i a1, .i a2, .i a3, .i a4, .i a5, .q (.ints a6)], K => g a1 a2 a3 a4 a5 a6 (fun r1 r2 => K (m r1 r2))
 | _, _ => none
noncomputable def a (a1 a2 a3 a4 a5 : Int) (a6 : List Int) : St := argSt [.v ⟨true, [.int .i64 a1, .int .i64 a2, .int .i64 a3, .int .i64 a4, .int .i64 a5, .tr 0 1 [.int .i64] (.ints a6)]⟩] [] []
noncomputable def con : FuncId × St × (List Lf → (Res → Option Res) → Option Res) := (57, a 0 0 0 0 0 [], run)
theorem cx (K : Res → Option Res) : CtxOk Go.Proofs.Try.prog Γ0 byt0 eqs0 (X K) os := ⟨rfl, rfl, rfl, (fun p hp => by
 cases hp), rfl, rfl, rfl⟩
theorem tie (K : Res → Option Res) (a1 a2 a3 a4 a5 : Int) (a6 : List Int) : exec (X K) c (entry 11 [.v ⟨true, [.int .i64 a1, .int .i64 a2, .int .i64 a3, .int .i64 a4, .int .i64 a5, .tr 0 1 [.int .i64] (.ints a6)]⟩] [] []) (endK (X K)) = g a1 a2 a3 a4 a5 a6 (fun r1 r2 => K (m r1 r2)) := Eq.trans (b := b a1 a2 a3 a4 a5 a6 (fun r1 r2 => K (m r1 r2))) (by kernel_rfl) (by rw [e])
theorem runv {l : List Lf} {K : Res → Option Res} {r : Res} (h : run l K = some r) : ∃ a1 a2 a3 a4 a5 a6, l = [.i a1, .i a2, .i a3, .i a4, .i a5, .q (.ints a6)] ∧ g a1 a2 a3 a4 a5 a6 (fun r1 r2 => K (m r1 r2)) = some r := by
 unfold run at h; split at h
 ·exact ⟨_, _, _, _, _, _, rfl, h⟩
 ·cases h
theorem ok : Con Go.Proofs.Try.prog con := con_of (fn := Go.Proofs.Try.f57) (c := c) (Fi := fi) (X := X) (fun_of laid (by kernel_rfl) (by kernel_rfl) (by kernel_rfl) rfl (by kernel_rfl) (by kernel_rfl) cx (fun _ => rfl) (fun _ => rfl) (fun K => by
 rw [show loopsOf c = [] from by kernel_rfl]; intro p hp
 cases hp)) fun xs rows boxes K r hl hr => by
 obtain ⟨a1, a2, a3, a4, a5, a6, e, h⟩ := runv hr
 have := St.like_eq (y := a a1 a2 a3 a4 a5 a6) hl (by kernel_rfl) e
 obtain ⟨rfl, rfl, rfl⟩ := argSt_inj this
 exact (tie K a1 a2 a3 a4 a5 a6).trans h
end spec_l11Takes
namespace spec_l11Depths
noncomputable def c : Code := bodyOf Go.Proofs.Try.f44
noncomputable def fi : Fin := ⟨Γ0, [(.tmp 2, 41), (.tmp 3, 4)], [[1], [1]], [], [], []⟩
noncomputable def m (r1 : List Int) (r2 : Bool) : Res := ⟨[⟨false, [.ow 1000]⟩, ⟨false, [.bool r2]⟩], [], [⟨[.int .i64], .ints r1, true, 0, none⟩], [], []⟩
noncomputable def b0 : Code := codeAt c [1, 1, 1, 0, 1, 0, 0]
noncomputable def s0 (x2 : List (List Cl)) (x3 x4 : Int) (x5 : List Int) : St := ⟨mkT 36 [(0, one (.tr 0 1 [.int .i64, .int .i64, .int .i64, .int .i64, .int .i64, .ints .i64] (.cells x2))), (4, one (.ow 3048)), (5, one (.int .i64 x3)), (6, one (.int .i64 x4))], [(3048, ⟨[.int .i64], .ints x5, true, 0, none⟩)], []⟩
noncomputable def l0s (x2 : List (List Cl)) (rec : Int → Int → List Int → Option Res) (k : List Int → Option Res) (R : List Int → Bool → Option Res) (x3 x4 : Int) (x5 : List Int) : Option Res :=
 bif decide (x4 < (x2.length : Int)) then (bif decide (0 ≤ x4) && decide (x4 < (x2.length : Int)) then (spec_l11Takes.g (((x2.getD x4.toNat []).getD 0 (.i 0)).toI) (((x2.getD x4.toNat []).getD 1 (.i 0)).toI) (((x2.getD x4.toNat []).getD 2 (.i 0)).toI) (((x2.getD x4.toNat []).getD 3 (.i 0)).toI) (((x2.getD x4.toNat []).getD 4 (.i 0)).toI) (((x2.getD x4.toNat []).getD 5 (.i 0)).toL) fun r6 r7 =>
  bif decide (x3 < r6) then R x5 false
  else bif decide ((x5.length + 1) * 8 ≤ 140737488355328) then rec (IntKind.i64.wrap (x3 + r7)) (IntKind.i64.wrap (x4 + 1)) (x5 ++ ([IntKind.i64.wrap (x3 + r7)] : List Int))
  else none)
  else none)
 else k x5
noncomputable def l0 (x2 : List (List Cl)) (k : List Int → Option Res) (R : List Int → Bool → Option Res) : Nat → Int → Int → List Int → Option Res
 | 0, _, _, _ => none
 | n + 1, x3, x4, x5 => l0s x2 (fun x3 x4 x5 => l0 x2 k R n x3 x4 x5) k R x3 x4 x5
noncomputable def o0 (x2 : List (List Cl)) (y1 : List Int) : St := ⟨mkT 36 [(4, one (.ow 3048))], [(3048, ⟨[.int .i64], .ints y1, true, 0, none⟩)], []⟩
noncomputable def p0 (K : Res → Option Res) : List Lf → (St → Option Res) → Option Res
 | [.q (.cells x2), .i x3, .i x4, .q (.ints x5)], k => l0 x2 (fun y1 => k (o0 x2 y1)) (fun r1 r2 => K (m r1 r2)) fuel x3 x4 x5
 | _, _ => none
noncomputable def os : List (FuncId × St × (List Lf → (Res → Option Res) → Option Res)) := [spec_l11Takes.con]
noncomputable def X (K : Res → Option Res) : Ctx := { Γ := Γ0, orc := orcOf os, io := [], share := [], opn := [], shr := [], bun := [], cut := [], own := [], cin := [(0, ⟨[0, 4, 5, 6], [(3048, 3048), (21528, 3048)], [], [], [], []⟩)], cout := [(0, ⟨[4], [(3048, 3048)], [], [], [], []⟩)], lp := lpOf [(0, s0 [] 0 0 [], p0 K)], kl := Env.kl, nk := true, eqs := eqs0, byt := byt0, fin := finK fi K }
noncomputable def b (a1 : List (List Cl)) (R : List Int → Bool → Option Res) : Option Res :=
 l0 a1 (fun y8 =>
 R y8 true) R fuel 0 0 ([0] : List Int)
theorem gx : ∃ x : List (List Cl) → (List Int → Bool → Option Res) → Option Res, x = b := ⟨_, rfl⟩
noncomputable def g : List (List Cl) → (List Int → Bool → Option Res) → Option Res := Classical.choose gx
theorem e : g = b := Classical.choose_spec gx
noncomputable def run : List Lf → (Res → Option Res) → Option Res
 | [.q (.cells a1)], K => g a1 (fun r1 r2 => K (m r1 r2))
 | _, _ => none
noncomputable def a (a1 : List (List Cl)) : St := argSt [one (.tr 0 1 [.int .i64, .int .i64, .int .i64, .int .i64, .int .i64, .ints .i64] (.cells a1))] [] []
noncomputable def con : FuncId × St × (List Lf → (Res → Option Res) → Option Res) := (44, a [], run)
theorem cx (K : Res → Option Res) : CtxOk Go.Proofs.Try.prog Γ0 byt0 eqs0 (X K) os := ⟨rfl, rfl, rfl, (fun p hp => by
 rcases List.mem_cons.1 hp with rfl | hp
 ·exact spec_l11Takes.ok
 cases hp), rfl, rfl, rfl⟩
theorem t0 (K : Res → Option Res) (k : St → Option Res) (it : St → (St → Option Res) → Option Res) (x2 : List (List Cl)) (x3 x4 : Int) (x5 : List Int) : iterS (X K) 0 b0 it (s0 x2 x3 x4 x5) k = l0s x2 (fun x3 x4 x5 => it (s0 x2 x3 x4 x5) k) (fun y1 => k (o0 x2 y1)) (fun r1 r2 => K (m r1 r2)) x3 x4 x5 := by kernel_rfl
theorem i0 (K : Res → Option Res) (k : St → Option Res) (x2 : List (List Cl)) : ∀ (n : Nat) (x3 x4 : Int) (x5 : List Int), iter (X K) 0 b0 n (s0 x2 x3 x4 x5) k = l0 x2 (fun y1 => k (o0 x2 y1)) (fun r1 r2 => K (m r1 r2)) n x3 x4 x5
 | 0, _, _, _ => rfl
 | n + 1, x3, x4, x5 => by
  rw [iter_succ, t0, show (fun x3 x4 x5 => iter (X K) 0 b0 n (s0 x2 x3 x4 x5) k) = (fun x3 x4 x5 => l0 x2 (fun y1 => k (o0 x2 y1)) (fun r1 r2 => K (m r1 r2)) n x3 x4 x5) from funext fun x3 => funext fun x4 => funext fun x5 => i0 K k x2 n x3 x4 x5]; rfl
theorem v0 {K : Res → Option Res} {l : List Lf} {k : St → Option Res} {r : Res} (h : p0 K l k = some r) : ∃ x2 x3 x4 x5, l = [.q (.cells x2), .i x3, .i x4, .q (.ints x5)] ∧ l0 x2 (fun y1 => k (o0 x2 y1)) (fun r1 r2 => K (m r1 r2)) fuel x3 x4 x5 = some r := by
 unfold p0 at h; split at h
 ·exact ⟨_, _, _, _, rfl, h⟩
 ·cases h
theorem w0 (K : Res → Option Res) : LpSound Go.Proofs.Try.prog (X K) 0 b0 := lp_ok ((cx K).ok laid) (by rw [show loopsOf b0 = [] from by kernel_rfl]; intro p hp; cases hp) rfl fun p hp hid => by
 rcases List.mem_cons.1 hp with rfl | hp
 ·intro st k r h1 h2; obtain ⟨x2, x3, x4, x5, e, h⟩ := v0 (K := K) h2; have := St.like_eq (y := s0 x2 x3 x4 x5) h1 (by kernel_rfl) e; subst this; exact ⟨fuel, (i0 K k x2 fuel x3 x4 x5).trans h⟩
 cases hp
theorem tie (K : Res → Option Res) (a1 : List (List Cl)) : exec (X K) c (entry 36 [one (.tr 0 1 [.int .i64, .int .i64, .int .i64, .int .i64, .int .i64, .ints .i64] (.cells a1))] [] []) (endK (X K)) = g a1 (fun r1 r2 => K (m r1 r2)) := Eq.trans (b := b a1 (fun r1 r2 => K (m r1 r2))) (by kernel_rfl) (by rw [e])
theorem runv {l : List Lf} {K : Res → Option Res} {r : Res} (h : run l K = some r) : ∃ a1, l = [.q (.cells a1)] ∧ g a1 (fun r1 r2 => K (m r1 r2)) = some r := by
 unfold run at h; split at h
 ·exact ⟨_, rfl, h⟩
 ·cases h
theorem ok : Con Go.Proofs.Try.prog con := con_of (fn := Go.Proofs.Try.f44) (c := c) (Fi := fi) (X := X) (fun_of laid (by kernel_rfl) (by kernel_rfl) (by kernel_rfl) rfl (by kernel_rfl) (by kernel_rfl) cx (fun _ => rfl) (fun _ => rfl) (fun K => by
 rw [show loopsOf c = [(0, b0)] from by kernel_rfl]; intro p hp
 rcases List.mem_cons.1 hp with rfl | hp
 ·exact w0 K
 cases hp)) fun xs rows boxes K r hl hr => by
 obtain ⟨a1, e, h⟩ := runv hr
 have := St.like_eq (y := a a1) hl (by kernel_rfl) e
 obtain ⟨rfl, rfl, rfl⟩ := argSt_inj this
 exact (tie K a1).trans h
end spec_l11Depths
namespace spec_CodeOk
noncomputable def c : Code := bodyOf Go.Proofs.Try.f19
noncomputable def fi : Fin := ⟨Γ0, [(.tmp 2, 4)], [[1]], [], [], []⟩
noncomputable def m (r1 : Bool) : Res := ⟨[⟨false, [.bool r1]⟩], [], [], [], []⟩
noncomputable def b0 : Code := codeAt c [1, 1, 0, 1, 0, 0]
noncomputable def s0 (x3 : List (List Cl)) (x4 : Int) : St := ⟨mkT 36 [(0, one (.tr 0 1 [.int .i64, .int .i64, .int .i64, .int .i64, .int .i64, .ints .i64] (.cells x3))), (3, one (.int .i64 x4))], [], []⟩
noncomputable def l0s (x3 : List (List Cl)) (rec : Int → Option Res) (k : Option Res) (R : Bool → Option Res) (x4 : Int) : Option Res :=
 bif decide (x4 < (x3.length : Int)) then (bif decide (0 ≤ x4) && decide (x4 < (x3.length : Int)) then (spec_l11Instr.g (((x3.getD x4.toNat []).getD 0 (.i 0)).toI) (((x3.getD x4.toNat []).getD 1 (.i 0)).toI) (((x3.getD x4.toNat []).getD 2 (.i 0)).toI) (((x3.getD x4.toNat []).getD 3 (.i 0)).toI) (((x3.getD x4.toNat []).getD 4 (.i 0)).toI) (((x3.getD x4.toNat []).getD 5 (.i 0)).toL) fun r5 =>
  bif !r5 then R false
  else rec (IntKind.i64.wrap (x4 + 1)))
  else none)
 else k
noncomputable def l0 (x3 : List (List Cl)) (k : Option Res) (R : Bool → Option Res) : Nat → Int → Option Res
 | 0, _ => none
 | n + 1, x4 => l0s x3 (fun x4 => l0 x3 k R n x4) k R x4
noncomputable def o0 (x3 : List (List Cl)) : St := ⟨mkT 36 [(0, one (.tr 0 1 [.int .i64, .int .i64, .int .i64, .int .i64, .int .i64, .ints .i64] (.cells x3)))], [], []⟩
noncomputable def p0 (K : Res → Option Res) : List Lf → (St → Option Res) → Option Res
 | [.q (.cells x3), .i x4], k => l0 x3 (k (o0 x3)) (fun r1 => K (m r1)) fuel x4
 | _, _ => none
noncomputable def os : List (FuncId × St × (List Lf → (Res → Option Res) → Option Res)) := [spec_l1In.con, spec_l11Instr.con, spec_l11Depths.con]
noncomputable def X (K : Res → Option Res) : Ctx := { Γ := Γ0, orc := orcOf os, io := [], share := [], opn := [], shr := [], bun := [], cut := [], own := [], cin := [(0, ⟨[0, 3], [], [], [], [], []⟩)], cout := [(0, ⟨[0], [], [], [], [], []⟩)], lp := lpOf [(0, s0 [] 0, p0 K)], kl := Env.kl, nk := true, eqs := eqs0, byt := byt0, fin := finK fi K }
noncomputable def b (a1 : List (List Cl)) (R : Bool → Option Res) : Option Res :=
 spec_l1In.g (a1.length : Int) 1 60 fun r2 =>
 bif !r2 then R false
 else (l0 a1 (
 spec_l11Depths.g a1 fun r6 r7 =>
 bif r7 then (bif decide (0 ≤ (a1.length : Int)) && decide ((a1.length : Int) < (r6.length : Int)) then R (r6.getD ((a1.length : Int).toNat) 0 == 1)
  else none)
 else R false) R fuel 0)
theorem gx : ∃ x : List (List Cl) → (Bool → Option Res) → Option Res, x = b := ⟨_, rfl⟩
noncomputable def g : List (List Cl) → (Bool → Option Res) → Option Res := Classical.choose gx
theorem e : g = b := Classical.choose_spec gx
noncomputable def run : List Lf → (Res → Option Res) → Option Res
 | [.q (.cells a1)], K => g a1 (fun r1 => K (m r1))
 | _, _ => none
noncomputable def a (a1 : List (List Cl)) : St := argSt [one (.tr 0 1 [.int .i64, .int .i64, .int .i64, .int .i64, .int .i64, .ints .i64] (.cells a1))] [] []
noncomputable def con : FuncId × St × (List Lf → (Res → Option Res) → Option Res) := (19, a [], run)
theorem cx (K : Res → Option Res) : CtxOk Go.Proofs.Try.prog Γ0 byt0 eqs0 (X K) os := ⟨rfl, rfl, rfl, (fun p hp => by
 rcases List.mem_cons.1 hp with rfl | hp
 ·exact spec_l1In.ok
 rcases List.mem_cons.1 hp with rfl | hp
 ·exact spec_l11Instr.ok
 rcases List.mem_cons.1 hp with rfl | hp
 ·exact spec_l11Depths.ok
 cases hp), rfl, rfl, rfl⟩
theorem t0 (K : Res → Option Res) (k : St → Option Res) (it : St → (St → Option Res) → Option Res) (x3 : List (List Cl)) (x4 : Int) : iterS (X K) 0 b0 it (s0 x3 x4) k = l0s x3 (fun x4 => it (s0 x3 x4) k) (k (o0 x3)) (fun r1 => K (m r1)) x4 := by kernel_rfl
theorem i0 (K : Res → Option Res) (k : St → Option Res) (x3 : List (List Cl)) : ∀ (n : Nat) (x4 : Int), iter (X K) 0 b0 n (s0 x3 x4) k = l0 x3 (k (o0 x3)) (fun r1 => K (m r1)) n x4
 | 0, _ => rfl
 | n + 1, x4 => by
  rw [iter_succ, t0, show (fun x4 => iter (X K) 0 b0 n (s0 x3 x4) k) = (fun x4 => l0 x3 (k (o0 x3)) (fun r1 => K (m r1)) n x4) from funext fun x4 => i0 K k x3 n x4]; rfl
theorem v0 {K : Res → Option Res} {l : List Lf} {k : St → Option Res} {r : Res} (h : p0 K l k = some r) : ∃ x3 x4, l = [.q (.cells x3), .i x4] ∧ l0 x3 (k (o0 x3)) (fun r1 => K (m r1)) fuel x4 = some r := by
 unfold p0 at h; split at h
 ·exact ⟨_, _, rfl, h⟩
 ·cases h
theorem w0 (K : Res → Option Res) : LpSound Go.Proofs.Try.prog (X K) 0 b0 := lp_ok ((cx K).ok laid) (by rw [show loopsOf b0 = [] from by kernel_rfl]; intro p hp; cases hp) rfl fun p hp hid => by
 rcases List.mem_cons.1 hp with rfl | hp
 ·intro st k r h1 h2; obtain ⟨x3, x4, e, h⟩ := v0 (K := K) h2; have := St.like_eq (y := s0 x3 x4) h1 (by kernel_rfl) e; subst this; exact ⟨fuel, (i0 K k x3 fuel x4).trans h⟩
 cases hp
theorem tie (K : Res → Option Res) (a1 : List (List Cl)) : exec (X K) c (entry 36 [one (.tr 0 1 [.int .i64, .int .i64, .int .i64, .int .i64, .int .i64, .ints .i64] (.cells a1))] [] []) (endK (X K)) = g a1 (fun r1 => K (m r1)) := Eq.trans (b := b a1 (fun r1 => K (m r1))) (by kernel_rfl) (by rw [e])
theorem runv {l : List Lf} {K : Res → Option Res} {r : Res} (h : run l K = some r) : ∃ a1, l = [.q (.cells a1)] ∧ g a1 (fun r1 => K (m r1)) = some r := by
 unfold run at h; split at h
 ·exact ⟨_, rfl, h⟩
 ·cases h
theorem ok : Con Go.Proofs.Try.prog con := con_of (fn := Go.Proofs.Try.f19) (c := c) (Fi := fi) (X := X) (fun_of laid (by kernel_rfl) (by kernel_rfl) (by kernel_rfl) rfl (by kernel_rfl) (by kernel_rfl) cx (fun _ => rfl) (fun _ => rfl) (fun K => by
 rw [show loopsOf c = [(0, b0)] from by kernel_rfl]; intro p hp
 rcases List.mem_cons.1 hp with rfl | hp
 ·exact w0 K
 cases hp)) fun xs rows boxes K r hl hr => by
 obtain ⟨a1, e, h⟩ := runv hr
 have := St.like_eq (y := a a1) hl (by kernel_rfl) e
 obtain ⟨rfl, rfl, rfl⟩ := argSt_inj this
 exact (tie K a1).trans h
end spec_CodeOk
namespace spec_l15Plain
noncomputable def c : Code := bodyOf Go.Proofs.Try.f56
noncomputable def fi : Fin := ⟨Γ0, [(.tmp 2, 4)], [[1]], [], [], []⟩
noncomputable def m (r1 : Bool) : Res := ⟨[⟨false, [.bool r1]⟩], [], [], [], []⟩
noncomputable def os : List (FuncId × St × (List Lf → (Res → Option Res) → Option Res)) := [spec_l1Sign1.con, spec_l1Sign2.con]
noncomputable def X (K : Res → Option Res) : Ctx := { Γ := Γ0, orc := orcOf os, io := [], share := [], opn := [], shr := [], bun := [], cut := [], own := [], cin := [], cout := [], lp := lpOf [], kl := Env.kl, nk := true, eqs := eqs0, byt := byt0, fin := finK fi K }
noncomputable def b (a1 a2 a3 a4 a5 : Int) (a6 : List Int) (R : Bool → Option Res) : Option Res :=
 bif (a1 == 1) then R true
 else bif (a1 == 2) then R true
 else bif (a1 == 4) then (bif (a4 == 0) then (spec_l1Sign1.g a3 fun r7 =>
  R r7)
  else R false)
 else bif (a1 == 5) then (bif (a4 == 0) then (spec_l1Sign2.g a3 fun r8 =>
  R r8)
  else R false)
 else R false
theorem gx : ∃ x : Int → Int → Int → Int → Int → List Int → (Bool → Option Res) → Option Res, x = b := ⟨_, rfl⟩
noncomputable def g : Int → Int → Int → Int → Int → List Int → (Bool → Option Res) → Option Res := Classical.choose gx
theorem e : g = b := Classical.choose_spec gx
noncomputable def run : List Lf → (Res → Option Res) → Option Res
 | [.i a1, .i a2, .i a3, .i a4, .i a5, .q (.ints a6)], K => g a1 a2 a3 a4 a5 a6 (fun r1 => K (m r1))
 | _, _ => none
noncomputable def a (a1 a2 a3 a4 a5 : Int) (a6 : List Int) : St := argSt [.v ⟨true, [.int .i64 a1, .int .i64 a2, .int .i64 a3, .int .i64 a4, .int .i64 a5, .tr 0 1 [.int .i64] (.ints a6)]⟩] [] []
noncomputable def con : FuncId × St × (List Lf → (Res → Option Res) → Option Res) := (56, a 0 0 0 0 0 [], run)
theorem cx (K : Res → Option Res) : CtxOk Go.Proofs.Try.prog Γ0 byt0 eqs0 (X K) os := ⟨rfl, rfl, rfl, (fun p hp => by
 rcases List.mem_cons.1 hp with rfl | hp
 ·exact spec_l1Sign1.ok
 rcases List.mem_cons.1 hp with rfl | hp
 ·exact spec_l1Sign2.ok
 cases hp), rfl, rfl, rfl⟩
theorem tie (K : Res → Option Res) (a1 a2 a3 a4 a5 : Int) (a6 : List Int) : exec (X K) c (entry 32 [.v ⟨true, [.int .i64 a1, .int .i64 a2, .int .i64 a3, .int .i64 a4, .int .i64 a5, .tr 0 1 [.int .i64] (.ints a6)]⟩] [] []) (endK (X K)) = g a1 a2 a3 a4 a5 a6 (fun r1 => K (m r1)) := Eq.trans (b := b a1 a2 a3 a4 a5 a6 (fun r1 => K (m r1))) (by kernel_rfl) (by rw [e])
theorem runv {l : List Lf} {K : Res → Option Res} {r : Res} (h : run l K = some r) : ∃ a1 a2 a3 a4 a5 a6, l = [.i a1, .i a2, .i a3, .i a4, .i a5, .q (.ints a6)] ∧ g a1 a2 a3 a4 a5 a6 (fun r1 => K (m r1)) = some r := by
 unfold run at h; split at h
 ·exact ⟨_, _, _, _, _, _, rfl, h⟩
 ·cases h
theorem ok : Con Go.Proofs.Try.prog con := con_of (fn := Go.Proofs.Try.f56) (c := c) (Fi := fi) (X := X) (fun_of laid (by kernel_rfl) (by kernel_rfl) (by kernel_rfl) rfl (by kernel_rfl) (by kernel_rfl) cx (fun _ => rfl) (fun _ => rfl) (fun K => by
 rw [show loopsOf c = [] from by kernel_rfl]; intro p hp
 cases hp)) fun xs rows boxes K r hl hr => by
 obtain ⟨a1, a2, a3, a4, a5, a6, e, h⟩ := runv hr
 have := St.like_eq (y := a a1 a2 a3 a4 a5 a6) hl (by kernel_rfl) e
 obtain ⟨rfl, rfl, rfl⟩ := argSt_inj this
 exact (tie K a1 a2 a3 a4 a5 a6).trans h
end spec_l15Plain
namespace spec_l15End
noncomputable def c : Code := bodyOf Go.Proofs.Try.f29
noncomputable def fi : Fin := ⟨Γ0, [(.tmp 4, 3)], [[1]], [], [], []⟩
noncomputable def m (r1 : Int) : Res := ⟨[⟨false, [.int .i64 r1]⟩], [], [], [], []⟩
noncomputable def b0 : Code := codeAt c [1, 1, 1, 1, 0, 1, 0, 0]
noncomputable def s0 (x3 : List (List Cl)) (x4 x5 : Int) (x6 : Bool) (x7 : Int) : St := ⟨mkT 53 [(0, one (.tr 0 1 [.int .i64, .int .i64, .int .i64, .int .i64, .int .i64, .ints .i64] (.cells x3))), (5, one (.int .i64 x4)), (6, one (.int .i64 x5)), (7, one (.bool x6)), (8, one (.int .i64 x7))], [], []⟩
noncomputable def l0s (x3 : List (List Cl)) (rec : Int → Int → Bool → Int → Option Res) (k : Int → Option Res) (R : Int → Option Res) (x4 x5 : Int) (x6 : Bool) (x7 : Int) : Option Res :=
 bif decide (x7 < (x3.length : Int)) then (bif decide (0 ≤ x7) && decide (x7 < (x3.length : Int)) then (spec_l15Plain.g (((x3.getD x7.toNat []).getD 0 (.i 0)).toI) (((x3.getD x7.toNat []).getD 1 (.i 0)).toI) (((x3.getD x7.toNat []).getD 2 (.i 0)).toI) (((x3.getD x7.toNat []).getD 3 (.i 0)).toI) (((x3.getD x7.toNat []).getD 4 (.i 0)).toI) (((x3.getD x7.toNat []).getD 5 (.i 0)).toL) fun r8 =>
  bif r8 then (bif decide (0 ≤ x7) && decide (x7 < (x3.length : Int)) then (spec_l11Takes.g (((x3.getD x7.toNat []).getD 0 (.i 0)).toI) (((x3.getD x7.toNat []).getD 1 (.i 0)).toI) (((x3.getD x7.toNat []).getD 2 (.i 0)).toI) (((x3.getD x7.toNat []).getD 3 (.i 0)).toI) (((x3.getD x7.toNat []).getD 4 (.i 0)).toI) (((x3.getD x7.toNat []).getD 5 (.i 0)).toL) fun r9 r10 =>
   bif decide (x5 < r9) then R x4
   else bif x6 then (bif (IntKind.i64.wrap (x5 + r10) == 1) then rec (IntKind.i64.wrap (x7 + 1)) (IntKind.i64.wrap (x5 + r10)) true (IntKind.i64.wrap (x7 + 1))
    else rec x4 (IntKind.i64.wrap (x5 + r10)) true (IntKind.i64.wrap (x7 + 1)))
   else bif (IntKind.i64.wrap (x5 + r10) == 1) then (bif decide (0 < r9) then rec (IntKind.i64.wrap (x7 + 1)) (IntKind.i64.wrap (x5 + r10)) (decide (0 < r9)) (IntKind.i64.wrap (x7 + 1))
    else rec x4 (IntKind.i64.wrap (x5 + r10)) (decide (0 < r9)) (IntKind.i64.wrap (x7 + 1)))
   else rec x4 (IntKind.i64.wrap (x5 + r10)) (decide (0 < r9)) (IntKind.i64.wrap (x7 + 1)))
   else none)
  else k x4)
  else none)
 else k x4
noncomputable def l0 (x3 : List (List Cl)) (k : Int → Option Res) (R : Int → Option Res) : Nat → Int → Int → Bool → Int → Option Res
 | 0, _, _, _, _ => none
 | n + 1, x4, x5, x6, x7 => l0s x3 (fun x4 x5 x6 x7 => l0 x3 k R n x4 x5 x6 x7) k R x4 x5 x6 x7
noncomputable def o0 (x3 : List (List Cl)) (y1 : Int) : St := ⟨mkT 53 [(5, one (.int .i64 y1))], [], []⟩
noncomputable def p0 (K : Res → Option Res) : List Lf → (St → Option Res) → Option Res
 | [.q (.cells x3), .i x4, .i x5, .b x6, .i x7], k => l0 x3 (fun y1 => k (o0 x3 y1)) (fun r1 => K (m r1)) fuel x4 x5 x6 x7
 | _, _ => none
noncomputable def os : List (FuncId × St × (List Lf → (Res → Option Res) → Option Res)) := [spec_l15Plain.con, spec_l11Takes.con]
noncomputable def X (K : Res → Option Res) : Ctx := { Γ := Γ0, orc := orcOf os, io := [], share := [], opn := [], shr := [], bun := [], cut := [], own := [], cin := [(0, ⟨[0, 5, 6, 7, 8], [], [], [], [], []⟩)], cout := [(0, ⟨[5], [], [], [], [], []⟩)], lp := lpOf [(0, s0 [] 0 0 false 0, p0 K)], kl := Env.kl, nk := true, eqs := eqs0, byt := byt0, fin := finK fi K }
noncomputable def b (a1 : List (List Cl)) (a2 : Int) (R : Int → Option Res) : Option Res :=
 l0 a1 (fun y11 =>
 R y11) R fuel 0 0 false a2
theorem gx : ∃ x : List (List Cl) → Int → (Int → Option Res) → Option Res, x = b := ⟨_, rfl⟩
noncomputable def g : List (List Cl) → Int → (Int → Option Res) → Option Res := Classical.choose gx
theorem e : g = b := Classical.choose_spec gx
noncomputable def run : List Lf → (Res → Option Res) → Option Res
 | [.q (.cells a1), .i a2], K => g a1 a2 (fun r1 => K (m r1))
 | _, _ => none
noncomputable def a (a1 : List (List Cl)) (a2 : Int) : St := argSt [one (.tr 0 1 [.int .i64, .int .i64, .int .i64, .int .i64, .int .i64, .ints .i64] (.cells a1)), one (.int .i64 a2)] [] []
noncomputable def con : FuncId × St × (List Lf → (Res → Option Res) → Option Res) := (29, a [] 0, run)
theorem cx (K : Res → Option Res) : CtxOk Go.Proofs.Try.prog Γ0 byt0 eqs0 (X K) os := ⟨rfl, rfl, rfl, (fun p hp => by
 rcases List.mem_cons.1 hp with rfl | hp
 ·exact spec_l15Plain.ok
 rcases List.mem_cons.1 hp with rfl | hp
 ·exact spec_l11Takes.ok
 cases hp), rfl, rfl, rfl⟩
theorem t0 (K : Res → Option Res) (k : St → Option Res) (it : St → (St → Option Res) → Option Res) (x3 : List (List Cl)) (x4 x5 : Int) (x6 : Bool) (x7 : Int) : iterS (X K) 0 b0 it (s0 x3 x4 x5 x6 x7) k = l0s x3 (fun x4 x5 x6 x7 => it (s0 x3 x4 x5 x6 x7) k) (fun y1 => k (o0 x3 y1)) (fun r1 => K (m r1)) x4 x5 x6 x7 := by kernel_rfl
theorem i0 (K : Res → Option Res) (k : St → Option Res) (x3 : List (List Cl)) : ∀ (n : Nat) (x4 x5 : Int) (x6 : Bool) (x7 : Int), iter (X K) 0 b0 n (s0 x3 x4 x5 x6 x7) k = l0 x3 (fun y1 => k (o0 x3 y1)) (fun r1 => K (m r1)) n x4 x5 x6 x7
 | 0, _, _, _, _ => rfl
 | n + 1, x4, x5, x6, x7 => by
  rw [iter_succ, t0, show (fun x4 x5 x6 x7 => iter (X K) 0 b0 n (s0 x3 x4 x5 x6 x7) k) = (fun x4 x5 x6 x7 => l0 x3 (fun y1 => k (o0 x3 y1)) (fun r1 => K (m r1)) n x4 x5 x6 x7) from funext fun x4 => funext fun x5 => funext fun x6 => funext fun x7 => i0 K k x3 n x4 x5 x6 x7]; rfl
theorem v0 {K : Res → Option Res} {l : List Lf} {k : St → Option Res} {r : Res} (h : p0 K l k = some r) : ∃ x3 x4 x5 x6 x7, l = [.q (.cells x3), .i x4, .i x5, .b x6, .i x7] ∧ l0 x3 (fun y1 => k (o0 x3 y1)) (fun r1 => K (m r1)) fuel x4 x5 x6 x7 = some r := by
 unfold p0 at h; split at h
 ·exact ⟨_, _, _, _, _, rfl, h⟩
 ·cases h
theorem w0 (K : Res → Option Res) : LpSound Go.Proofs.Try.prog (X K) 0 b0 := lp_ok ((cx K).ok laid) (by rw [show loopsOf b0 = [] from by kernel_rfl]; intro p hp; cases hp) rfl fun p hp hid => by
 rcases List.mem_cons.1 hp with rfl | hp
 ·intro st k r h1 h2; obtain ⟨x3, x4, x5, x6, x7, e, h⟩ := v0 (K := K) h2; have := St.like_eq (y := s0 x3 x4 x5 x6 x7) h1 (by kernel_rfl) e; subst this; exact ⟨fuel, (i0 K k x3 fuel x4 x5 x6 x7).trans h⟩
 cases hp
theorem tie (K : Res → Option Res) (a1 : List (List Cl)) (a2 : Int) : exec (X K) c (entry 53 [one (.tr 0 1 [.int .i64, .int .i64, .int .i64, .int .i64, .int .i64, .ints .i64] (.cells a1)), one (.int .i64 a2)] [] []) (endK (X K)) = g a1 a2 (fun r1 => K (m r1)) := Eq.trans (b := b a1 a2 (fun r1 => K (m r1))) (by kernel_rfl) (by rw [e])
theorem runv {l : List Lf} {K : Res → Option Res} {r : Res} (h : run l K = some r) : ∃ a1 a2, l = [.q (.cells a1), .i a2] ∧ g a1 a2 (fun r1 => K (m r1)) = some r := by
 unfold run at h; split at h
 ·exact ⟨_, _, rfl, h⟩
 ·cases h
theorem ok : Con Go.Proofs.Try.prog con := con_of (fn := Go.Proofs.Try.f29) (c := c) (Fi := fi) (X := X) (fun_of laid (by kernel_rfl) (by kernel_rfl) (by kernel_rfl) rfl (by kernel_rfl) (by kernel_rfl) cx (fun _ => rfl) (fun _ => rfl) (fun K => by
 rw [show loopsOf c = [(0, b0)] from by kernel_rfl]; intro p hp
 rcases List.mem_cons.1 hp with rfl | hp
 ·exact w0 K
 cases hp)) fun xs rows boxes K r hl hr => by
 obtain ⟨a1, a2, e, h⟩ := runv hr
 have := St.like_eq (y := a a1 a2) hl (by kernel_rfl) e
 obtain ⟨rfl, rfl, rfl⟩ := argSt_inj this
 exact (tie K a1 a2).trans h
end spec_l15End
namespace spec_Spans
noncomputable def c : Code := bodyOf Go.Proofs.Try.f8
noncomputable def fi : Fin := ⟨Γ0, [(.tmp 2, 24)], [[1]], [], [], []⟩
noncomputable def m (r1 : List (List Cl)) : Res := ⟨[⟨false, [.ow 1000]⟩], [], [⟨[.int .i64, .int .i64], .cells r1, true, 0, none⟩], [], []⟩
noncomputable def b0 : Code := codeAt c [1, 1, 1, 1, 0, 0, 0]
noncomputable def s0 (x3 : List (List Cl)) (x4 : Int) (x5 : List (List Cl)) : St := ⟨mkT 30 [(0, one (.tr 0 1 [.int .i64, .int .i64, .int .i64, .int .i64, .int .i64, .ints .i64] (.cells x3))), (3, one (.ow 3048)), (4, one (.int .i64 x4))], [(3048, ⟨[.int .i64, .int .i64], .cells x5, true, 0, none⟩)], []⟩
noncomputable def l0s (x3 : List (List Cl)) (rec : Int → List (List Cl) → Option Res) (k : List (List Cl) → Option Res) (x4 : Int) (x5 : List (List Cl)) : Option Res :=
 bif decide (x4 < (x3.length : Int)) then (spec_l15End.g x3 x4 fun r6 =>
  bif (r6 == 0) then rec (IntKind.i64.wrap (x4 + 1)) x5
  else bif decide ((x5.length + 1) * 16 ≤ 140737488355328) then rec r6 (x5 ++ ([[.i x4, .i r6]] : List (List Cl)))
  else none)
 else k x5
noncomputable def l0 (x3 : List (List Cl)) (k : List (List Cl) → Option Res) : Nat → Int → List (List Cl) → Option Res
 | 0, _, _ => none
 | n + 1, x4, x5 => l0s x3 (fun x4 x5 => l0 x3 k n x4 x5) k x4 x5
noncomputable def o0 (x3 y1 : List (List Cl)) : St := ⟨mkT 30 [(3, one (.ow 3048))], [(3048, ⟨[.int .i64, .int .i64], .cells y1, true, 0, none⟩)], []⟩
noncomputable def p0 (K : Res → Option Res) : List Lf → (St → Option Res) → Option Res
 | [.q (.cells x3), .i x4, .q (.cells x5)], k => l0 x3 (fun y1 => k (o0 x3 y1)) fuel x4 x5
 | _, _ => none
noncomputable def os : List (FuncId × St × (List Lf → (Res → Option Res) → Option Res)) := [spec_CodeOk.con, spec_l15End.con]
noncomputable def X (K : Res → Option Res) : Ctx := { Γ := Γ0, orc := orcOf os, io := [], share := [], opn := [], shr := [], bun := [], cut := [], own := [], cin := [(0, ⟨[0, 3, 4], [(3048, 3048), (19512, 3048)], [], [], [], []⟩)], cout := [(0, ⟨[3], [(3048, 3048)], [], [], [], []⟩)], lp := lpOf [(0, s0 [] 0 [], p0 K)], kl := Env.kl, nk := true, eqs := eqs0, byt := byt0, fin := finK fi K }
noncomputable def b (a1 : List (List Cl)) (R : List (List Cl) → Option Res) : Option Res :=
 spec_CodeOk.g a1 fun r2 =>
 bif !r2 then R ([] : List (List Cl))
 else (l0 a1 (fun y7 =>
 R y7) fuel 0 ([] : List (List Cl)))
theorem gx : ∃ x : List (List Cl) → (List (List Cl) → Option Res) → Option Res, x = b := ⟨_, rfl⟩
noncomputable def g : List (List Cl) → (List (List Cl) → Option Res) → Option Res := Classical.choose gx
theorem e : g = b := Classical.choose_spec gx
noncomputable def run : List Lf → (Res → Option Res) → Option Res
 | [.q (.cells a1)], K => g a1 (fun r1 => K (m r1))
 | _, _ => none
noncomputable def a (a1 : List (List Cl)) : St := argSt [one (.tr 0 1 [.int .i64, .int .i64, .int .i64, .int .i64, .int .i64, .ints .i64] (.cells a1))] [] []
noncomputable def con : FuncId × St × (List Lf → (Res → Option Res) → Option Res) := (8, a [], run)
theorem cx (K : Res → Option Res) : CtxOk Go.Proofs.Try.prog Γ0 byt0 eqs0 (X K) os := ⟨rfl, rfl, rfl, (fun p hp => by
 rcases List.mem_cons.1 hp with rfl | hp
 ·exact spec_CodeOk.ok
 rcases List.mem_cons.1 hp with rfl | hp
 ·exact spec_l15End.ok
 cases hp), rfl, rfl, rfl⟩
theorem t0 (K : Res → Option Res) (k : St → Option Res) (it : St → (St → Option Res) → Option Res) (x3 : List (List Cl)) (x4 : Int) (x5 : List (List Cl)) : iterS (X K) 0 b0 it (s0 x3 x4 x5) k = l0s x3 (fun x4 x5 => it (s0 x3 x4 x5) k) (fun y1 => k (o0 x3 y1)) x4 x5 := by kernel_rfl
theorem i0 (K : Res → Option Res) (k : St → Option Res) (x3 : List (List Cl)) : ∀ (n : Nat) (x4 : Int) (x5 : List (List Cl)), iter (X K) 0 b0 n (s0 x3 x4 x5) k = l0 x3 (fun y1 => k (o0 x3 y1)) n x4 x5
 | 0, _, _ => rfl
 | n + 1, x4, x5 => by
  rw [iter_succ, t0, show (fun x4 x5 => iter (X K) 0 b0 n (s0 x3 x4 x5) k) = (fun x4 x5 => l0 x3 (fun y1 => k (o0 x3 y1)) n x4 x5) from funext fun x4 => funext fun x5 => i0 K k x3 n x4 x5]; rfl
theorem v0 {K : Res → Option Res} {l : List Lf} {k : St → Option Res} {r : Res} (h : p0 K l k = some r) : ∃ x3 x4 x5, l = [.q (.cells x3), .i x4, .q (.cells x5)] ∧ l0 x3 (fun y1 => k (o0 x3 y1)) fuel x4 x5 = some r := by
 unfold p0 at h; split at h
 ·exact ⟨_, _, _, rfl, h⟩
 ·cases h
theorem w0 (K : Res → Option Res) : LpSound Go.Proofs.Try.prog (X K) 0 b0 := lp_ok ((cx K).ok laid) (by rw [show loopsOf b0 = [] from by kernel_rfl]; intro p hp; cases hp) rfl fun p hp hid => by
 rcases List.mem_cons.1 hp with rfl | hp
 ·intro st k r h1 h2; obtain ⟨x3, x4, x5, e, h⟩ := v0 (K := K) h2; have := St.like_eq (y := s0 x3 x4 x5) h1 (by kernel_rfl) e; subst this; exact ⟨fuel, (i0 K k x3 fuel x4 x5).trans h⟩
 cases hp
theorem tie (K : Res → Option Res) (a1 : List (List Cl)) : exec (X K) c (entry 30 [one (.tr 0 1 [.int .i64, .int .i64, .int .i64, .int .i64, .int .i64, .ints .i64] (.cells a1))] [] []) (endK (X K)) = g a1 (fun r1 => K (m r1)) := Eq.trans (b := b a1 (fun r1 => K (m r1))) (by kernel_rfl) (by rw [e])
theorem runv {l : List Lf} {K : Res → Option Res} {r : Res} (h : run l K = some r) : ∃ a1, l = [.q (.cells a1)] ∧ g a1 (fun r1 => K (m r1)) = some r := by
 unfold run at h; split at h
 ·exact ⟨_, rfl, h⟩
 ·cases h
theorem ok : Con Go.Proofs.Try.prog con := con_of (fn := Go.Proofs.Try.f8) (c := c) (Fi := fi) (X := X) (fun_of laid (by kernel_rfl) (by kernel_rfl) (by kernel_rfl) rfl (by kernel_rfl) (by kernel_rfl) cx (fun _ => rfl) (fun _ => rfl) (fun K => by
 rw [show loopsOf c = [(0, b0)] from by kernel_rfl]; intro p hp
 rcases List.mem_cons.1 hp with rfl | hp
 ·exact w0 K
 cases hp)) fun xs rows boxes K r hl hr => by
 obtain ⟨a1, e, h⟩ := runv hr
 have := St.like_eq (y := a a1) hl (by kernel_rfl) e
 obtain ⟨rfl, rfl, rfl⟩ := argSt_inj this
 exact (tie K a1).trans h
end spec_Spans
namespace impl_plainStep
noncomputable def c : Code := bodyOf Go.Proofs.Try.f60
noncomputable def fi : Fin := ⟨Γ0, [(.tmp 2, 4)], [[1]], [], [], []⟩
noncomputable def m (r1 : Bool) : Res := ⟨[⟨false, [.bool r1]⟩], [], [], [], []⟩
noncomputable def os : List (FuncId × St × (List Lf → (Res → Option Res) → Option Res)) := [impl_oneSign.con, impl_twoSign.con]
noncomputable def X (K : Res → Option Res) : Ctx := { Γ := Γ0, orc := orcOf os, io := [], share := [], opn := [], shr := [], bun := [], cut := [], own := [], cin := [], cout := [], lp := lpOf [], kl := Env.kl, nk := true, eqs := eqs0, byt := byt0, fin := finK fi K }
noncomputable def b (a1 a2 a3 a4 a5 : Int) (a6 : List Int) (R : Bool → Option Res) : Option Res :=
 bif (a1 == 1) then R true
 else bif (a1 == 2) then R true
 else bif (a1 == 4) then (bif (a4 == 0) then (impl_oneSign.g a3 fun r7 =>
  R r7)
  else R false)
 else bif (a1 == 5) then (bif (a4 == 0) then (impl_twoSign.g a3 fun r8 =>
  R r8)
  else R false)
 else R false
theorem gx : ∃ x : Int → Int → Int → Int → Int → List Int → (Bool → Option Res) → Option Res, x = b := ⟨_, rfl⟩
noncomputable def g : Int → Int → Int → Int → Int → List Int → (Bool → Option Res) → Option Res := Classical.choose gx
theorem e : g = b := Classical.choose_spec gx
noncomputable def run : List Lf → (Res → Option Res) → Option Res
 | [.i a1, .i a2, .i a3, .i a4, .i a5, .q (.ints a6)], K => g a1 a2 a3 a4 a5 a6 (fun r1 => K (m r1))
 | _, _ => none
noncomputable def a (a1 a2 a3 a4 a5 : Int) (a6 : List Int) : St := argSt [.v ⟨true, [.int .i64 a1, .int .i64 a2, .int .i64 a3, .int .i64 a4, .int .i64 a5, .tr 0 1 [.int .i64] (.ints a6)]⟩] [] []
noncomputable def con : FuncId × St × (List Lf → (Res → Option Res) → Option Res) := (60, a 0 0 0 0 0 [], run)
theorem cx (K : Res → Option Res) : CtxOk Go.Proofs.Try.prog Γ0 byt0 eqs0 (X K) os := ⟨rfl, rfl, rfl, (fun p hp => by
 rcases List.mem_cons.1 hp with rfl | hp
 ·exact impl_oneSign.ok
 rcases List.mem_cons.1 hp with rfl | hp
 ·exact impl_twoSign.ok
 cases hp), rfl, rfl, rfl⟩
theorem tie (K : Res → Option Res) (a1 a2 a3 a4 a5 : Int) (a6 : List Int) : exec (X K) c (entry 32 [.v ⟨true, [.int .i64 a1, .int .i64 a2, .int .i64 a3, .int .i64 a4, .int .i64 a5, .tr 0 1 [.int .i64] (.ints a6)]⟩] [] []) (endK (X K)) = g a1 a2 a3 a4 a5 a6 (fun r1 => K (m r1)) := Eq.trans (b := b a1 a2 a3 a4 a5 a6 (fun r1 => K (m r1))) (by kernel_rfl) (by rw [e])
theorem runv {l : List Lf} {K : Res → Option Res} {r : Res} (h : run l K = some r) : ∃ a1 a2 a3 a4 a5 a6, l = [.i a1, .i a2, .i a3, .i a4, .i a5, .q (.ints a6)] ∧ g a1 a2 a3 a4 a5 a6 (fun r1 => K (m r1)) = some r := by
 unfold run at h; split at h
 ·exact ⟨_, _, _, _, _, _, rfl, h⟩
 ·cases h
theorem ok : Con Go.Proofs.Try.prog con := con_of (fn := Go.Proofs.Try.f60) (c := c) (Fi := fi) (X := X) (fun_of laid (by kernel_rfl) (by kernel_rfl) (by kernel_rfl) rfl (by kernel_rfl) (by kernel_rfl) cx (fun _ => rfl) (fun _ => rfl) (fun K => by
 rw [show loopsOf c = [] from by kernel_rfl]; intro p hp
 cases hp)) fun xs rows boxes K r hl hr => by
 obtain ⟨a1, a2, a3, a4, a5, a6, e, h⟩ := runv hr
 have := St.like_eq (y := a a1 a2 a3 a4 a5 a6) hl (by kernel_rfl) e
 obtain ⟨rfl, rfl, rfl⟩ := argSt_inj this
 exact (tie K a1 a2 a3 a4 a5 a6).trans h
end impl_plainStep
namespace impl_spanAt
noncomputable def c : Code := bodyOf Go.Proofs.Try.f31
noncomputable def fi : Fin := ⟨Γ0, [(.tmp 4, 3)], [[1]], [], [], []⟩
noncomputable def m (r1 : Int) : Res := ⟨[⟨false, [.int .i64 r1]⟩], [], [], [], []⟩
noncomputable def b0 : Code := codeAt c [1, 1, 0, 1, 0, 0]
noncomputable def s0 (x3 : List (List Cl)) (x4 x5 : Int) (x6 : Bool) (x7 : Int) : St := ⟨mkT 58 [(0, one (.tr 0 1 [.int .i64, .int .i64, .int .i64, .int .i64, .int .i64, .ints .i64] (.cells x3))), (5, one (.int .i64 x4)), (6, one (.int .i64 x5)), (7, one (.bool x6)), (8, one (.int .i64 x7))], [], []⟩
noncomputable def l0s (x3 : List (List Cl)) (rec : Int → Int → Bool → Int → Option Res) (k : Int → Option Res) (x4 x5 : Int) (x6 : Bool) (x7 : Int) : Option Res :=
 bif decide (x7 < (x3.length : Int)) then (bif decide (0 ≤ x7) && decide (x7 < (x3.length : Int)) then (impl_plainStep.g (((x3.getD x7.toNat []).getD 0 (.i 0)).toI) (((x3.getD x7.toNat []).getD 1 (.i 0)).toI) (((x3.getD x7.toNat []).getD 2 (.i 0)).toI) (((x3.getD x7.toNat []).getD 3 (.i 0)).toI) (((x3.getD x7.toNat []).getD 4 (.i 0)).toI) (((x3.getD x7.toNat []).getD 5 (.i 0)).toL) fun r8 =>
  bif r8 then (bif decide (0 ≤ x7) && decide (x7 < (x3.length : Int)) then (impl_takes.g (((x3.getD x7.toNat []).getD 0 (.i 0)).toI) (((x3.getD x7.toNat []).getD 1 (.i 0)).toI) (((x3.getD x7.toNat []).getD 2 (.i 0)).toI) (((x3.getD x7.toNat []).getD 3 (.i 0)).toI) (((x3.getD x7.toNat []).getD 4 (.i 0)).toI) (((x3.getD x7.toNat []).getD 5 (.i 0)).toL) fun r9 =>
   bif decide (r9 ≤ x5) then (bif decide (0 ≤ x7) && decide (x7 < (x3.length : Int)) then (impl_takes.g (((x3.getD x7.toNat []).getD 0 (.i 0)).toI) (((x3.getD x7.toNat []).getD 1 (.i 0)).toI) (((x3.getD x7.toNat []).getD 2 (.i 0)).toI) (((x3.getD x7.toNat []).getD 3 (.i 0)).toI) (((x3.getD x7.toNat []).getD 4 (.i 0)).toI) (((x3.getD x7.toNat []).getD 5 (.i 0)).toL) fun r10 =>
    bif x6 then (bif (IntKind.i64.wrap (x5 + (IntKind.i64.wrap (1 - r10))) == 1) then rec (IntKind.i64.wrap (x7 + 1)) (IntKind.i64.wrap (x5 + (IntKind.i64.wrap (1 - r10)))) true (IntKind.i64.wrap (x7 + 1))
     else rec x4 (IntKind.i64.wrap (x5 + (IntKind.i64.wrap (1 - r10)))) true (IntKind.i64.wrap (x7 + 1)))
    else bif decide (0 ≤ x7) && decide (x7 < (x3.length : Int)) then (impl_takes.g (((x3.getD x7.toNat []).getD 0 (.i 0)).toI) (((x3.getD x7.toNat []).getD 1 (.i 0)).toI) (((x3.getD x7.toNat []).getD 2 (.i 0)).toI) (((x3.getD x7.toNat []).getD 3 (.i 0)).toI) (((x3.getD x7.toNat []).getD 4 (.i 0)).toI) (((x3.getD x7.toNat []).getD 5 (.i 0)).toL) fun r11 =>
     bif (IntKind.i64.wrap (x5 + (IntKind.i64.wrap (1 - r10))) == 1) then (bif decide (0 < r11) then rec (IntKind.i64.wrap (x7 + 1)) (IntKind.i64.wrap (x5 + (IntKind.i64.wrap (1 - r10)))) (decide (0 < r11)) (IntKind.i64.wrap (x7 + 1))
      else rec x4 (IntKind.i64.wrap (x5 + (IntKind.i64.wrap (1 - r10)))) (decide (0 < r11)) (IntKind.i64.wrap (x7 + 1)))
     else rec x4 (IntKind.i64.wrap (x5 + (IntKind.i64.wrap (1 - r10)))) (decide (0 < r11)) (IntKind.i64.wrap (x7 + 1)))
    else none)
    else none)
   else k x4)
   else none)
  else k x4)
  else none)
 else k x4
noncomputable def l0 (x3 : List (List Cl)) (k : Int → Option Res) : Nat → Int → Int → Bool → Int → Option Res
 | 0, _, _, _, _ => none
 | n + 1, x4, x5, x6, x7 => l0s x3 (fun x4 x5 x6 x7 => l0 x3 k n x4 x5 x6 x7) k x4 x5 x6 x7
noncomputable def o0 (x3 : List (List Cl)) (y1 : Int) : St := ⟨mkT 58 [(5, one (.int .i64 y1))], [], []⟩
noncomputable def p0 (K : Res → Option Res) : List Lf → (St → Option Res) → Option Res
 | [.q (.cells x3), .i x4, .i x5, .b x6, .i x7], k => l0 x3 (fun y1 => k (o0 x3 y1)) fuel x4 x5 x6 x7
 | _, _ => none
noncomputable def os : List (FuncId × St × (List Lf → (Res → Option Res) → Option Res)) := [impl_plainStep.con, impl_takes.con]
noncomputable def X (K : Res → Option Res) : Ctx := { Γ := Γ0, orc := orcOf os, io := [], share := [], opn := [], shr := [], bun := [], cut := [], own := [], cin := [(0, ⟨[0, 5, 6, 7, 8], [], [], [], [], []⟩)], cout := [(0, ⟨[5], [], [], [], [], []⟩)], lp := lpOf [(0, s0 [] 0 0 false 0, p0 K)], kl := Env.kl, nk := true, eqs := eqs0, byt := byt0, fin := finK fi K }
noncomputable def b (a1 : List (List Cl)) (a2 : Int) (R : Int → Option Res) : Option Res :=
 l0 a1 (fun y12 =>
 R y12) fuel a2 0 false a2
theorem gx : ∃ x : List (List Cl) → Int → (Int → Option Res) → Option Res, x = b := ⟨_, rfl⟩
noncomputable def g : List (List Cl) → Int → (Int → Option Res) → Option Res := Classical.choose gx
theorem e : g = b := Classical.choose_spec gx
noncomputable def run : List Lf → (Res → Option Res) → Option Res
 | [.q (.cells a1), .i a2], K => g a1 a2 (fun r1 => K (m r1))
 | _, _ => none
noncomputable def a (a1 : List (List Cl)) (a2 : Int) : St := argSt [one (.tr 0 1 [.int .i64, .int .i64, .int .i64, .int .i64, .int .i64, .ints .i64] (.cells a1)), one (.int .i64 a2)] [] []
noncomputable def con : FuncId × St × (List Lf → (Res → Option Res) → Option Res) := (31, a [] 0, run)
theorem cx (K : Res → Option Res) : CtxOk Go.Proofs.Try.prog Γ0 byt0 eqs0 (X K) os := ⟨rfl, rfl, rfl, (fun p hp => by
 rcases List.mem_cons.1 hp with rfl | hp
 ·exact impl_plainStep.ok
 rcases List.mem_cons.1 hp with rfl | hp
 ·exact impl_takes.ok
 cases hp), rfl, rfl, rfl⟩
theorem t0 (K : Res → Option Res) (k : St → Option Res) (it : St → (St → Option Res) → Option Res) (x3 : List (List Cl)) (x4 x5 : Int) (x6 : Bool) (x7 : Int) : iterS (X K) 0 b0 it (s0 x3 x4 x5 x6 x7) k = l0s x3 (fun x4 x5 x6 x7 => it (s0 x3 x4 x5 x6 x7) k) (fun y1 => k (o0 x3 y1)) x4 x5 x6 x7 := by kernel_rfl
theorem i0 (K : Res → Option Res) (k : St → Option Res) (x3 : List (List Cl)) : ∀ (n : Nat) (x4 x5 : Int) (x6 : Bool) (x7 : Int), iter (X K) 0 b0 n (s0 x3 x4 x5 x6 x7) k = l0 x3 (fun y1 => k (o0 x3 y1)) n x4 x5 x6 x7
 | 0, _, _, _, _ => rfl
 | n + 1, x4, x5, x6, x7 => by
  rw [iter_succ, t0, show (fun x4 x5 x6 x7 => iter (X K) 0 b0 n (s0 x3 x4 x5 x6 x7) k) = (fun x4 x5 x6 x7 => l0 x3 (fun y1 => k (o0 x3 y1)) n x4 x5 x6 x7) from funext fun x4 => funext fun x5 => funext fun x6 => funext fun x7 => i0 K k x3 n x4 x5 x6 x7]; rfl
theorem v0 {K : Res → Option Res} {l : List Lf} {k : St → Option Res} {r : Res} (h : p0 K l k = some r) : ∃ x3 x4 x5 x6 x7, l = [.q (.cells x3), .i x4, .i x5, .b x6, .i x7] ∧ l0 x3 (fun y1 => k (o0 x3 y1)) fuel x4 x5 x6 x7 = some r := by
 unfold p0 at h; split at h
 ·exact ⟨_, _, _, _, _, rfl, h⟩
 ·cases h
theorem w0 (K : Res → Option Res) : LpSound Go.Proofs.Try.prog (X K) 0 b0 := lp_ok ((cx K).ok laid) (by rw [show loopsOf b0 = [] from by kernel_rfl]; intro p hp; cases hp) rfl fun p hp hid => by
 rcases List.mem_cons.1 hp with rfl | hp
 ·intro st k r h1 h2; obtain ⟨x3, x4, x5, x6, x7, e, h⟩ := v0 (K := K) h2; have := St.like_eq (y := s0 x3 x4 x5 x6 x7) h1 (by kernel_rfl) e; subst this; exact ⟨fuel, (i0 K k x3 fuel x4 x5 x6 x7).trans h⟩
 cases hp
theorem tie (K : Res → Option Res) (a1 : List (List Cl)) (a2 : Int) : exec (X K) c (entry 58 [one (.tr 0 1 [.int .i64, .int .i64, .int .i64, .int .i64, .int .i64, .ints .i64] (.cells a1)), one (.int .i64 a2)] [] []) (endK (X K)) = g a1 a2 (fun r1 => K (m r1)) := Eq.trans (b := b a1 a2 (fun r1 => K (m r1))) (by kernel_rfl) (by rw [e])
theorem runv {l : List Lf} {K : Res → Option Res} {r : Res} (h : run l K = some r) : ∃ a1 a2, l = [.q (.cells a1), .i a2] ∧ g a1 a2 (fun r1 => K (m r1)) = some r := by
 unfold run at h; split at h
 ·exact ⟨_, _, rfl, h⟩
 ·cases h
theorem ok : Con Go.Proofs.Try.prog con := con_of (fn := Go.Proofs.Try.f31) (c := c) (Fi := fi) (X := X) (fun_of laid (by kernel_rfl) (by kernel_rfl) (by kernel_rfl) rfl (by kernel_rfl) (by kernel_rfl) cx (fun _ => rfl) (fun _ => rfl) (fun K => by
 rw [show loopsOf c = [(0, b0)] from by kernel_rfl]; intro p hp
 rcases List.mem_cons.1 hp with rfl | hp
 ·exact w0 K
 cases hp)) fun xs rows boxes K r hl hr => by
 obtain ⟨a1, a2, e, h⟩ := runv hr
 have := St.like_eq (y := a a1 a2) hl (by kernel_rfl) e
 obtain ⟨rfl, rfl, rfl⟩ := argSt_inj this
 exact (tie K a1 a2).trans h
end impl_spanAt
namespace impl_Spans
noncomputable def c : Code := bodyOf Go.Proofs.Try.f10
noncomputable def fi : Fin := ⟨Γ0, [(.tmp 2, 24)], [[1]], [], [], []⟩
noncomputable def m (r1 : List (List Cl)) : Res := ⟨[⟨false, [.ow 1000]⟩], [], [⟨[.int .i64, .int .i64], .cells r1, true, 0, none⟩], [], []⟩
noncomputable def b0 : Code := codeAt c [1, 1, 1, 0, 1, 0, 0]
noncomputable def s0 (x3 : List (List Cl)) (x4 : Int) (x5 : List (List Cl)) : St := ⟨mkT 29 [(0, one (.tr 0 1 [.int .i64, .int .i64, .int .i64, .int .i64, .int .i64, .ints .i64] (.cells x3))), (3, one (.ow 7152)), (4, one (.int .i64 x4))], [(7152, ⟨[.int .i64, .int .i64], .cells x5, true, 0, none⟩)], []⟩
noncomputable def l0s (x3 : List (List Cl)) (rec : Int → List (List Cl) → Option Res) (k : List (List Cl) → Option Res) (x4 : Int) (x5 : List (List Cl)) : Option Res :=
 bif decide (x4 < (x3.length : Int)) then (impl_spanAt.g x3 x4 fun r6 =>
  bif (r6 == x4) then rec (IntKind.i64.wrap (x4 + 1)) x5
  else bif decide ((x5.length + 1) * 16 ≤ 140737488355328) then rec r6 (x5 ++ ([[.i x4, .i r6]] : List (List Cl)))
  else none)
 else k x5
noncomputable def l0 (x3 : List (List Cl)) (k : List (List Cl) → Option Res) : Nat → Int → List (List Cl) → Option Res
 | 0, _, _ => none
 | n + 1, x4, x5 => l0s x3 (fun x4 x5 => l0 x3 k n x4 x5) k x4 x5
noncomputable def o0 (x3 y1 : List (List Cl)) : St := ⟨mkT 29 [(3, one (.ow 7152))], [(7152, ⟨[.int .i64, .int .i64], .cells y1, true, 0, none⟩)], []⟩
noncomputable def p0 (K : Res → Option Res) : List Lf → (St → Option Res) → Option Res
 | [.q (.cells x3), .i x4, .q (.cells x5)], k => l0 x3 (fun y1 => k (o0 x3 y1)) fuel x4 x5
 | _, _ => none
noncomputable def os : List (FuncId × St × (List Lf → (Res → Option Res) → Option Res)) := [impl_CodeOk.con, impl_spanAt.con]
noncomputable def X (K : Res → Option Res) : Ctx := { Γ := Γ0, orc := orcOf os, io := [], share := [], opn := [], shr := [], bun := [], cut := [], own := [(3, 0, 0, [.int .i64, .int .i64])], cin := [(0, ⟨[0, 3, 4], [(7152, 7152), (19512, 7152)], [], [], [], []⟩)], cout := [(0, ⟨[3], [(7152, 7152)], [], [], [], []⟩)], lp := lpOf [(0, s0 [] 0 [], p0 K)], kl := Env.kl, nk := true, eqs := eqs0, byt := byt0, fin := finK fi K }
noncomputable def b (a1 : List (List Cl)) (R : List (List Cl) → Option Res) : Option Res :=
 impl_CodeOk.g a1 fun r2 =>
 bif !r2 then R ([] : List (List Cl))
 else (l0 a1 (fun y7 =>
 R y7) fuel 0 ([] : List (List Cl)))
theorem gx : ∃ x : List (List Cl) → (List (List Cl) → Option Res) → Option Res, x = b := ⟨_, rfl⟩
noncomputable def g : List (List Cl) → (List (List Cl) → Option Res) → Option Res := Classical.choose gx
theorem e : g = b := Classical.choose_spec gx
noncomputable def run : List Lf → (Res → Option Res) → Option Res
 | [.q (.cells a1)], K => g a1 (fun r1 => K (m r1))
 | _, _ => none
noncomputable def a (a1 : List (List Cl)) : St := argSt [one (.tr 0 1 [.int .i64, .int .i64, .int .i64, .int .i64, .int .i64, .ints .i64] (.cells a1))] [] []
noncomputable def con : FuncId × St × (List Lf → (Res → Option Res) → Option Res) := (10, a [], run)
theorem cx (K : Res → Option Res) : CtxOk Go.Proofs.Try.prog Γ0 byt0 eqs0 (X K) os := ⟨rfl, rfl, rfl, (fun p hp => by
 rcases List.mem_cons.1 hp with rfl | hp
 ·exact impl_CodeOk.ok
 rcases List.mem_cons.1 hp with rfl | hp
 ·exact impl_spanAt.ok
 cases hp), rfl, rfl, rfl⟩
theorem t0 (K : Res → Option Res) (k : St → Option Res) (it : St → (St → Option Res) → Option Res) (x3 : List (List Cl)) (x4 : Int) (x5 : List (List Cl)) : iterS (X K) 0 b0 it (s0 x3 x4 x5) k = l0s x3 (fun x4 x5 => it (s0 x3 x4 x5) k) (fun y1 => k (o0 x3 y1)) x4 x5 := by kernel_rfl
theorem i0 (K : Res → Option Res) (k : St → Option Res) (x3 : List (List Cl)) : ∀ (n : Nat) (x4 : Int) (x5 : List (List Cl)), iter (X K) 0 b0 n (s0 x3 x4 x5) k = l0 x3 (fun y1 => k (o0 x3 y1)) n x4 x5
 | 0, _, _ => rfl
 | n + 1, x4, x5 => by
  rw [iter_succ, t0, show (fun x4 x5 => iter (X K) 0 b0 n (s0 x3 x4 x5) k) = (fun x4 x5 => l0 x3 (fun y1 => k (o0 x3 y1)) n x4 x5) from funext fun x4 => funext fun x5 => i0 K k x3 n x4 x5]; rfl
theorem v0 {K : Res → Option Res} {l : List Lf} {k : St → Option Res} {r : Res} (h : p0 K l k = some r) : ∃ x3 x4 x5, l = [.q (.cells x3), .i x4, .q (.cells x5)] ∧ l0 x3 (fun y1 => k (o0 x3 y1)) fuel x4 x5 = some r := by
 unfold p0 at h; split at h
 ·exact ⟨_, _, _, rfl, h⟩
 ·cases h
theorem w0 (K : Res → Option Res) : LpSound Go.Proofs.Try.prog (X K) 0 b0 := lp_ok ((cx K).ok laid) (by rw [show loopsOf b0 = [] from by kernel_rfl]; intro p hp; cases hp) rfl fun p hp hid => by
 rcases List.mem_cons.1 hp with rfl | hp
 ·intro st k r h1 h2; obtain ⟨x3, x4, x5, e, h⟩ := v0 (K := K) h2; have := St.like_eq (y := s0 x3 x4 x5) h1 (by kernel_rfl) e; subst this; exact ⟨fuel, (i0 K k x3 fuel x4 x5).trans h⟩
 cases hp
theorem tie (K : Res → Option Res) (a1 : List (List Cl)) : exec (X K) c (entry 29 [one (.tr 0 1 [.int .i64, .int .i64, .int .i64, .int .i64, .int .i64, .ints .i64] (.cells a1))] [] []) (endK (X K)) = g a1 (fun r1 => K (m r1)) := Eq.trans (b := b a1 (fun r1 => K (m r1))) (by kernel_rfl) (by rw [e])
theorem runv {l : List Lf} {K : Res → Option Res} {r : Res} (h : run l K = some r) : ∃ a1, l = [.q (.cells a1)] ∧ g a1 (fun r1 => K (m r1)) = some r := by
 unfold run at h; split at h
 ·exact ⟨_, rfl, h⟩
 ·cases h
theorem ok : Con Go.Proofs.Try.prog con := con_of (fn := Go.Proofs.Try.f10) (c := c) (Fi := fi) (X := X) (fun_of laid (by kernel_rfl) (by kernel_rfl) (by kernel_rfl) rfl (by kernel_rfl) (by kernel_rfl) cx (fun _ => rfl) (fun _ => rfl) (fun K => by
 rw [show loopsOf c = [(0, b0)] from by kernel_rfl]; intro p hp
 rcases List.mem_cons.1 hp with rfl | hp
 ·exact w0 K
 cases hp)) fun xs rows boxes K r hl hr => by
 obtain ⟨a1, e, h⟩ := runv hr
 have := St.like_eq (y := a a1) hl (by kernel_rfl) e
 obtain ⟨rfl, rfl, rfl⟩ := argSt_inj this
 exact (tie K a1).trans h
end impl_Spans
namespace spec_l9DrawRight
noncomputable def c : Code := bodyOf Go.Proofs.Try.f103
noncomputable def fi : Fin := ⟨Γ0, [(.cell 2 53, 53)], [[9]], [], [([.sl [.int .u8] 1, .int .i64, .int .i64], [0, 1, 1])], []⟩
noncomputable def m (r1 : List (List Cl)) (r2 : List Int) (r3 r4 : Int) : Res := ⟨[⟨true, [.ow 1000]⟩], [], [⟨[.int .i64, .int .i64, .int .i64, .int .i64, .int .i64, .int .i64, .ints .i64], .cells r1, false, 0, none⟩], [[.tr 2 2 [.int .u8] (.ints r2), .int .i64 r3, .int .i64 r4]], []⟩
noncomputable def b0 : Code := codeAt c [1, 0, 1, 0, 0]
noncomputable def s0 (x4 : Int) (x5 : List Int) (x6 x7 : Int) : St := ⟨mkT 32 [(0, one (.bp 0 0)), (2, one (.bp 1000 0)), (3, one (.int .i64 x4))], [], [(0, [.tr 2 2 [.int .u8] (.ints x5), .int .i64 x6, .int .i64 x7]), (1000, [.nil])]⟩
noncomputable def l0s  (rec : Int → List Int → Int → Int → Option Res) (k : List Int → Int → Int → Option Res) (R : List (List Cl) → List Int → Int → Int → Option Res) (x4 : Int) (x5 : List Int) (x6 x7 : Int) : Option Res :=
 bif decide (x4 < 6) then (spec_l8DrawLine.G 5 x5 x6 x7 fun r8 r9 r10 r11 =>
  spec_Lex.g r8 fun r12 r13 r14 =>
  spec_Parse.g r12 fun r15 r16 =>
  bif (r16 == 0) then R r15 r9 r10 r11
  else rec (IntKind.i64.wrap (x4 + 1)) r9 r10 r11)
 else k x5 x6 x7
noncomputable def l0  (k : List Int → Int → Int → Option Res) (R : List (List Cl) → List Int → Int → Int → Option Res) : Nat → Int → List Int → Int → Int → Option Res
 | 0, _, _, _, _ => none
 | n + 1, x4, x5, x6, x7 => l0s (fun x4 x5 x6 x7 => l0 k R n x4 x5 x6 x7) k R x4 x5 x6 x7
noncomputable def o0 (y1 : List Int) (y2 y3 : Int) : St := ⟨mkT 32 [(2, one (.bp 1000 0))], [], [(1000, [.nil]), (0, [.tr 2 2 [.int .u8] (.ints y1), .int .i64 y2, .int .i64 y3])]⟩
noncomputable def p0 (K : Res → Option Res) : List Lf → (St → Option Res) → Option Res
 | [.i x4, .q (.ints x5), .i x6, .i x7], k => l0 (fun y1 y2 y3 => k (o0 y1 y2 y3)) (fun r1 r2 r3 r4 => K (m r1 r2 r3 r4)) fuel x4 x5 x6 x7
 | _, _ => none
noncomputable def os : List (FuncId × St × (List Lf → (Res → Option Res) → Option Res)) := [spec_l8DrawLine.con, spec_Lex.con, spec_Parse.con]
noncomputable def X (K : Res → Option Res) : Ctx := { Γ := Γ0, orc := orcOf os, io := [(46, [⟨false, 2, 2⟩])], share := [], opn := [], shr := [], bun := [], cut := [], own := [], cin := [(0, ⟨[0, 2, 3], [], [0, 1000], [], [], []⟩)], cout := [(0, ⟨[2], [], [1000, 0], [], [], []⟩)], lp := lpOf [(0, s0 0 [] 0 0, p0 K)], kl := Env.kl, nk := true, eqs := eqs0, byt := byt0, fin := finK fi K }
noncomputable def b (a1 : List Int) (a2 a3 : Int) (R : List (List Cl) → List Int → Int → Int → Option Res) : Option Res :=
 l0 (fun y17 y18 y19 =>
 R ([[.i 1, .i 0, .i 0, .i 0, .i 0, .i 0, .l ([1, 2] : List Int)]] : List (List Cl)) y17 y18 y19) R fuel 0 a1 a2 a3
theorem gx : ∃ x : List Int → Int → Int → (List (List Cl) → List Int → Int → Int → Option Res) → Option Res, x = b := ⟨_, rfl⟩
noncomputable def g : List Int → Int → Int → (List (List Cl) → List Int → Int → Int → Option Res) → Option Res := Classical.choose gx
theorem e : g = b := Classical.choose_spec gx
noncomputable def run : List Lf → (Res → Option Res) → Option Res
 | [.q (.ints a1), .i a2, .i a3], K => g a1 a2 a3 (fun r1 r2 r3 r4 => K (m r1 r2 r3 r4))
 | _, _ => none
noncomputable def a (a1 : List Int) (a2 a3 : Int) : St := argSt [one (.bp 0 0)] [] [[.tr 2 2 [.int .u8] (.ints a1), .int .i64 a2, .int .i64 a3]]
noncomputable def con : FuncId × St × (List Lf → (Res → Option Res) → Option Res) := (103, a [] 0 0, run)
theorem cx (K : Res → Option Res) : CtxOk Go.Proofs.Try.prog Γ0 byt0 eqs0 (X K) os := ⟨rfl, rfl, rfl, (fun p hp => by
 rcases List.mem_cons.1 hp with rfl | hp
 ·exact spec_l8DrawLine.okG
 rcases List.mem_cons.1 hp with rfl | hp
 ·exact spec_Lex.ok
 rcases List.mem_cons.1 hp with rfl | hp
 ·exact spec_Parse.ok
 cases hp), rfl, rfl, rfl⟩
theorem t0 (K : Res → Option Res) (k : St → Option Res) (it : St → (St → Option Res) → Option Res) (x4 : Int) (x5 : List Int) (x6 x7 : Int) : iterS (X K) 0 b0 it (s0 x4 x5 x6 x7) k = l0s (fun x4 x5 x6 x7 => it (s0 x4 x5 x6 x7) k) (fun y1 y2 y3 => k (o0 y1 y2 y3)) (fun r1 r2 r3 r4 => K (m r1 r2 r3 r4)) x4 x5 x6 x7 := by kernel_rfl
theorem i0 (K : Res → Option Res) (k : St → Option Res)  : ∀ (n : Nat) (x4 : Int) (x5 : List Int) (x6 x7 : Int), iter (X K) 0 b0 n (s0 x4 x5 x6 x7) k = l0 (fun y1 y2 y3 => k (o0 y1 y2 y3)) (fun r1 r2 r3 r4 => K (m r1 r2 r3 r4)) n x4 x5 x6 x7
 | 0, _, _, _, _ => rfl
 | n + 1, x4, x5, x6, x7 => by
  rw [iter_succ, t0, show (fun x4 x5 x6 x7 => iter (X K) 0 b0 n (s0 x4 x5 x6 x7) k) = (fun x4 x5 x6 x7 => l0 (fun y1 y2 y3 => k (o0 y1 y2 y3)) (fun r1 r2 r3 r4 => K (m r1 r2 r3 r4)) n x4 x5 x6 x7) from funext fun x4 => funext fun x5 => funext fun x6 => funext fun x7 => i0 K k n x4 x5 x6 x7]; rfl
theorem v0 {K : Res → Option Res} {l : List Lf} {k : St → Option Res} {r : Res} (h : p0 K l k = some r) : ∃ x4 x5 x6 x7, l = [.i x4, .q (.ints x5), .i x6, .i x7] ∧ l0 (fun y1 y2 y3 => k (o0 y1 y2 y3)) (fun r1 r2 r3 r4 => K (m r1 r2 r3 r4)) fuel x4 x5 x6 x7 = some r := by
 unfold p0 at h; split at h
 ·exact ⟨_, _, _, _, rfl, h⟩
 ·cases h
theorem w0 (K : Res → Option Res) : LpSound Go.Proofs.Try.prog (X K) 0 b0 := lp_ok ((cx K).ok laid) (by rw [show loopsOf b0 = [] from by kernel_rfl]; intro p hp; cases hp) rfl fun p hp hid => by
 rcases List.mem_cons.1 hp with rfl | hp
 ·intro st k r h1 h2; obtain ⟨x4, x5, x6, x7, e, h⟩ := v0 (K := K) h2; have := St.like_eq (y := s0 x4 x5 x6 x7) h1 (by kernel_rfl) e; subst this; exact ⟨fuel, (i0 K k fuel x4 x5 x6 x7).trans h⟩
 cases hp
theorem tie (K : Res → Option Res) (a1 : List Int) (a2 a3 : Int) : exec (X K) c (entry 32 [one (.bp 0 0)] [] [[.tr 2 2 [.int .u8] (.ints a1), .int .i64 a2, .int .i64 a3]]) (endK (X K)) = g a1 a2 a3 (fun r1 r2 r3 r4 => K (m r1 r2 r3 r4)) := Eq.trans (b := b a1 a2 a3 (fun r1 r2 r3 r4 => K (m r1 r2 r3 r4))) (by kernel_rfl) (by rw [e])
theorem runv {l : List Lf} {K : Res → Option Res} {r : Res} (h : run l K = some r) : ∃ a1 a2 a3, l = [.q (.ints a1), .i a2, .i a3] ∧ g a1 a2 a3 (fun r1 r2 r3 r4 => K (m r1 r2 r3 r4)) = some r := by
 unfold run at h; split at h
 ·exact ⟨_, _, _, rfl, h⟩
 ·cases h
theorem ok : Con Go.Proofs.Try.prog con := con_of (fn := Go.Proofs.Try.f103) (c := c) (Fi := fi) (X := X) (fun_of laid (by kernel_rfl) (by kernel_rfl) (by kernel_rfl) rfl (by kernel_rfl) (by kernel_rfl) cx (fun _ => rfl) (fun _ => rfl) (fun K => by
 rw [show loopsOf c = [(0, b0)] from by kernel_rfl]; intro p hp
 rcases List.mem_cons.1 hp with rfl | hp
 ·exact w0 K
 cases hp)) fun xs rows boxes K r hl hr => by
 obtain ⟨a1, a2, a3, e, h⟩ := runv hr
 have := St.like_eq (y := a a1 a2 a3) hl (by kernel_rfl) e
 obtain ⟨rfl, rfl, rfl⟩ := argSt_inj this
 exact (tie K a1 a2 a3).trans h
end spec_l9DrawRight
namespace spec_l11DrawRight
noncomputable def c : Code := bodyOf Go.Proofs.Try.f64
noncomputable def fi : Fin := ⟨Γ0, [(.tmp 2, 26)], [[1]], [], [([.sl [.int .u8] 1, .int .i64, .int .i64], [0, 1, 1])], []⟩
noncomputable def m (r1 : List (List Cl)) (r2 : List Int) (r3 r4 : Int) : Res := ⟨[⟨false, [.ow 1000]⟩], [], [⟨[.int .i64, .int .i64, .int .i64, .int .i64, .int .i64, .ints .i64], .cells r1, true, 0, none⟩], [[.tr 2 2 [.int .u8] (.ints r2), .int .i64 r3, .int .i64 r4]], []⟩
noncomputable def os : List (FuncId × St × (List Lf → (Res → Option Res) → Option Res)) := [spec_l9DrawRight.con, spec_Compile.con]
noncomputable def X (K : Res → Option Res) : Ctx := { Γ := Γ0, orc := orcOf os, io := [], share := [], opn := [], shr := [], bun := [], cut := [], own := [], cin := [], cout := [], lp := lpOf [], kl := Env.kl, nk := true, eqs := eqs0, byt := byt0, fin := finK fi K }
noncomputable def b (a1 : List Int) (a2 a3 : Int) (R : List (List Cl) → List Int → Int → Int → Option Res) : Option Res :=
 spec_l9DrawRight.g a1 a2 a3 fun r4 r5 r6 r7 =>
 spec_Compile.g r4 fun r8 r9 =>
 R r8 r5 r6 r7
theorem gx : ∃ x : List Int → Int → Int → (List (List Cl) → List Int → Int → Int → Option Res) → Option Res, x = b := ⟨_, rfl⟩
noncomputable def g : List Int → Int → Int → (List (List Cl) → List Int → Int → Int → Option Res) → Option Res := Classical.choose gx
theorem e : g = b := Classical.choose_spec gx
noncomputable def run : List Lf → (Res → Option Res) → Option Res
 | [.q (.ints a1), .i a2, .i a3], K => g a1 a2 a3 (fun r1 r2 r3 r4 => K (m r1 r2 r3 r4))
 | _, _ => none
noncomputable def a (a1 : List Int) (a2 a3 : Int) : St := argSt [one (.bp 0 0)] [] [[.tr 2 2 [.int .u8] (.ints a1), .int .i64 a2, .int .i64 a3]]
noncomputable def con : FuncId × St × (List Lf → (Res → Option Res) → Option Res) := (64, a [] 0 0, run)
theorem cx (K : Res → Option Res) : CtxOk Go.Proofs.Try.prog Γ0 byt0 eqs0 (X K) os := ⟨rfl, rfl, rfl, (fun p hp => by
 rcases List.mem_cons.1 hp with rfl | hp
 ·exact spec_l9DrawRight.ok
 rcases List.mem_cons.1 hp with rfl | hp
 ·exact spec_Compile.ok
 cases hp), rfl, rfl, rfl⟩
theorem tie (K : Res → Option Res) (a1 : List Int) (a2 a3 : Int) : exec (X K) c (entry 12 [one (.bp 0 0)] [] [[.tr 2 2 [.int .u8] (.ints a1), .int .i64 a2, .int .i64 a3]]) (endK (X K)) = g a1 a2 a3 (fun r1 r2 r3 r4 => K (m r1 r2 r3 r4)) := Eq.trans (b := b a1 a2 a3 (fun r1 r2 r3 r4 => K (m r1 r2 r3 r4))) (by kernel_rfl) (by rw [e])
theorem runv {l : List Lf} {K : Res → Option Res} {r : Res} (h : run l K = some r) : ∃ a1 a2 a3, l = [.q (.ints a1), .i a2, .i a3] ∧ g a1 a2 a3 (fun r1 r2 r3 r4 => K (m r1 r2 r3 r4)) = some r := by
 unfold run at h; split at h
 ·exact ⟨_, _, _, rfl, h⟩
 ·cases h
theorem ok : Con Go.Proofs.Try.prog con := con_of (fn := Go.Proofs.Try.f64) (c := c) (Fi := fi) (X := X) (fun_of laid (by kernel_rfl) (by kernel_rfl) (by kernel_rfl) rfl (by kernel_rfl) (by kernel_rfl) cx (fun _ => rfl) (fun _ => rfl) (fun K => by
 rw [show loopsOf c = [] from by kernel_rfl]; intro p hp
 cases hp)) fun xs rows boxes K r hl hr => by
 obtain ⟨a1, a2, a3, e, h⟩ := runv hr
 have := St.like_eq (y := a a1 a2 a3) hl (by kernel_rfl) e
 obtain ⟨rfl, rfl, rfl⟩ := argSt_inj this
 exact (tie K a1 a2 a3).trans h
end spec_l11DrawRight
namespace spec_l9DrawFun
noncomputable def c : Code := bodyOf Go.Proofs.Try.f66
noncomputable def fi : Fin := ⟨Γ0, [(.cell 2 40, 40)], [[1, 1, 1]], [], [([.sl [.int .u8] 1, .int .i64, .int .i64], [0, 1, 1])], []⟩
noncomputable def m (a1 : List Int) (r1 r2 r3 r5 r6 : Int) : Res := ⟨[⟨true, [.int .i64 r1, .int .i64 r2, .int .i64 r3]⟩], [], [], [[.tr 2 2 [.int .u8] (.ints a1), .int .i64 r5, .int .i64 r6]], []⟩
noncomputable def os : List (FuncId × St × (List Lf → (Res → Option Res) → Option Res)) := [spec_l1PickInt.con, spec_l1Once.con]
noncomputable def X (K : Res → Option Res) : Ctx := { Γ := Γ0, orc := orcOf os, io := [], share := [], opn := [], shr := [], bun := [], cut := [], own := [], cin := [], cout := [], lp := lpOf [], kl := Env.kl, nk := true, eqs := eqs0, byt := byt0, fin := finK fi K }
noncomputable def b (a1 : List Int) (a2 a3 : Int) (R : Int → Int → Int → Int → Int → Option Res) : Option Res :=
 spec_l1PickInt.g ([43, 45, 42, 37, 124, 38, 126, 105, 35, 44, 116, 100, 114, 122, 64, 63, 103, 36, 101, 111, 47, 0] : List Int) a1 a2 a3 fun r4 r5 r6 =>
 spec_l1Once.g 2 a1 r5 r6 fun r7 r8 r9 =>
 bif r7 then (spec_l1PickInt.g ([47, 92, 111, 46, 120] : List Int) a1 r8 r9 fun r10 r11 r12 =>
  bif (r10 == 46) then (spec_l1PickInt.g ([43, 42, 105, 0] : List Int) a1 r11 r12 fun r13 r14 r15 =>
   R r4 r10 r13 r14 r15)
  else (spec_l1Once.g 15 a1 r11 r12 fun r16 r17 r18 =>
  bif r16 then (spec_l1PickInt.g ([43, 42, 105, 0] : List Int) a1 r17 r18 fun r19 r20 r21 =>
   R r4 r10 r19 r20 r21)
  else R r4 r10 0 r17 r18))
 else (spec_l1Once.g 15 a1 r8 r9 fun r22 r23 r24 =>
 bif r22 then (spec_l1PickInt.g ([43, 42, 105, 0] : List Int) a1 r23 r24 fun r25 r26 r27 =>
  R r4 0 r25 r26 r27)
 else R r4 0 0 r23 r24)
theorem gx : ∃ x : List Int → Int → Int → (Int → Int → Int → Int → Int → Option Res) → Option Res, x = b := ⟨_, rfl⟩
noncomputable def g : List Int → Int → Int → (Int → Int → Int → Int → Int → Option Res) → Option Res := Classical.choose gx
theorem e : g = b := Classical.choose_spec gx
noncomputable def run : List Lf → (Res → Option Res) → Option Res
 | [.q (.ints a1), .i a2, .i a3], K => g a1 a2 a3 (fun r1 r2 r3 r5 r6 => K (m a1 r1 r2 r3 r5 r6))
 | _, _ => none
noncomputable def a (a1 : List Int) (a2 a3 : Int) : St := argSt [one (.bp 0 0)] [] [[.tr 2 2 [.int .u8] (.ints a1), .int .i64 a2, .int .i64 a3]]
noncomputable def con : FuncId × St × (List Lf → (Res → Option Res) → Option Res) := (66, a [] 0 0, run)
theorem cx (K : Res → Option Res) : CtxOk Go.Proofs.Try.prog Γ0 byt0 eqs0 (X K) os := ⟨rfl, rfl, rfl, (fun p hp => by
 rcases List.mem_cons.1 hp with rfl | hp
 ·exact spec_l1PickInt.ok
 rcases List.mem_cons.1 hp with rfl | hp
 ·exact spec_l1Once.ok
 cases hp), rfl, rfl, rfl⟩
theorem tie (K : Res → Option Res) (a1 : List Int) (a2 a3 : Int) : exec (X K) c (entry 26 [one (.bp 0 0)] [] [[.tr 2 2 [.int .u8] (.ints a1), .int .i64 a2, .int .i64 a3]]) (endK (X K)) = g a1 a2 a3 (fun r1 r2 r3 r5 r6 => K (m a1 r1 r2 r3 r5 r6)) := Eq.trans (b := b a1 a2 a3 (fun r1 r2 r3 r5 r6 => K (m a1 r1 r2 r3 r5 r6))) (by kernel_rfl) (by rw [e])
theorem runv {l : List Lf} {K : Res → Option Res} {r : Res} (h : run l K = some r) : ∃ a1 a2 a3, l = [.q (.ints a1), .i a2, .i a3] ∧ g a1 a2 a3 (fun r1 r2 r3 r5 r6 => K (m a1 r1 r2 r3 r5 r6)) = some r := by
 unfold run at h; split at h
 ·exact ⟨_, _, _, rfl, h⟩
 ·cases h
theorem ok : Con Go.Proofs.Try.prog con := con_of (fn := Go.Proofs.Try.f66) (c := c) (Fi := fi) (X := X) (fun_of laid (by kernel_rfl) (by kernel_rfl) (by kernel_rfl) rfl (by kernel_rfl) (by kernel_rfl) cx (fun _ => rfl) (fun _ => rfl) (fun K => by
 rw [show loopsOf c = [] from by kernel_rfl]; intro p hp
 cases hp)) fun xs rows boxes K r hl hr => by
 obtain ⟨a1, a2, a3, e, h⟩ := runv hr
 have := St.like_eq (y := a a1 a2 a3) hl (by kernel_rfl) e
 obtain ⟨rfl, rfl, rfl⟩ := argSt_inj this
 exact (tie K a1 a2 a3).trans h
end spec_l9DrawFun
namespace spec_l1DrawRaw
noncomputable def c : Code := bodyOf Go.Proofs.Try.f67
noncomputable def fi : Fin := ⟨Γ0, [(.tmp 2, 3)], [[1]], [], [([.sl [.int .u8] 1, .int .i64, .int .i64], [0, 1, 1])], []⟩
noncomputable def m (a1 : List Int) (r1 r3 r4 : Int) : Res := ⟨[⟨false, [.int .i64 r1]⟩], [], [], [[.tr 2 2 [.int .u8] (.ints a1), .int .i64 r3, .int .i64 r4]], []⟩
noncomputable def os : List (FuncId × St × (List Lf → (Res → Option Res) → Option Res)) := [spec_l1Once.con, spec_l1PickInt.con, spec_l1DrawNum.con]
noncomputable def X (K : Res → Option Res) : Ctx := { Γ := Γ0, orc := orcOf os, io := [], share := [], opn := [], shr := [], bun := [], cut := [], own := [], cin := [], cout := [], lp := lpOf [], kl := Env.kl, nk := true, eqs := eqs0, byt := byt0, fin := finK fi K }
noncomputable def b (a1 : List Int) (a2 a3 : Int) (R : Int → Int → Int → Option Res) : Option Res :=
 spec_l1Once.g 15 a1 a2 a3 fun r4 r5 r6 =>
 bif r4 then (spec_l1PickInt.g ([1000000000001, (-1000000000001), 9223372036854775807, (-9223372036854775808)] : List Int) a1 r5 r6 fun r7 r8 r9 =>
  R r7 r8 r9)
 else (spec_l1DrawNum.g a1 r5 r6 fun r10 r11 r12 =>
 R r10 r11 r12)
theorem gx : ∃ x : List Int → Int → Int → (Int → Int → Int → Option Res) → Option Res, x = b := ⟨_, rfl⟩
noncomputable def g : List Int → Int → Int → (Int → Int → Int → Option Res) → Option Res := Classical.choose gx
theorem e : g = b := Classical.choose_spec gx
noncomputable def run : List Lf → (Res → Option Res) → Option Res
 | [.q (.ints a1), .i a2, .i a3], K => g a1 a2 a3 (fun r1 r3 r4 => K (m a1 r1 r3 r4))
 | _, _ => none
noncomputable def a (a1 : List Int) (a2 a3 : Int) : St := argSt [one (.bp 0 0)] [] [[.tr 2 2 [.int .u8] (.ints a1), .int .i64 a2, .int .i64 a3]]
noncomputable def con : FuncId × St × (List Lf → (Res → Option Res) → Option Res) := (67, a [] 0 0, run)
theorem cx (K : Res → Option Res) : CtxOk Go.Proofs.Try.prog Γ0 byt0 eqs0 (X K) os := ⟨rfl, rfl, rfl, (fun p hp => by
 rcases List.mem_cons.1 hp with rfl | hp
 ·exact spec_l1Once.ok
 rcases List.mem_cons.1 hp with rfl | hp
 ·exact spec_l1PickInt.ok
 rcases List.mem_cons.1 hp with rfl | hp
 ·exact spec_l1DrawNum.ok
 cases hp), rfl, rfl, rfl⟩
theorem tie (K : Res → Option Res) (a1 : List Int) (a2 a3 : Int) : exec (X K) c (entry 10 [one (.bp 0 0)] [] [[.tr 2 2 [.int .u8] (.ints a1), .int .i64 a2, .int .i64 a3]]) (endK (X K)) = g a1 a2 a3 (fun r1 r3 r4 => K (m a1 r1 r3 r4)) := Eq.trans (b := b a1 a2 a3 (fun r1 r3 r4 => K (m a1 r1 r3 r4))) (by kernel_rfl) (by rw [e])
theorem runv {l : List Lf} {K : Res → Option Res} {r : Res} (h : run l K = some r) : ∃ a1 a2 a3, l = [.q (.ints a1), .i a2, .i a3] ∧ g a1 a2 a3 (fun r1 r3 r4 => K (m a1 r1 r3 r4)) = some r := by
 unfold run at h; split at h
 ·exact ⟨_, _, _, rfl, h⟩
 ·cases h
theorem ok : Con Go.Proofs.Try.prog con := con_of (fn := Go.Proofs.Try.f67) (c := c) (Fi := fi) (X := X) (fun_of laid (by kernel_rfl) (by kernel_rfl) (by kernel_rfl) rfl (by kernel_rfl) (by kernel_rfl) cx (fun _ => rfl) (fun _ => rfl) (fun K => by
 rw [show loopsOf c = [] from by kernel_rfl]; intro p hp
 cases hp)) fun xs rows boxes K r hl hr => by
 obtain ⟨a1, a2, a3, e, h⟩ := runv hr
 have := St.like_eq (y := a a1 a2 a3) hl (by kernel_rfl) e
 obtain ⟨rfl, rfl, rfl⟩ := argSt_inj this
 exact (tie K a1 a2 a3).trans h
end spec_l1DrawRaw
namespace spec_l11Draw
noncomputable def c : Code := bodyOf Go.Proofs.Try.f35
noncomputable def fi : Fin := ⟨Γ0, [(.tmp 2, 26)], [[4]], [], [([.sl [.int .u8] 1, .int .i64, .int .i64], [0, 1, 1])], []⟩
noncomputable def m (r1 : List (List Cl)) (r2 : List Int) (r3 r4 : Int) : Res := ⟨[⟨false, [.tr 1 1 [.int .i64, .int .i64, .int .i64, .int .i64, .int .i64, .ints .i64] (.cells r1)]⟩], [], [], [[.tr 2 2 [.int .u8] (.ints r2), .int .i64 r3, .int .i64 r4]], []⟩
noncomputable def b1 : Code := codeAt c [1, 1, 1, 0, 1, 0, 1, 1, 1, 1, 1, 1, 1, 1, 1, 1, 1, 1, 1, 0, 0, 0]
noncomputable def s1 (x28 : List (List Cl)) (x29 : List Int) (x30 x31 : Int) : St := ⟨mkT 81 [(0, one (.bp 0 0)), (3, one (.ow 3065))], [(3065, ⟨[.int .i64, .int .i64, .int .i64, .int .i64, .int .i64, .ints .i64], .cells x28, true, 0, none⟩)], [(0, [.tr 2 2 [.int .u8] (.ints x29), .int .i64 x30, .int .i64 x31])]⟩
noncomputable def l1s (x29 : List Int) (rec : List (List Cl) → Int → Int → Option Res) (k : List (List Cl) → Int → Int → Option Res) (x28 : List (List Cl)) (x30 x31 : Int) : Option Res :=
 spec_l1Below.g 2 x29 x30 x31 fun r32 r33 r34 =>
 bif decide ((x28.length : Int) < IntKind.i64.wrap (60 + r32)) then (bif decide ((x28.length + 1) * 64 ≤ 140737488355328) then rec (x28 ++ ([[.i 4, .i 0, .i 45, .i 0, .i 0, .l ([] : List Int)]] : List (List Cl))) r33 r34
  else none)
 else k x28 r33 r34
noncomputable def l1 (x29 : List Int) (k : List (List Cl) → Int → Int → Option Res) : Nat → List (List Cl) → Int → Int → Option Res
 | 0, _, _, _ => none
 | n + 1, x28, x30, x31 => l1s x29 (fun x28 x30 x31 => l1 x29 k n x28 x30 x31) k x28 x30 x31
noncomputable def o1 (x29 : List Int) (y1 : List (List Cl)) (y3 y4 : Int) : St := ⟨mkT 81 [(3, one (.ow 3065))], [(3065, ⟨[.int .i64, .int .i64, .int .i64, .int .i64, .int .i64, .ints .i64], .cells y1, true, 0, none⟩)], [(0, [.tr 2 2 [.int .u8] (.ints x29), .int .i64 y3, .int .i64 y4])]⟩
noncomputable def p1 (K : Res → Option Res) : List Lf → (St → Option Res) → Option Res
 | [.q (.cells x28), .q (.ints x29), .i x30, .i x31], k => l1 x29 (fun y1 y3 y4 => k (o1 x29 y1 y3 y4)) fuel x28 x30 x31
 | _, _ => none
noncomputable def os : List (FuncId × St × (List Lf → (Res → Option Res) → Option Res)) := [spec_l11DrawRight.con, spec_l1Below.con, spec_l9DrawFun.con, spec_l1DrawRaw.con]
noncomputable def X (K : Res → Option Res) : Ctx := { Γ := Γ0, orc := orcOf os, io := [], share := [], opn := [(15, 3, 4, 5)], shr := [(13, 3)], bun := [], cut := [], own := [], cin := [(1, ⟨[0, 3], [(3065, 3065), (37928, 3065)], [0], [], [], []⟩)], cout := [(1, ⟨[3], [(3065, 3065)], [0], [], [], []⟩)], lp := lpOf [(1, s1 [] [] 0 0, p1 K)], kl := Env.kl, nk := false, eqs := eqs0, byt := byt0, fin := finK fi K }
noncomputable def b (a1 : List Int) (a2 a3 : Int) (R : List (List Cl) → List Int → Int → Int → Option Res) : Option Res :=
 spec_l11DrawRight.g a1 a2 a3 fun r4 r5 r6 r7 =>
 spec_l1Below.g (r4.length : Int) r5 r6 r7 fun r8 r9 r10 =>
 spec_l1Below.g 20 r5 r9 r10 fun r11 r12 r13 =>
 bif (r11 == 0) then (spec_l1Below.g 7 r5 r12 r13 fun r14 r15 r16 =>
  bif decide (0 ≤ r8) && decide (r8 < (r4.length : Int)) then R (r4.set r8.toNat (splice (r4.getD r8.toNat []) 0 [.i r14])) r5 r15 r16
  else none)
 else bif (r11 == 1) then (spec_l1Below.g 28 r5 r12 r13 fun r17 r18 r19 =>
  bif decide (0 ≤ r8) && decide (r8 < (r4.length : Int)) then R (r4.set r8.toNat (splice (r4.getD r8.toNat []) 1 [.i (IntKind.i64.wrap (r17 - 1))])) r5 r18 r19
  else none)
 else bif (r11 == 2) then (spec_l9DrawFun.g r5 r12 r13 fun r20 r21 r22 r23 r24 =>
  bif decide (0 ≤ r8) && decide (r8 < (r4.length : Int)) then R (r4.set r8.toNat (splice (r4.getD r8.toNat []) 2 [.i r20, .i r21, .i r22])) r5 r23 r24
  else none)
 else bif (r11 == 3) then (bif decide (0 ≤ r8) && decide (r8 ≤ (r4.length : Int)) then R (r4.take r8.toNat) r5 r12 r13
  else none)
 else bif (r11 == 4) then (bif decide (0 ≤ r8) && decide (r8 < (r4.length : Int)) then (bif decide ((r4.length + 1) * 64 ≤ 140737488355328) then R (r4 ++ ([[.i (((r4.getD r8.toNat []).getD 0 (.i 0)).toI), .i (((r4.getD r8.toNat []).getD 1 (.i 0)).toI), .i (((r4.getD r8.toNat []).getD 2 (.i 0)).toI), .i (((r4.getD r8.toNat []).getD 3 (.i 0)).toI), .i (((r4.getD r8.toNat []).getD 4 (.i 0)).toI), .l (((r4.getD r8.toNat []).getD 5 (.i 0)).toL)]] : List (List Cl))) r5 r12 r13
  else none)
  else none)
 else bif (r11 == 5) then (bif decide (0 ≤ r8) && decide (r8 < (r4.length : Int)) then (bif decide (0 ≤ r8) && decide (r8 < (r4.length : Int)) then (bif decide (r8.toNat = r8.toNat) then (spec_l1DrawRaw.g r5 r12 r13 fun r25 r26 r27 =>
  bif decide (((((r4.getD r8.toNat []).getD 5 (.i 0)).toL).length + 1) * 8 ≤ 140737488355328) then (bif decide (0 ≤ r8) && decide (r8 < (r4.length : Int)) then (bif decide (r8.toNat = r8.toNat) then R (r4.set r8.toNat (splice (r4.getD r8.toNat []) 5 [.l ((((r4.getD r8.toNat []).getD 5 (.i 0)).toL) ++ ([r25] : List Int))])) r5 r26 r27
   else none)
   else none)
  else none)
  else none)
  else none)
  else none)
 else bif (r11 == 6) then (l1 r5 (fun y35 y36 y37 =>
  R y35 r5 y36 y37) fuel r4 r12 r13)
 else R r4 r5 r12 r13
theorem gx : ∃ x : List Int → Int → Int → (List (List Cl) → List Int → Int → Int → Option Res) → Option Res, x = b := ⟨_, rfl⟩
noncomputable def g : List Int → Int → Int → (List (List Cl) → List Int → Int → Int → Option Res) → Option Res := Classical.choose gx
theorem e : g = b := Classical.choose_spec gx
noncomputable def run : List Lf → (Res → Option Res) → Option Res
 | [.q (.ints a1), .i a2, .i a3], K => g a1 a2 a3 (fun r1 r2 r3 r4 => K (m r1 r2 r3 r4))
 | _, _ => none
noncomputable def a (a1 : List Int) (a2 a3 : Int) : St := argSt [one (.bp 0 0)] [] [[.tr 2 2 [.int .u8] (.ints a1), .int .i64 a2, .int .i64 a3]]
noncomputable def con : FuncId × St × (List Lf → (Res → Option Res) → Option Res) := (35, a [] 0 0, run)
theorem cx (K : Res → Option Res) : CtxOk Go.Proofs.Try.prog Γ0 byt0 eqs0 (X K) os := ⟨rfl, rfl, rfl, (fun p hp => by
 rcases List.mem_cons.1 hp with rfl | hp
 ·exact spec_l11DrawRight.ok
 rcases List.mem_cons.1 hp with rfl | hp
 ·exact spec_l1Below.ok
 rcases List.mem_cons.1 hp with rfl | hp
 ·exact spec_l9DrawFun.ok
 rcases List.mem_cons.1 hp with rfl | hp
 ·exact spec_l1DrawRaw.ok
 cases hp), rfl, rfl, rfl⟩
theorem t1 (K : Res → Option Res) (k : St → Option Res) (it : St → (St → Option Res) → Option Res) (x28 : List (List Cl)) (x29 : List Int) (x30 x31 : Int) : iterS (X K) 1 b1 it (s1 x28 x29 x30 x31) k = l1s x29 (fun x28 x30 x31 => it (s1 x28 x29 x30 x31) k) (fun y1 y3 y4 => k (o1 x29 y1 y3 y4)) x28 x30 x31 := by kernel_rfl
theorem i1 (K : Res → Option Res) (k : St → Option Res) (x29 : List Int) : ∀ (n : Nat) (x28 : List (List Cl)) (x30 x31 : Int), iter (X K) 1 b1 n (s1 x28 x29 x30 x31) k = l1 x29 (fun y1 y3 y4 => k (o1 x29 y1 y3 y4)) n x28 x30 x31
 | 0, _, _, _ => rfl
 | n + 1, x28, x30, x31 => by
  rw [iter_succ, t1, show (fun x28 x30 x31 => iter (X K) 1 b1 n (s1 x28 x29 x30 x31) k) = (fun x28 x30 x31 => l1 x29 (fun y1 y3 y4 => k (o1 x29 y1 y3 y4)) n x28 x30 x31) from funext fun x28 => funext fun x30 => funext fun x31 => i1 K k x29 n x28 x30 x31]; rfl
theorem v1 {K : Res → Option Res} {l : List Lf} {k : St → Option Res} {r : Res} (h : p1 K l k = some r) : ∃ x28 x29 x30 x31, l = [.q (.cells x28), .q (.ints x29), .i x30, .i x31] ∧ l1 x29 (fun y1 y3 y4 => k (o1 x29 y1 y3 y4)) fuel x28 x30 x31 = some r := by
 unfold p1 at h; split at h
 ·exact ⟨_, _, _, _, rfl, h⟩
 ·cases h
theorem w1 (K : Res → Option Res) : LpSound Go.Proofs.Try.prog (X K) 1 b1 := lp_ok ((cx K).ok laid) (by rw [show loopsOf b1 = [] from by kernel_rfl]; intro p hp; cases hp) rfl fun p hp hid => by
 rcases List.mem_cons.1 hp with rfl | hp
 ·intro st k r h1 h2; obtain ⟨x28, x29, x30, x31, e, h⟩ := v1 (K := K) h2; have := St.like_eq (y := s1 x28 x29 x30 x31) h1 (by kernel_rfl) e; subst this; exact ⟨fuel, (i1 K k x29 fuel x28 x30 x31).trans h⟩
 cases hp
theorem tie (K : Res → Option Res) (a1 : List Int) (a2 a3 : Int) : exec (X K) c (entry 81 [one (.bp 0 0)] [] [[.tr 2 2 [.int .u8] (.ints a1), .int .i64 a2, .int .i64 a3]]) (endK (X K)) = g a1 a2 a3 (fun r1 r2 r3 r4 => K (m r1 r2 r3 r4)) := Eq.trans (b := b a1 a2 a3 (fun r1 r2 r3 r4 => K (m r1 r2 r3 r4))) (by kernel_rfl) (by rw [e])
theorem runv {l : List Lf} {K : Res → Option Res} {r : Res} (h : run l K = some r) : ∃ a1 a2 a3, l = [.q (.ints a1), .i a2, .i a3] ∧ g a1 a2 a3 (fun r1 r2 r3 r4 => K (m r1 r2 r3 r4)) = some r := by
 unfold run at h; split at h
 ·exact ⟨_, _, _, rfl, h⟩
 ·cases h
theorem ok : Con Go.Proofs.Try.prog con := con_of (fn := Go.Proofs.Try.f35) (c := c) (Fi := fi) (X := X) (fun_of laid (by kernel_rfl) (by kernel_rfl) (by kernel_rfl) rfl (by kernel_rfl) (by kernel_rfl) cx (fun _ => rfl) (fun _ => rfl) (fun K => by
 rw [show loopsOf c = [(1, b1)] from by kernel_rfl]; intro p hp
 rcases List.mem_cons.1 hp with rfl | hp
 ·exact w1 K
 cases hp)) fun xs rows boxes K r hl hr => by
 obtain ⟨a1, a2, a3, e, h⟩ := runv hr
 have := St.like_eq (y := a a1 a2 a3) hl (by kernel_rfl) e
 obtain ⟨rfl, rfl, rfl⟩ := argSt_inj this
 exact (tie K a1 a2 a3).trans h
end spec_l11Draw
namespace spec_DrawSpans
noncomputable def c : Code := bodyOf Go.Proofs.Try.f17
noncomputable def fi : Fin := ⟨Γ0, [(.tmp 2, 26)], [[4]], [], [], []⟩
noncomputable def m (r1 : List (List Cl)) : Res := ⟨[⟨false, [.tr 1 1 [.int .i64, .int .i64, .int .i64, .int .i64, .int .i64, .ints .i64] (.cells r1)]⟩], [], [], [], []⟩
noncomputable def os : List (FuncId × St × (List Lf → (Res → Option Res) → Option Res)) := [spec_l1New.con, spec_l11Draw.con]
noncomputable def X (K : Res → Option Res) : Ctx := { Γ := Γ0, orc := orcOf os, io := [(36, [⟨false, 2, 1⟩])], share := [], opn := [], shr := [], bun := [], cut := [], own := [], cin := [], cout := [], lp := lpOf [], kl := Env.kl, nk := false, eqs := eqs0, byt := byt0, fin := finK fi K }
noncomputable def b (a1 : List Int) (R : List (List Cl) → Option Res) : Option Res :=
 spec_l1New.g a1 fun r2 r3 r4 =>
 spec_l11Draw.g r2 r3 r4 fun r5 r6 r7 r8 =>
 R r5
theorem gx : ∃ x : List Int → (List (List Cl) → Option Res) → Option Res, x = b := ⟨_, rfl⟩
noncomputable def g : List Int → (List (List Cl) → Option Res) → Option Res := Classical.choose gx
theorem e : g = b := Classical.choose_spec gx
noncomputable def run : List Lf → (Res → Option Res) → Option Res
 | [.q (.ints a1)], K => g a1 (fun r1 => K (m r1))
 | _, _ => none
noncomputable def a (a1 : List Int) : St := argSt [one (.tr 2 1 [.int .u8] (.ints a1))] [] []
noncomputable def con : FuncId × St × (List Lf → (Res → Option Res) → Option Res) := (17, a [], run)
theorem cx (K : Res → Option Res) : CtxOk Go.Proofs.Try.prog Γ0 byt0 eqs0 (X K) os := ⟨rfl, rfl, rfl, (fun p hp => by
 rcases List.mem_cons.1 hp with rfl | hp
 ·exact spec_l1New.ok
 rcases List.mem_cons.1 hp with rfl | hp
 ·exact spec_l11Draw.ok
 cases hp), rfl, rfl, rfl⟩
theorem tie (K : Res → Option Res) (a1 : List Int) : exec (X K) c (entry 6 [one (.tr 2 1 [.int .u8] (.ints a1))] [] []) (endK (X K)) = g a1 (fun r1 => K (m r1)) := Eq.trans (b := b a1 (fun r1 => K (m r1))) (by kernel_rfl) (by rw [e])
theorem runv {l : List Lf} {K : Res → Option Res} {r : Res} (h : run l K = some r) : ∃ a1, l = [.q (.ints a1)] ∧ g a1 (fun r1 => K (m r1)) = some r := by
 unfold run at h; split at h
 ·exact ⟨_, rfl, h⟩
 ·cases h
theorem ok : Con Go.Proofs.Try.prog con := con_of (fn := Go.Proofs.Try.f17) (c := c) (Fi := fi) (X := X) (fun_of laid (by kernel_rfl) (by kernel_rfl) (by kernel_rfl) rfl (by kernel_rfl) (by kernel_rfl) cx (fun _ => rfl) (fun _ => rfl) (fun K => by
 rw [show loopsOf c = [] from by kernel_rfl]; intro p hp
 cases hp)) fun xs rows boxes K r hl hr => by
 obtain ⟨a1, e, h⟩ := runv hr
 have := St.like_eq (y := a a1) hl (by kernel_rfl) e
 obtain ⟨rfl, rfl, rfl⟩ := argSt_inj this
 exact (tie K a1).trans h
end spec_DrawSpans
namespace laws_FnSpans
noncomputable def c : Code := bodyOf Go.Proofs.Try.f4
noncomputable def fi : Fin := ⟨Γ0, [(.tmp 2, 4)], [[1]], [], [], []⟩
noncomputable def m (r1 : Bool) : Res := ⟨[⟨false, [.bool r1]⟩], [], [], [], []⟩
noncomputable def b0 : Code := codeAt c [1, 1, 1, 1, 1, 1, 1, 1, 0, 1, 0, 0]
noncomputable def b2 : Code := codeAt c [1, 1, 1, 1, 1, 1, 1, 1, 0, 1, 0, 0, 1, 0, 0, 1, 1, 1, 0, 1, 0, 0]
noncomputable def s2 (x13 : List (List Cl)) (x14 x15 x16 : Int) (x17 x18 : List (List Cl)) (x19 x20 : Int) : St := ⟨mkT 126 [(4, one (.tr 1 1 [.int .i64, .int .i64, .int .i64, .int .i64, .int .i64, .ints .i64] (.cells x13))), (5, one (.ow 15353)), (6, one (.ow 17401)), (7, one (.int .i64 x14)), (8, one (.bp 29736 0)), (9, one (.int .i64 x15)), (10, one (.int .i64 x16))], [(15353, ⟨[.int .i64, .int .i64], .cells x17, true, 0, none⟩), (17401, ⟨[.int .i64, .int .i64], .cells x18, true, 0, none⟩)], [(29736, [.int .i64 x19, .int .i64 x20])]⟩
noncomputable def l2s (x13 : List (List Cl)) (x14 : Int) (x17 x18 : List (List Cl)) (x19 x20 : Int) (rec : Int → Int → Option Res) (k : Int → Option Res) (R : Bool → Option Res) (x15 x16 : Int) : Option Res :=
 bif decide (x16 < x20) then (bif decide (0 ≤ x16) && decide (x16 < (x13.length : Int)) then (bif (((x13.getD x16.toNat []).getD 0 (.i 0)).toI == 3) then R false
  else bif (((x13.getD x16.toNat []).getD 3 (.i 0)).toI != 0) then R false
  else bif (((x13.getD x16.toNat []).getD 0 (.i 0)).toI == 1) then (bif decide (IntKind.i64.wrap (x15 + 1) < 1) then R false
   else rec (IntKind.i64.wrap (x15 + 1)) (IntKind.i64.wrap (x16 + 1)))
  else bif (((x13.getD x16.toNat []).getD 0 (.i 0)).toI == 2) then (bif decide (IntKind.i64.wrap (x15 + 1) < 1) then R false
   else rec (IntKind.i64.wrap (x15 + 1)) (IntKind.i64.wrap (x16 + 1)))
  else bif (((x13.getD x16.toNat []).getD 0 (.i 0)).toI == 5) then (bif decide (IntKind.i64.wrap (x15 - 1) < 1) then R false
   else rec (IntKind.i64.wrap (x15 - 1)) (IntKind.i64.wrap (x16 + 1)))
  else bif decide (x15 < 1) then R false
  else rec x15 (IntKind.i64.wrap (x16 + 1)))
  else none)
 else k x15
noncomputable def l2 (x13 : List (List Cl)) (x14 : Int) (x17 x18 : List (List Cl)) (x19 x20 : Int) (k : Int → Option Res) (R : Bool → Option Res) : Nat → Int → Int → Option Res
 | 0, _, _ => none
 | n + 1, x15, x16 => l2s x13 x14 x17 x18 x19 x20 (fun x15 x16 => l2 x13 x14 x17 x18 x19 x20 k R n x15 x16) k R x15 x16
noncomputable def o2 (x13 : List (List Cl)) (x14 : Int) (x17 x18 : List (List Cl)) (x19 x20 y3 : Int) : St := ⟨mkT 126 [(4, one (.tr 1 1 [.int .i64, .int .i64, .int .i64, .int .i64, .int .i64, .ints .i64] (.cells x13))), (5, one (.ow 15353)), (6, one (.ow 17401)), (7, one (.int .i64 x14)), (9, one (.int .i64 y3))], [(15353, ⟨[.int .i64, .int .i64], .cells x17, true, 0, none⟩), (17401, ⟨[.int .i64, .int .i64], .cells x18, true, 0, none⟩)], []⟩
noncomputable def p2 (K : Res → Option Res) : List Lf → (St → Option Res) → Option Res
 | [.q (.cells x13), .i x14, .i x15, .i x16, .q (.cells x17), .q (.cells x18), .i x19, .i x20], k => l2 x13 x14 x17 x18 x19 x20 (fun y3 => k (o2 x13 x14 x17 x18 x19 x20 y3)) (fun r1 => K (m r1)) fuel x15 x16
 | _, _ => none
noncomputable def s0 (x9 : List (List Cl)) (x10 : Int) (x11 x12 : List (List Cl)) : St := ⟨mkT 126 [(4, one (.tr 1 1 [.int .i64, .int .i64, .int .i64, .int .i64, .int .i64, .ints .i64] (.cells x9))), (5, one (.ow 15353)), (6, one (.ow 17401)), (7, one (.int .i64 x10))], [(15353, ⟨[.int .i64, .int .i64], .cells x11, true, 0, none⟩), (17401, ⟨[.int .i64, .int .i64], .cells x12, true, 0, none⟩)], []⟩
noncomputable def l0s (x9 x11 x12 : List (List Cl)) (rec : Int → Option Res) (k : Option Res) (R : Bool → Option Res) (x10 : Int) : Option Res :=
 bif decide (x10 < (x11.length : Int)) then (bif decide (0 ≤ x10) && decide (x10 < (x11.length : Int)) then (bif decide (0 ≤ x10) && decide (x10 < (x12.length : Int)) then (bif !((((x11.getD x10.toNat []).getD 0 (.i 0)).toI == ((x12.getD x10.toNat []).getD 0 (.i 0)).toI) && ((((x11.getD x10.toNat []).getD 1 (.i 0)).toI == ((x12.getD x10.toNat []).getD 1 (.i 0)).toI) && true)) then R false
  else bif decide (((x11.getD x10.toNat []).getD 0 (.i 0)).toI < 0) then R false
  else bif decide (((x11.getD x10.toNat []).getD 1 (.i 0)).toI < IntKind.i64.wrap ((((x11.getD x10.toNat []).getD 0 (.i 0)).toI) + 2)) then R false
  else bif decide ((x9.length : Int) < ((x11.getD x10.toNat []).getD 1 (.i 0)).toI) then R false
  else bif decide (0 < x10) then (bif decide (0 ≤ IntKind.i64.wrap (x10 - 1)) && decide (IntKind.i64.wrap (x10 - 1) < (x11.length : Int)) then (bif decide (((x11.getD x10.toNat []).getD 0 (.i 0)).toI < ((x11.getD ((IntKind.i64.wrap (x10 - 1)).toNat) []).getD 1 (.i 0)).toI) then R false
   else (l2 x9 x10 x11 x12 (((x11.getD x10.toNat []).getD 0 (.i 0)).toI) (((x11.getD x10.toNat []).getD 1 (.i 0)).toI) (fun y21 =>
   bif (y21 != 1) then R false
   else rec (IntKind.i64.wrap (x10 + 1))) R fuel 0 (((x11.getD x10.toNat []).getD 0 (.i 0)).toI)))
   else none)
  else (l2 x9 x10 x11 x12 (((x11.getD x10.toNat []).getD 0 (.i 0)).toI) (((x11.getD x10.toNat []).getD 1 (.i 0)).toI) (fun y22 =>
  bif (y22 != 1) then R false
  else rec (IntKind.i64.wrap (x10 + 1))) R fuel 0 (((x11.getD x10.toNat []).getD 0 (.i 0)).toI)))
  else none)
  else none)
 else k
noncomputable def l0 (x9 x11 x12 : List (List Cl)) (k : Option Res) (R : Bool → Option Res) : Nat → Int → Option Res
 | 0, _ => none
 | n + 1, x10 => l0s x9 x11 x12 (fun x10 => l0 x9 x11 x12 k R n x10) k R x10
noncomputable def o0 (x9 x11 x12 : List (List Cl)) : St := ⟨mkT 126 [(4, one (.tr 1 1 [.int .i64, .int .i64, .int .i64, .int .i64, .int .i64, .ints .i64] (.cells x9))), (5, one (.ow 15353))], [(15353, ⟨[.int .i64, .int .i64], .cells x11, true, 0, none⟩)], []⟩
noncomputable def p0 (K : Res → Option Res) : List Lf → (St → Option Res) → Option Res
 | [.q (.cells x9), .i x10, .q (.cells x11), .q (.cells x12)], k => l0 x9 x11 x12 (k (o0 x9 x11 x12)) (fun r1 => K (m r1)) fuel x10
 | _, _ => none
noncomputable def os : List (FuncId × St × (List Lf → (Res → Option Res) → Option Res)) := [laws_big.con, spec_DrawSpans.con, impl_CodeOk.con, spec_CodeOk.con, impl_Spans.con, spec_Spans.con]
noncomputable def X (K : Res → Option Res) : Ctx := { Γ := Γ0, orc := orcOf os, io := [(17, [⟨false, 2, 1⟩])], share := [], opn := [], shr := [], bun := [], cut := [], own := [], cin := [(2, ⟨[4, 5, 6, 7, 8, 9, 10], [(15353, 15353), (17401, 17401)], [29736], [], [], []⟩), (0, ⟨[4, 5, 6, 7], [(15353, 15353), (17401, 17401)], [], [], [], []⟩)], cout := [(2, ⟨[4, 5, 6, 7, 9], [(15353, 15353), (17401, 17401)], [], [], [], []⟩), (0, ⟨[4, 5], [(15353, 15353)], [], [], [], []⟩)], lp := lpOf [(2, s2 [] 0 0 0 [] [] 0 0, p2 K), (0, s0 [] 0 [] [], p0 K)], kl := Env.kl, nk := false, eqs := eqs0, byt := byt0, fin := finK fi K }
noncomputable def b (a1 : List Int) (R : Bool → Option Res) : Option Res :=
 laws_big.g a1 fun r2 =>
 bif r2 then R true
 else (spec_DrawSpans.g a1 fun r3 =>
 impl_CodeOk.g r3 fun r4 =>
 spec_CodeOk.g r3 fun r5 =>
 bif (r4 != r5) then R false
 else (spec_DrawSpans.g a1 fun r6 =>
 impl_Spans.g r6 fun r7 =>
 spec_Spans.g r6 fun r8 =>
 bif ((r7.length : Int) != (r8.length : Int)) then R false
 else (l0 r6 r7 r8 (
 impl_CodeOk.g r6 fun r23 =>
 bif r23 then R true
 else R ((r7.length : Int) == 0)) R fuel 0)))
theorem gx : ∃ x : List Int → (Bool → Option Res) → Option Res, x = b := ⟨_, rfl⟩
noncomputable def g : List Int → (Bool → Option Res) → Option Res := Classical.choose gx
theorem e : g = b := Classical.choose_spec gx
noncomputable def run : List Lf → (Res → Option Res) → Option Res
 | [.q (.ints a1)], K => g a1 (fun r1 => K (m r1))
 | _, _ => none
noncomputable def a (a1 : List Int) : St := argSt [one (.tr 2 2 [.int .u8] (.ints a1))] [] []
noncomputable def con : FuncId × St × (List Lf → (Res → Option Res) → Option Res) := (4, a [], run)
theorem cx (K : Res → Option Res) : CtxOk Go.Proofs.Try.prog Γ0 byt0 eqs0 (X K) os := ⟨rfl, rfl, rfl, (fun p hp => by
 rcases List.mem_cons.1 hp with rfl | hp
 ·exact laws_big.ok
 rcases List.mem_cons.1 hp with rfl | hp
 ·exact spec_DrawSpans.ok
 rcases List.mem_cons.1 hp with rfl | hp
 ·exact impl_CodeOk.ok
 rcases List.mem_cons.1 hp with rfl | hp
 ·exact spec_CodeOk.ok
 rcases List.mem_cons.1 hp with rfl | hp
 ·exact impl_Spans.ok
 rcases List.mem_cons.1 hp with rfl | hp
 ·exact spec_Spans.ok
 cases hp), rfl, rfl, rfl⟩
theorem t2 (K : Res → Option Res) (k : St → Option Res) (it : St → (St → Option Res) → Option Res) (x13 : List (List Cl)) (x14 x15 x16 : Int) (x17 x18 : List (List Cl)) (x19 x20 : Int) : iterS (X K) 2 b2 it (s2 x13 x14 x15 x16 x17 x18 x19 x20) k = l2s x13 x14 x17 x18 x19 x20 (fun x15 x16 => it (s2 x13 x14 x15 x16 x17 x18 x19 x20) k) (fun y3 => k (o2 x13 x14 x17 x18 x19 x20 y3)) (fun r1 => K (m r1)) x15 x16 := by kernel_rfl
theorem i2 (K : Res → Option Res) (k : St → Option Res) (x13 : List (List Cl)) (x14 : Int) (x17 x18 : List (List Cl)) (x19 x20 : Int) : ∀ (n : Nat) (x15 x16 : Int), iter (X K) 2 b2 n (s2 x13 x14 x15 x16 x17 x18 x19 x20) k = l2 x13 x14 x17 x18 x19 x20 (fun y3 => k (o2 x13 x14 x17 x18 x19 x20 y3)) (fun r1 => K (m r1)) n x15 x16
 | 0, _, _ => rfl
 | n + 1, x15, x16 => by
  rw [iter_succ, t2, show (fun x15 x16 => iter (X K) 2 b2 n (s2 x13 x14 x15 x16 x17 x18 x19 x20) k) = (fun x15 x16 => l2 x13 x14 x17 x18 x19 x20 (fun y3 => k (o2 x13 x14 x17 x18 x19 x20 y3)) (fun r1 => K (m r1)) n x15 x16) from funext fun x15 => funext fun x16 => i2 K k x13 x14 x17 x18 x19 x20 n x15 x16]; rfl
theorem v2 {K : Res → Option Res} {l : List Lf} {k : St → Option Res} {r : Res} (h : p2 K l k = some r) : ∃ x13 x14 x15 x16 x17 x18 x19 x20, l = [.q (.cells x13), .i x14, .i x15, .i x16, .q (.cells x17), .q (.cells x18), .i x19, .i x20] ∧ l2 x13 x14 x17 x18 x19 x20 (fun y3 => k (o2 x13 x14 x17 x18 x19 x20 y3)) (fun r1 => K (m r1)) fuel x15 x16 = some r := by
 unfold p2 at h; split at h
 ·exact ⟨_, _, _, _, _, _, _, _, rfl, h⟩
 ·cases h
theorem t0 (K : Res → Option Res) (k : St → Option Res) (it : St → (St → Option Res) → Option Res) (x9 : List (List Cl)) (x10 : Int) (x11 x12 : List (List Cl)) : iterS (X K) 0 b0 it (s0 x9 x10 x11 x12) k = l0s x9 x11 x12 (fun x10 => it (s0 x9 x10 x11 x12) k) (k (o0 x9 x11 x12)) (fun r1 => K (m r1)) x10 := by kernel_rfl
theorem i0 (K : Res → Option Res) (k : St → Option Res) (x9 x11 x12 : List (List Cl)) : ∀ (n : Nat) (x10 : Int), iter (X K) 0 b0 n (s0 x9 x10 x11 x12) k = l0 x9 x11 x12 (k (o0 x9 x11 x12)) (fun r1 => K (m r1)) n x10
 | 0, _ => rfl
 | n + 1, x10 => by
  rw [iter_succ, t0, show (fun x10 => iter (X K) 0 b0 n (s0 x9 x10 x11 x12) k) = (fun x10 => l0 x9 x11 x12 (k (o0 x9 x11 x12)) (fun r1 => K (m r1)) n x10) from funext fun x10 => i0 K k x9 x11 x12 n x10]; rfl
theorem v0 {K : Res → Option Res} {l : List Lf} {k : St → Option Res} {r : Res} (h : p0 K l k = some r) : ∃ x9 x10 x11 x12, l = [.q (.cells x9), .i x10, .q (.cells x11), .q (.cells x12)] ∧ l0 x9 x11 x12 (k (o0 x9 x11 x12)) (fun r1 => K (m r1)) fuel x10 = some r := by
 unfold p0 at h; split at h
 ·exact ⟨_, _, _, _, rfl, h⟩
 ·cases h
theorem w2 (K : Res → Option Res) : LpSound Go.Proofs.Try.prog (X K) 2 b2 := lp_ok ((cx K).ok laid) (by rw [show loopsOf b2 = [] from by kernel_rfl]; intro p hp; cases hp) rfl fun p hp hid => by
 rcases List.mem_cons.1 hp with rfl | hp
 ·intro st k r h1 h2; obtain ⟨x13, x14, x15, x16, x17, x18, x19, x20, e, h⟩ := v2 (K := K) h2; have := St.like_eq (y := s2 x13 x14 x15 x16 x17 x18 x19 x20) h1 (by kernel_rfl) e; subst this; exact ⟨fuel, (i2 K k x13 x14 x17 x18 x19 x20 fuel x15 x16).trans h⟩
 rcases List.mem_cons.1 hp with rfl | hp
 ·exact absurd hid (by simp)
 cases hp
theorem w0 (K : Res → Option Res) : LpSound Go.Proofs.Try.prog (X K) 0 b0 := lp_ok ((cx K).ok laid) (by
 rw [show loopsOf b0 = [(2, b2)] from by kernel_rfl]; intro p hp
 rcases List.mem_cons.1 hp with rfl | hp
 ·exact w2 K
 cases hp) rfl fun p hp hid => by
 rcases List.mem_cons.1 hp with rfl | hp
 ·exact absurd hid (by simp)
 rcases List.mem_cons.1 hp with rfl | hp
 ·intro st k r h1 h2; obtain ⟨x9, x10, x11, x12, e, h⟩ := v0 (K := K) h2; have := St.like_eq (y := s0 x9 x10 x11 x12) h1 (by kernel_rfl) e; subst this; exact ⟨fuel, (i0 K k x9 x11 x12 fuel x10).trans h⟩
 cases hp
theorem tie (K : Res → Option Res) (a1 : List Int) : exec (X K) c (entry 126 [one (.tr 2 2 [.int .u8] (.ints a1))] [] []) (endK (X K)) = g a1 (fun r1 => K (m r1)) := Eq.trans (b := b a1 (fun r1 => K (m r1))) (by kernel_rfl) (by rw [e])
theorem runv {l : List Lf} {K : Res → Option Res} {r : Res} (h : run l K = some r) : ∃ a1, l = [.q (.ints a1)] ∧ g a1 (fun r1 => K (m r1)) = some r := by
 unfold run at h; split at h
 ·exact ⟨_, rfl, h⟩
 ·cases h
theorem ok : Con Go.Proofs.Try.prog con := con_of (fn := Go.Proofs.Try.f4) (c := c) (Fi := fi) (X := X) (fun_of laid (by kernel_rfl) (by kernel_rfl) (by kernel_rfl) rfl (by kernel_rfl) (by kernel_rfl) cx (fun _ => rfl) (fun _ => rfl) (fun K => by
 rw [show loopsOf c = [(0, b0), (2, b2)] from by kernel_rfl]; intro p hp
 rcases List.mem_cons.1 hp with rfl | hp
 ·exact w0 K
 rcases List.mem_cons.1 hp with rfl | hp
 ·exact w2 K
 cases hp)) fun xs rows boxes K r hl hr => by
 obtain ⟨a1, e, h⟩ := runv hr
 have := St.like_eq (y := a a1) hl (by kernel_rfl) e
 obtain ⟨rfl, rfl, rfl⟩ := argSt_inj this
 exact (tie K a1).trans h
end laws_FnSpans
end Go.Tv.F
