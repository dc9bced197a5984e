/- The law: its given row is met, for every input, without condition. -/
import Derived.Test.YtafjnlpfnjoebaaGreatRows
import Derived.Test.YtafjnlpfnjoebaaGreatFusedPureB
import Derived.WalkKit
import Derived.ProofKit
import Derived.OpenShut
import Derived.ShutString
import Derived.ChangeOld
import Derived.Below
import Derived.SizedLaws
set_option linter.unusedVariables false
set_option linter.unusedSectionVars false
set_option linter.unusedSimpArgs false
set_option linter.unnecessarySimpa false
set_option maxRecDepth 100000
namespace Go.Proofs.YtafjnlpfnjoebaaGreat.fnFused
open Go Go.Tv Go.ChangeShapes Go.WideShapes Go.ChangeAt Go.RowKit
set_option linter.unusedVariables false
theorem own : ownKnob Tryz.prog.godebug = none := by kernel_rfl
set_option maxRecDepth 100000 in
theorem lifted (os : Os) (started : os.Started) (H : Type) (enc : TypeId × Value → H) :
    ReturnsInHanded {} Tryz.checked os 3 .any (Rows.fnFusedSpec.pre6 enc Tryz.prog Tryz.f3 Rows.fnFusedRow.domain false) (Rows.fnFusedSpec.post enc Tryz.prog Tryz.f3 false true false false) := by
  refine returnsInHanded_of_change_sized (C := Tryz.checked) own started (by kernel_rfl) Tryz.func3
    (ChangeSpec.witness6 (enc := enc) (C := Tryz.checked) false ⟨#[], #[.slice none 0 0], []⟩ 8 (by kernel_rfl) (by kernel_rfl) (by kernel_rfl) (by kernel_rfl)) ?_
  intro W base args ds gs before hval0 hW hcnd hsz0 _
  have hval : ∀ (j : Nat) t v, Tryz.f3.params[j]? = some t → args[j]? = some v → Value.okWide Tryz.prog W .any base t v := hval0
  have hW' := hW
  obtain ⟨p, q, hA0, hV, rfl, hfz, hnd⟩ := hW
  have hA : DataW.TrodAll enc Tryz.prog W 0 (fun _ => true) true Tryz.f3.params.toList args.toList ds p := hA0
  rw [Tryz.params3] at hA hval
  obtain ⟨v0, vs0, d0, ds0, p0, pq0, hargs0, rfl, rfl, h0, r0⟩ := trodAll_cons hA
  obtain ⟨rfl, rfl, rfl⟩ := trodAll_nil r0
  obtain rfl : args = #[v0] := by cases args; simp_all
  obtain ⟨rfl, rfl⟩ := trodVars_none hV
  clear hval0 hsz0
  have hall := hA0
  obtain ⟨n0, t0⟩ := argFlat (dd := .slice 5) (hval 0 22 v0 rfl rfl) (by kernel_rfl) rfl h0
  obtain ⟨qa1, tra1, fita1, wa1, oa1⟩ := readSl (t := 22) (el := 5) (e := [.int .u8]) (by kernel_rfl) (by kernel_rfl) (by simp) t0
  obtain ⟨a1, rfl⟩ : ∃ x, qa1 = .ints x := by cases qa1 <;> first | exact ⟨_, rfl⟩ | cases fita1
  refine (law_calls (W := W) (f := 3) (xs := [one (.tr 2 2 [.int .u8] (.ints a1))]) Go.Tv.F.laws_FnFused.ok (fn := Tryz.f3) (by kernel_rfl) (by kernel_rfl) (by kernel_rfl) trivial (by kernel_rfl) ⟨Go.Tv.F.laws_FnFused.m a1 true, Go.Tv.F.lawFnFused a1 wa1 (fun r => some (Go.Tv.F.laws_FnFused.m a1 r)), rfl⟩ rfl (fun j x hj => by
    match j, hj with
    | 0, hj => cases hj; exact ⟨_, rfl, TVV.one (tra1 _ _)⟩
    | j + 1, hj => simp at hj)).mono fun e W' ⟨he, bel⟩ => ?_
  subst he
  exact ⟨_, rfl, _, _, _, [], _, [], hW', trodAll_mk1 (shut_bool (by kernel_rfl) _), trodAll_below (by kernel_rfl) bel (by kernel_rfl) hall (DataW.TrodAll.lt hall), rfl, bel.frame _, fun h => by cases h⟩
theorem over : Rows.fnFusedRow.holds Tryz.pinned (OpenSpec.ofChange Rows.fnFusedSpec) :=
  OpenClaim.holds_of_wide 3 Tryz.f3 rfl rfl rfl rfl rfl rfl rfl ⟨rfl, rfl, rfl, rfl, rfl⟩ rfl rfl rfl rfl rfl (by kernel_rfl) Tryz.func3 (by kernel_rfl)
    (of_decide_eq_true (by kernel_rfl)) (by unfold Func.isWrapper; first | (rw [if_pos (by decide +kernel)]; kernel_rfl) | (rw [if_neg (by decide +kernel)]; exact ⟨rfl, rfl⟩))
    (fun os started H enc _ => lifted os started H enc)
theorem proved : Rows.FnFusedSaid := over
end Go.Proofs.YtafjnlpfnjoebaaGreat.fnFused
namespace Go.Proofs.YtafjnlpfnjoebaaGreat
/-- The row, under a short name, for the claim. -/
theorem fnFused_holds : Rows.FnFusedSaid := fnFused.proved
end Go.Proofs.YtafjnlpfnjoebaaGreat
