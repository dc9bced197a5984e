/- The law: its given row is met, for every input, without condition. -/
import Derived.Test.YtbocgpagaacpoaaRows
import Derived.Test.YtbocgpagaacpoaaExactHeapPackPure
import Derived.WalkKit
import Derived.ProofKit
import Derived.OpenShut
import Derived.ShutString
import Derived.ChangeOld
import Derived.Below
import Derived.SizedLaws
set_option linter.unusedVariables false
set_option linter.unusedSimpArgs false
set_option linter.unnecessarySimpa false
set_option maxRecDepth 100000
namespace Go.Proofs.Ytbocgpagaacpoaa.fnExactHeapPack
open Go Go.Tv Go.ChangeShapes Go.WideShapes Go.ChangeAt Go.RowKit
set_option linter.unusedVariables false
theorem own : ownKnob Try.prog.godebug = none := by kernel_rfl
set_option maxRecDepth 100000 in
theorem lifted (os : Os) (started : os.Started) (H : Type) (enc : TypeId × Value → H) :
    ReturnsInHanded {} Try.checked os 12 .any (Rows.fnExactHeapPackSpec.pre6 enc Try.prog Try.f12 Rows.fnExactHeapPackRow.domain false) (Rows.fnExactHeapPackSpec.post enc Try.prog Try.f12 false true false false) := by
  refine returnsInHanded_of_change_sized (C := Try.checked) own started (by kernel_rfl) Try.func12
    (ChangeSpec.witness6 (enc := enc) (C := Try.checked) false ⟨#[], #[.agg #[.slice none 0 0, .int .i64 0, .slice none 0 0]], []⟩ 8 (by kernel_rfl) (by kernel_rfl) (by kernel_rfl) (by kernel_rfl)) ?_
  intro W base args ds gs before hval0 hW hcnd hsz0 _
  have hval : ∀ (j : Nat) t v, Try.f12.params[j]? = some t → args[j]? = some v → Value.okWide Try.prog W .any base t v := hval0
  have hW' := hW
  obtain ⟨p, q, hA0, hV, rfl, hfz, hnd⟩ := hW
  have hA : DataW.TrodAll enc Try.prog W 0 (fun _ => true) true Try.f12.params.toList args.toList ds p := hA0
  rw [Try.params12] at hA hval
  obtain ⟨v0, vs0, d0, ds0, p0, pq0, hargs0, rfl, rfl, h0, r0⟩ := trodAll_cons hA
  obtain ⟨rfl, rfl, rfl⟩ := trodAll_nil r0
  obtain rfl : args = #[v0] := by cases args; simp_all
  obtain ⟨rfl, rfl⟩ := trodVars_none hV
  clear hval0 hsz0
  have hall := hA0
  obtain ⟨us0, rfl, hl0, hf0⟩ := argStruct (fs := (match Try.prog.underlying 36 with | some (.struct fs) => fs | _ => #[])) (hval 0 36 v0 rfl rfl) (by kernel_rfl) h0
  have hl0 : us0.length = 3 := hl0
  obtain ⟨u0_0, y0_0, rfl, z0_0⟩ := len_cons hl0
  obtain ⟨u0_1, y0_1, rfl, z0_1⟩ := len_cons z0_0
  obtain ⟨u0_2, y0_2, rfl, z0_2⟩ := len_cons z0_1
  obtain rfl := len_nil z0_2
  obtain ⟨na1, xa1, ta1⟩ := hf0 0 _ u0_0 rfl rfl (by kernel_rfl)
  obtain ⟨qa1, tra1, fita1, wa1, oa1⟩ := readSl (el := 3) (e := [.int .i64]) (by kernel_rfl) (by kernel_rfl) (by simp) ta1
  obtain ⟨a1, rfl⟩ : ∃ x, qa1 = .ints x := by cases qa1 <;> first | exact ⟨_, rfl⟩ | cases fita1
  obtain ⟨na2, xa2, ta2⟩ := hf0 1 _ u0_1 rfl rfl (by kernel_rfl)
  obtain ⟨a2, rfl, wa2⟩ := trodInt (k := .i64) (by kernel_rfl) ta2
  obtain ⟨na3, xa3, ta3⟩ := hf0 2 _ u0_2 rfl rfl (by kernel_rfl)
  obtain ⟨qa3, tra3, fita3, wa3, oa3⟩ := readSl (el := 159) (e := [.int .i64, .int .i64, .bool]) (by kernel_rfl) (by kernel_rfl) (by simp) ta3
  obtain ⟨a3, rfl⟩ : ∃ x, qa3 = .cells x := by cases qa3 <;> first | exact ⟨_, rfl⟩ | cases fita3
  refine (law_calls (W := W) (f := 12) (xs := [.v ⟨true, [.tr 0 1 [.int .i64] (.ints a1), .int .i64 a2, .tr 0 1 [.int .i64, .int .i64, .bool] (.cells a3)]⟩]) Go.Tv.F.laws_FnExactHeapPack.ok (fn := Try.f12) (by kernel_rfl) (by kernel_rfl) (by kernel_rfl) (by kernel_rfl) ⟨Go.Tv.F.laws_FnExactHeapPack.m true, Go.Tv.F.lawFnExactHeapPack a1 a2 a3 wa1 wa2 wa3 (fun r => some (Go.Tv.F.laws_FnExactHeapPack.m r)), rfl⟩ rfl (fun j x hj => by
    match j, hj with
    | 0, hj => cases hj; exact ⟨_, rfl, ⟨_, rfl, RVs.cons (tra1 _ _) oa1 (RVs.cons (rfl) rfl (RVs.cons (tra3 _ _) oa3 (RVs.nil _)))⟩⟩
    | j + 1, hj => simp at hj)).mono fun e W' ⟨he, bel⟩ => ?_
  subst he
  exact ⟨_, rfl, _, _, _, [], _, [], hW', trodAll_mk1 (shut_bool (by kernel_rfl) _), trodAll_below (by kernel_rfl) bel (by kernel_rfl) hall (DataW.TrodAll.lt hall), rfl, bel.frame _, fun h => by cases h⟩
theorem over : Rows.fnExactHeapPackRow.holds Try.pinned (OpenSpec.ofChange Rows.fnExactHeapPackSpec) :=
  OpenClaim.holds_of_wide 12 Try.f12 rfl rfl rfl rfl rfl rfl rfl ⟨rfl, rfl, rfl, rfl, rfl⟩ rfl rfl rfl rfl rfl (by kernel_rfl) Try.func12 (by kernel_rfl)
    (of_decide_eq_true (by kernel_rfl)) (by unfold Func.isWrapper; first | (rw [if_pos (by decide +kernel)]; kernel_rfl) | (rw [if_neg (by decide +kernel)]; exact ⟨rfl, rfl⟩))
    (fun os started H enc _ => lifted os started H enc)
theorem proved : Rows.FnExactHeapPackSaid := over
end Go.Proofs.Ytbocgpagaacpoaa.fnExactHeapPack
namespace Go.Proofs.Ytbocgpagaacpoaa
/-- The row, under a short name, for the claim. -/
theorem fnExactHeapPack_holds : Rows.FnExactHeapPackSaid := fnExactHeapPack.proved
end Go.Proofs.Ytbocgpagaacpoaa
