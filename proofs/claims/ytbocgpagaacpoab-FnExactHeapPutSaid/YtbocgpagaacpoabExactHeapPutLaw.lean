/- The law: its given row is met, for every input, without condition. -/
import Derived.Test.YtbocgpagaacpoabRows
import Derived.Test.YtbocgpagaacpoabExactHeapPutPure
import Derived.WalkKit
import Derived.ProofKit
import Derived.OpenShut
import Derived.ShutString
import Derived.ChangeOld
import Derived.Below
import Derived.SizedLaws
set_option linter.unusedVariables false
set_option linter.unusedSimpArgs false
set_option linter.unnecessarySimpa false
set_option maxRecDepth 100000
namespace Go.Proofs.Ytbocgpagaacpoab.fnExactHeapPut
open Go Go.Tv Go.ChangeShapes Go.WideShapes Go.ChangeAt Go.RowKit
set_option linter.unusedVariables false
theorem own : ownKnob Try.prog.godebug = none := by kernel_rfl
set_option maxRecDepth 100000 in
theorem lifted (os : Os) (started : os.Started) (H : Type) (enc : TypeId × Value → H) :
    ReturnsInHanded {} Try.checked os 6 .any (Rows.fnExactHeapPutSpec.pre6 enc Try.prog Try.f6 Rows.fnExactHeapPutRow.domain false) (Rows.fnExactHeapPutSpec.post enc Try.prog Try.f6 false true false false) := by
  refine returnsInHanded_of_change_sized (C := Try.checked) own started (by kernel_rfl) Try.func6
    (ChangeSpec.witness6 (enc := enc) (C := Try.checked) false ⟨#[], #[.agg #[.slice none 0 0, .int .i64 0, .slice none 0 0], .agg #[.slice none 0 0, .slice none 0 0]], []⟩ 8 (by kernel_rfl) (by kernel_rfl) (by kernel_rfl) (by kernel_rfl)) ?_
  intro W base args ds gs before hval0 hW hcnd hsz0 _
  have hval : ∀ (j : Nat) t v, Try.f6.params[j]? = some t → args[j]? = some v → Value.okWide Try.prog W .any base t v := hval0
  have hW' := hW
  obtain ⟨p, q, hA0, hV, rfl, hfz, hnd⟩ := hW
  have hA : DataW.TrodAll enc Try.prog W 0 (fun _ => true) true Try.f6.params.toList args.toList ds p := hA0
  rw [Try.params6] at hA hval
  obtain ⟨v0, vs0, d0, ds0, p0, pq0, hargs0, rfl, rfl, h0, r0⟩ := trodAll_cons hA
  obtain ⟨v1, vs1, d1, ds1, p1, pq1, hargs1, rfl, rfl, h1, r1⟩ := trodAll_cons r0
  obtain ⟨rfl, rfl, rfl⟩ := trodAll_nil r1
  obtain rfl : args = #[v0, v1] := by cases args; simp_all
  obtain ⟨rfl, rfl⟩ := trodVars_none hV
  clear hval0 hsz0
  have hall := hA0
  obtain ⟨us0, rfl, hl0, hf0⟩ := argStruct (fs := (match Try.prog.underlying 59 with | some (.struct fs) => fs | _ => #[])) (hval 0 59 v0 rfl rfl) (by kernel_rfl) h0
  have hl0 : us0.length = 3 := hl0
  obtain ⟨u0_0, y0_0, rfl, z0_0⟩ := len_cons hl0
  obtain ⟨u0_1, y0_1, rfl, z0_1⟩ := len_cons z0_0
  obtain ⟨u0_2, y0_2, rfl, z0_2⟩ := len_cons z0_1
  obtain rfl := len_nil z0_2
  obtain ⟨na1, xa1, ta1⟩ := hf0 0 _ u0_0 rfl rfl (by kernel_rfl)
  obtain ⟨qa1, tra1, fita1, wa1, oa1⟩ := readSl (el := 3) (e := [.int .i64]) (by kernel_rfl) (by kernel_rfl) (by simp) ta1
  obtain ⟨a1, rfl⟩ : ∃ x, qa1 = .ints x := by cases qa1 <;> first | exact ⟨_, rfl⟩ | cases fita1
  obtain ⟨na2, xa2, ta2⟩ := hf0 1 _ u0_1 rfl rfl (by kernel_rfl)
  obtain ⟨a2, rfl, wa2⟩ := trodInt (k := .i64) (by kernel_rfl) ta2
  obtain ⟨na3, xa3, ta3⟩ := hf0 2 _ u0_2 rfl rfl (by kernel_rfl)
  obtain ⟨qa3, tra3, fita3, wa3, oa3⟩ := readSl (el := 149) (e := [.int .i64, .int .i64, .bool]) (by kernel_rfl) (by kernel_rfl) (by simp) ta3
  obtain ⟨a3, rfl⟩ : ∃ x, qa3 = .cells x := by cases qa3 <;> first | exact ⟨_, rfl⟩ | cases fita3
  obtain ⟨us1, rfl, hl1, hf1⟩ := argStruct (fs := (match Try.prog.underlying 60 with | some (.struct fs) => fs | _ => #[])) (hval 1 60 v1 rfl rfl) (by kernel_rfl) h1
  have hl1 : us1.length = 2 := hl1
  obtain ⟨u1_0, y1_0, rfl, z1_0⟩ := len_cons hl1
  obtain ⟨u1_1, y1_1, rfl, z1_1⟩ := len_cons z1_0
  obtain rfl := len_nil z1_1
  obtain ⟨na4, xa4, ta4⟩ := hf1 0 _ u1_0 rfl rfl (by kernel_rfl)
  obtain ⟨qa4, tra4, fita4, wa4, oa4⟩ := readSl (el := 3) (e := [.int .i64]) (by kernel_rfl) (by kernel_rfl) (by simp) ta4
  obtain ⟨a4, rfl⟩ : ∃ x, qa4 = .ints x := by cases qa4 <;> first | exact ⟨_, rfl⟩ | cases fita4
  obtain ⟨na5, xa5, ta5⟩ := hf1 1 _ u1_1 rfl rfl (by kernel_rfl)
  obtain ⟨qa5, tra5, fita5, wa5, oa5⟩ := readSl (el := 3) (e := [.int .i64]) (by kernel_rfl) (by kernel_rfl) (by simp) ta5
  obtain ⟨a5, rfl⟩ : ∃ x, qa5 = .ints x := by cases qa5 <;> first | exact ⟨_, rfl⟩ | cases fita5
  refine (law_calls (W := W) (f := 6) (xs := [.v ⟨true, [.tr 0 1 [.int .i64] (.ints a1), .int .i64 a2, .tr 0 1 [.int .i64, .int .i64, .bool] (.cells a3)]⟩, .v ⟨true, [.tr 0 1 [.int .i64] (.ints a4), .tr 0 1 [.int .i64] (.ints a5)]⟩]) Go.Tv.F.laws_FnExactHeapPut.ok (fn := Try.f6) (by kernel_rfl) (by kernel_rfl) (by kernel_rfl) (by kernel_rfl) ⟨Go.Tv.F.laws_FnExactHeapPut.m true, Go.Tv.F.lawFnExactHeapPut a1 a2 a3 a4 a5 wa1 wa2 wa3 wa4 wa5 (fun r => some (Go.Tv.F.laws_FnExactHeapPut.m r)), rfl⟩ rfl (fun j x hj => by
    match j, hj with
    | 0, hj => cases hj; exact ⟨_, rfl, ⟨_, rfl, RVs.cons (tra1 _ _) oa1 (RVs.cons (rfl) rfl (RVs.cons (tra3 _ _) oa3 (RVs.nil _)))⟩⟩
    | 1, hj => cases hj; exact ⟨_, rfl, ⟨_, rfl, RVs.cons (tra4 _ _) oa4 (RVs.cons (tra5 _ _) oa5 (RVs.nil _))⟩⟩
    | j + 2, hj => simp at hj)).mono fun e W' ⟨he, bel⟩ => ?_
  subst he
  exact ⟨_, rfl, _, _, _, [], _, [], hW', trodAll_mk1 (shut_bool (by kernel_rfl) _), trodAll_below (by kernel_rfl) bel (by kernel_rfl) hall (DataW.TrodAll.lt hall), rfl, bel.frame _, fun h => by cases h⟩
theorem over : Rows.fnExactHeapPutRow.holds Try.pinned (OpenSpec.ofChange Rows.fnExactHeapPutSpec) :=
  OpenClaim.holds_of_wide 6 Try.f6 rfl rfl rfl rfl rfl rfl rfl ⟨rfl, rfl, rfl, rfl, rfl⟩ rfl rfl rfl rfl rfl (by kernel_rfl) Try.func6 (by kernel_rfl)
    (of_decide_eq_true (by kernel_rfl)) (by unfold Func.isWrapper; first | (rw [if_pos (by decide +kernel)]; kernel_rfl) | (rw [if_neg (by decide +kernel)]; exact ⟨rfl, rfl⟩))
    (fun os started H enc _ => lifted os started H enc)
theorem proved : Rows.FnExactHeapPutSaid := over
end Go.Proofs.Ytbocgpagaacpoab.fnExactHeapPut
namespace Go.Proofs.Ytbocgpagaacpoab
/-- The row, under a short name, for the claim. -/
theorem fnExactHeapPut_holds : Rows.FnExactHeapPutSaid := fnExactHeapPut.proved
end Go.Proofs.Ytbocgpagaacpoab
