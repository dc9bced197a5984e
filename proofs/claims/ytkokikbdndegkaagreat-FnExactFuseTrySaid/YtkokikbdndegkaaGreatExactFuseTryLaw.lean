/- The law: its given row is met, for every input, without condition. -/
import Derived.Test.YtkokikbdndegkaaGreatRows
import Derived.Test.YtkokikbdndegkaaGreatExactFuseTryPure
import Derived.WalkKit
import Derived.ProofKit
import Derived.OpenShut
import Derived.ShutString
import Derived.ChangeOld
import Derived.Below
import Derived.SizedLaws
set_option linter.unusedVariables false
set_option linter.unusedSectionVars false
set_option linter.unusedSimpArgs false
set_option linter.unnecessarySimpa false
set_option maxRecDepth 100000
namespace Go.Proofs.YtkokikbdndegkaaGreat.fnExactFuseTry
open Go Go.Tv Go.ChangeShapes Go.WideShapes Go.ChangeAt Go.RowKit
set_option linter.unusedVariables false
theorem own : ownKnob Tryz.prog.godebug = none := by kernel_rfl
set_option maxRecDepth 100000 in
theorem lifted (os : Os) (started : os.Started) (H : Type) (enc : TypeId × Value → H) :
    ReturnsInHanded {} Tryz.checked os 3 .any (Rows.fnExactFuseTrySpec.pre6 enc Tryz.prog Tryz.f3 Rows.fnExactFuseTryRow.domain false) (Rows.fnExactFuseTrySpec.post enc Tryz.prog Tryz.f3 false true false false) := by
  refine returnsInHanded_of_change_sized (C := Tryz.checked) own started (by kernel_rfl) Tryz.func3
    (ChangeSpec.witness6 (enc := enc) (C := Tryz.checked) false ⟨#[], #[.slice none 0 0, .agg #[.int .i64 0, .int .i64 0], .slice none 0 0], []⟩ 8 (by kernel_rfl) (by kernel_rfl) (by kernel_rfl) (by kernel_rfl)) ?_
  intro W base args ds gs before hval0 hW hcnd hsz0 _
  have hval : ∀ (j : Nat) t v, Tryz.f3.params[j]? = some t → args[j]? = some v → Value.okWide Tryz.prog W .any base t v := hval0
  have hW' := hW
  obtain ⟨p, q, hA0, hV, rfl, hfz, hnd⟩ := hW
  have hA : DataW.TrodAll enc Tryz.prog W 0 (fun _ => true) true Tryz.f3.params.toList args.toList ds p := hA0
  rw [Tryz.params3] at hA hval
  obtain ⟨v0, vs0, d0, ds0, p0, pq0, hargs0, rfl, rfl, h0, r0⟩ := trodAll_cons hA
  obtain ⟨v1, vs1, d1, ds1, p1, pq1, hargs1, rfl, rfl, h1, r1⟩ := trodAll_cons r0
  obtain ⟨v2, vs2, d2, ds2, p2, pq2, hargs2, rfl, rfl, h2, r2⟩ := trodAll_cons r1
  obtain ⟨rfl, rfl, rfl⟩ := trodAll_nil r2
  obtain rfl : args = #[v0, v1, v2] := by cases args; simp_all
  obtain ⟨rfl, rfl⟩ := trodVars_none hV
  clear hval0 hsz0
  have hall := hA0
  obtain ⟨n0, t0⟩ := argFlat (dd := .slice 60) (hval 0 22 v0 rfl rfl) (by kernel_rfl) rfl h0
  obtain ⟨qa1, tra1, fita1, wa1, oa1⟩ := readSl (t := 22) (el := 60) (e := [.int .i64, .int .i64, .int .i64, .int .i64, .int .i64, .ints .i64]) (by kernel_rfl) (by kernel_rfl) (by simp) t0
  obtain ⟨a1, rfl⟩ : ∃ x, qa1 = .cells x := by cases qa1 <;> first | exact ⟨_, rfl⟩ | cases fita1
  obtain ⟨us1, rfl, hl1, hf1⟩ := argStruct (fs := (match Tryz.prog.underlying 24 with | some (.struct fs) => fs | _ => #[])) (hval 1 24 v1 rfl rfl) (by kernel_rfl) h1
  have hl1 : us1.length = 2 := hl1
  obtain ⟨u1_0, y1_0, rfl, z1_0⟩ := len_cons hl1
  obtain ⟨u1_1, y1_1, rfl, z1_1⟩ := len_cons z1_0
  obtain rfl := len_nil z1_1
  obtain ⟨na2, xa2, ta2⟩ := hf1 0 _ u1_0 rfl rfl (by kernel_rfl)
  obtain ⟨a2, rfl, wa2⟩ := trodInt (k := .i64) (by kernel_rfl) ta2
  obtain ⟨na3, xa3, ta3⟩ := hf1 1 _ u1_1 rfl rfl (by kernel_rfl)
  obtain ⟨a3, rfl, wa3⟩ := trodInt (k := .i64) (by kernel_rfl) ta3
  obtain ⟨n2, t2⟩ := argFlat (dd := .slice 64) (hval 2 25 v2 rfl rfl) (by kernel_rfl) rfl h2
  obtain ⟨qa4, tra4, fita4, wa4, oa4⟩ := readSl (t := 25) (el := 64) (e := [.bool, .ints .i64, .ints .i64]) (by kernel_rfl) (by kernel_rfl) (by simp) t2
  obtain ⟨a4, rfl⟩ : ∃ x, qa4 = .cells x := by cases qa4 <;> first | exact ⟨_, rfl⟩ | cases fita4
  refine (law_calls (W := W) (f := 3) (xs := [one (.tr 2 2 [.int .i64, .int .i64, .int .i64, .int .i64, .int .i64, .ints .i64] (.cells a1)), .v ⟨true, [.int .i64 a2, .int .i64 a3]⟩, one (.tr 2 2 [.bool, .ints .i64, .ints .i64] (.cells a4))]) Go.Tv.F.laws_FnExactFuseTry.ok (fn := Tryz.f3) (by kernel_rfl) (by kernel_rfl) (by kernel_rfl) trivial (by kernel_rfl) ⟨Go.Tv.F.laws_FnExactFuseTry.m a1 a2 a3 a4 true, Go.Tv.F.lawFnExactFuseTry a1 a2 a3 a4 wa1 wa2 wa3 wa4 (fun r => some (Go.Tv.F.laws_FnExactFuseTry.m a1 a2 a3 a4 r)), rfl⟩ rfl (fun j x hj => by
    match j, hj with
    | 0, hj => cases hj; exact ⟨_, rfl, TVV.one (tra1 _ _)⟩
    | 1, hj => cases hj; exact ⟨_, rfl, ⟨_, rfl, RVs.cons (rfl) rfl (RVs.cons (rfl) rfl (RVs.nil _))⟩⟩
    | 2, hj => cases hj; exact ⟨_, rfl, TVV.one (tra4 _ _)⟩
    | j + 3, hj => simp at hj)).mono fun e W' ⟨he, bel⟩ => ?_
  subst he
  exact ⟨_, rfl, _, _, _, [], _, [], hW', trodAll_mk1 (shut_bool (by kernel_rfl) _), trodAll_below (by kernel_rfl) bel (by kernel_rfl) hall (DataW.TrodAll.lt hall), rfl, bel.frame _, fun h => by cases h⟩
theorem over : Rows.fnExactFuseTryRow.holds Tryz.pinned (OpenSpec.ofChange Rows.fnExactFuseTrySpec) :=
  OpenClaim.holds_of_wide 3 Tryz.f3 rfl rfl rfl rfl rfl rfl rfl ⟨rfl, rfl, rfl, rfl, rfl⟩ rfl rfl rfl rfl rfl (by kernel_rfl) Tryz.func3 (by kernel_rfl)
    (of_decide_eq_true (by kernel_rfl)) (by unfold Func.isWrapper; first | (rw [if_pos (by decide +kernel)]; kernel_rfl) | (rw [if_neg (by decide +kernel)]; exact ⟨rfl, rfl⟩))
    (fun os started H enc _ => lifted os started H enc)
theorem proved : Rows.FnExactFuseTrySaid := over
end Go.Proofs.YtkokikbdndegkaaGreat.fnExactFuseTry
namespace Go.Proofs.YtkokikbdndegkaaGreat
/-- The row, under a short name, for the claim. -/
theorem fnExactFuseTry_holds : Rows.FnExactFuseTrySaid := fnExactFuseTry.proved
end Go.Proofs.YtkokikbdndegkaaGreat
