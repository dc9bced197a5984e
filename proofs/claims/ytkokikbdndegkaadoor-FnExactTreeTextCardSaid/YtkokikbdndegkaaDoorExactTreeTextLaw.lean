/- The law: its given row is met, for every input, without condition. -/
import Derived.Test.YtkokikbdndegkaaDoorRows
import Derived.Test.YtkokikbdndegkaaDoorExactTreeTextPure
import Derived.WalkKit
import Derived.ProofKit
import Derived.OpenShut
import Derived.ShutString
import Derived.ChangeOld
import Derived.Below
import Derived.SizedLaws
import Derived.Test.YtkokikbdndegkaaDoorCards
import Derived.Test.YtkokikbdndegkaaDoorTie
import Derived.SevenTiedAt
import Derived.Handed
import Derived.Lay
import Derived.MakeChecks
import Derived.Stop.LaidErr
import Derived.Lib.LaidTab
import Derived.Lib.ItoaNum
set_option linter.unusedVariables false
set_option linter.unusedSectionVars false
set_option linter.unusedSimpArgs false
set_option linter.unnecessarySimpa false
set_option maxRecDepth 100000
namespace Go.Proofs.YtkokikbdndegkaaDoor.fnExactTreeText
open Go Go.Tv Go.ChangeShapes Go.WideShapes Go.ChangeAt Go.RowKit
set_option linter.unusedVariables false
theorem own : ownKnob Tryd.prog.godebug = none := by kernel_rfl
theorem tab (W : World) (h : laidMetH Tryd.prog Rows.fnExactTreeTextRow.laid W) : Lib.TabIs Tryd.prog W tabName .u64 Lib.pow10Tab := by
  rw [MakeChecks.laidMetH_plain _ _ _ (by kernel_rfl)] at h
  have h2 : laidMet Tryd.prog ((tabName, Lib.tabData .u64 Lib.pow10Tab) :: []) W := laidMet.tail (laidMet.tail (show laidMet Tryd.prog (_ :: _ :: _ :: []) W from h))
  exact Lib.tabIs_of_head (g := (Tryd.prog.globalNamed tabName).getD 0) (t := ((Tryd.prog.globals[(Tryd.prog.globalNamed tabName).getD 0]?).map (·.type)).getD 0) (e := (match Tryd.prog.underlying (((Tryd.prog.globals[(Tryd.prog.globalNamed tabName).getD 0]?).map (·.type)).getD 0) with | some (.array _ e) => e | _ => 0)) (n := 20)
    (by kernel_rfl) (by kernel_rfl) (by kernel_rfl) (by kernel_rfl) (by kernel_rfl) (by kernel_rfl) h2
set_option maxRecDepth 100000 in
theorem lifted (os : Os) (started : os.Started) (H : Type) (enc : TypeId × Value → H) :
    ReturnsInHanded {} Tryd.checked os 3 .any (fun w args => (Rows.fnExactTreeTextSpec.pre enc Tryd.prog Tryd.f3 Rows.fnExactTreeTextRow.domain false w args ∧ laidMetH Tryd.prog Rows.fnExactTreeTextRow.laid w) ∧ sizedMet enc Tryd.prog Tryd.f3 (OpenSpec.ofChange Rows.fnExactTreeTextSpec) false w args) (Rows.fnExactTreeTextSpec.post enc Tryd.prog Tryd.f3 false true false false) := by
  refine returnsInHanded_of_change_and (C := Tryd.checked) (X := fun w _ => laidMetH Tryd.prog Rows.fnExactTreeTextRow.laid w) (fun _ _ _ hh h => h.of_heap hh) own started (by kernel_rfl) Tryd.func3
    (ChangeSpec.witness_shaped (enc := enc) (C := Tryd.checked) (os := os) (X := fun w _ => laidMetH Tryd.prog Rows.fnExactTreeTextRow.laid w) false (World.laidAll Tryd.prog os Rows.fnExactTreeTextRow.laid) #[.agg #[.slice none 0 0]] 8 (World.laidAll_os _ _ _)
      (World.shaped_of_ZipB (by kernel_rfl) (by kernel_rfl)) (by kernel_rfl) (by kernel_rfl) (by kernel_rfl)
      (by rw [MakeChecks.laidMetH_plain _ _ _ (by kernel_rfl)]; exact laidMet_laidAll _ (by kernel_rfl) (by kernel_rfl))) ?_
  intro W base args ds gs before hval0 hW hcnd hsz0 hX _
  have hval : ∀ (j : Nat) t v, Tryd.f3.params[j]? = some t → args[j]? = some v → Value.okWide Tryd.prog W .any base t v := hval0
  have hW' := hW
  obtain ⟨p, q, hA0, hV, rfl, hfz, hnd⟩ := hW
  have hA : DataW.TrodAll enc Tryd.prog W 0 (fun _ => true) true Tryd.f3.params.toList args.toList ds p := hA0
  rw [Tryd.params3] at hA hval
  obtain ⟨v0, vs0, d0, ds0, p0, pq0, hargs0, rfl, rfl, h0, r0⟩ := trodAll_cons hA
  obtain ⟨rfl, rfl, rfl⟩ := trodAll_nil r0
  obtain rfl : args = #[v0] := by cases args; simp_all
  obtain ⟨rfl, rfl⟩ := trodVars_none hV
  clear hval0 hsz0
  have hall := hA0
  obtain ⟨us0, rfl, hl0, hf0⟩ := argStruct (fs := (match Tryd.prog.underlying 24 with | some (.struct fs) => fs | _ => #[])) (hval 0 24 v0 rfl rfl) (by kernel_rfl) h0
  have hl0 : us0.length = 1 := hl0
  obtain ⟨u0_0, y0_0, rfl, z0_0⟩ := len_cons hl0
  obtain rfl := len_nil z0_0
  obtain ⟨na1, xa1, ta1⟩ := hf0 0 _ u0_0 rfl rfl (by kernel_rfl)
  obtain ⟨qa1, tra1, fita1, wa1, oa1⟩ := readSl (el := 45) (e := [.int .i64, .int .i64, .int .i64, .int .i64, .int .i64, .int .i64, .ints .i64]) (by kernel_rfl) (by kernel_rfl) (by simp) ta1
  obtain ⟨a1, rfl⟩ : ∃ x, qa1 = .cells x := by cases qa1 <;> first | exact ⟨_, rfl⟩ | cases fita1
  refine (law_calls (W := W) (f := 3) (xs := [.v ⟨true, [.tr 2 2 [.int .i64, .int .i64, .int .i64, .int .i64, .int .i64, .int .i64, .ints .i64] (.cells a1)]⟩]) Go.Tv.F.laws_FnExactTreeText.ok (fn := Tryd.f3) (by kernel_rfl) (by kernel_rfl) (by kernel_rfl) (envTab_start (tab W hX)) (by kernel_rfl) ⟨Go.Tv.F.laws_FnExactTreeText.m a1 true, Go.Tv.F.lawFnExactTreeText a1 wa1 (fun r => some (Go.Tv.F.laws_FnExactTreeText.m a1 r)), rfl⟩ rfl (fun j x hj => by
    match j, hj with
    | 0, hj => cases hj; exact ⟨_, rfl, ⟨_, rfl, RVs.cons (tra1 _ _) oa1 (RVs.nil _)⟩⟩
    | j + 1, hj => simp at hj)).mono fun e W' ⟨he, bel⟩ => ?_
  subst he
  exact ⟨_, rfl, _, _, _, [], _, [], hW', trodAll_mk1 (shut_bool (by kernel_rfl) _), trodAll_below (by kernel_rfl) bel (by kernel_rfl) hall (DataW.TrodAll.lt hall), rfl, bel.frame _, fun h => by cases h⟩
theorem over : Rows.fnExactTreeTextRow.holds Tryd.pinned (OpenSpec.ofChange Rows.fnExactTreeTextSpec) :=
  OpenClaim.holds_of_wide 3 Tryd.f3 rfl rfl rfl rfl rfl rfl rfl ⟨rfl, rfl, rfl, rfl, rfl⟩ rfl rfl rfl rfl rfl (by kernel_rfl) Tryd.func3 (by kernel_rfl)
    (of_decide_eq_true (by kernel_rfl)) (by unfold Func.isWrapper; first | (rw [if_pos (by decide +kernel)]; kernel_rfl) | (rw [if_neg (by decide +kernel)]; exact ⟨rfl, rfl⟩))
    (fun os started H enc _ => lifted os started H enc)
theorem proved : Rows.FnExactTreeTextCardSaid :=
  Claim7.holds_tied_plain_at .later [] [.data, .data, .data] true (true, "9ef9817f6b0532d6a82d643f3277819340c350c4aa3f731c59ebd9068519a53c") false over (fun _ h => by cases h) (by kernel_rfl) (fun _ h => by cases h) fnExactTreeText_row_tie rfl ⟨rfl, rfl⟩ (by kernel_rfl) rfl
    (fun g fn hg hfn => by
      obtain rfl : g = 3 := Option.some.inj ((show Tryd.prog.funcNamed Rows.fnExactTreeTextRow.func = some 3 by kernel_rfl).symm.trans hg) |>.symm
      obtain rfl : fn = Tryd.f3 := (Option.some.inj (Tryd.func3.symm.trans hfn)).symm
      exact ⟨by kernel_rfl, fun j t ht => by
        rw [Tryd.params3] at ht
        have hm : t ∈ [24] := by simpa using Array.mem_of_getElem? ht
        have hall : ([24].all fun u => !Tryd.prog.wantsStandIn u) = true := by kernel_rfl
        exact (show Tryd.prog.wantsStandIn t = false by simpa using List.all_eq_true.1 hall t hm)⟩)
    (by kernel_rfl)
end Go.Proofs.YtkokikbdndegkaaDoor.fnExactTreeText
namespace Go.Proofs.YtkokikbdndegkaaDoor
/-- The row, under a short name, for the claim. -/
theorem fnExactTreeText_holds : Rows.FnExactTreeTextCardSaid := fnExactTreeText.proved
end Go.Proofs.YtkokikbdndegkaaDoor
