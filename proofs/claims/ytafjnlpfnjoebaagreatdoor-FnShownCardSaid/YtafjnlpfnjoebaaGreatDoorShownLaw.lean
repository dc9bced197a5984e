/- The law: its given row is met, for every input, without condition. -/
import Derived.Test.YtafjnlpfnjoebaaGreatDoorRows
import Derived.Test.YtafjnlpfnjoebaaGreatDoorShownPure
import Derived.WalkKit
import Derived.ProofKit
import Derived.OpenShut
import Derived.ShutString
import Derived.ChangeOld
import Derived.Below
import Derived.SizedLaws
import Derived.Test.YtafjnlpfnjoebaaGreatDoorCards
import Derived.Test.YtafjnlpfnjoebaaGreatDoorTie
import Derived.SevenTiedAt
import Derived.Handed
import Derived.Lay
import Derived.MakeChecks
import Derived.Stop.LaidErr
import Derived.Lib.LaidTab
import Derived.Lib.ItoaNum
set_option linter.unusedVariables false
set_option linter.unusedSectionVars false
set_option linter.unusedSimpArgs false
set_option linter.unnecessarySimpa false
set_option maxRecDepth 100000
namespace Go.Proofs.YtafjnlpfnjoebaaGreatDoor.fnShown
open Go Go.Tv Go.ChangeShapes Go.WideShapes Go.ChangeAt Go.RowKit
set_option linter.unusedVariables false
theorem own : ownKnob Tryz.prog.godebug = none := by kernel_rfl
theorem tab (W : World) (h : laidMetH Tryz.prog Rows.fnShownRow.laid W) : Lib.TabIs Tryz.prog W tabName .u64 Lib.pow10Tab := by
  rw [MakeChecks.laidMetH_plain _ _ _ (by kernel_rfl)] at h
  have h2 : laidMet Tryz.prog ((tabName, Lib.tabData .u64 Lib.pow10Tab) :: _ :: _ :: []) W := laidMet.tail (laidMet.tail ((show laidMet Tryz.prog (_ :: _ :: _ :: _ :: _ :: []) W from h)))
  exact Lib.tabIs_of_head (g := (Tryz.prog.globalNamed tabName).getD 0) (t := ((Tryz.prog.globals[(Tryz.prog.globalNamed tabName).getD 0]?).map (·.type)).getD 0) (e := (match Tryz.prog.underlying (((Tryz.prog.globals[(Tryz.prog.globalNamed tabName).getD 0]?).map (·.type)).getD 0) with | some (.array _ e) => e | _ => 0)) (n := 20)
    (by kernel_rfl) (by kernel_rfl) (by kernel_rfl) (by kernel_rfl) (by kernel_rfl) (by kernel_rfl) h2
set_option maxRecDepth 100000 in
theorem lifted (os : Os) (started : os.Started) (H : Type) (enc : TypeId × Value → H) :
    ReturnsInHanded {} Tryz.checked os 3 .any (fun w args => (Rows.fnShownSpec.pre enc Tryz.prog Tryz.f3 Rows.fnShownRow.domain false w args ∧ laidMetH Tryz.prog Rows.fnShownRow.laid w) ∧ sizedMet enc Tryz.prog Tryz.f3 (OpenSpec.ofChange Rows.fnShownSpec) false w args) (Rows.fnShownSpec.post enc Tryz.prog Tryz.f3 false true false false) := by
  refine returnsInHanded_of_change_and (C := Tryz.checked) (X := fun w _ => laidMetH Tryz.prog Rows.fnShownRow.laid w) (fun _ _ _ hh h => h.of_heap hh) own started (by kernel_rfl) Tryz.func3
    (ChangeSpec.witness_shaped (enc := enc) (C := Tryz.checked) (os := os) (X := fun w _ => laidMetH Tryz.prog Rows.fnShownRow.laid w) false (World.laidAll Tryz.prog os Rows.fnShownRow.laid) #[.slice none 0 0] 8 (World.laidAll_os _ _ _)
      (World.shaped_of_ZipB (by kernel_rfl) (by kernel_rfl)) (by kernel_rfl) (by kernel_rfl) (by kernel_rfl)
      (by rw [MakeChecks.laidMetH_plain _ _ _ (by kernel_rfl)]; exact laidMet_laidAll _ (by kernel_rfl) (by kernel_rfl))) ?_
  intro W base args ds gs before hval0 hW hcnd hsz0 hX _
  have hval : ∀ (j : Nat) t v, Tryz.f3.params[j]? = some t → args[j]? = some v → Value.okWide Tryz.prog W .any base t v := hval0
  have hW' := hW
  obtain ⟨p, q, hA0, hV, rfl, hfz, hnd⟩ := hW
  have hA : DataW.TrodAll enc Tryz.prog W 0 (fun _ => true) true Tryz.f3.params.toList args.toList ds p := hA0
  rw [Tryz.params3] at hA hval
  obtain ⟨v0, vs0, d0, ds0, p0, pq0, hargs0, rfl, rfl, h0, r0⟩ := trodAll_cons hA
  obtain ⟨rfl, rfl, rfl⟩ := trodAll_nil r0
  obtain rfl : args = #[v0] := by cases args; simp_all
  obtain ⟨rfl, rfl⟩ := trodVars_none hV
  clear hval0 hsz0
  have hall := hA0
  obtain ⟨n0, t0⟩ := argFlat (dd := .slice 5) (hval 0 22 v0 rfl rfl) (by kernel_rfl) rfl h0
  obtain ⟨qa1, tra1, fita1, wa1, oa1⟩ := readSl (t := 22) (el := 5) (e := [.int .u8]) (by kernel_rfl) (by kernel_rfl) (by simp) t0
  obtain ⟨a1, rfl⟩ : ∃ x, qa1 = .ints x := by cases qa1 <;> first | exact ⟨_, rfl⟩ | cases fita1
  refine (law_calls (W := W) (f := 3) (xs := [one (.tr 2 2 [.int .u8] (.ints a1))]) Go.Tv.F.laws_FnShown.ok (fn := Tryz.f3) (by kernel_rfl) (by kernel_rfl) (by kernel_rfl) (envTab_start (tab W hX)) (by kernel_rfl) ⟨Go.Tv.F.laws_FnShown.m a1 true, Go.Tv.F.lawFnShown a1 wa1 (fun r => some (Go.Tv.F.laws_FnShown.m a1 r)), rfl⟩ rfl (fun j x hj => by
    match j, hj with
    | 0, hj => cases hj; exact ⟨_, rfl, TVV.one (tra1 _ _)⟩
    | j + 1, hj => simp at hj)).mono fun e W' ⟨he, bel⟩ => ?_
  subst he
  exact ⟨_, rfl, _, _, _, [], _, [], hW', trodAll_mk1 (shut_bool (by kernel_rfl) _), trodAll_below (by kernel_rfl) bel (by kernel_rfl) hall (DataW.TrodAll.lt hall), rfl, bel.frame _, fun h => by cases h⟩
theorem over : Rows.fnShownRow.holds Tryz.pinned (OpenSpec.ofChange Rows.fnShownSpec) :=
  OpenClaim.holds_of_wide 3 Tryz.f3 rfl rfl rfl rfl rfl rfl rfl ⟨rfl, rfl, rfl, rfl, rfl⟩ rfl rfl rfl rfl rfl (by kernel_rfl) Tryz.func3 (by kernel_rfl)
    (of_decide_eq_true (by kernel_rfl)) (by unfold Func.isWrapper; first | (rw [if_pos (by decide +kernel)]; kernel_rfl) | (rw [if_neg (by decide +kernel)]; exact ⟨rfl, rfl⟩))
    (fun os started H enc _ => lifted os started H enc)
theorem proved : Rows.FnShownCardSaid :=
  Claim7.holds_tied_plain_at .later [] [.data, .data, .data, .data, .pinned] true (true, "a53565f84c141b2fdfd4e1de1439c5c5d9b4185ce75724a5447dcb52729d1931") false over (fun _ h => by cases h) (by kernel_rfl) (fun _ h => by cases h) fnShown_row_tie rfl ⟨rfl, rfl⟩ (by kernel_rfl) rfl
    (fun g fn hg hfn => by
      obtain rfl : g = 3 := Option.some.inj ((show Tryz.prog.funcNamed Rows.fnShownRow.func = some 3 by kernel_rfl).symm.trans hg) |>.symm
      obtain rfl : fn = Tryz.f3 := (Option.some.inj (Tryz.func3.symm.trans hfn)).symm
      exact ⟨by kernel_rfl, fun j t ht => by
        rw [Tryz.params3] at ht
        have hm : t ∈ [22] := by simpa using Array.mem_of_getElem? ht
        have hall : ([22].all fun u => !Tryz.prog.wantsStandIn u) = true := by kernel_rfl
        exact (show Tryz.prog.wantsStandIn t = false by simpa using List.all_eq_true.1 hall t hm)⟩)
    (by kernel_rfl)
end Go.Proofs.YtafjnlpfnjoebaaGreatDoor.fnShown
namespace Go.Proofs.YtafjnlpfnjoebaaGreatDoor
/-- The row, under a short name, for the claim. -/
theorem fnShown_holds : Rows.FnShownCardSaid := fnShown.proved
end Go.Proofs.YtafjnlpfnjoebaaGreatDoor
