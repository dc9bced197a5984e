/- The pure law about these functions. It holds without condition. -/
import Derived.Test.YtdejjcgikcfgjaaLineCodePureA
set_option linter.unusedVariables false
set_option linter.unusedSectionVars false
set_option linter.unusedSimpArgs false
set_option linter.unnecessarySimpa false
set_option maxRecDepth 100000
set_option autoImplicit false
namespace Go.Tv.F
open Go Go.Tv
theorem codeOk (a : Ast) (ha : okA a = true) (h60 : asz a ≤ 60) (hb : NumB (ndsA a 0)) (R : Bool → Option Res) : impl_CodeOk.g ((ndsA a 0).map mkI) R = R true := by
 have hl := nds_len a 0
 have hp := asz_pos a
 have hall := nodeB_nds a 0 ha
 simp only [impl_CodeOk.e, impl_CodeOk.b, within, List.length_map, slices_ContainsFunc_impl_Instr_impl_Instr.e, slices_ContainsFunc_impl_Instr_impl_Instr.b, instrIdx _ (by omega : (ndsA a 0).length ≤ 1000000) hb hall]
 rw [cd_f (by rw [Bool.not_eq_false', Bool.and_eq_true, decide_eq_true_eq, decide_eq_true_eq]; omega), cd_f (by decide)]
 obtain ⟨Ls, d1, d2, d3, d4⟩ := deepA (ndsA a 0) (by omega) a 0 0 0 [0] [] (by rw [List.drop_zero, List.append_nil]) rfl rfl (by omega)
 simp only [impl_deep.e, impl_deep.b, List.length_map]
 obtain ⟨m, hm, _⟩ := fuel_split (asz a + 1) (by omega)
 rw [hm, show m + (asz a + 1) = m + 1 + asz a from by omega]
 refine (d4 _ _ (m + 1)).trans ?_
 simp only [impl_deep.l0, impl_deep.l0s]
 simp only [Nat.zero_add] at d1 d2 ⊢
 rw [cd_f (by simp only [decide_eq_false_iff_not]; omega), cond_true, cd_t (by rw [Bool.and_eq_true, decide_eq_true_eq, decide_eq_true_eq]; omega), Int.toNat_natCast, hl, d2]; rfl
theorem sameCode (l : List (List Cl)) (hl : l.length ≤ 100000) (h : ∀ r ∈ l, ((r.getD 5 (.i 0)).toL).length ≤ 1048576) (R : Bool → Option Res) : laws_sameCode.g l l R = R true := by
 simp only [laws_sameCode.e, laws_sameCode.b, bne_self_eq_false, cond_false]
 refine up0 (N := l.length) (P := fun n i => laws_sameCode.l0 l l (R true) R n (i : Int) = R true) (by omega) ?_ ?_ 0 (by omega)
 ·intro n; simp only [laws_sameCode.l0, laws_sameCode.l0s, ixe, cond_false]
 ·intro n i hi ih
  have hr := h (l.getD i []) (by rw [List.getD_eq_getElem?_getD, List.getElem?_eq_getElem hi]; exact List.getElem_mem hi)
  simp only [laws_sameCode.l0, laws_sameCode.l0s, ixl hi, ix0, Bool.and_self, cond_true, bne_self_eq_false, beq_self_eq_true, Bool.and_true, Bool.not_true, cond_false, Int.toNat_natCast, sameInts _ hr, ixw (by omega : i < 9223372036854775807)]
  exact ih
theorem num_nds (M : Nat) (a : Ast) (n : Nat) (h : numB M a) : ∀ x ∈ ndsA a n, x.2.2.2.2.length ≤ M := fun x hx => by
 have := numB_rows M a n h (mkN x) (by rw [← nds_flat]; exact List.mem_map_of_mem hx)
 exact this
theorem lawFnLineCode (a : List Int) (ha : wfQ [.int .u8] (.ints a)) (R : Bool → Option Res) : laws_FnLineCode.g a R = R true := by
 simp only [laws_FnLineCode.e, laws_FnLineCode.b, laws_big.e, laws_big.b]
 by_cases h : 1048576 < (a.length : Int)
 ·simp [h]
 obtain ⟨s0, hN, c0⟩ := dNew a (by omega)
 obtain ⟨s, i1, s1, h1, c1, z1⟩ := dText a 0 s0 c0
 have hD : ∀ R, spec_DrawLineCode.g a R = R s := fun R => by simp only [spec_DrawLineCode.e, spec_DrawLineCode.b, hN, h1]
 simp only [h, decide_false, cond_false, hD, impl_LineCode.e, impl_LineCode.b, spec_LineCode.e, spec_LineCode.b, lexI, lexS]
 have p0 : ∀ R : List (List Cl) → Int → Option Res, impl_Parse.g [] R = R [] 8 := fun R => (parseI [] (by decide) R).trans (by
  have : ipF o1F o2F [] = none := rfl
  rw [this]; rfl)
 have z0 : ((0 : Int) != 0) = false := by decide
 have z6 : ((6 : Int) != 0) = true := by decide
 have z8 : ((8 : Int) != 0) = true := by decide
 unfold lexA
 by_cases h3 : 300 < s.size
 ·simp only [if_pos h3, z6, cond_true, bne_self_eq_false, cond_false, p0, beq_self_eq_true]; rfl
 simp only [if_neg h3]
 cases hx : lexF s.data.toList with
 | inr p =>
  have hp := bne0 (lexM_err _ _ p hx)
  simp only [hp, cond_true, bne_self_eq_false, cond_false, p0, beq_self_eq_true]; rfl
 | inl Z =>
  obtain ⟨g1, g2⟩ := lexM_ok _ _ Z hx
  have g2 : Z.length ≤ s.size := by rw [Array.length_toList] at g2; exact g2
  have ht : toksOk Z = true := by simp only [toksOk, g1, Bool.true_and, decide_eq_true_eq]; omega
  simp only [parseI Z (by omega), parseS Z (by omega), ht, Bool.not_true, z0, cond_false]
  cases hi : ipF o1F o2F Z with
  | none => simp only [z8, cond_true, bne_self_eq_false, cond_false, beq_self_eq_true]; rfl
  | some t =>
   simp only
   by_cases h60 : 60 < asz t
   ·have hb60 : decide (60 < asz t) = true := by simpa using h60
    simp only [hb60, cond_true, z6, bne_self_eq_false, cond_false, beq_self_eq_true]; rfl
   have hb60 : decide (60 < asz t) = false := by simpa using h60
   have hok := okA_ip _ Z t g1 (by omega) hi
   have hn := numB_ip 300 _ Z t (by omega) hi
   have hnb : NumB (ndsA t 0) := fun x hx => Nat.le_trans (num_nds 300 t 0 hn x hx) (by decide)
   have hl := nds_len t 0
   obtain ⟨Zs, oks, hcs⟩ := compileS (ndsA t 0) (by omega) hnb
   have hci := fun R => compileI (ndsA t 0) (by omega) hnb (ast_treeB t hok (by omega)) R
   rw [nds_flat] at hci hcs
   have hsc := fun R => sameCode ((ndsA t 0).map mkI) (by rw [List.length_map]; omega) (fun r hr => by
    obtain ⟨x, hx, rfl⟩ := List.mem_map.1 hr
    exact Nat.le_trans (num_nds 300 t 0 hn x hx) (by decide)) R
   simp only [hb60, cond_false, z0, hci, hcs, bne_self_eq_false, cond_true, beq_self_eq_true, hsc, codeOk t hok (by omega) hnb]
end Go.Tv.F
