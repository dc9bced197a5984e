/- The pure law about these functions. It holds without condition. -/
import Derived.Test.YtkokikbdndegkaaGreatDoorTreePureA
set_option linter.unusedVariables false
set_option linter.unusedSectionVars false
set_option linter.unusedSimpArgs false
set_option linter.unnecessarySimpa false
set_option maxRecDepth 100000
set_option autoImplicit false
namespace Go.Tv.F
open Go Go.Tv
theorem operD_step (n : Nat) (ihL : LineD n) : OperD (n + 1) := by
 intro m a i s hm hi hn
 have gE : ∀ R, spec_l8DrawOperand.gn (n + 1) (m : Int) a i s R = spec_l8DrawOperand.g (rec_spec_l8DrawOperand n) (m : Int) a i s R := fun R => rfl
 have hge := bLn_ge m
 unfold Dq
 simp only [gE]
 unfold spec_l8DrawOperand.g
 by_cases h0 : m = 0
 ·subst h0
  obtain ⟨r, i1, s1, h1, c1, z1⟩ := dFlat a i s hi
  refine ⟨r, i1, s1, fun R => ?_, c1, by omega⟩
  rw [cd_f (by simp)]
  exact h1 R
 ·obtain ⟨r1, i1, s1, h1, c1⟩ := dOnce 4 (by decide) a i s hi
  have hp : decide ((0 : Int) < (m : Int)) = true := by simp only [decide_eq_true_eq]; omega
  simp only [hp, cond_true, h1]
  cases r1 with
  | true =>
   have hpred : IntKind.i64.wrap ((m : Int) - 1) = ((m - 1 : Nat) : Int) := by rw [w64 (by omega)]; omega
   obtain ⟨r2, i2, s2, h2, c2, z2⟩ := ihL (m - 1) a i1 s1 (by omega) c1 (by omega)
   have hle := bLn_mono (m - 1) (by omega)
   have hb1 : (⟨#[40, 32]⟩ : ByteArray).size = 2 := rfl
   have hb2 : (⟨#[32, 41]⟩ : ByteArray).size = 2 := rfl
   have hs : bLn m = 2 * bLn (m - 1) + 100 := by
    obtain ⟨k, rfl⟩ : ∃ k, m = k + 1 := ⟨m - 1, by omega⟩
    rfl
   refine ⟨(⟨#[40, 32]⟩ : ByteArray) ++ r2 ++ (⟨#[32, 41]⟩ : ByteArray), i2, s2, fun R => ?_, c2, by rw [sz_app, sz_app, hb1, hb2]; omega⟩
   rw [cond_true, hpred]
   refine (h2 _).trans ?_
   rw [cd_t (by simp only [decide_eq_true_eq]; omega), cd_t (by rw [sz_app, hb1]; simp only [decide_eq_true_eq]; omega)]
  | false =>
   obtain ⟨r, i2, s2, h2, c2, z2⟩ := dFlat a i1 s1 c1
   refine ⟨r, i2, s2, fun R => ?_, c2, by omega⟩
   rw [cond_false]
   exact h2 R
theorem lineD_step (n : Nat) (ihL : LineD n) (ihO : OperD n) : LineD (n + 1) := by
 intro m a i s hm hi hn
 have gE : ∀ R, spec_l8DrawLine.gn (n + 1) (m : Int) a i s R = spec_l8DrawLine.g (rec_spec_l8DrawOperand n) (m : Int) a i s R := fun R => rfl
 have hge := bLn_ge m
 unfold Dq
 simp only [gE]
 unfold spec_l8DrawLine.g
 by_cases h0 : m = 0
 ·subst h0
  obtain ⟨r, i1, s1, h1, c1, z1⟩ := ihO 0 a i s (by omega) hi (by omega)
  refine ⟨r, i1, s1, fun R => ?_, c1, z1⟩
  rw [cd_t (by simp)]
  exact h1 R
 ·obtain ⟨r1, i1, s1, h1, c1, b1⟩ := dBelow 8 (by decide) a i s hi
  have hp : decide ((m : Int) ≤ 0) = false := by simp only [decide_eq_false_iff_not]; omega
  have hpred : IntKind.i64.wrap ((m : Int) - 1) = ((m - 1 : Nat) : Int) := by rw [w64 (by omega)]; omega
  have hs : bLn m = 2 * bLn (m - 1) + 100 := by
   obtain ⟨k, rfl⟩ : ∃ k, m = k + 1 := ⟨m - 1, by omega⟩
   rfl
  have hle := bLn_mono (m - 1) (by omega)
  have hb : (⟨#[32]⟩ : ByteArray).size = 1 := rfl
  simp only [hp, cond_false, h1, hpred]
  -- a line behind a function
  have funLine : Dq a (bLn m) (fun R => spec_l8DrawFun.g false a i1 s1 fun r19 r20 r21 =>
   bif decide (r19.size + 1 ≤ 9223372036854775807) then ((rec_spec_l8DrawOperand n).2 ((m - 1 : Nat) : Int) a r20 r21 fun r22 r23 r24 r25 =>
    bif decide ((r19 ++ (⟨#[32]⟩ : ByteArray)).size + r22.size ≤ 9223372036854775807) then R ((r19 ++ (⟨#[32]⟩ : ByteArray)) ++ r22) r23 r24 r25 else none) else none) := by
   obtain ⟨f, i2, s2, h2, c2, z2⟩ := dFun false a i1 s1 c1
   obtain ⟨r, i3, s3, h3, c3, z3⟩ := ihL (m - 1) a i2 s2 (by omega) c2 (by omega)
   refine ⟨f ++ (⟨#[32]⟩ : ByteArray) ++ r, i3, s3, fun R => ?_, c3, by rw [sz_app, sz_app, hb]; omega⟩
   simp only [h2]
   rw [cd_t (by simp only [decide_eq_true_eq]; omega)]
   refine (h3 _).trans ?_
   rw [cd_t (by rw [sz_app, hb]; simp only [decide_eq_true_eq]; omega)]
  have twoLine : Dq a (bLn m) (fun R => (rec_spec_l8DrawOperand n).1 ((m - 1 : Nat) : Int) a i1 s1 fun r33 r34 r35 r36 =>
   bif decide (r33.size + 1 ≤ 9223372036854775807) then (spec_l8DrawFun.g true r34 r35 r36 fun r37 r38 r39 =>
    bif decide ((r33 ++ (⟨#[32]⟩ : ByteArray)).size + r37.size ≤ 9223372036854775807) then (bif decide (((r33 ++ (⟨#[32]⟩ : ByteArray)) ++ r37).size + 1 ≤ 9223372036854775807) then ((rec_spec_l8DrawOperand n).2 ((m - 1 : Nat) : Int) r34 r38 r39 fun r40 r41 r42 r43 =>
     bif decide ((((r33 ++ (⟨#[32]⟩ : ByteArray)) ++ r37) ++ (⟨#[32]⟩ : ByteArray)).size + r40.size ≤ 9223372036854775807) then R ((((r33 ++ (⟨#[32]⟩ : ByteArray)) ++ r37) ++ (⟨#[32]⟩ : ByteArray)) ++ r40) r41 r42 r43 else none) else none) else none) else none) := by
   obtain ⟨o, i2, s2, h2, c2, z2⟩ := ihO (m - 1) a i1 s1 (by omega) c1 (by omega)
   obtain ⟨f, i3, s3, h3, c3, z3⟩ := dFun true a i2 s2 c2
   obtain ⟨r, i4, s4, h4, c4, z4⟩ := ihL (m - 1) a i3 s3 (by omega) c3 (by omega)
   refine ⟨o ++ (⟨#[32]⟩ : ByteArray) ++ f ++ (⟨#[32]⟩ : ByteArray) ++ r, i4, s4, fun R => ?_, c4, by rw [sz_app, sz_app, sz_app, sz_app, hb]; omega⟩
   refine (h2 _).trans ?_
   rw [cd_t (by simp only [decide_eq_true_eq]; omega), h3, cd_t (by rw [sz_app, hb]; simp only [decide_eq_true_eq]; omega), cd_t (by rw [sz_app, sz_app, hb]; simp only [decide_eq_true_eq]; omega)]
   refine (h4 _).trans ?_
   rw [cd_t (by rw [sz_app, sz_app, sz_app, hb]; simp only [decide_eq_true_eq]; omega)]
  by_cases e0 : r1 = 0
  ·obtain ⟨r2, i2, s2, h2, c2, z2⟩ := dPickB 3 [(⟨#[65]⟩ : ByteArray), (⟨#[66]⟩ : ByteArray), (⟨#[67]⟩ : ByteArray)] (by decide) (by decide) a i1 s1 c1
   obtain ⟨r3, i3, s3, h3, c3, z3⟩ := ihL (m - 1) a i2 s2 (by omega) c2 (by omega)
   have hb3 : (⟨#[32, 58, 32]⟩ : ByteArray).size = 3 := rfl
   refine ⟨r2 ++ (⟨#[32, 58, 32]⟩ : ByteArray) ++ r3, i3, s3, fun R => ?_, c3, by rw [sz_app, sz_app, hb3]; omega⟩
   rw [cd_t (by simpa using e0), h2, cd_t (by simp only [decide_eq_true_eq]; omega)]
   refine (h3 _).trans ?_
   rw [cd_t (by rw [sz_app, hb3]; simp only [decide_eq_true_eq]; omega)]
  by_cases e1 : r1 = 1
  ·obtain ⟨r, i2, s2, h2, c2, z2⟩ := funLine
   exact ⟨r, i2, s2, fun R => by rw [cd_f (by simpa using e0), cd_t (by simpa using e1)]; exact h2 R, c2, z2⟩
  by_cases e2 : r1 = 2
  ·obtain ⟨r, i2, s2, h2, c2, z2⟩ := funLine
   exact ⟨r, i2, s2, fun R => by rw [cd_f (by simpa using e0), cd_f (by simpa using e1), cd_t (by simpa using e2)]; exact h2 R, c2, z2⟩
  by_cases e3 : r1 = 3
  ·obtain ⟨r, i2, s2, h2, c2, z2⟩ := twoLine
   exact ⟨r, i2, s2, fun R => by rw [cd_f (by simpa using e0), cd_f (by simpa using e1), cd_f (by simpa using e2), cd_t (by simpa using e3)]; exact h2 R, c2, z2⟩
  by_cases e4 : r1 = 4
  ·obtain ⟨r, i2, s2, h2, c2, z2⟩ := twoLine
   exact ⟨r, i2, s2, fun R => by rw [cd_f (by simpa using e0), cd_f (by simpa using e1), cd_f (by simpa using e2), cd_f (by simpa using e3), cd_t (by simpa using e4)]; exact h2 R, c2, z2⟩
  by_cases e5 : r1 = 5
  ·obtain ⟨r, i2, s2, h2, c2, z2⟩ := twoLine
   exact ⟨r, i2, s2, fun R => by rw [cd_f (by simpa using e0), cd_f (by simpa using e1), cd_f (by simpa using e2), cd_f (by simpa using e3), cd_f (by simpa using e4), cd_t (by simpa using e5)]; exact h2 R, c2, z2⟩
  by_cases e6 : r1 = 6
  ·obtain ⟨r2, i2, s2, h2, c2, z2⟩ := dPickB 20 [(⟨#[43, 32, 47, 32, 105, 32, 53]⟩ : ByteArray), (⟨#[50, 32, 51, 32, 35, 32, 105, 32, 54]⟩ : ByteArray), (⟨#[65, 32, 58, 32, 105, 32, 52]⟩ : ByteArray), (⟨#[65, 32, 43, 32, 65, 32, 58, 32, 105, 32, 51]⟩ : ByteArray), (⟨#[40, 32, 105, 32, 51, 32, 41, 32, 111, 32, 42, 32, 105, 32, 52]⟩ : ByteArray), (⟨#[65, 32, 43, 32, 46, 32, 42, 32, 66]⟩ : ByteArray), (⟨#[66, 32, 58, 32, 50, 32, 50, 32, 35, 32, 105, 32, 52]⟩ : ByteArray), (⟨#[103, 32, 51, 32, 49, 32, 50]⟩ : ByteArray), (⟨#[43, 32, 92, 32, 105, 32, 54]⟩ : ByteArray), (⟨#[49, 32, 43, 32, 65, 32, 42, 32, 50, 32, 45, 32, 65]⟩ : ByteArray), (⟨#[126, 32, 65, 32, 61, 32, 66]⟩ : ByteArray), (⟨#[65, 32, 64, 32, 66]⟩ : ByteArray)] (by decide) (by decide) a i1 s1 c1
   exact ⟨r2, i2, s2, fun R => by rw [cd_f (by simpa using e0), cd_f (by simpa using e1), cd_f (by simpa using e2), cd_f (by simpa using e3), cd_f (by simpa using e4), cd_f (by simpa using e5), cd_t (by simpa using e6), h2], c2, by omega⟩
  ·obtain ⟨r2, i2, s2, h2, c2, z2⟩ := ihO (m - 1) a i1 s1 (by omega) c1 (by omega)
   refine ⟨r2, i2, s2, fun R => ?_, c2, by omega⟩
   rw [cd_f (by simpa using e0), cd_f (by simpa using e1), cd_f (by simpa using e2), cd_f (by simpa using e3), cd_f (by simpa using e4), cd_f (by simpa using e5), cd_f (by simpa using e6)]
   exact h2 R
theorem bothD : ∀ n, LineD n ∧ OperD n
 | 0 => ⟨fun m a i s _ _ h => by omega, fun m a i s _ _ h => by omega⟩
 | n + 1 => ⟨lineD_step n (bothD n).1 (bothD n).2, operD_step n (bothD n).1⟩
theorem dLine (m : Nat) (hm : m ≤ 10) (a : List Int) (i s : Int) (hi : Cu a i) : Dq a 10000000 (spec_l8DrawLine.G (m : Int) a i s) := by
 obtain ⟨r, i1, s1, h1, c1, z1⟩ := (bothD fuel).1 m a i s hm hi (by rw [fuel_eq]; omega)
 exact ⟨r, i1, s1, fun R => by rw [spec_l8DrawLine.Ge]; exact h1 R, c1, by have := bLn_mono m hm; omega⟩
theorem dDent (x : ByteArray) (l : List ByteArray) (hx : x.size ≤ 100000000) (hl : 0 < l.length) (hB : (l.all fun x => decide (x.size ≤ 100)) = true) (a : List Int) (i s : Int) (hi : Cu a i) : Dr a 200000000 (spec_l8Dent.g x l a i s) := by
 have hw : IntKind.i64.wrap ((x.size : Int) + 1) = ((x.size + 1 : Nat) : Int) := ixw (by omega)
 obtain ⟨r1, i1, s1, h1, c1, b1⟩ := dBelow ((x.size + 1 : Nat) : Int) (by omega) a i s hi
 obtain ⟨r2, i2, s2, h2, c2, b2⟩ := dBelow 3 (by decide) a i1 s1 c1
 obtain ⟨k, rfl⟩ : ∃ k : Nat, r1 = k := ⟨r1.toNat, by omega⟩
 have hk : k ≤ x.size := by omega
 have hg : (decide (0 ≤ (k : Int)) && decide ((k : Int) ≤ (x.size : Int))) = true := by simp; omega
 have e1 : (x.extract 0 k).size = k := by rw [ByteArray.size_extract]; omega
 unfold Dr
 rw [spec_l8Dent.e]
 unfold spec_l8Dent.b
 simp only [hw, h1, h2, hg, cond_true, Int.toNat_natCast]
 by_cases q0 : r2 = 0
 ·exact ⟨x.extract 0 k, i2, s2, fun R => by rw [cd_t (by simpa using q0)], c2, by omega⟩
 obtain ⟨r3, i3, s3, h3, c3, z3⟩ := dPickB 100 l hl hB a i2 s2 c2
 by_cases q1 : r2 = 1
 ·have hm : ∃ j : Nat, (if ((k + 1 : Nat) : Int) < (x.size : Int) then ((k + 1 : Nat) : Int) else (x.size : Int)) = (j : Int) ∧ j ≤ x.size := by
   split
   ·exact ⟨k + 1, rfl, by omega⟩
   ·exact ⟨x.size, rfl, Nat.le_refl _⟩
  obtain ⟨j, hj, hj2⟩ := hm
  have e2 : (x.extract j x.size).size = x.size - j := by rw [ByteArray.size_extract]; omega
  refine ⟨x.extract 0 k ++ r3 ++ x.extract j x.size, i3, s3, fun R => ?_, c3, by rw [sz_app, sz_app, e1, e2]; omega⟩
  rw [cd_f (by simpa using q0), cd_t (by simpa using q1), h3, cd_t (by simp only [e1, decide_eq_true_eq]; omega), ixw (by omega), l1MinS, hj, cd_t (by simp; omega), Int.toNat_natCast, cd_t (by simp only [sz_app, e1, e2, decide_eq_true_eq]; omega)]
 ·have e2 : (x.extract k x.size).size = x.size - k := by rw [ByteArray.size_extract]; omega
  refine ⟨x.extract 0 k ++ r3 ++ x.extract k x.size, i3, s3, fun R => ?_, c3, by rw [sz_app, sz_app, e1, e2]; omega⟩
  rw [cd_f (by simpa using q0), cd_f (by simpa using q1), h3, cd_t (by simp only [e1, decide_eq_true_eq]; omega), cd_t (by simp only [sz_app, e1, e2, decide_eq_true_eq]; omega)]
theorem dText (a : List Int) (i s : Int) (hi : Cu a i) : Dq a 200000000 (spec_l8DrawText.g a i s) := by
 obtain ⟨r1, i1, s1, h1, c1, z1⟩ := dLine 4 (by decide) a i s hi
 obtain ⟨r2, i2, s2, h2, c2⟩ := dOnce 3 (by decide) a i1 s1 c1
 have h1 : ∀ R, spec_l8DrawLine.G 4 a i s R = R r1 a i1 s1 := h1
 unfold Dq
 rw [spec_l8DrawText.e]
 unfold spec_l8DrawText.b
 simp only [h1, h2]
 cases r2 with
 | true =>
  obtain ⟨r3, i3, s3, h3, c3, z3⟩ := dDent r1 [(⟨#[43]⟩ : ByteArray), (⟨#[45]⟩ : ByteArray), (⟨#[47]⟩ : ByteArray), (⟨#[40]⟩ : ByteArray), (⟨#[41]⟩ : ByteArray), (⟨#[58]⟩ : ByteArray), (⟨#[65]⟩ : ByteArray), (⟨#[53]⟩ : ByteArray), (⟨#[32]⟩ : ByteArray), (⟨#[95]⟩ : ByteArray), (⟨#[111]⟩ : ByteArray), (⟨#[46]⟩ : ByteArray), (⟨#[120]⟩ : ByteArray), (⟨#[35]⟩ : ByteArray), (⟨#[49, 48, 48, 48, 48, 48, 48, 48, 48, 48, 48, 48, 49]⟩ : ByteArray)] (by omega) (by decide) (by decide) a i2 s2 c2
  exact ⟨r3, i3, s3, fun R => by rw [cond_true, h3], c3, z3⟩
 | false => exact ⟨r1, i2, s2, fun R => rfl, c2, by omega⟩
/-- drawn tokens -/
theorem dParse (a : List Int) (h : a.length ≤ 1048576) : ∃ Y : List Tok, (∀ R, spec_DrawParse.g a R = R (Y.map mkT)) ∧ Y.length ≤ 400 := by
 obtain ⟨s0, hN, c0⟩ := dNew a h
 obtain ⟨r1, i1, s1, h1, c1, z1⟩ := dText a 0 s0 c0
 obtain ⟨Y, lc, lp, h2, hY⟩ := lexE r1
 obtain ⟨r2, i2, s2, h3, c2, b2⟩ := dBelow 25 (by decide) a i1 s1 c1
 rw [spec_DrawParse.e]
 unfold spec_DrawParse.b
 simp only [hN, h1, h2, h3]
 by_cases q0 : r2 = 0
 ·obtain ⟨r3, i3, s3, h4, c3, b3⟩ := dBelow 8 (by decide) a i2 s2 c2
  obtain ⟨r4, i4, s4, h5, c4, b4⟩ := dBelow 40 (by decide) a i3 s3 c3
  refine ⟨Y ++ [(r3, r4)], fun R => ?_, by rw [List.length_append, List.length_singleton]; omega⟩
  rw [cd_t (by simpa using q0), h4, h5, cd_t (by rw [List.length_map]; simp only [decide_eq_true_eq]; omega), List.map_append]; rfl
 by_cases q1 : r2 = 1
 ·have := up0 (N := 70) (P := fun n j => ∀ Z : List Tok, j ≤ Z.length → Z.length ≤ 400 → ∃ Y' : List Tok, (∀ k, spec_DrawParse.l1 k n (Z.map mkT) = k (Y'.map mkT)) ∧ Y'.length ≤ 400) (by omega) ?_ ?_ 0 (by omega) Y (by omega) (by omega)
  ·obtain ⟨Y', g1, g2⟩ := this
   exact ⟨Y', fun R => by rw [cd_f (by simpa using q0), cd_t (by simpa using q1), g1], g2⟩
  ·intro n Z hZ hZ2
   refine ⟨Z, fun k => ?_, hZ2⟩
   simp only [spec_DrawParse.l1, spec_DrawParse.l1s]
   rw [List.length_map, cd_f (by simp only [decide_eq_false_iff_not]; omega)]
  ·intro n j hj ih Z hZ hZ2
   by_cases hlt : Z.length < 70
   ·obtain ⟨Y', g1, g2⟩ := ih ((3, 45) :: Z) (by simp; omega) (by simp; omega)
    refine ⟨Y', fun k => ?_, g2⟩
    simp only [spec_DrawParse.l1, spec_DrawParse.l1s]
    rw [List.length_map, cd_t (by simp only [decide_eq_true_eq]; omega), cd_t (by simp only [decide_eq_true_eq]; omega)]
    exact g1 k
   ·refine ⟨Z, fun k => ?_, hZ2⟩
    simp only [spec_DrawParse.l1, spec_DrawParse.l1s]
    rw [List.length_map, cd_f (by simp only [decide_eq_false_iff_not]; omega)]
 ·exact ⟨Y, fun R => by rw [cd_f (by simpa using q0), cd_f (by simpa using q1)], by omega⟩
def numB (M : Nat) : Ast → Prop
 | .num xs => xs.length ≤ M
 | .name _ => True
 | .set _ b => numB M b
 | .one _ b => numB M b
 | .two _ a b => numB M a ∧ numB M b
theorem numB_ip {o1 o2 : Fn3 → Bool} (M : Nat) : ∀ (n : Nat) (X : List Tok) (a : Ast), X.length ≤ M → ip o1 o2 n X = some a → numB M a
 | 0, _, _, _, h => by cases h
 | n + 1, X, a, hM, h => by
  have ih := numB_ip (o1 := o1) (o2 := o2) M n
  have hdr : ∀ m, (X.drop m).length ≤ M := fun m => by rw [List.length_drop]; omega
  unfold ip at h
  by_cases hX : X = []
  ·rw [if_pos hX] at h; cases h
  rw [if_neg hX] at h
  by_cases hs : kdT X 0 = 2 ∧ kdT X 1 = 6
  ·rw [if_pos hs] at h
   obtain ⟨b, hb, rfl⟩ := Option.map_eq_some_iff.1 h
   exact ih _ b (hdr 2) hb
  rw [if_neg hs] at h
  by_cases h3 : kdT X 0 = 3
  ·rw [if_pos h3] at h
   cases hf : fnT X with
   | none => rw [hf] at h; cases h
   | some p =>
    obtain ⟨f, m⟩ := p
    rw [hf] at h
    simp only at h
    cases ho : o1 f with
    | false => rw [ho] at h; cases h
    | true =>
     rw [ho, if_pos rfl] at h
     obtain ⟨b, hb, rfl⟩ := Option.map_eq_some_iff.1 h
     exact ih _ b (hdr m) hb
  rw [if_neg h3] at h
  cases hk : oeT X with
  | none => rw [hk] at h; cases h
  | some k =>
   rw [hk] at h
   simp only at h
   have left : ∀ a, leftI (ip o1 o2 n) X k = some a → numB M a := by
    intro a ha
    unfold leftI at ha
    by_cases h2 : kdT X 0 = 2
    ·rw [if_pos h2] at ha; cases ha; trivial
    rw [if_neg h2] at ha
    by_cases h1 : kdT X 0 = 1
    ·rw [if_pos h1] at ha; cases ha
     have := numsT_len (X.take k)
     rw [List.length_take] at this
     show (numsT (X.take k)).length ≤ M
     omega
    rw [if_neg h1] at ha
    exact ih _ a (by rw [List.length_drop, List.length_take]; omega) ha
   by_cases hkl : k = X.length
   ·rw [if_pos hkl] at h; exact left a h
   ·rw [if_neg hkl] at h
    cases hf : fnT (X.drop k) with
    | none => rw [hf] at h; cases h
    | some p =>
     obtain ⟨f, m⟩ := p
     rw [hf] at h
     simp only at h
     cases ho : o2 f with
     | false => rw [ho] at h; cases h
     | true =>
      rw [ho, if_pos rfl] at h
      obtain ⟨b, hb, h⟩ := Option.bind_eq_some_iff.1 h
      obtain ⟨a', ha, rfl⟩ := Option.map_eq_some_iff.1 h
      exact ⟨left _ ha, ih _ b (hdr _) hb⟩
theorem numB_rows (M : Nat) : ∀ (a : Ast) (n : Nat), numB M a → ∀ r ∈ flat a n, ((r.getD 6 (.i 0)).toL).length ≤ M
 | .num xs, n, h, r, hr => by rw [flat, List.mem_singleton] at hr; subst hr; exact h
 | .name v, n, h, r, hr => by rw [flat, List.mem_singleton] at hr; subst hr; exact Nat.zero_le _
 | .set v b, n, h, r, hr => by
  rw [flat, List.mem_append, List.mem_singleton] at hr
  rcases hr with hr | rfl
  ·exact numB_rows M b n h r hr
  ·exact Nat.zero_le _
 | .one f b, n, h, r, hr => by
  rw [flat, List.mem_append, List.mem_singleton] at hr
  rcases hr with hr | rfl
  ·exact numB_rows M b n h r hr
  ·exact Nat.zero_le _
 | .two f a b, n, h, r, hr => by
  rw [flat, List.mem_append, List.mem_append, List.mem_singleton] at hr
  rcases hr with (hr | hr) | rfl
  ·exact numB_rows M b n h.2 r hr
  ·exact numB_rows M a _ h.1 r hr
  ·exact Nat.zero_le _
theorem sameInts (a : List Int) (h : a.length ≤ 1048576) (R : Bool → Option Res) : laws_sameInts.g a a R = R true := by
 simp only [laws_sameInts.e, laws_sameInts.b, bne_self_eq_false, cond_false]
 refine up0 (N := a.length) (P := fun n i => laws_sameInts.l0 a a (R true) R n (i : Int) = R true) (by omega) ?_ ?_ 0 (by omega)
 ·intro n; simp only [laws_sameInts.l0, laws_sameInts.l0s, ixe, cond_false]
 ·intro n i hi ih
  simp only [laws_sameInts.l0, laws_sameInts.l0s, ixl hi, ix0, Bool.and_self, cond_true, bne_self_eq_false, cond_false, ixw (by omega : i < 9223372036854775807)]
  exact ih
theorem sameTree (l : List (List Cl)) (hl : l.length ≤ 100000) (h : ∀ r ∈ l, ((r.getD 6 (.i 0)).toL).length ≤ 1048576) (R : Bool → Option Res) : laws_sameTree.g l l R = R true := by
 simp only [laws_sameTree.e, laws_sameTree.b, bne_self_eq_false, cond_false]
 refine up0 (N := l.length) (P := fun n i => laws_sameTree.l0 l l (R true) R n (i : Int) = R true) (by omega) ?_ ?_ 0 (by omega)
 ·intro n; simp only [laws_sameTree.l0, laws_sameTree.l0s, ixe, cond_false]
 ·intro n i hi ih
  have hr := h (l.getD i []) (by rw [List.getD_eq_getElem?_getD, List.getElem?_eq_getElem hi]; exact List.getElem_mem hi)
  simp only [laws_sameTree.l0, laws_sameTree.l0s, ixl hi, ix0, Bool.and_self, cond_true, bne_self_eq_false, beq_self_eq_true, Bool.and_true, Bool.not_true, cond_false, Int.toNat_natCast, sameInts _ hr, ixw (by omega : i < 9223372036854775807)]
  exact ih
theorem tokAt {X : List Tok} (h : X.all tokOk = true) {i : Nat} (hi : i < X.length) : tokOk (kdT X i, vlT X i) = true := by
 have := List.all_eq_true.1 h (X.getD i (0, 0)) (by rw [List.getD_eq_getElem?_getD, List.getElem?_eq_getElem hi]; exact List.getElem_mem hi)
 rw [← kdT_get hi, ← vlT_get hi]; exact this
theorem nums_ok : ∀ X : List Tok, X.all tokOk = true → (numsT X).all numOk = true
 | [], _ => rfl
 | t :: X, h => by
  rw [List.all_cons, Bool.and_eq_true] at h
  rw [numsT]
  split
  ·rename_i h1
   rw [List.all_cons, nums_ok X h.2]
   have : numOk t.2 = true := by simpa [tokOk, h1] using h.1
   rw [this]; rfl
  ·rfl
theorem all_drop {X : List Tok} (h : X.all tokOk = true) (m : Nat) : (X.drop m).all tokOk = true := List.all_eq_true.2 fun t ht => List.all_eq_true.1 h t (List.mem_of_mem_drop ht)
theorem all_take {X : List Tok} (h : X.all tokOk = true) (m : Nat) : (X.take m).all tokOk = true := List.all_eq_true.2 fun t ht => List.all_eq_true.1 h t (List.mem_of_mem_take ht)
theorem name_ok {X : List Tok} (h : X.all tokOk = true) (h2 : kdT X 0 = 2) : (decide (0 ≤ vlT X 0) && decide (vlT X 0 ≤ 25)) = true := by
 have hl : 0 < X.length := kdT_lt (by rw [h2]; decide)
 have := tokAt h hl
 rw [h2] at this
 simpa [tokOk] using this
theorem okA_ip : ∀ (n : Nat) (X : List Tok) (a : Ast), X.all tokOk = true → X.length ≤ 300 → ip o1F o2F n X = some a → okA a = true
 | 0, _, _, _, _, h => by cases h
 | n + 1, X, a, hX, hM, h => by
  have ih := okA_ip n
  have hdl : ∀ m, (X.drop m).length ≤ 300 := fun m => by rw [List.length_drop]; omega
  unfold ip at h
  by_cases hXe : X = []
  ·rw [if_pos hXe] at h; cases h
  rw [if_neg hXe] at h
  by_cases hs : kdT X 0 = 2 ∧ kdT X 1 = 6
  ·rw [if_pos hs] at h
   obtain ⟨b, hb, rfl⟩ := Option.map_eq_some_iff.1 h
   rw [okA, name_ok hX hs.1, ih _ b (all_drop hX 2) (hdl 2) hb]; rfl
  rw [if_neg hs] at h
  by_cases h3 : kdT X 0 = 3
  ·rw [if_pos h3] at h
   cases hf : fnT X with
   | none => rw [hf] at h; cases h
   | some p =>
    obtain ⟨f, m⟩ := p
    rw [hf] at h
    simp only at h
    cases ho : o1F f with
    | false => rw [ho] at h; cases h
    | true =>
     rw [ho, if_pos rfl] at h
     obtain ⟨b, hb, rfl⟩ := Option.map_eq_some_iff.1 h
     rw [okA, ho, ih _ b (all_drop hX m) (hdl m) hb]; rfl
  rw [if_neg h3] at h
  cases hk : oeT X with
  | none => rw [hk] at h; cases h
  | some k =>
   rw [hk] at h
   simp only at h
   have left : ∀ a, leftI (ip o1F o2F n) X k = some a → okA a = true := by
    intro a ha
    unfold leftI at ha
    by_cases h2 : kdT X 0 = 2
    ·rw [if_pos h2] at ha; cases ha; exact name_ok hX h2
    rw [if_neg h2] at ha
    by_cases h1 : kdT X 0 = 1
    ·rw [if_pos h1] at ha; cases ha
     have hk' := hk
     unfold oeT at hk'
     rw [if_pos h1] at hk'
     cases hk'
     rw [numsT_take]
     have hp := numsT_pos h1
     have hl := numsT_len X
     simp only [okA, numsOk, nums_ok X hX, Bool.and_true, Bool.and_eq_true, decide_eq_true_eq]
     omega
    rw [if_neg h1] at ha
    exact ih _ a (all_drop (all_take hX _) _) (by rw [List.length_drop, List.length_take]; omega) ha
   by_cases hkl : k = X.length
   ·rw [if_pos hkl] at h; exact left a h
   ·rw [if_neg hkl] at h
    cases hf : fnT (X.drop k) with
    | none => rw [hf] at h; cases h
    | some p =>
     obtain ⟨f, m⟩ := p
     rw [hf] at h
     simp only at h
     cases ho : o2F f with
     | false => rw [ho] at h; cases h
     | true =>
      rw [ho, if_pos rfl] at h
      obtain ⟨b, hb, h⟩ := Option.bind_eq_some_iff.1 h
      obtain ⟨a', ha, rfl⟩ := Option.map_eq_some_iff.1 h
      rw [okA, ho, left _ ha, ih _ b (all_drop hX _) (hdl _) hb]; rfl
theorem num_nds (M : Nat) (a : Ast) (n : Nat) (h : numB M a) : ∀ x ∈ ndsA a n, x.2.2.2.2.length ≤ M := fun x hx => by
 have := numB_rows M a n h (mkN x) (by rw [← nds_flat]; exact List.mem_map_of_mem hx)
 exact this
theorem dTree (a : List Int) (i s : Int) (hi : Cu a i) : ∃ (t : Ast) (i' s' : Int), (∀ R, spec_l9DrawRight.g a i s R = R ((ndsA t 0).map mkN) a i' s') ∧ Cu a i' ∧ okA t = true ∧ asz t ≤ 60 ∧ numB 300 t := by
 have := up0 (N := 6) (P := fun n j => ∀ i s : Int, Cu a i → ∃ (t : Ast) (i' s' : Int), (∀ R : List (List Cl) → List Int → Int → Int → Option Res, spec_l9DrawRight.l0 (fun y17 y18 y19 => R ([[.i 1, .i 0, .i 0, .i 0, .i 0, .i 0, .l ([1, 2] : List Int)]] : List (List Cl)) y17 y18 y19) R n (j : Int) a i s = R ((ndsA t 0).map mkN) a i' s') ∧ Cu a i' ∧ okA t = true ∧ asz t ≤ 60 ∧ numB 300 t) (by omega) ?_ ?_ 0 (by omega) i s hi
 ·obtain ⟨t, i', s', h1, h2⟩ := this
  exact ⟨t, i', s', fun R => by rw [spec_l9DrawRight.e]; exact h1 R, h2⟩
 ·intro n i s hi
  refine ⟨.num [1, 2], i, s, fun R => ?_, hi, by decide, by decide, by simp [numB]⟩
  simp only [spec_l9DrawRight.l0, spec_l9DrawRight.l0s]
  rw [cd_f (by decide)]; rfl
 ·intro n j hj ih i s hi
  obtain ⟨r1, i1, s1, h1, c1, z1⟩ := dLine 5 (by decide) a i s hi
  have h1 : ∀ R, spec_l8DrawLine.G 5 a i s R = R r1 a i1 s1 := h1
  obtain ⟨t', i2, s2, hrec, hrest⟩ := ih i1 s1 c1
  have ew : IntKind.i64.wrap ((j : Int) + 1) = ((j + 1 : Nat) : Int) := ixw (by omega)
  have hj6 : decide ((j : Int) < 6) = true := by rw [decide_eq_true_eq]; omega
  have step : ∀ R, spec_l9DrawRight.l0 (fun y17 y18 y19 => R ([[.i 1, .i 0, .i 0, .i 0, .i 0, .i 0, .l ([1, 2] : List Int)]] : List (List Cl)) y17 y18 y19) R (n + 1) (j : Int) a i s = lexA r1 fun r12 _ _ => spec_Parse.g r12 fun r15 r16 => bif r16 == 0 then R r15 a i1 s1 else spec_l9DrawRight.l0 (fun y17 y18 y19 => R ([[.i 1, .i 0, .i 0, .i 0, .i 0, .i 0, .l ([1, 2] : List Int)]] : List (List Cl)) y17 y18 y19) R n ((j + 1 : Nat) : Int) a i1 s1 := fun R => by
   simp only [spec_l9DrawRight.l0, spec_l9DrawRight.l0s, hj6, cond_true, h1, lexS, ew]
  have p0 : ∀ R : List (List Cl) → Int → Option Res, spec_Parse.g [] R = R [] 8 := fun R => (parseS [] (by decide) R).trans (by
   have h : ipF o1F o2F [] = none := rfl
   rw [h]; rfl)
  simp only [step]
  unfold lexA
  have z6 : ((6 : Int) == 0) = false := by decide
  have z8 : ((8 : Int) == 0) = false := by decide
  by_cases h3 : 300 < r1.size
  ·refine ⟨t', i2, s2, fun R => ?_, hrest⟩
   simp only [if_pos h3, p0, z8, cond_false]; exact hrec R
  simp only [if_neg h3]
  cases hx : lexF r1.data.toList with
  | inr p =>
   refine ⟨t', i2, s2, fun R => ?_, hrest⟩
   simp only [p0, z8, cond_false]; exact hrec R
  | inl Z =>
   obtain ⟨g1, g2⟩ := lexM_ok _ _ Z hx
   have g2 : Z.length ≤ r1.size := by rw [Array.length_toList] at g2; exact g2
   have ht : toksOk Z = true := by simp only [toksOk, g1, Bool.true_and, decide_eq_true_eq]; omega
   simp only [parseS Z (by omega), ht, Bool.not_true, cond_false]
   cases hip : ipF o1F o2F Z with
   | none =>
    refine ⟨t', i2, s2, fun R => ?_, hrest⟩
    simp only [z8, cond_false]; exact hrec R
   | some t =>
    by_cases h60 : 60 < asz t
    ·refine ⟨t', i2, s2, fun R => ?_, hrest⟩
     have hb60 : decide (60 < asz t) = true := by simpa using h60
     simp only [hb60, cond_true, z6, cond_false]; exact hrec R
    ·have hb60 : decide (60 < asz t) = false := by simpa using h60
     refine ⟨t, i1, s1, fun R => ?_, c1, okA_ip _ Z t g1 (by omega) hip, by omega, numB_ip 300 _ Z t (by omega) hip⟩
     have z0 : ((0 : Int) == 0) = true := by decide
     simp only [hb60, cond_false, z0, cond_true, nds_flat]
theorem NumsX.set {M : Nat} {L : List Ins} (h : NumsX M L) (i : Nat) (x : Ins) (hx : x.2.2.2.length ≤ M) : NumsX M (L.set i x) := fun y hy => by
 rcases mem_set hy with hy | rfl
 ·exact h y hy
 ·exact hx
theorem NumsX.app {M : Nat} {L : List Ins} (h : NumsX M L) (x : Ins) (hx : x.2.2.2.length ≤ M) : NumsX M (L ++ [x]) := fun y hy => by
 rcases List.mem_append.1 hy with hy | hy
 ·exact h y hy
 ·rw [List.mem_singleton] at hy; subst hy; exact hx
theorem dFun9 (a : List Int) (i s : Int) (hi : Cu a i) : ∃ x y z i' s' : Int, (∀ R, spec_l9DrawFun.g a i s R = R x y z i' s') ∧ Cu a i' := by
 obtain ⟨r1, i1, s1, h1, c1, _⟩ := dPickInt [43, 45, 42, 37, 124, 38, 126, 105, 35, 44, 116, 100, 114, 122, 64, 63, 103, 36, 101, 111, 47, 0] (by decide) a i s hi
 obtain ⟨r2, i2, s2, h2, c2⟩ := dOnce 2 (by decide) a i1 s1 c1
 simp only [spec_l9DrawFun.e, spec_l9DrawFun.b, h1, h2]
 cases r2 with
 | true =>
  obtain ⟨r3, i3, s3, h3, c3, _⟩ := dPickInt [47, 92, 111, 46, 120] (by decide) a i2 s2 c2
  simp only [cond_true, h3]
  cases hq : (r3 == 46) with
  | true =>
   obtain ⟨r4, i4, s4, h4, c4, _⟩ := dPickInt [43, 42, 105, 0] (by decide) a i3 s3 c3
   exact ⟨r1, r3, r4, i4, s4, fun R => by simp only [cond_true, h4], c4⟩
  | false =>
   obtain ⟨r4, i4, s4, h4, c4⟩ := dOnce 15 (by decide) a i3 s3 c3
   simp only [cond_false, h4]
   cases r4 with
   | true =>
    obtain ⟨r5, i5, s5, h5, c5, _⟩ := dPickInt [43, 42, 105, 0] (by decide) a i4 s4 c4
    exact ⟨r1, r3, r5, i5, s5, fun R => by simp only [cond_true, h5], c5⟩
   | false => exact ⟨r1, r3, 0, i4, s4, fun R => rfl, c4⟩
 | false =>
  obtain ⟨r4, i4, s4, h4, c4⟩ := dOnce 15 (by decide) a i2 s2 c2
  simp only [cond_false, h4]
  cases r4 with
  | true =>
   obtain ⟨r5, i5, s5, h5, c5, _⟩ := dPickInt [43, 42, 105, 0] (by decide) a i4 s4 c4
   exact ⟨r1, 0, r5, i5, s5, fun R => by simp only [cond_true, h5], c5⟩
  | false => exact ⟨r1, 0, 0, i4, s4, fun R => rfl, c4⟩
/-- what a function may stand ahead of -/
def Head (r : List Tok) : Prop := sgT r 0 ≠ 47 ∧ sgT r 0 ≠ 92 ∧ sgT r 0 ≠ 46
theorem sg_vals {v : Int} (h : sg1 v = true ∨ sg2 v = true ∨ ones v = true ∨ twos v = true) : v ≠ 0 ∧ v ≠ 111 ∧ v ≠ 47 ∧ v ≠ 92 ∧ v ≠ 46 := by
 simp only [sg1, sg2, ones, twos, Bool.or_eq_true, beq_iff_eq] at h
 omega
theorem f_cases {f : Fn3} (h : o1F f = true ∨ o2F f = true) : (f.1 ≠ 0 ∧ f.1 ≠ 111 ∧ f.1 ≠ 47 ∧ f.1 ≠ 92 ∧ f.1 ≠ 46) ∧
 ((f.2.1 = 0 ∧ f.2.2 = 0) ∨ (f.2.1 = 47 ∧ f.2.2 = 0) ∨ (f.2.1 = 92 ∧ f.2.2 = 0) ∨ (f.2.1 = 111 ∧ f.2.2 = 0) ∨ (f.2.1 = 46 ∧ f.2.2 ≠ 0)) := by
 obtain ⟨s, o, w⟩ := f
 simp only [o1F, o2F] at h ⊢
 by_cases h0 : o = 0
 ·subst h0
  by_cases hw : w = 0
  ·subst hw
   simp only [beq_self_eq_true, cond_true, Bool.or_eq_true] at h
   exact ⟨sg_vals (by rcases h with (h | h) | (h | h) <;> simp [h]), .inl ⟨rfl, rfl⟩⟩
  ·simp [hw] at h
 by_cases h1 : o = 47
 ·subst h1
  by_cases hw : w = 0
  ·subst hw
   simp at h
   exact ⟨sg_vals (by simp [h]), .inr (.inl ⟨rfl, rfl⟩)⟩
  ·simp [hw] at h
 by_cases h2 : o = 92
 ·subst h2
  by_cases hw : w = 0
  ·subst hw
   simp at h
   exact ⟨sg_vals (by simp [h]), .inr (.inr (.inl ⟨rfl, rfl⟩))⟩
  ·simp [hw] at h
 by_cases h3 : o = 111
 ·subst h3
  by_cases hw : w = 0
  ·subst hw
   simp at h
   exact ⟨sg_vals (by simp [h]), .inr (.inr (.inr (.inl ⟨rfl, rfl⟩)))⟩
  ·simp [hw] at h
 by_cases h4 : o = 46
 ·subst h4
  simp at h
  have hw := sg_vals (v := w) (by simp [h.2])
  exact ⟨sg_vals (by simp [h.1]), .inr (.inr (.inr (.inr ⟨rfl, hw.1⟩)))⟩
 ·simp [h0, h1, h2, h3, h4] at h
theorem sgT_sign (v : Int) (r : List Tok) : sgT ((3, v) :: r) 0 = v := by show (if (3 : Int) = 3 then v else 0) = v; rw [if_pos rfl]
theorem fn_read {f : Fn3} (h : o1F f = true ∨ o2F f = true) {r : List Tok} (hr : Head r) : fnT (funK f ++ r) = some (f, (funK f).length) ∧ kdT (funK f ++ r) 0 = 3 := by
 obtain ⟨⟨a1, a2, a3, a4, a5⟩, hc⟩ := f_cases h
 obtain ⟨s, o, w⟩ := f
 obtain ⟨r1, r2, r3⟩ := hr
 simp only at a1 a2 a3 a4 a5 hc
 rcases hc with ⟨rfl, rfl⟩ | ⟨rfl, rfl⟩ | ⟨rfl, rfl⟩ | ⟨rfl, rfl⟩ | ⟨rfl, hw⟩
 ·refine ⟨?_, rfl⟩
  show fnG (sgT ((3, s) :: r) 0) (sgT r 0) (sgT r 1) = _
  rw [sgT_sign, fnG, if_neg a1, if_neg (fun h => a2 h.1), if_neg (by omega), if_neg (fun h => r3 h.1)]; rfl
 ·refine ⟨?_, rfl⟩
  show fnG (sgT ((3, s) :: (3, 47) :: r) 0) (sgT ((3, 47) :: r) 0) (sgT r 0) = _
  rw [sgT_sign, sgT_sign, fnG, if_neg a1, if_neg (fun h => a2 h.1), if_pos (.inl rfl)]; rfl
 ·refine ⟨?_, rfl⟩
  show fnG (sgT ((3, s) :: (3, 92) :: r) 0) (sgT ((3, 92) :: r) 0) (sgT r 0) = _
  rw [sgT_sign, sgT_sign, fnG, if_neg a1, if_neg (fun h => a2 h.1), if_pos (.inr rfl)]; rfl
 ·refine ⟨?_, rfl⟩
  show fnG (sgT ((3, 111) :: (3, s) :: r) 0) (sgT ((3, s) :: r) 0) (sgT r 0) = _
  rw [sgT_sign, sgT_sign, fnG, if_neg (by decide), if_pos ⟨rfl, a1⟩]; rfl
 ·refine ⟨?_, rfl⟩
  show fnG (sgT ((3, s) :: (3, 46) :: (3, w) :: r) 0) (sgT ((3, 46) :: (3, w) :: r) 0) (sgT ((3, w) :: r) 0) = _
  rw [sgT_sign, sgT_sign, sgT_sign, fnG, if_neg a1, if_neg (fun h => a2 h.1), if_neg (by decide), if_pos ⟨rfl, hw⟩]; rfl
theorem nums_read : ∀ (xs : List Int) {r : List Tok}, kdT r 0 ≠ 1 → numsT ((xs.map fun x => ((1, x) : Tok)) ++ r) = xs
 | [], r, h => by
  cases r with
  | nil => rfl
  | cons t r => exact if_neg h
 | x :: xs, r, h => by
  rw [List.map_cons, List.cons_append, numsT, if_pos rfl, nums_read xs h]
theorem head_line : ∀ (a : Ast) (r : List Tok), okA a = true → Head (toksA a ++ r) ∧ toksA a ≠ []
 | .num xs, r, h => by
  have h : numsOk xs = true := h
  simp only [numsOk, Bool.and_eq_true, decide_eq_true_eq] at h
  cases xs with
  | nil => simp at h
  | cons x xs => exact ⟨⟨by show (0 : Int) ≠ 47; decide, by show (0 : Int) ≠ 92; decide, by show (0 : Int) ≠ 46; decide⟩, by simp [toksA]⟩
 | .name v, r, _ => ⟨⟨by show (0 : Int) ≠ 47; decide, by show (0 : Int) ≠ 92; decide, by show (0 : Int) ≠ 46; decide⟩, by simp [toksA]⟩
 | .set v b, r, _ => ⟨⟨by show (0 : Int) ≠ 47; decide, by show (0 : Int) ≠ 92; decide, by show (0 : Int) ≠ 46; decide⟩, by simp [toksA]⟩
 | .one f b, r, h => by
  rw [okA, Bool.and_eq_true] at h
  obtain ⟨⟨a1, a2, a3, a4, a5⟩, hc⟩ := f_cases (.inl h.1)
  have ho : f.2.1 ≠ 111 := by
   intro e
   have := h.1
   rw [o1F, e] at this
   simp at this
  obtain ⟨s, o, w⟩ := f
  simp only at a1 a2 a3 a4 a5 ho
  have key : ∃ t, funK (s, o, w) = (3, s) :: t := by
   unfold funK
   simp only
   split
   ·exact ⟨_, rfl⟩
   ·split
    ·exact ⟨_, rfl⟩
    ·exact ⟨_, rfl⟩
  obtain ⟨t, ht⟩ := key
  rw [toksA, ht]
  refine ⟨?_, by simp⟩
  show sgT ((3, s) :: _) 0 ≠ 47 ∧ sgT ((3, s) :: _) 0 ≠ 92 ∧ sgT ((3, s) :: _) 0 ≠ 46
  rw [sgT_sign]; exact ⟨a3, a4, a5⟩
 | .two f a b, r, h => by
  rw [okA, Bool.and_eq_true, Bool.and_eq_true] at h
  obtain ⟨g1, g2⟩ := head_line a ((funK f ++ toksA b) ++ r) h.1.2
  rw [toksA]
  by_cases hl : leafA a = true
  ·rw [if_pos hl]
   refine ⟨by rw [List.append_assoc]; exact g1, fun e => g2 (List.append_eq_nil_iff.1 e).1⟩
  ·rw [if_neg hl]
   exact ⟨⟨by show (0 : Int) ≠ 47; decide, by show (0 : Int) ≠ 92; decide, by show (0 : Int) ≠ 46; decide⟩, by simp⟩
theorem leaf_read {a : Ast} (hl : leafA a = true) (h : okA a = true) {r : List Tok} (hr : kdT r 0 ≠ 1) : opdT (spF o1F o2F) (toksA a ++ r) = some (a, r) ∧ kdT (toksA a ++ r) 0 ≠ 3 ∧ (kdT (toksA a ++ r) 0 = 2 → kdT (toksA a ++ r) 1 = kdT r 0) := by
 match a, hl with
 | .num xs, _ =>
  have h : numsOk xs = true := h
  simp only [numsOk, Bool.and_eq_true, decide_eq_true_eq] at h
  have hn := nums_read xs hr
  have k0 : kdT (toksA (.num xs) ++ r) 0 = 1 := by
   cases xs with
   | nil => simp at h
   | cons x xs => rfl
  refine ⟨?_, by omega, fun h2 => by omega⟩
  unfold opdT
  rw [if_pos k0]
  show some (Ast.num (numsT _), _) = _
  rw [toksA] at *
  rw [hn, List.drop_left' (by rw [List.length_map])]
 | .name v, _ =>
  refine ⟨?_, by show (2 : Int) ≠ 3; decide, fun _ => rfl⟩
  unfold opdT
  rw [if_neg (show ¬ kdT (toksA (.name v) ++ r) 0 = 1 from (by decide : ¬ (2 : Int) = 1)), if_pos (show kdT (toksA (.name v) ++ r) 0 = 2 from rfl)]
  rfl
theorem line_read : ∀ (a : Ast) (r : List Tok), okA a = true → Ends r → spF o1F o2F (toksA a ++ r) = some (a, r)
 | .num xs, r, h, hr => by
  obtain ⟨e1, e2, e3⟩ := hr.k
  obtain ⟨l1, l2, l3⟩ := leaf_read (a := .num xs) rfl h (r := r) e1
  rw [spF_eq, if_neg (fun hc => by have := l3 hc.1; rw [hc.2] at this; exact e2 this.symm), if_neg l2, l1]
  simp only
  rw [fnT_none e3]
 | .name v, r, h, hr => by
  obtain ⟨e1, e2, e3⟩ := hr.k
  obtain ⟨l1, l2, l3⟩ := leaf_read (a := .name v) rfl h (r := r) e1
  rw [spF_eq, if_neg (fun hc => by have := l3 hc.1; rw [hc.2] at this; exact e2 this.symm), if_neg l2, l1]
  simp only
  rw [fnT_none e3]
 | .set v b, r, h, hr => by
  rw [okA, Bool.and_eq_true] at h
  have ih := line_read b r h.2 hr
  rw [spF_eq, if_pos ⟨rfl, rfl⟩]
  show (spF o1F o2F (toksA b ++ r)).map _ = _
  rw [ih]; rfl
 | .one f b, r, h, hr => by
  rw [okA, Bool.and_eq_true] at h
  have ih := line_read b r h.2 hr
  obtain ⟨f1, f2⟩ := fn_read (.inl h.1) (head_line b r h.2).1
  rw [toksA, List.append_assoc, spF_eq, if_neg (by omega), if_pos f2, f1]
  simp only
  rw [h.1, if_pos rfl, List.drop_left' rfl, ih]; rfl
 | .two f a b, r, h, hr => by
  rw [okA, Bool.and_eq_true, Bool.and_eq_true] at h
  have ih := line_read b r h.2 hr
  obtain ⟨f1, f2⟩ := fn_read (.inr h.1.1) (head_line b r h.2).1
  have key : opdT (spF o1F o2F) (toksA (.two f a b) ++ r) = some (a, funK f ++ (toksA b ++ r)) ∧ kdT (toksA (.two f a b) ++ r) 0 ≠ 3 ∧ (kdT (toksA (.two f a b) ++ r) 0 = 2 → kdT (toksA (.two f a b) ++ r) 1 ≠ 6) := by
   rw [toksA]
   by_cases hl : leafA a = true
   ·rw [if_pos hl, List.append_assoc, List.append_assoc]
    obtain ⟨l1, l2, l3⟩ := leaf_read hl h.1.2 (r := funK f ++ (toksA b ++ r)) (by omega)
    exact ⟨l1, l2, fun h2 => by rw [l3 h2]; omega⟩
   ·rw [if_neg hl]
    have ia := line_read a ((5, 0) :: (funK f ++ (toksA b ++ r))) h.1.2 (.inr rfl)
    have e : ((4, 0) :: (toksA a ++ [(5, 0)]) ++ (funK f ++ toksA b) ++ r : List Tok) = (4, 0) :: (toksA a ++ (5, 0) :: (funK f ++ (toksA b ++ r))) := by simp
    rw [e]
    refine ⟨?_, by show (4 : Int) ≠ 3; decide, fun h2 => absurd (show (4 : Int) = 2 from h2) (by decide)⟩
    unfold opdT
    rw [if_neg (show ¬ kdT ((4, 0) :: (toksA a ++ (5, 0) :: (funK f ++ (toksA b ++ r)))) 0 = 1 from (by decide : ¬ (4 : Int) = 1)), if_neg (show ¬ kdT ((4, 0) :: (toksA a ++ (5, 0) :: (funK f ++ (toksA b ++ r)))) 0 = 2 from (by decide : ¬ (4 : Int) = 2)), if_pos (show kdT ((4, 0) :: (toksA a ++ (5, 0) :: (funK f ++ (toksA b ++ r)))) 0 = 4 from rfl), List.drop_succ_cons, List.drop_zero, ia]
    show (if kdT ((5, 0) :: (funK f ++ (toksA b ++ r))) 0 = 5 then some (a, ((5, 0) :: (funK f ++ (toksA b ++ r))).drop 1) else none) = _
    rw [if_pos (show kdT ((5, 0) :: (funK f ++ (toksA b ++ r))) 0 = 5 from rfl)]; rfl
  obtain ⟨q1, q2, q3⟩ := key
  rw [spF_eq, if_neg (fun hc => q3 hc.1 hc.2), if_neg q2, q1]
  simp only
  rw [f1]
  simp only
  rw [h.1.1, if_pos rfl, List.drop_left' rfl, ih]; rfl
theorem toks_read (a : Ast) (h : okA a = true) : ipF o1F o2F (toksA a) = some a := by
 have := line_read a [] h (.inl rfl)
 rw [List.append_nil] at this
 exact (ip_sp _ _ a).2 this
theorem spN345 (c : Nd) (x y z : Int) : splice (mkN c) 3 [.i x, .i y, .i z] = mkN (c.1, c.2.1, c.2.2.1, (x, y, z), c.2.2.2.2) := rfl
def NumsN (M : Nat) (L : List Nd) : Prop := ∀ x ∈ L, x.2.2.2.2.length ≤ M
theorem NumsN.at {M : Nat} {L : List Nd} (h : NumsN M L) {i : Nat} (hi : i < L.length) : (L.getD i dN).2.2.2.2.length ≤ M := by
 rw [List.getD_eq_getElem?_getD, List.getElem?_eq_getElem hi]; exact h _ (List.getElem_mem hi)
theorem NumsN.set {M : Nat} {L : List Nd} (h : NumsN M L) (i : Nat) (x : Nd) (hx : x.2.2.2.2.length ≤ M) : NumsN M (L.set i x) := fun y hy => by
 rcases List.mem_or_eq_of_mem_set hy with hy | rfl
 ·exact h y hy
 ·exact hx
theorem NumsN.app {M : Nat} {L : List Nd} (h : NumsN M L) (x : Nd) (hx : x.2.2.2.2.length ≤ M) : NumsN M (L ++ [x]) := fun y hy => by
 rcases List.mem_append.1 hy with hy | hy
 ·exact h y hy
 ·rw [List.mem_singleton] at hy; subst hy; exact hx
/-- drawn trees, right or not -/
theorem dTreeAny (a : List Int) (i s : Int) (hi : Cu a i) : ∃ (T : List Nd) (i' s' : Int), (∀ R, spec_l9Draw.g a i s R = R (T.map mkN) a i' s') ∧ Cu a i' ∧ T.length ≤ 100 ∧ NumsN 400 T := by
 obtain ⟨t, i1, s1, h1, c1, ht, h60, hnb⟩ := dTree a i s hi
 have hn : NumsN 400 (ndsA t 0) := fun x hx => Nat.le_trans (num_nds 300 t 0 hnb x hx) (by decide)
 have hl : (ndsA t 0).length = asz t := nds_len t 0
 have hp := asz_pos t
 simp only [spec_l9Draw.e, spec_l9Draw.b, h1]
 generalize ndsA t 0 = L at hn hl
 obtain ⟨r2, i2, s2, h2, c2, b2⟩ := dBelow ((L.map mkN).length : Int) (by rw [List.length_map]; omega) a i1 s1 c1
 obtain ⟨r3, i3, s3, h3, c3, b3⟩ := dBelow 20 (by decide) a i2 s2 c2
 simp only [h2, h3]
 obtain ⟨k, rfl⟩ : ∃ k : Nat, r2 = k := ⟨r2.toNat, by omega⟩
 have hk : k < L.length := by have := b2.2; rw [List.length_map] at this; omega
 have hkx := hn.at hk
 have hg : (decide (0 ≤ (k : Int)) && decide ((k : Int) < ((L.map mkN).length : Int))) = true := by rw [List.length_map]; simp; omega
 have hg2 : (decide (0 ≤ (k : Int)) && decide ((k : Int) ≤ ((L.map mkN).length : Int))) = true := by rw [List.length_map]; simp; omega
 have hg3 : decide (((L.map mkN).length + 1) * 72 ≤ 140737488355328) = true := by rw [List.length_map, decide_eq_true_eq]; omega
 simp only [hg, hg2, hg3, cond_true, Int.toNat_natCast, getN hk]
 by_cases q0 : r3 = 0
 ·obtain ⟨r4, i4, s4, h4, c4, b4⟩ := dBelow 7 (by decide) a i3 s3 c3
  refine ⟨L.set k (r4, (L.getD k dN).2), i4, s4, fun R => ?_, c4, by rw [List.length_set]; omega, hn.set _ _ hkx⟩
  rw [cd_t (by simpa using q0), h4, spN0, map_set]
 by_cases q1 : r3 = 1
 ·obtain ⟨r4, i4, s4, h4, c4, b4⟩ := dBelow (IntKind.i64.wrap (((L.map mkN).length : Int) + 1)) (by rw [List.length_map, w64 (by omega)]; omega) a i3 s3 c3
  refine ⟨L.set k ((L.getD k dN).1, (L.getD k dN).2.1, IntKind.i64.wrap (r4 - 1), (L.getD k dN).2.2.2), i4, s4, fun R => ?_, c4, by rw [List.length_set]; omega, hn.set _ _ hkx⟩
  rw [cd_f (by simpa using q0), cd_t (by simpa using q1), h4, spN2, map_set]
 by_cases q2 : r3 = 2
 ·obtain ⟨r4, i4, s4, h4, c4, b4⟩ := dBelow 28 (by decide) a i3 s3 c3
  refine ⟨L.set k ((L.getD k dN).1, IntKind.i64.wrap (r4 - 1), (L.getD k dN).2.2), i4, s4, fun R => ?_, c4, by rw [List.length_set]; omega, hn.set _ _ hkx⟩
  rw [cd_f (by simpa using q0), cd_f (by simpa using q1), cd_t (by simpa using q2), h4, spN1, map_set]
 by_cases q3 : r3 = 3
 ·obtain ⟨x, y, z, i4, s4, h4, c4⟩ := dFun9 a i3 s3 c3
  refine ⟨L.set k ((L.getD k dN).1, (L.getD k dN).2.1, (L.getD k dN).2.2.1, (x, y, z), (L.getD k dN).2.2.2.2), i4, s4, fun R => ?_, c4, by rw [List.length_set]; omega, hn.set _ _ hkx⟩
  rw [cd_f (by simpa using q0), cd_f (by simpa using q1), cd_f (by simpa using q2), cd_t (by simpa using q3), h4, spN345, map_set]
 by_cases q4 : r3 = 4
 ·refine ⟨L.take k, i3, s3, fun R => ?_, c3, by rw [List.length_take]; omega, fun x hx => hn x (List.mem_of_mem_take hx)⟩
  rw [cd_f (by simpa using q0), cd_f (by simpa using q1), cd_f (by simpa using q2), cd_f (by simpa using q3), cd_t (by simpa using q4), List.map_take]
 by_cases q5 : r3 = 5
 ·refine ⟨L ++ [(2, 0, 0, (0, 0, 0), [])], i3, s3, fun R => ?_, c3, by rw [List.length_append, List.length_singleton]; omega, hn.app _ (by decide)⟩
  rw [cd_f (by simpa using q0), cd_f (by simpa using q1), cd_f (by simpa using q2), cd_f (by simpa using q3), cd_f (by simpa using q4), cd_t (by simpa using q5), List.map_append]; rfl
 by_cases q6 : r3 = 6
 ·have := up0 (N := 70) (P := fun n j => ∀ (Z : List Nd) (i s : Int), Cu a i → j ≤ Z.length → Z.length ≤ 100 → NumsN 400 Z → ∃ (Y : List Nd) (i' s' : Int), (∀ k : List (List Cl) → Int → Int → Option Res, spec_l9Draw.l1 a k n (Z.map mkN) i s = k (Y.map mkN) i' s') ∧ Cu a i' ∧ Y.length ≤ 100 ∧ NumsN 400 Y) (by omega) ?_ ?_ 0 (by omega) L i3 s3 c3 (Nat.zero_le _) (by omega) hn
  ·obtain ⟨Y, i', s', g1, g2, g3, g4⟩ := this
   refine ⟨Y, i', s', fun R => ?_, g2, g3, g4⟩
   rw [cd_f (by simpa using q0), cd_f (by simpa using q1), cd_f (by simpa using q2), cd_f (by simpa using q3), cd_f (by simpa using q4), cd_f (by simpa using q5), cd_t (by simpa using q6), g1]
  ·intro n Z i s hi hZ hZ2 hZn
   obtain ⟨r4, i4, s4, h4, c4, b4⟩ := dBelow 2 (by decide) a i s hi
   refine ⟨Z, i4, s4, fun k => ?_, c4, hZ2, hZn⟩
   simp only [spec_l9Draw.l1, spec_l9Draw.l1s, h4, List.length_map]
   rw [w64 (n := 60 + r4) (by omega), cd_f (by rw [decide_eq_false_iff_not]; omega)]
  ·intro n j hj ih Z i s hi hZ hZ2 hZn
   obtain ⟨r4, i4, s4, h4, c4, b4⟩ := dBelow 2 (by decide) a i s hi
   by_cases hc : (Z.length : Int) < 60 + r4
   ·obtain ⟨Y, i', s', g1, g2, g3, g4⟩ := ih (Z ++ [(4, 0, IntKind.i64.wrap ((Z.length : Int) - 1), (45, 0, 0), [])]) i4 s4 c4 (by rw [List.length_append, List.length_singleton]; omega) (by rw [List.length_append, List.length_singleton]; omega) (hZn.app _ (Nat.zero_le _))
    refine ⟨Y, i', s', fun k => ?_, g2, g3, g4⟩
    simp only [spec_l9Draw.l1, spec_l9Draw.l1s, h4, List.length_map]
    rw [w64 (n := 60 + r4) (by omega), cd_t (by rw [decide_eq_true_eq]; exact hc), cd_t (by rw [decide_eq_true_eq]; omega), ← g1 k, List.map_append]; rfl
   ·refine ⟨Z, i4, s4, fun k => ?_, c4, hZ2, hZn⟩
    simp only [spec_l9Draw.l1, spec_l9Draw.l1s, h4, List.length_map]
    rw [w64 (n := 60 + r4) (by omega), cd_f (by rw [decide_eq_false_iff_not]; exact hc)]
 ·refine ⟨L, i3, s3, fun R => ?_, c3, by omega, hn⟩
  rw [cd_f (by simpa using q0), cd_f (by simpa using q1), cd_f (by simpa using q2), cd_f (by simpa using q3), cd_f (by simpa using q4), cd_f (by simpa using q5), cd_f (by simpa using q6)]
/-- tokens that are a line are a tree that is right -/
theorem lineTree (Y : List Tok) (hY : Y.length ≤ 400) (R : Bool → Option Res) : (impl_Parse.g (Y.map mkT) fun r16 r17 => spec_Parse.g (Y.map mkT) fun _ r19 => bif (r17 != r19) then R false
 else bif (r17 != 0) then (bif ((r16.length : Int) == 0) then R true
  else bif (r17 == 0) then (impl_TreeOk.g r16 fun r20 =>
   bif r20 then R (decide ((r16.length : Int) ≤ ((Y.map mkT).length : Int)))
   else R false)
  else R false)
 else bif (r17 == 0) then (impl_TreeOk.g r16 fun r21 =>
  bif r21 then R (decide ((r16.length : Int) ≤ ((Y.map mkT).length : Int)))
  else R false)
 else R false) = R true := by
 simp only [parseI Y (by omega), parseS Y (by omega)]
 cases ht : toksOk Y with
 | false => rfl
 | true =>
  simp only [Bool.not_true, cond_false]
  have hall : Y.all tokOk = true ∧ Y.length ≤ 300 := by simpa [toksOk] using ht
  cases hi : ipF o1F o2F Y with
  | none => rfl
  | some t =>
   simp only
   by_cases h60 : 60 < asz t
   ·have hb : decide (60 < asz t) = true := by simpa using h60
    simp only [hb, cond_true]; rfl
   have hb60 : decide (60 < asz t) = false := by simpa using h60
   have hok := okA_ip _ Y t hall.1 hall.2 hi
   have hn := numB_ip 300 _ Y t hall.2 hi
   have hnb : NumB (ndsA t 0) := fun x hx => Nat.le_trans (num_nds 300 t 0 hn x hx) (by decide)
   have hl := nds_len t 0
   have htb := ast_treeB t hok (by omega)
   have hsz := ip_size _ Y t hi
   have hO := fun R => treeOkI (ndsA t 0) (by omega) hnb R
   rw [nds_flat, htb] at hO
   simp only [hb60, cond_false, bne_self_eq_false, beq_self_eq_true, cond_true, hO, List.length_map, flat_len]
   rw [decide_eq_true (by omega)]
theorem lawFnTree (a : List Int) (ha : wfQ [.int .u8] (.ints a)) (R : Bool → Option Res) : laws_FnTree.g a R = R true := by
 simp only [laws_FnTree.e, laws_FnTree.b, laws_big.e, laws_big.b]
 by_cases h : 1048576 < (a.length : Int)
 ·simp [h]
 obtain ⟨s0, hN, c0⟩ := dNew a (by omega)
 obtain ⟨T, i1, s1, h1, c1, hl, hn⟩ := dTreeAny a 0 s0 c0
 have hD : ∀ R, spec_DrawTreeText.g a R = R (T.map mkN) := fun R => by simp only [spec_DrawTreeText.e, spec_DrawTreeText.b, hN, h1]
 obtain ⟨Y, hP, hY⟩ := dParse a (by omega)
 have hb : NumB T := fun x hx => Nat.le_trans (hn x hx) (by decide)
 have hline := lineTree Y hY R
 simp only [h, decide_false, cond_false, hD, treeOkI T (by omega) hb, treeOkS T (by omega) hb, hP]
 cases ht : treeB T with
 | false =>
  obtain ⟨s, t1, t2⟩ := treeText T (by omega) hb
  simp only [t1, t2, beqL, Bool.not_true, cond_false, bne_self_eq_false, hline]
 | true =>
  obtain ⟨t, rfl, ho, h60⟩ := treeB_ast ht
  obtain ⟨t1, t2⟩ := astText t ho h60 hb
  simp only [t1, t2, beqL, Bool.not_true, cond_false, bne_self_eq_false, cond_true]
  cases hz : ((bz (textL (toksA t))).toList == (⟨#[]⟩ : ByteArray).toList) with
  | true => simp only [Bool.not_true, cond_false, hline]
  | false =>
   simp only [Bool.not_false, cond_true]
   by_cases h3 : ((bz (textL (toksA t))).size : Int) ≤ 300
   ·rw [decide_eq_true h3, cond_true]
    have htk : toksOk (toksA t) = true := by
     cases hq : toksOk (toksA t) with
     | true => rfl
     | false =>
      have : textL (toksA t) = [] := by rw [textL, if_neg (by simp [hq])]
      rw [this, show bz [] = (⟨#[]⟩ : ByteArray) from rfl, beqL] at hz
      cases hz
    have hall : (toksA t).all tokOk = true ∧ (toksA t).length ≤ 300 := by simpa [toksOk] using htk
    have hx : textL (toksA t) = Lib.join ((toksA t).map tokL) [32] := by rw [textL, if_pos htk]
    have hlex : ∀ R, impl_Lex.g (bz (textL (toksA t))) R = R ((toksA t).map mkT) 0 ((bz (textL (toksA t))).size : Int) := fun R => by
     rw [lexI]
     unfold lexA
     rw [if_neg (by omega), bz_list, hx, text_read _ hall.1]
    have hpar : ∀ R, impl_Parse.g ((toksA t).map mkT) R = R (flat t 0) 0 := fun R => by
     rw [parseI _ (by omega), htk, toks_read t ho]
     simp only [Bool.not_true, cond_false]
     rw [cd_f (by rw [decide_eq_false_iff_not]; omega)]
    have hsm := sameTree (flat t 0) (by rw [flat_len]; omega) (fun r hr => by
     rw [← nds_flat] at hr
     obtain ⟨x, hx, rfl⟩ := List.mem_map.1 hr
     exact Nat.le_trans (hn x hx) (by decide))
    simp only [hlex, hpar, bne_self_eq_false, cond_false, nds_flat, hsm, Bool.not_true, hline]
   ·rw [decide_eq_false h3, cond_false]
    simp only [hline]
end Go.Tv.F
