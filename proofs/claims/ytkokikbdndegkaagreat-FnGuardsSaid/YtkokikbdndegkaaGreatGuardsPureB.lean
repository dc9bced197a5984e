/- The pure law about these functions. It holds without condition. -/
import Derived.Test.YtkokikbdndegkaaGreatGuardsPureA
set_option linter.unusedVariables false
set_option linter.unusedSectionVars false
set_option linter.unusedSimpArgs false
set_option linter.unnecessarySimpa false
set_option maxRecDepth 100000
set_option autoImplicit false
namespace Go.Tv.F
open Go Go.Tv
theorem shapeS (V : List Vr) (hV : varsB V = true) (L : List Ins) (hL : L.length ≤ 2000000) (ho : L.all insOk = true) (hn : NumsX 2000000 L) (p q : Nat) (hpq : p ≤ q) (hq : q ≤ L.length) :
 ∃ Y, ∀ R, spec_l15Shape.g (L.map mkX) (p : Int) (q : Int) (V.map mkV) R = match gF V ((L.drop p).take (q - p)) [] with | none => R Y false | some sh => R sh true := by
 simp only [spec_l15Shape.e, spec_l15Shape.b]
 have := up0 (N := q) (P := fun n i => ∀ sh : List Int, sh.length ≤ 3 → ∃ Y, ∀ (k : List Int → Option Res) (R : List Int → Bool → Option Res), spec_l15Shape.l0 (L.map mkX) (V.map mkV) (p : Int) (q : Int) k R n sh (i : Int) = match gF V ((L.drop i).take (q - i)) sh with | none => R Y false | some s => bif decide (s.length ≤ 3) then k s else none) (by omega) ?_ ?_ p hpq [] (by simp)
 ·obtain ⟨Y, hY⟩ := this
  refine ⟨Y, fun R => ?_⟩
  rw [hY]
  cases hg : gF V ((L.drop p).take (q - p)) [] with
  | none => rfl
  | some s =>
   have hs : s.length ≤ 3 := by
    by_cases hc : s.length ≤ 3
    ·exact hc
    ·have := hY (fun _ => none) (fun _ _ => none)
     exfalso
     have h0 : s ≠ [] := by intro e; subst e; simp at hc
     -- the shape is that of an array that is put
     have key : ∀ (X : List Ins) (sh s : List Int), (∀ x ∈ X, insOk x = true) → gF V X sh = some s → sh.length ≤ 3 → s.length ≤ 3 := by
      intro X
      induction X with
      | nil => intro sh s _ h hl; cases h; exact hl
      | cons x X ih =>
       intro sh s hX h hl
       rw [gF] at h
       have hx := hX x (List.mem_cons_self ..)
       have hX' := fun y hy => hX y (List.mem_cons_of_mem _ hy)
       split at h
       ·rename_i hp
        split at h
        ·cases h
        ·rename_i h0
         split at h
         ·exact ih _ _ hX' h hl
         ·split at h
          ·cases h
          ·exact ih _ _ hX' h (ar_len hV hx hp (by simpa using h0))
       ·exact ih _ _ hX' h hl
     exact hc (key _ _ _ (fun x hx => List.all_eq_true.1 ho x (List.mem_of_mem_drop (List.mem_of_mem_take hx))) hg (by simp))
   simp only [decide_eq_true hs, cond_true]
   rw [cd_t (by simp; omega), List.nil_append]
 ·intro n sh hl
  refine ⟨[], fun k R => ?_⟩
  simp only [spec_l15Shape.l0, spec_l15Shape.l0s, ixe, cond_false, Nat.sub_self, List.take_zero, gF, decide_eq_true hl, cond_true]
 ·intro n i hi ih sh hl
  have hiL : i < L.length := by omega
  have hx := insAt ho hiL
  have hxn := hn.at hiL
  have ew : IntKind.i64.wrap ((i : Int) + 1) = ((i + 1 : Nat) : Int) := ixw (by omega)
  rw [take_cons hi hq]
  simp only [spec_l15Shape.l0, spec_l15Shape.l0s, List.length_map, ixl hi, ixl hiL, ix0, Bool.and_self, cond_true, Int.toNat_natCast, getX hiL, mkX_0, mkX_1, mkX_2, mkX_3, mkX_4, mkX_5, ew, gF]
  generalize L.getD i dX = x at hx hxn ⊢
  obtain ⟨Y0, hY0⟩ := ih sh hl
  by_cases hp : putsX x = true
  ·have hA := arrS V hV x hx hxn hp
   simp only [hA, hp, if_true]
   have hc : (x.1 != 1) = true → (x.1 != 2) = false := by
    intro h
    have : x.1 = 2 := by simpa [putsX, (by simpa using h : x.1 ≠ 1)] using hp
    rw [this]; rfl
   have step : ∀ (T : Option Res), (bif x.1 != 1 then (bif x.1 != 2 then T else none) else none) = (bif x.1 != 1 then none else none : Option Res) := by
    intro T
    cases h : x.1 != 1 with
    | false => rfl
    | true => rw [hc h]; rfl
   have bth : ∀ (A T : Option Res), (bif x.1 != 1 then (bif x.1 != 2 then T else A) else A) = A := by
    intro A T
    cases h : x.1 != 1 with
    | false => rfl
    | true => rw [hc h]; rfl
   simp only [bth, z0, p3i]
   cases hs : setX V x with
   | false => exact ⟨sh, fun k R => by simp⟩
   | true =>
    have hal := ar_len hV hx hp hs
    have hok := arrX_ok hV hx hp hs
    simp only [Bool.not_true, cond_false, if_false, Bool.true_eq_false]
    by_cases q1 : (arrX V x).1 = []
    ·have q2 : (arrX V x).2 ≠ [] := by
      intro e
      rw [q1, e] at hok
      revert hok; decide
     refine ⟨Y0, fun k R => ?_⟩
     simp only [q1, q2, decide_true, decide_false, Bool.not_true, cond_false, if_true]
     exact hY0 k R
    ·by_cases q2 : (arrX V x).2 = []
     ·exact ⟨sh, fun k R => by simp only [q1, q2, decide_true, cond_true, if_false, true_or, if_true]⟩
     ·simp only [q1, q2, decide_false, cond_false, Bool.not_false, cond_true, if_false, false_or]
      obtain ⟨Y1, hY1⟩ := ih (arrX V x).1 hal
      by_cases q3 : sh = []
      ·refine ⟨Y1, fun k R => ?_⟩
       simp only [q3, decide_true, Bool.not_true, cond_false, ne_eq, not_true, false_and, if_false]
       exact hY1 k R
      ·simp only [q3, decide_false, Bool.not_false, cond_true, sameS _ _ (by omega : (arrX V x).1.length ≤ 2000000), ne_eq, not_false_iff, true_and]
       by_cases q4 : (arrX V x).1 = sh
       ·refine ⟨Y1, fun k R => ?_⟩
        rw [decide_eq_true q4, Bool.not_true, cond_false, if_neg (fun h => h q4.symm)]
        exact hY1 k R
       ·refine ⟨sh, fun k R => ?_⟩
        rw [decide_eq_false q4, Bool.not_false, cond_true, if_pos (fun h => q4 h.symm)]
  ·have h1 : (x.1 != 1) = true := by
    simp only [putsX, Bool.or_eq_true, beq_iff_eq, not_or] at hp
    simpa using hp.1
   have h2 : (x.1 != 2) = true := by
    simp only [putsX, Bool.or_eq_true, beq_iff_eq, not_or] at hp
    simpa using hp.2
   refine ⟨Y0, fun k R => ?_⟩
   rw [h1, cond_true, h2, cond_true, if_neg hp]
   exact hY0 k R
def atM (a : Ar) (p : Nat) : Int := if a.1 = [] then a.2.getD 0 0 else a.2.getD p 0
def stX (V : List Vr) (p : Nat) (x : Ins) (st : List Int) : Option (List Int) :=
 if x.1 = 4 then (if (oneN x.2.2.1.1 (st.getD (st.length - 1) 0)).2 = 0 then some (st.take (st.length - 1) ++ [(oneN x.2.2.1.1 (st.getD (st.length - 1) 0)).1]) else none)
 else if x.1 = 5 then (if (twoN x.2.2.1.1 (st.getD (st.length - 1) 0) (st.getD (st.length - 2) 0)).2 = 0 then some (st.take (st.length - 2) ++ [(twoN x.2.2.1.1 (st.getD (st.length - 1) 0) (st.getD (st.length - 2) 0)).1]) else none)
 else some (st ++ [atM (arrX V x) p])
def cF (V : List Vr) (p : Nat) : List Ins → List Int → Option (List Int)
 | [], st => some st
 | x :: X, st => match stX V p x st with
  | none => none
  | some st' => cF V p X st'
def GoodA (V : List Vr) (p : Nat) (x : Ins) : Prop := putsX x = true → ((arrX V x).1 = [] → 0 < (arrX V x).2.length) ∧ ((arrX V x).1 ≠ [] → p < (arrX V x).2.length)
theorem atI (s d : List Int) (p : Nat) (h1 : s = [] → 0 < d.length) (h2 : s ≠ [] → p < d.length) (R : Int → Option Res) : impl_at.g s d (p : Int) R = R (atM (s, d) p) := by
 simp only [impl_at.e, impl_at.b, z0, atM]
 by_cases h : s = []
 ·have e : decide (0 < (d.length : Int)) = true := by have := h1 h; simp; omega
  simp only [h, decide_true, cond_true, e, if_true]
 ·simp only [h, decide_false, cond_false, ix0, ixl (h2 h), Bool.and_self, cond_true, if_false, Int.toNat_natCast]
theorem atS (s d : List Int) (p : Nat) (h1 : s = [] → 0 < d.length) (h2 : s ≠ [] → p < d.length) (R : Int → Option Res) : spec_l4Of.g s d (p : Int) R = R (atM (s, d) p) := by
 simp only [spec_l4Of.e, spec_l4Of.b, z0, atM]
 by_cases h : s = []
 ·have e : decide (0 < (d.length : Int)) = true := by have := h1 h; simp; omega
  simp only [h, decide_true, cond_true, e, if_true]
 ·simp only [h, decide_false, cond_false, ix0, ixl (h2 h), Bool.and_self, cond_true, if_false, Int.toNat_natCast]
def goC (R : Int → Bool → Option Res) : Option (List Int) → Option Res
 | none => R 0 false
 | some st => R (st.getD 0 0) true
theorem plain_cases {x : Ins} (hp : plainX x = true) (ho : insOk x = true) : (putsX x = true ∧ takesX x = 0 ∧ x.1 ≠ 4 ∧ x.1 ≠ 5) ∨ (x.1 = 4 ∧ takesX x = 1) ∨ (x.1 = 5 ∧ takesX x = 2) := by
 obtain ⟨h, _⟩ := plain_ok hp ho
 rcases h with ⟨a, b⟩ | ⟨a, b⟩ | ⟨a, b⟩ | ⟨a, b⟩
 ·exact .inl ⟨by simp [putsX, a], b, by omega, by omega⟩
 ·exact .inl ⟨by simp [putsX, a], b, by omega, by omega⟩
 ·exact .inr (.inl ⟨a, b⟩)
 ·exact .inr (.inr ⟨a, b⟩)
theorem w_sub {n k : Nat} (h : k ≤ n) (hn : n ≤ 2000000) : IntKind.i64.wrap ((n : Int) - (k : Int)) = ((n - k : Nat) : Int) := by rw [w64 (by omega)]; omega
theorem placeI (V : List Vr) (hV : varsB V = true) (p : Nat) (X : List Ins) (hX : X.length ≤ 1000000) (ho : X.all insOk = true) (hpl : X.all plainX = true) (hn : NumsX 2000000 X) (hg : ∀ x ∈ X, GoodA V p x) (hd : runD X 0 = some 1) (R : Int → Bool → Option Res) :
 impl_atPlace.g (X.map mkX) (V.map mkV) (p : Int) R = goC R (cF V p X []) := by
 have hl26 : V.length = 26 := by unfold varsB at hV; simp only [Bool.and_eq_true, decide_eq_true_eq] at hV; exact hV.1
 simp only [impl_atPlace.e, impl_atPlace.b, List.length_map]
 have key := up0 (N := X.length) (P := fun n i => ∀ st : List Int, runD (X.drop i) st.length = some 1 → st.length ≤ i → impl_atPlace.l0 (V.map mkV) (p : Int) (X.map mkX) (X.length : Int) (fun y22 => bif decide (0 < (y22.length : Int)) then R (y22.getD 0 0) true else none) R n (i : Int) st = goC R (cF V p (X.drop i) st)) (by omega) ?_ ?_ 0 (by omega) [] hd (by simp)
 ·exact key
 ·intro n st h _
  rw [List.drop_length, runD] at h
  have h1 : st.length = 1 := Option.some.inj h
  simp only [impl_atPlace.l0, impl_atPlace.l0s, ixe, cond_false, List.drop_length, cF, goC]
  rw [cd_t (by simp; omega)]
 ·intro n i hi ih st h hle
  have hx := insAt ho hi
  have hxn := hn.at hi
  have hmem : X.getD i dX ∈ X := by rw [List.getD_eq_getElem?_getD, List.getElem?_eq_getElem hi]; exact List.getElem_mem hi
  have hp := List.all_eq_true.1 hpl _ hmem
  have hgx := hg _ hmem
  have ew : IntKind.i64.wrap ((i : Int) + 1) = ((i + 1 : Nat) : Int) := ixw (by omega)
  rw [drop_cons dX hi] at h ⊢
  rw [runD] at h
  simp only [impl_atPlace.l0, impl_atPlace.l0s, List.length_map, ixl hi, ix0, Bool.and_self, cond_true, Int.toNat_natCast, getX hi, mkX_0, mkX_1, mkX_2, mkX_3, mkX_4, mkX_5, numsI _ hxn, takesI, oneI, twoI, ew, cF]
  generalize X.getD i dX = x at hx hxn hp hgx h ⊢
  rcases plain_cases hp hx with ⟨a1, a2, a4, a5⟩ | ⟨a1, a2⟩ | ⟨a1, a2⟩
  ·rw [a2, if_pos (Nat.zero_le _)] at h
   have e4 : (x.1 == 4) = false := by simpa using a4
   obtain ⟨g1, g2⟩ := hgx a1
   have hst : stX V p x st = some (st ++ [atM (arrX V x) p]) := by rw [stX, if_neg a4, if_neg a5]
   have e0 : IntKind.i64.wrap ((st.length : Int) - ((0 : Nat) : Int)) = ((st.length : Nat) : Int) := by rw [w_sub (Nat.zero_le _) (by omega)]; rfl
   have tl_ : (bif decide (0 ≤ (st.length : Int)) && decide ((st.length : Int) ≤ (st.length : Int)) then (bif decide (((st.length : Int).toNat + 1) * 8 ≤ 140737488355328) then impl_atPlace.l0 (V.map mkV) (p : Int) (X.map mkX) (X.length : Int) (fun y22 => bif decide (0 < (y22.length : Int)) then R (y22.getD 0 0) true else none) R n ((i + 1 : Nat) : Int) ((st.take ((st.length : Int).toNat)) ++ ([atM (arrX V x) p] : List Int)) else none) else none) = goC R (cF V p (X.drop (i + 1)) (st ++ [atM (arrX V x) p])) := by
    rw [Int.toNat_natCast, cd_t (by simp), cd_t (by simp; omega), List.take_length]
    exact ih _ (by rw [List.length_append, List.length_singleton]; exact h) (by rw [List.length_append, List.length_singleton]; omega)
   by_cases h1 : x.1 = 1
   ·have e1 : (x.1 == 1) = true := by simpa using h1
    have ha : arrX V x = numsA x.2.2.2 := by rw [arrX, if_pos h1]
    rw [ha] at g1 g2 tl_
    rw [hst]
    simp only [e1, cond_true, atI _ _ _ g1 g2, a2, e0, ha]
    exact tl_
   ·have e1 : (x.1 == 1) = false := by simpa using h1
    have h2 : x.1 = 2 := by simpa [putsX, h1] using a1
    have e2 : (x.1 == 2) = true := by simpa using h2
    obtain ⟨k, hk, hk2⟩ := ins_letter hx h2
    have hkV : k < V.length := by omega
    have ha : arrX V x = (V.getD k dV).2 := by rw [arrX, if_neg h1, hk, Int.toNat_natCast]
    rw [ha] at g1 g2 tl_
    rw [hst]
    simp only [e1, e2, cond_true, cond_false, hk, Int.toNat_natCast, ix0, ixl hkV, Bool.and_self, getV hkV, mkV_1, mkV_2, atI _ _ _ g1 g2, a2, e0, ha]
    exact tl_
  ·rw [a2] at h
   have hc : 1 ≤ st.length := by
    by_cases hc : 1 ≤ st.length
    ·exact hc
    ·rw [if_neg hc] at h; cases h
   rw [if_pos hc] at h
   have w1 : IntKind.i64.wrap ((st.length : Int) - 1) = ((st.length - 1 : Nat) : Int) := w_sub (k := 1) hc (by omega)
   have w1' : IntKind.i64.wrap ((st.length : Int) - ((1 : Nat) : Int)) = ((st.length - 1 : Nat) : Int) := w_sub (k := 1) hc (by omega)
   have b1 : decide (((st.length - 1 : Nat) : Int) < (st.length : Int)) = true := by simp; omega
   have b2 : decide (((st.length - 1 : Nat) : Int) ≤ (st.length : Int)) = true := by simp
   have b3 : decide ((st.length - 1 + 1) * 8 ≤ 140737488355328) = true := by simp; omega
   have e1 : (x.1 == 1) = false := by rw [a1]; rfl
   have e2 : (x.1 == 2) = false := by rw [a1]; rfl
   have e4 : (x.1 == 4) = true := by rw [a1]; rfl
   simp only [e1, e2, e4, cond_true, cond_false, w1, w1', ix0, b1, b2, b3, Bool.and_self, Int.toNat_natCast, a2, stX, if_pos a1]
   by_cases hq : (oneN x.2.2.1.1 (st.getD (st.length - 1) 0)).2 = 0
   ·rw [if_pos hq, cd_f (by simpa using hq)]
    exact ih _ (by rw [List.length_append, List.length_singleton, List.length_take, Nat.min_eq_left (Nat.sub_le _ _)]; exact h) (by rw [List.length_append, List.length_singleton, List.length_take]; omega)
   ·rw [if_neg hq, cd_t (by simpa using hq)]; rfl
  ·rw [a2] at h
   have hc : 2 ≤ st.length := by
    by_cases hc : 2 ≤ st.length
    ·exact hc
    ·rw [if_neg hc] at h; cases h
   rw [if_pos hc] at h
   have w1 : IntKind.i64.wrap ((st.length : Int) - 1) = ((st.length - 1 : Nat) : Int) := w_sub (k := 1) (by omega) (by omega)
   have w2 : IntKind.i64.wrap ((st.length : Int) - 2) = ((st.length - 2 : Nat) : Int) := w_sub (k := 2) hc (by omega)
   have w2' : IntKind.i64.wrap ((st.length : Int) - ((2 : Nat) : Int)) = ((st.length - 2 : Nat) : Int) := w_sub (k := 2) hc (by omega)
   have b1 : decide (((st.length - 1 : Nat) : Int) < (st.length : Int)) = true := by simp; omega
   have b1' : decide (((st.length - 2 : Nat) : Int) < (st.length : Int)) = true := by simp; omega
   have b2 : decide (((st.length - 2 : Nat) : Int) ≤ (st.length : Int)) = true := by simp
   have b3 : decide ((st.length - 2 + 1) * 8 ≤ 140737488355328) = true := by simp; omega
   have e1 : (x.1 == 1) = false := by rw [a1]; rfl
   have e2 : (x.1 == 2) = false := by rw [a1]; rfl
   have e4 : (x.1 == 4) = false := by rw [a1]; rfl
   simp only [e1, e2, e4, cond_true, cond_false, w1, w2, w2', ix0, b1, b1', b2, b3, Bool.and_self, Int.toNat_natCast, a2, stX, if_neg (show ¬ x.1 = 4 by omega), if_pos a1]
   by_cases hq : (twoN x.2.2.1.1 (st.getD (st.length - 1) 0) (st.getD (st.length - 2) 0)).2 = 0
   ·rw [if_pos hq, cd_f (by simpa using hq)]
    exact ih _ (by rw [List.length_append, List.length_singleton, List.length_take, Nat.min_eq_left (Nat.sub_le _ _)]; exact h) (by rw [List.length_append, List.length_singleton, List.length_take]; omega)
   ·rw [if_neg hq, cd_t (by simpa using hq)]; rfl
theorem set_last (l : List Int) (h : 1 ≤ l.length) (r : Int) : l.set (l.length - 1) r = l.take (l.length - 1) ++ [r] := by
 refine List.ext_getElem (by simp; omega) fun j h1 h2 => ?_
 simp only [List.length_set] at h1
 rw [List.getElem_set]
 by_cases hj : l.length - 1 = j
 ·rw [if_pos hj, List.getElem_append_right (by simp; omega)]; simp
 ·rw [if_neg hj, List.getElem_append_left (by simp; omega), List.getElem_take]
theorem cellS (V : List Vr) (hV : varsB V = true) (p : Nat) (L : List Ins) (hL : L.length ≤ 1000000) (ho : L.all insOk = true) (hn : NumsX 2000000 L) (f q : Nat) (hfq : f ≤ q) (hq : q ≤ L.length) (hpl : ((L.drop f).take (q - f)).all plainX = true)
 (hg : ∀ x ∈ (L.drop f).take (q - f), GoodA V p x) (hset : ∀ x ∈ (L.drop f).take (q - f), putsX x = true → setX V x = true) (hd : runD ((L.drop f).take (q - f)) 0 = some 1) (R : Int → Bool → Option Res) :
 spec_l15Cell.g (L.map mkX) (f : Int) (q : Int) (V.map mkV) (p : Int) R = goC R (cF V p ((L.drop f).take (q - f)) []) := by
 simp only [spec_l15Cell.e, spec_l15Cell.b]
 have key := up0 (N := q) (P := fun n i => ∀ st : List Int, runD ((L.drop i).take (q - i)) st.length = some 1 → st.length ≤ i → ((L.drop i).take (q - i)).all plainX = true → (∀ x ∈ (L.drop i).take (q - i), GoodA V p x) → (∀ x ∈ (L.drop i).take (q - i), putsX x = true → setX V x = true) →
  spec_l15Cell.l0 (L.map mkX) (V.map mkV) (p : Int) (f : Int) (q : Int) (fun y21 => bif decide (0 < (y21.length : Int)) then R (y21.getD 0 0) true else none) R n (i : Int) st = goC R (cF V p ((L.drop i).take (q - i)) st)) (by omega) ?_ ?_ f hfq [] hd (by simp) hpl hg hset
 ·exact key
 ·intro n st h _ _ _ _
  rw [Nat.sub_self, List.take_zero, runD] at h
  have h1 : st.length = 1 := Option.some.inj h
  simp only [spec_l15Cell.l0, spec_l15Cell.l0s, ixe, cond_false, Nat.sub_self, List.take_zero, cF, goC]
  rw [cd_t (by simp; omega)]
 ·intro n i hi ih st h hle hpl hg hset
  have hiL : i < L.length := by omega
  have hx := insAt ho hiL
  have hxn := hn.at hiL
  have ew : IntKind.i64.wrap ((i : Int) + 1) = ((i + 1 : Nat) : Int) := ixw (by omega)
  rw [take_cons hi hq] at h hpl hg hset ⊢
  rw [List.all_cons, Bool.and_eq_true] at hpl
  have hgx := hg _ (List.mem_cons_self ..)
  have hsx := hset _ (List.mem_cons_self ..)
  have hg' := fun y hy => hg y (List.mem_cons_of_mem _ hy)
  have hset' := fun y hy => hset y (List.mem_cons_of_mem _ hy)
  have hp := hpl.1
  rw [runD] at h
  simp only [spec_l15Cell.l0, spec_l15Cell.l0s, List.length_map, ixl hi, ixl hiL, ix0, Bool.and_self, cond_true, Int.toNat_natCast, getX hiL, mkX_0, mkX_1, mkX_2, mkX_3, mkX_4, mkX_5, oneS, twoS, ew, cF]
  generalize L.getD i dX = x at hx hxn hp hgx hsx h ⊢
  rcases plain_cases hp hx with ⟨a1, a2, a4, a5⟩ | ⟨a1, a2⟩ | ⟨a1, a2⟩
  ·rw [a2, if_pos (Nat.zero_le _)] at h
   have e4 : (x.1 == 4) = false := by simpa using a4
   have e5 : (x.1 == 5) = false := by simpa using a5
   obtain ⟨g1, g2⟩ := hgx a1
   have hst : stX V p x st = some (st ++ [atM (arrX V x) p]) := by rw [stX, if_neg a4, if_neg a5]
   rw [hst]
   simp only [e4, e5, cond_false, arrS V hV x hx hxn a1, atS _ _ _ g1 g2]
   rw [cd_t (by simp; omega)]
   exact ih _ (by rw [List.length_append, List.length_singleton]; exact h) (by rw [List.length_append, List.length_singleton]; omega) hpl.2 hg' hset'
  ·rw [a2] at h
   have hc : 1 ≤ st.length := by
    by_cases hc : 1 ≤ st.length
    ·exact hc
    ·rw [if_neg hc] at h; cases h
   rw [if_pos hc] at h
   have w1 : IntKind.i64.wrap ((st.length : Int) - 1) = ((st.length - 1 : Nat) : Int) := w_sub (k := 1) hc (by omega)
   have b1 : decide (((st.length - 1 : Nat) : Int) < (st.length : Int)) = true := by simp; omega
   have e4 : (x.1 == 4) = true := by rw [a1]; rfl
   simp only [e4, cond_true, w1, ix0, b1, Bool.and_self, Int.toNat_natCast, stX, if_pos a1]
   by_cases hq : (oneN x.2.2.1.1 (st.getD (st.length - 1) 0)).2 = 0
   ·rw [if_pos hq, cd_f (by simpa using hq), set_last st hc]
    exact ih _ (by rw [List.length_append, List.length_singleton, List.length_take, Nat.min_eq_left (Nat.sub_le _ _)]; exact h) (by rw [List.length_append, List.length_singleton, List.length_take]; omega) hpl.2 hg' hset'
   ·rw [if_neg hq, cd_t (by simpa using hq)]; rfl
  ·rw [a2] at h
   have hc : 2 ≤ st.length := by
    by_cases hc : 2 ≤ st.length
    ·exact hc
    ·rw [if_neg hc] at h; cases h
   rw [if_pos hc] at h
   have w1 : IntKind.i64.wrap ((st.length : Int) - 1) = ((st.length - 1 : Nat) : Int) := w_sub (k := 1) (by omega) (by omega)
   have w2 : IntKind.i64.wrap ((st.length : Int) - 2) = ((st.length - 2 : Nat) : Int) := w_sub (k := 2) hc (by omega)
   have b1 : decide (((st.length - 1 : Nat) : Int) < (st.length : Int)) = true := by simp; omega
   have b1' : decide (((st.length - 2 : Nat) : Int) < (st.length : Int)) = true := by simp; omega
   have b2 : decide (((st.length - 2 : Nat) : Int) ≤ (st.length : Int)) = true := by simp
   have b3 : decide ((st.length - 2 + 1) * 8 ≤ 140737488355328) = true := by simp; omega
   have e4 : (x.1 == 4) = false := by rw [a1]; rfl
   have e5 : (x.1 == 5) = true := by rw [a1]; rfl
   simp only [e4, e5, cond_true, cond_false, w1, w2, ix0, b1, b1', b2, b3, Bool.and_self, Int.toNat_natCast, stX, if_neg (show ¬ x.1 = 4 by omega), if_pos a1]
   by_cases hq : (twoN x.2.2.1.1 (st.getD (st.length - 1) 0) (st.getD (st.length - 2) 0)).2 = 0
   ·rw [if_pos hq, cd_f (by simpa using hq)]
    exact ih _ (by rw [List.length_append, List.length_singleton, List.length_take, Nat.min_eq_left (Nat.sub_le _ _)]; exact h) (by rw [List.length_append, List.length_singleton, List.length_take]; omega) hpl.2 hg' hset'
   ·rw [if_neg hq, cd_t (by simpa using hq)]; rfl
def datF (f : Nat → Option Int) : Nat → Nat → Option (List Int)
 | 0, _ => some []
 | m + 1, i => match f i with
  | none => none
  | some v => (datF f m (i + 1)).map (v :: ·)
def fuseX (V : List Vr) (X : List Ins) : Option Ar := match gF V X [] with
 | none => none
 | some sh => (datF (fun i => (cF V i X []).map fun st => st.getD 0 0) (sizeOf sh).toNat 0).map fun d => (sh, d)
def goF (R : List Int → List Int → Bool → Option Res) : Option Ar → Option Res
 | none => R [] [] false
 | some a => R a.1 a.2 true
theorem endR_run : ∀ (L : List Ins) (i : Nat) (e : Option Nat) (m : Nat) (w : Bool) (q : Nat), endR L i e m w = some q → e ≠ some q → (L.take (q - i)).all plainX = true ∧ runD (L.take (q - i)) m = some 1
 | [], i, e, m, w, q, h, he => by rw [endR] at h; exact absurd h he
 | x :: L, i, e, m, w, q, h, he => by
  obtain ⟨s1, s2, s3, s4, s5⟩ := endR_step h he
  by_cases hq : i + 1 = q
  ·rw [show q - i = 1 by omega, List.take_succ_cons, List.take_zero, List.all_cons, List.all_nil, s1, runD, if_pos s2, runD, (s4 hq).1]
   exact ⟨rfl, rfl⟩
  ·obtain ⟨e', he', h'⟩ := s5 (by omega)
   obtain ⟨g1, g2⟩ := endR_run L (i + 1) e' _ _ q h' he'
   rw [show q - i = (q - (i + 1)) + 1 by omega, List.take_succ_cons, List.all_cons, s1, g1, runD, if_pos s2, g2]
   exact ⟨rfl, rfl⟩
theorem span_run {L : List Ins} {p q : Nat} (h : endX L p = some q) : ((L.drop p).take (q - p)).all plainX = true ∧ runD ((L.drop p).take (q - p)) 0 = some 1 := endR_run _ _ _ _ _ _ h (by simp)
theorem span_mem {L : List Ins} {s : Spn} (h : s ∈ spansX L) : codeB L = true ∧ endX L s.1 = some s.2 ∧ s.1 < L.length ∧ s.2 ≤ L.length ∧ s.1 < s.2 := by
 unfold spansX at h
 split at h
 ·rename_i hc
  obtain ⟨j, hj, rfl⟩ := List.mem_iff_getElem.1 h
  obtain ⟨a, b, _, _⟩ := spansR_ok L (L.length + 1) 0 j _ (List.getElem?_eq_getElem hj)
  have := endX_lt a (by omega)
  exact ⟨hc, a, b, this.2, this.1⟩
 ·cases h
theorem good_all {V : List Vr} (hV : varsB V = true) {X : List Ins} (ho : X.all insOk = true) {sh : List Int} (hg : gF V X [] = some sh) {p : Nat} (hp : (p : Int) < sizeOf sh) : ∀ x ∈ X, GoodA V p x := by
 intro x hx hpx
 obtain ⟨h1, h2⟩ := gF_all hg x hx hpx
 have ha := arrX_ok hV (List.all_eq_true.1 ho x hx) hpx h1
 unfold arrOk at ha
 simp only [Bool.and_eq_true, decide_eq_true_eq] at ha
 refine ⟨fun h => ?_, fun h => ?_⟩
 ·rw [h] at ha
  have : sizeOf [] = 1 := by decide
  omega
 ·rcases h2 with h2 | h2
  ·exact absurd h2 h
  ·rw [h2.1] at ha; omega
theorem goC_f (R : Int → Bool → Option Res) (o : Option (List Int)) : goC R o = match o.map fun st => st.getD 0 0 with | none => R 0 false | some v => R v true := by cases o <;> rfl
theorem datR_loop {f : Nat → Option Int} {N : Nat} {l : Nat → Int → List Int → Option Res} {F : Option Res} {k : List Int → Option Res} (hN : N ≤ 1000000)
 (hend : ∀ n acc, l (n + 1) (N : Int) acc = k acc) (hstep : ∀ n (i : Nat) acc, i < N → acc.length ≤ i → l (n + 1) (i : Int) acc = match f i with | none => F | some v => l n ((i + 1 : Nat) : Int) (acc ++ [v])) :
 l fuel 0 [] = match datF f N 0 with | none => F | some d => k d := by
 have := up0 (N := N) (P := fun n i => ∀ acc : List Int, acc.length ≤ i → l n (i : Int) acc = match datF f (N - i) i with | none => F | some d => k (acc ++ d)) (by omega) ?_ ?_ 0 (by omega) [] (by simp)
 ·simpa using this
 ·intro n acc _; rw [hend, Nat.sub_self, datF]; simp
 ·intro n i hi ih acc ha
  rw [hstep n i acc hi ha, show N - i = (N - (i + 1)) + 1 by omega, datF]
  cases f i with
  | none => rfl
  | some v =>
   simp only
   rw [ih (acc ++ [v]) (by rw [List.length_append, List.length_singleton]; omega)]
   cases datF f (N - (i + 1)) (i + 1) with
   | none => rfl
   | some d => simp
theorem size_toNat (s : List Int) : ∀ i : Nat, decide ((i : Int) < sizeOf s) = decide (i < (sizeOf s).toNat) := fun i => by rw [Bool.eq_iff_iff, decide_eq_true_eq, decide_eq_true_eq]; omega
theorem contI (S : List Spn) (hS : S.length ≤ 2000000) (a b : Int) (R : Bool → Option Res) : slices_Contains_impl_Span_impl_Span.g (S.map mkS) a b R = R (S.any fun s => decide ((s.1 : Int) = a) && decide ((s.2 : Int) = b)) := by
 have hi : ∀ R, slices_Index_impl_Span_impl_Span.g (S.map mkS) a b R = R (idx (fun s : Spn => decide ((s.1 : Int) = a) && decide ((s.2 : Int) = b)) S 0) := fun R => by
  simp only [slices_Index_impl_Span_impl_Span.e, slices_Index_impl_Span_impl_Span.b, List.length_map]
  have := up0 (N := S.length) (P := fun n i => slices_Index_impl_Span_impl_Span.l0 (S.map mkS) (S.length : Int) a b (R (-1)) R n (i : Int) = R (idx (fun s : Spn => decide ((s.1 : Int) = a) && decide ((s.2 : Int) = b)) (S.drop i) i)) (by omega) ?_ ?_ 0 (by omega)
  ·simpa using this
  ·intro n; simp only [slices_Index_impl_Span_impl_Span.l0, slices_Index_impl_Span_impl_Span.l0s, ixe, cond_false, List.drop_length, idx]
  ·intro n i hi ih
   simp only [slices_Index_impl_Span_impl_Span.l0, slices_Index_impl_Span_impl_Span.l0s, List.length_map, ixl hi, ix0, Bool.and_self, cond_true, Int.toNat_natCast, mkS_getD hi, mkS_0, mkS_1, Bool.and_true, ixw (by omega : i < 9223372036854775807)]
   rw [drop_cons (0, 0) hi, idx]
   have e : ((a == ((S.getD i (0, 0)).1 : Int)) && (b == ((S.getD i (0, 0)).2 : Int))) = (decide (((S.getD i (0, 0)).1 : Int) = a) && decide (((S.getD i (0, 0)).2 : Int) = b)) := by
    rw [Bool.eq_iff_iff]; simp only [Bool.and_eq_true, beq_iff_eq, decide_eq_true_eq]; constructor <;> exact fun h => ⟨h.1.symm, h.2.symm⟩
   rw [e]
   cases decide (((S.getD i (0, 0)).1 : Int) = a) && decide (((S.getD i (0, 0)).2 : Int) = b) with
   | true => rfl
   | false => exact ih
 simp only [slices_Contains_impl_Span_impl_Span.e, slices_Contains_impl_Span_impl_Span.b, hi, idx_any _ _ _ (Int.le_refl 0)]
/-- a span is done at once: where it is one, and what it comes to -/
def fuseM (L : List Ins) (V : List Vr) (a b : Int) : Option Ar :=
 if varsB V = true ∧ ((spansX L).any fun s => decide ((s.1 : Int) = a) && decide ((s.2 : Int) = b)) = true then fuseX V ((L.drop a.toNat).take (b.toNat - a.toNat)) else none
theorem spansX_len (L : List Ins) (hL : L.length ≤ 1000000) : (spansX L).length ≤ 1000001 := by
 unfold spansX
 split
 ·have := spansR_len L (L.length + 1) 0; omega
 ·exact Nat.zero_le _
theorem code_all {L : List Ins} (h : codeB L = true) : L.all insOk = true := by
 unfold codeB at h
 simp only [Bool.and_eq_true] at h
 exact h.1.2
theorem fuseI (L : List Ins) (hL : L.length ≤ 1000000) (hn : NumsX 2000000 L) (V : List Vr) (hVl : V.length ≤ 2000000) (hVn : NumsV 2000000 V) (a b : Int) (R : List Int → List Int → Bool → Option Res) :
 impl_FuseTry.g (L.map mkX) a b (V.map mkV) R = goF R (fuseM L V a b) := by
 have hsl := spansX_len L hL
 simp only [impl_FuseTry.e, impl_FuseTry.b, varsI V hVl hVn, spansI L (by omega) hn, contI _ (by omega : (spansX L).length ≤ 2000000), fuseM]
 cases hV : varsB V with
 | false => rw [if_neg (by simp)]; rfl
 | true =>
  rw [Bool.not_true, cond_false]
  cases hc : (spansX L).any fun s => decide ((s.1 : Int) = a) && decide ((s.2 : Int) = b) with
  | false => rw [if_neg (by simp)]; rfl
  | true =>
   rw [if_pos ⟨rfl, rfl⟩]
   obtain ⟨s, hs, he⟩ := List.any_eq_true.1 hc
   simp only [Bool.and_eq_true, decide_eq_true_eq] at he
   obtain ⟨rfl, rfl⟩ := he
   obtain ⟨p, q⟩ := s
   obtain ⟨c1, c2, c3, c4, c5⟩ := span_mem hs
   simp only at c2 c3 c4 c5 ⊢
   obtain ⟨r1, r2⟩ := span_run c2
   have ho := code_all c1
   simp only [Bool.not_true, cond_false, Int.toNat_natCast, List.length_map]
   rw [cd_t (by simp; omega)]
   rw [← List.map_drop, ← List.map_take]
   have hX : ((L.drop p).take (q - p)).length ≤ 1000000 := by rw [List.length_take, List.length_drop]; omega
   have hXo : ((L.drop p).take (q - p)).all insOk = true := List.all_eq_true.2 fun x hx => List.all_eq_true.1 ho x (List.mem_of_mem_drop (List.mem_of_mem_take hx))
   have hXn : NumsX 2000000 ((L.drop p).take (q - p)) := fun x hx => hn x (List.mem_of_mem_drop (List.mem_of_mem_take hx))
   generalize (L.drop p).take (q - p) = X at *
   rw [guardedI V hV X (by omega) hXo hXn, fuseX]
   cases hg : gF V X [] with
   | none => rfl
   | some sh =>
    simp only [goG, Bool.not_true, cond_false]
    have hsz := sizeOf_le sh
    have := datR_loop (f := fun i => (cF V i X []).map fun st => st.getD 0 0) (N := (sizeOf sh).toNat) (l := impl_FuseTry.l0 (V.map mkV) (X.map mkX) sh (fun y18 => R sh y18 true) R) (F := R [] [] false) (k := fun y => R sh y true) (by omega) ?_ ?_
    ·rw [this]
     cases datF (fun i => (cF V i X []).map fun st => st.getD 0 0) (sizeOf sh).toNat 0 <;> rfl
    ·intro n acc
     simp only [impl_FuseTry.l0, impl_FuseTry.l0s, sizeOfI, size_toNat, Nat.lt_irrefl, decide_false, cond_false]
    ·intro n i acc hi ha
     have hgd := good_all hV hXo hg (p := i) (by omega)
     simp only [impl_FuseTry.l0, impl_FuseTry.l0s, sizeOfI, size_toNat, hi, decide_true, cond_true, placeI V hV i X hX hXo r1 hXn hgd r2, goC_f, ixw (by omega : i < 9223372036854775807)]
     cases (cF V i X []).map fun st => st.getD 0 0 with
     | none => rfl
     | some v => simp only [Bool.not_true, cond_false]; exact cd_t (by simp; omega) _ _
theorem fuseS (L : List Ins) (hL : L.length ≤ 1000000) (hn : NumsX 2000000 L) (V : List Vr) (hVl : V.length ≤ 2000000) (hVn : NumsV 2000000 V) (a b : Int) (R : List Int → List Int → Bool → Option Res) :
 spec_FuseTry.g (L.map mkX) a b (V.map mkV) R = goF R (fuseM L V a b) := by
 have hsl := spansX_len L hL
 simp only [spec_FuseTry.e, spec_FuseTry.b, varsS V hVl hVn, spansS L (by omega) hn, codeOkS L (by omega) hn, fuseM]
 cases hcb : codeB L with
 | false =>
  have : spansX L = [] := by unfold spansX; rw [if_neg (by simp [hcb])]
  rw [this, if_neg (by simp)]; rfl
 | true =>
  cases hV : varsB V with
  | false => rw [if_neg (by simp)]; rfl
  | true =>
   simp only [Bool.not_true, cond_false]
   have ho := code_all hcb
   have mem : ∀ s ∈ spansX L, endX L s.1 = some s.2 ∧ s.1 < L.length ∧ s.2 ≤ L.length ∧ s.1 < s.2 := fun s hs => (span_mem hs).2
   generalize spansX L = S at hsl mem
   have try_ : ∀ p q : Nat, endX L p = some q → p < L.length → q ≤ L.length → p < q → spec_l15Try.g (L.map mkX) (p : Int) (q : Int) (V.map mkV) R = goF R (fuseX V ((L.drop p).take (q - p))) := by
    intro p q c2 c3 c4 c5
    obtain ⟨r1, r2⟩ := span_run c2
    obtain ⟨Y, hY⟩ := shapeS V hV L (by omega) ho hn p q (by omega) c4
    have hXo : ((L.drop p).take (q - p)).all insOk = true := List.all_eq_true.2 fun x hx => List.all_eq_true.1 ho x (List.mem_of_mem_drop (List.mem_of_mem_take hx))
    simp only [spec_l15Try.e, spec_l15Try.b, hY, fuseX]
    cases hg : gF V ((L.drop p).take (q - p)) [] with
    | none => rfl
    | some sh =>
     simp only [Bool.not_true, cond_false]
     have hsz := sizeOf_le sh
     have := datR_loop (f := fun i => (cF V i ((L.drop p).take (q - p)) []).map fun st => st.getD 0 0) (N := (sizeOf sh).toNat) (l := spec_l15Try.l0 (L.map mkX) (V.map mkV) sh (p : Int) (q : Int) sh (fun y18 => R sh y18 true) R) (F := R [] [] false) (k := fun y => R sh y true) (by omega) ?_ ?_
     ·rw [this]
      cases datF (fun i => (cF V i ((L.drop p).take (q - p)) []).map fun st => st.getD 0 0) (sizeOf sh).toNat 0 <;> rfl
     ·intro n acc
      simp only [spec_l15Try.l0, spec_l15Try.l0s, sizeOfS, size_toNat, Nat.lt_irrefl, decide_false, cond_false]
     ·intro n i acc hi ha
      have hgd := good_all hV hXo hg (p := i) (by omega)
      have hst : ∀ x ∈ (L.drop p).take (q - p), putsX x = true → setX V x = true := fun x hx hp => (gF_all hg x hx hp).1
      simp only [spec_l15Try.l0, spec_l15Try.l0s, sizeOfS, size_toNat, hi, decide_true, cond_true, cellS V hV i L hL ho hn p q (by omega) c4 r1 hgd hst r2, goC_f, ixw (by omega : i < 9223372036854775807)]
      cases (cF V i ((L.drop p).take (q - p)) []).map fun st => st.getD 0 0 with
      | none => rfl
      | some v => simp only [Bool.not_true, cond_false]; exact cd_t (by simp; omega) _ _
   have := up0 (N := S.length) (P := fun n j => spec_FuseTry.l0 (L.map mkX) (V.map mkV) (S.map mkS) a b (R [] [] false) R n (j : Int) = goF R (if ((S.drop j).any fun s => decide ((s.1 : Int) = a) && decide ((s.2 : Int) = b)) = true then fuseX V ((L.drop a.toNat).take (b.toNat - a.toNat)) else none)) (by omega) ?_ ?_ 0 (by omega)
   ·rw [List.drop_zero] at this
    refine this.trans ?_
    simp only [true_and]
   ·intro n
    simp only [spec_FuseTry.l0, spec_FuseTry.l0s, List.length_map, ixe, cond_false, List.drop_length, List.any_nil]; rfl
   ·intro n j hj ih
    have hmem : S.getD j (0, 0) ∈ S := by rw [List.getD_eq_getElem?_getD, List.getElem?_eq_getElem hj]; exact List.getElem_mem hj
    obtain ⟨m1, m2, m3, m4⟩ := mem _ hmem
    simp only [spec_FuseTry.l0, spec_FuseTry.l0s, List.length_map, ixl hj, ix0, Bool.and_self, cond_true, Int.toNat_natCast, mkS_getD hj, mkS_0, mkS_1, Bool.and_true, ixw (by omega : j < 9223372036854775807), ih]
    rw [drop_cons (0, 0) hj, List.any_cons]
    generalize S.getD j (0, 0) = s at m1 m2 m3 m4 ⊢
    obtain ⟨p, q⟩ := s
    simp only at m1 m2 m3 m4 ⊢
    have e : (((p : Int) == a) && ((q : Int) == b)) = (decide ((p : Int) = a) && decide ((q : Int) = b)) := rfl
    rw [e]
    cases hpq : decide ((p : Int) = a) && decide ((q : Int) = b) with
    | false => rw [cond_false, Bool.false_or]
    | true =>
     simp only [Bool.and_eq_true, decide_eq_true_eq] at hpq
     obtain ⟨rfl, rfl⟩ := hpq
     rw [cond_true, Bool.true_or, if_pos rfl, Int.toNat_natCast, Int.toNat_natCast]
     exact try_ p q m1 m2 m3 m4
theorem repV : (List.replicate 26 [Cl.b false, .l [], .l []] : List (List Cl)) = (List.replicate 26 dV).map mkV := by rw [List.map_replicate]; rfl
theorem NumsV.set {M : Nat} {L : List Vr} (h : NumsV M L) (i : Nat) (x : Vr) (hx : vsz x ≤ M) : NumsV M (L.set i x) := fun y hy => by
 rcases List.mem_or_eq_of_mem_set hy with hy | rfl
 ·exact h y hy
 ·exact hx
theorem newV : NumsV 400 (List.replicate 26 dV) := fun v hv => by
 rw [List.eq_of_mem_replicate hv]; decide
theorem arr_vsz {sh d : List Int} (h : arrOk sh d = true) (b : Bool) : vsz (b, sh, d) ≤ 400 := by
 obtain ⟨g1, g2, g3, g4, _⟩ := arrOk_facts h
 show sh.length + d.length ≤ 400; omega
theorem dVars (a : List Int) (i s : Int) (hi : Cu a i) : ∃ (W : List Vr) (i' s' : Int), (∀ R, spec_l10DrawVars.g a i s R = R (W.map mkV) a i' s') ∧ Cu a i' ∧ W.length = 26 ∧ NumsV 400 W := by
 simp only [spec_l10DrawVars.e, spec_l10DrawVars.b, spec_VarsNew.e, spec_VarsNew.b, repV]
 have := up0 (N := 3) (P := fun n j => ∀ (Z : List Vr) (i s : Int), Cu a i → Z.length = 26 → NumsV 400 Z → ∃ (W : List Vr) (i' s' : Int), (∀ k : List (List Cl) → List Int → Int → Int → Option Res, spec_l10DrawVars.l0 k n (j : Int) (Z.map mkV) a i s = k (W.map mkV) a i' s') ∧ Cu a i' ∧ W.length = 26 ∧ NumsV 400 W) (by omega) ?_ ?_ 0 (by omega) (List.replicate 26 dV) i s hi (by simp) newV
 ·obtain ⟨W, i1, s1, h1, c1, hl, hn⟩ := this
  obtain ⟨r, i2, s2, h2, c2⟩ := dOnce 2 (by decide) a i1 s1 c1
  have h1' : ∀ k : List (List Cl) → List Int → Int → Int → Option Res, spec_l10DrawVars.l0 k fuel 0 ((List.replicate 26 dV).map mkV) a i s = k (W.map mkV) a i1 s1 := h1
  simp only [h1', h2]
  cases r with
  | false => exact ⟨W, i2, s2, fun R => rfl, c2, hl, hn⟩
  | true =>
   have sh3 : shOk [3] := by refine ⟨by decide, by decide, by decide⟩
   obtain ⟨d1, i3, s3, h3, c3, ok1⟩ := dFill [3] a sh3 i2 s2 c2
   obtain ⟨d2, i4, s4, h4, c4, ok2⟩ := dFill [3] a sh3 i3 s3 c3
   refine ⟨(W.set 1 (true, [3], d1)).set 0 (true, [3], d2), i4, s4, fun R => ?_, c4, by simp [hl], (hn.set _ _ (arr_vsz ok1 true)).set _ _ (arr_vsz ok2 true)⟩
   simp only [cond_true, h3, List.length_map, List.length_set, h4, hl]
   rw [cd_t (by decide), cd_t (by decide)]
   rw [List.map_set, List.map_set]; rfl
 ·intro n Z i s hi hl hn
  refine ⟨Z, i, s, fun k => ?_, hi, hl, hn⟩
  have : decide (((3 : Nat) : Int) < 3) = false := by decide
  simp only [spec_l10DrawVars.l0, spec_l10DrawVars.l0s, this, cond_false]
 ·intro n j hj ih Z i s hi hl hn
  obtain ⟨r, i1, s1, h1, c1⟩ := dOnce 5 (by decide) a i s hi
  have e3 : decide ((j : Int) < 3) = true := by simp; omega
  have ew : IntKind.i64.wrap ((j : Int) + 1) = ((j + 1 : Nat) : Int) := ixw (by omega)
  have hjz : decide ((j : Int) < ((Z.map mkV).length : Int)) = true := by simp; omega
  simp only [spec_l10DrawVars.l0, spec_l10DrawVars.l0s, e3, cond_true, h1, ew, hjz, ix0, Bool.and_self, Int.toNat_natCast]
  cases r with
  | true =>
   obtain ⟨W, i', s', g1, g2⟩ := ih Z i1 s1 c1 hl hn
   exact ⟨W, i', s', g1, g2⟩
  | false =>
   obtain ⟨sh, d, i2, s2, h2, c2, ok, _⟩ := dArr a i1 s1 c1
   obtain ⟨W, i', s', g1, g2⟩ := ih (Z.set j (true, sh, d)) i2 s2 c2 (by simp [hl]) (hn.set _ _ (arr_vsz ok true))
   refine ⟨W, i', s', fun k => ?_, g2⟩
   simp only [Bool.not_false, cond_true, h2]
   rw [← g1 k, List.map_set]; rfl
theorem dVarsAny (a : List Int) (i s : Int) (hi : Cu a i) : ∃ (W : List Vr) (i' s' : Int), (∀ R, spec_l10DrawAny.g a i s R = R (W.map mkV) a i' s') ∧ Cu a i' ∧ W.length ≤ 26 ∧ NumsV 400 W := by
 obtain ⟨W, i1, s1, h1, c1, hl, hn⟩ := dVars a i s hi
 obtain ⟨r, i2, s2, h2, c2, hr⟩ := dBelow 30 (by decide) a i1 s1 c1
 have m0 : (0 : Nat) < W.length := by omega
 have m1 : (1 : Nat) < W.length := by omega
 simp only [spec_l10DrawAny.e, spec_l10DrawAny.b, h1, h2, List.length_map, hl]
 by_cases q0 : r = 0
 ·refine ⟨W.drop 1, i2, s2, fun R => ?_, c2, by rw [List.length_drop]; omega, fun v hv => hn v (List.mem_of_mem_drop hv)⟩
  rw [cd_t (by simpa using q0), cd_t (by decide), List.map_drop, List.take_of_length_le (by simp [hl])]
 have e0 : (r == 0) = false := by simpa using q0
 by_cases q1 : r = 1
 ·have e1 : (r == 1) = true := by simpa using q1
  refine ⟨W.set 0 (!(W.getD 0 dV).1, (W.getD 0 dV).2), i2, s2, fun R => ?_, c2, by simp [hl], hn.set _ _ (hn.at m0)⟩
  simp only [e0, e1, cond_false, cond_true]
  rw [cd_t (by decide), cd_t (by decide), getV m0, mkV_0, spV0, ← List.map_set]
 have e1 : (r == 1) = false := by simpa using q1
 by_cases q2 : r = 2
 ·have e2 : (r == 2) = true := by simpa using q2
  obtain ⟨sh, d, i3, s3, h3, c3, ok⟩ := dAny a i2 s2 c2
  refine ⟨W.set 1 (true, sh, d), i3, s3, fun R => ?_, c3, by simp [hl], hn.set _ _ (by obtain ⟨g1, _, g2, _⟩ := ok; show sh.length + d.length ≤ 400; omega)⟩
  simp only [e0, e1, e2, cond_false, cond_true, h3]
  rw [cd_t (by decide), List.map_set]; rfl
 have e2 : (r == 2) = false := by simpa using q2
 exact ⟨W, i2, s2, fun R => by simp only [e0, e1, e2, cond_false], c2, by omega, hn⟩
theorem nums_mono {M N : Nat} (h : M ≤ N) {L : List Ins} (hn : NumsX M L) : NumsX N L := fun x hx => Nat.le_trans (hn x hx) h
theorem numsV_mono {M N : Nat} (h : M ≤ N) {L : List Vr} (hn : NumsV M L) : NumsV N L := fun x hx => Nat.le_trans (hn x hx) h
theorem dFuse (a : List Int) (h : a.length ≤ 1048576) : ∃ (L : List Ins) (f q : Nat) (W : List Vr), (∀ R, spec_DrawFuseTry.g a R = R (L.map mkX) (f : Int) (q : Int) (W.map mkV)) ∧ L.length ≤ 100 ∧ NumsX 400 L ∧ W.length ≤ 26 ∧ NumsV 400 W ∧ f ≤ 100 ∧ q ≤ 100 := by
 obtain ⟨s0, hN, c0⟩ := dNew a h
 obtain ⟨L0, i1, s1, h1, c1, hl0, hn0⟩ := dCode a 0 s0 c0
 have := up0 (N := 6) (P := fun n j => ∀ (L : List Ins) (i s : Int), Cu a i → L.length ≤ 100 → NumsX 400 L → ∃ (Y : List Ins) (i' s' : Int), (∀ k : List (List Cl) → List Int → Int → Int → Option Res, spec_DrawFuseTry.l0 0 0 k n (L.map mkX) (j : Int) a i s = k (Y.map mkX) a i' s') ∧ Cu a i' ∧ Y.length ≤ 100 ∧ NumsX 400 Y) (by omega) ?_ ?_ 0 (by omega) L0 i1 s1 c1 hl0 hn0
 ·obtain ⟨Y, i2, s2, h2, c2, hl, hn⟩ := this
  have h2' : ∀ k : List (List Cl) → List Int → Int → Int → Option Res, spec_DrawFuseTry.l0 0 0 k fuel (L0.map mkX) 0 a i1 s1 = k (Y.map mkX) a i2 s2 := h2
  have hS := spansX_len Y (by omega)
  obtain ⟨r3, i3, s3, h3, c3, b3⟩ := dBelow 4 (by decide) a i2 s2 c2
  obtain ⟨r4, i4, s4, h4, c4, b4⟩ := dBelow 6 (by decide) a i3 s3 c3
  obtain ⟨f, rfl⟩ : ∃ k : Nat, r3 = k := ⟨r3.toNat, by omega⟩
  obtain ⟨q, rfl⟩ : ∃ k : Nat, r4 = k := ⟨r4.toNat, by omega⟩
  simp only [spec_DrawFuseTry.e, spec_DrawFuseTry.b, hN, h1, h2', spansS Y (by omega) (nums_mono (by decide) hn), h3, h4, List.length_map]
  by_cases hz : spansX Y = []
  ·obtain ⟨W, i6, s6, h6, c6, hwl, hwn⟩ := dVarsAny a i4 s4 c4
   exact ⟨Y, f, q, W, fun R => by rw [hz, cd_f (by decide), h6], hl, hn, hwl, hwn, by omega, by omega⟩
  ·have hp : 0 < (spansX Y).length := List.length_pos_iff.2 hz
   obtain ⟨b, i5, s5, h5, c5⟩ := dOnce 6 (by decide) a i4 s4 c4
   have ep : decide (0 < ((spansX Y).length : Int)) = true := by simp; omega
   simp only [ep, cond_true, h5]
   cases b with
   | true =>
    obtain ⟨W, i6, s6, h6, c6, hwl, hwn⟩ := dVarsAny a i5 s5 c5
    exact ⟨Y, f, q, W, fun R => by rw [Bool.not_true, cond_false, h6], hl, hn, hwl, hwn, by omega, by omega⟩
   | false =>
    obtain ⟨r6, i6, s6, h6, c6, b6⟩ := dBelow ((spansX Y).length : Int) (by omega) a i5 s5 c5
    obtain ⟨j, rfl⟩ : ∃ k : Nat, r6 = k := ⟨r6.toNat, by omega⟩
    have hj : j < (spansX Y).length := by omega
    obtain ⟨W, i7, s7, h7, c7, hwl, hwn⟩ := dVarsAny a i6 s6 c6
    have hm : (spansX Y).getD j (0, 0) ∈ spansX Y := by rw [List.getD_eq_getElem?_getD, List.getElem?_eq_getElem hj]; exact List.getElem_mem hj
    obtain ⟨_, _, m3, m4, _⟩ := span_mem hm
    refine ⟨Y, ((spansX Y).getD j (0, 0)).1, ((spansX Y).getD j (0, 0)).2, W, fun R => ?_, hl, hn, hwl, hwn, by omega, by omega⟩
    simp only [Bool.not_false, cond_true, h6, ix0, ixl hj, Bool.and_self, h7, Int.toNat_natCast, mkS_getD hj, mkS_0, mkS_1]
 ·intro n L i s hi hl hn
  refine ⟨L, i, s, fun k => ?_, hi, hl, hn⟩
  have : decide (((6 : Nat) : Int) < 6) = false := by decide
  simp only [spec_DrawFuseTry.l0, spec_DrawFuseTry.l0s, this, cond_false]
 ·intro n j hj ih L i s hi hl hn
  have e6 : decide ((j : Int) < 6) = true := by simp; omega
  have ew : IntKind.i64.wrap ((j : Int) + 1) = ((j + 1 : Nat) : Int) := ixw (by omega)
  simp only [spec_DrawFuseTry.l0, spec_DrawFuseTry.l0s, e6, cond_true, spansS L (by omega) (nums_mono (by decide) hn), List.length_map, ew]
  by_cases hz : spansX L = []
  ·obtain ⟨t, i1, s1, h1, c1, ht, h60, hnb⟩ := dCodeR a i s hi
   have hn' : NumsX 400 ((ndsA t 0).map insOf) := nums_mono (by decide) (nums_ins 300 t hnb)
   have hl' : ((ndsA t 0).map insOf).length = asz t := by rw [List.length_map, nds_len]
   obtain ⟨Y, i', s', g1, g2⟩ := ih _ i1 s1 c1 (by omega) hn'
   refine ⟨Y, i', s', fun k => ?_, g2⟩
   rw [hz, cd_t (by decide), h1]; exact g1 k
  ·refine ⟨L, i, s, fun k => ?_, hi, hl, hn⟩
   have : (((spansX L).length : Int) == 0) = false := by
    have := List.length_pos_iff.2 hz
    simp; omega
   rw [this, cond_false]
theorem ldLoop (L : List Ins) (hL : L.length ≤ 100) (W : List (List Cl)) (q : Nat) (hq : q ≤ 100) (f : Int) (k : Bool → Option Res) : ∀ (n i : Nat) (b : Bool), q - i < n → i ≤ 1000 → laws_FnGuards.l0 (L.map mkX) W f (q : Int) k n b (i : Int) = k (b || ((L.drop i).take (q - i)).any fun x => x.1 == 2)
 | 0, i, b, h, _ => by omega
 | n + 1, i, b, h, hi => by
  have ew : IntKind.i64.wrap ((i : Int) + 1) = ((i + 1 : Nat) : Int) := ixw (by omega)
  simp only [laws_FnGuards.l0, laws_FnGuards.l0s, List.length_map, ix0, cond_true, Bool.true_and, Int.toNat_natCast, ew]
  by_cases h1 : i < q
  ·rw [cd_t (by simpa using h1)]
   by_cases h2 : i < L.length
   ·rw [cd_t (by simpa using h2)]
    have hg : (L.drop i).take (q - i) = L.getD i dX :: (L.drop (i + 1)).take (q - (i + 1)) := by
     rw [drop_cons dX h2, show q - i = (q - (i + 1)) + 1 by omega, List.take_succ_cons]
    rw [hg, List.any_cons, ixl h2, cond_true, getX h2, mkX_0]
    cases b with
    | true => rw [cond_true, ldLoop L hL W q hq f k n (i + 1) true (by omega) (by omega)]; rfl
    | false => rw [cond_false, ldLoop L hL W q hq f k n (i + 1) _ (by omega) (by omega)]; rfl
   ·rw [cd_f (by simpa using h2), List.drop_eq_nil_of_le (by omega)]; simp
  ·rw [cd_f (by simpa using h1), show q - i = 0 by omega]; simp
theorem lawFnGuards (a : List Int) (ha : wfQ [.int .u8] (.ints a)) (R : Bool → Option Res) : laws_FnGuards.g a R = R true := by
 simp only [laws_FnGuards.e, laws_FnGuards.b, laws_big.e, laws_big.b]
 by_cases h : 1048576 < (a.length : Int)
 ·simp [h]
 obtain ⟨L, f, q, W, hD, hl, hn, hwl, hwn, hf, hq⟩ := dFuse a (by omega)
 have hn2 := nums_mono (N := 2000000) (by decide) hn
 have fI := fun V hv1 hv2 R => fuseI L (by omega) hn2 V hv1 hv2 (f : Int) (q : Int) R
 have fS := fun V hv1 hv2 R => fuseS L (by omega) hn2 V hv1 hv2 (f : Int) (q : Int) R
 have hv2 := numsV_mono (N := 2000000) (by decide) hwn
 have hv0 := numsV_mono (N := 2000000) (by decide) newV
 simp only [h, decide_false, cond_false, hD, spansI L (by omega) hn2, spansS L (by omega) hn2, bne_self_eq_false, ldLoop L hl _ q hq _ _ fuel f false (by rw [fuel_eq]; omega) (by omega), Bool.false_or, impl_VarsNew.e, impl_VarsNew.b, repV, fI _ (by simp : (List.replicate 26 dV).length ≤ 2000000) hv0, fI W (by omega) hv2, fS W (by omega) hv2]
 have key : (((L.drop f).take (q - f)).any fun x => x.1 == 2) = true → fuseM L (List.replicate 26 dV) (f : Int) (q : Int) = none := by
  intro hany
  unfold fuseM
  split
  ·rename_i hc
   rw [Int.toNat_natCast, Int.toNat_natCast, fuseX]
   cases hg : gF (List.replicate 26 dV) ((L.drop f).take (q - f)) [] with
   | none => rfl
   | some sh =>
    exfalso
    obtain ⟨x, hx, h2⟩ := List.any_eq_true.1 hany
    have h2 : x.1 = 2 := by simpa using h2
    obtain ⟨s1, _⟩ := gF_all hg x hx (by simp [putsX, h2])
    have hno : ∀ i : Nat, ((List.replicate 26 dV).getD i dV).1 = false := by
     intro i
     rw [List.getD_eq_getElem?_getD]
     by_cases hi : i < 26
     ·rw [List.getElem?_replicate, if_pos hi]; rfl
     ·rw [List.getElem?_replicate, if_neg hi]; rfl
    unfold setX at s1
    rw [hno, h2] at s1
    cases s1
  ·rfl
 cases hany : ((L.drop f).take (q - f)).any fun x => x.1 == 2 with
 | false =>
  cases fuseM L (List.replicate 26 dV) (f : Int) (q : Int) <;> cases fuseM L W (f : Int) (q : Int) <;> simp only [goF, Bool.not_false, cond_true, beq_self_eq_true]
 | true =>
  rw [key hany]
  cases fuseM L W (f : Int) (q : Int) <;> simp only [goF, Bool.not_true, cond_false, Bool.not_false, cond_true, beq_self_eq_true]
end Go.Tv.F
