/- The pure law about these functions. It holds without condition. -/
import Derived.Test.YtafjnlpfnjoebaaGreatFusedPureA
set_option linter.unusedVariables false
set_option linter.unusedSectionVars false
set_option linter.unusedSimpArgs false
set_option linter.unnecessarySimpa false
set_option maxRecDepth 100000
set_option autoImplicit false
namespace Go.Tv.F
open Go Go.Tv
theorem shapeS (V : List Vr) (hV : varsB V = true) (L : List Ins) (hL : L.length ≤ 2000000) (ho : L.all insOk = true) (hn : NumsX 2000000 L) (p q : Nat) (hpq : p ≤ q) (hq : q ≤ L.length) :
 ∃ Y, ∀ R, spec_l15Shape.g (L.map mkX) (p : Int) (q : Int) (V.map mkV) R = match gF V ((L.drop p).take (q - p)) [] with | none => R Y false | some sh => R sh true := by
 simp only [spec_l15Shape.e, spec_l15Shape.b]
 have := up0 (N := q) (P := fun n i => ∀ sh : List Int, sh.length ≤ 3 → ∃ Y, ∀ (k : List Int → Option Res) (R : List Int → Bool → Option Res), spec_l15Shape.l0 (L.map mkX) (V.map mkV) (p : Int) (q : Int) k R n sh (i : Int) = match gF V ((L.drop i).take (q - i)) sh with | none => R Y false | some s => bif decide (s.length ≤ 3) then k s else none) (by omega) ?_ ?_ p hpq [] (by simp)
 ·obtain ⟨Y, hY⟩ := this
  refine ⟨Y, fun R => ?_⟩
  rw [hY]
  cases hg : gF V ((L.drop p).take (q - p)) [] with
  | none => rfl
  | some s =>
   have hs : s.length ≤ 3 := by
    by_cases hc : s.length ≤ 3
    ·exact hc
    ·have := hY (fun _ => none) (fun _ _ => none)
     exfalso
     have h0 : s ≠ [] := by intro e; subst e; simp at hc
     -- the shape is that of an array that is put
     have key : ∀ (X : List Ins) (sh s : List Int), (∀ x ∈ X, insOk x = true) → gF V X sh = some s → sh.length ≤ 3 → s.length ≤ 3 := by
      intro X
      induction X with
      | nil => intro sh s _ h hl; cases h; exact hl
      | cons x X ih =>
       intro sh s hX h hl
       rw [gF] at h
       have hx := hX x (List.mem_cons_self ..)
       have hX' := fun y hy => hX y (List.mem_cons_of_mem _ hy)
       split at h
       ·rename_i hp
        split at h
        ·cases h
        ·rename_i h0
         split at h
         ·exact ih _ _ hX' h hl
         ·split at h
          ·cases h
          ·exact ih _ _ hX' h (ar_len hV hx hp (by simpa using h0))
       ·exact ih _ _ hX' h hl
     exact hc (key _ _ _ (fun x hx => List.all_eq_true.1 ho x (List.mem_of_mem_drop (List.mem_of_mem_take hx))) hg (by simp))
   simp only [decide_eq_true hs, cond_true]
   rw [cd_t (by simp; omega), List.nil_append]
 ·intro n sh hl
  refine ⟨[], fun k R => ?_⟩
  simp only [spec_l15Shape.l0, spec_l15Shape.l0s, ixe, cond_false, Nat.sub_self, List.take_zero, gF, decide_eq_true hl, cond_true]
 ·intro n i hi ih sh hl
  have hiL : i < L.length := by omega
  have hx := insAt ho hiL
  have hxn := hn.at hiL
  have ew : IntKind.i64.wrap ((i : Int) + 1) = ((i + 1 : Nat) : Int) := ixw (by omega)
  rw [take_cons hi hq]
  simp only [spec_l15Shape.l0, spec_l15Shape.l0s, List.length_map, ixl hi, ixl hiL, ix0, Bool.and_self, cond_true, Int.toNat_natCast, getX hiL, mkX_0, mkX_1, mkX_2, mkX_3, mkX_4, mkX_5, ew, gF]
  generalize L.getD i dX = x at hx hxn ⊢
  obtain ⟨Y0, hY0⟩ := ih sh hl
  by_cases hp : putsX x = true
  ·have hA := arrS V hV x hx hxn hp
   simp only [hA, hp, if_true]
   have hc : (x.1 != 1) = true → (x.1 != 2) = false := by
    intro h
    have : x.1 = 2 := by simpa [putsX, (by simpa using h : x.1 ≠ 1)] using hp
    rw [this]; rfl
   have step : ∀ (T : Option Res), (bif x.1 != 1 then (bif x.1 != 2 then T else none) else none) = (bif x.1 != 1 then none else none : Option Res) := by
    intro T
    cases h : x.1 != 1 with
    | false => rfl
    | true => rw [hc h]; rfl
   have bth : ∀ (A T : Option Res), (bif x.1 != 1 then (bif x.1 != 2 then T else A) else A) = A := by
    intro A T
    cases h : x.1 != 1 with
    | false => rfl
    | true => rw [hc h]; rfl
   simp only [bth, z0, p3i]
   cases hs : setX V x with
   | false => exact ⟨sh, fun k R => by simp⟩
   | true =>
    have hal := ar_len hV hx hp hs
    have hok := arrX_ok hV hx hp hs
    simp only [Bool.not_true, cond_false, if_false, Bool.true_eq_false]
    by_cases q1 : (arrX V x).1 = []
    ·have q2 : (arrX V x).2 ≠ [] := by
      intro e
      rw [q1, e] at hok
      revert hok; decide
     refine ⟨Y0, fun k R => ?_⟩
     simp only [q1, q2, decide_true, decide_false, Bool.not_true, cond_false, if_true]
     exact hY0 k R
    ·by_cases q2 : (arrX V x).2 = []
     ·exact ⟨sh, fun k R => by simp only [q1, q2, decide_true, cond_true, if_false, true_or, if_true]⟩
     ·simp only [q1, q2, decide_false, cond_false, Bool.not_false, cond_true, if_false, false_or]
      obtain ⟨Y1, hY1⟩ := ih (arrX V x).1 hal
      by_cases q3 : sh = []
      ·refine ⟨Y1, fun k R => ?_⟩
       simp only [q3, decide_true, Bool.not_true, cond_false, ne_eq, not_true, false_and, if_false]
       exact hY1 k R
      ·simp only [q3, decide_false, Bool.not_false, cond_true, sameS _ _ (by omega : (arrX V x).1.length ≤ 2000000), ne_eq, not_false_iff, true_and]
       by_cases q4 : (arrX V x).1 = sh
       ·refine ⟨Y1, fun k R => ?_⟩
        rw [decide_eq_true q4, Bool.not_true, cond_false, if_neg (fun h => h q4.symm)]
        exact hY1 k R
       ·refine ⟨sh, fun k R => ?_⟩
        rw [decide_eq_false q4, Bool.not_false, cond_true, if_pos (fun h => q4 h.symm)]
  ·have h1 : (x.1 != 1) = true := by
    simp only [putsX, Bool.or_eq_true, beq_iff_eq, not_or] at hp
    simpa using hp.1
   have h2 : (x.1 != 2) = true := by
    simp only [putsX, Bool.or_eq_true, beq_iff_eq, not_or] at hp
    simpa using hp.2
   refine ⟨Y0, fun k R => ?_⟩
   rw [h1, cond_true, h2, cond_true, if_neg hp]
   exact hY0 k R
def atM (a : Ar) (p : Nat) : Int := if a.1 = [] then a.2.getD 0 0 else a.2.getD p 0
def stX (V : List Vr) (p : Nat) (x : Ins) (st : List Int) : Option (List Int) :=
 if x.1 = 4 then (if (oneN x.2.2.1.1 (st.getD (st.length - 1) 0)).2 = 0 then some (st.take (st.length - 1) ++ [(oneN x.2.2.1.1 (st.getD (st.length - 1) 0)).1]) else none)
 else if x.1 = 5 then (if (twoN x.2.2.1.1 (st.getD (st.length - 1) 0) (st.getD (st.length - 2) 0)).2 = 0 then some (st.take (st.length - 2) ++ [(twoN x.2.2.1.1 (st.getD (st.length - 1) 0) (st.getD (st.length - 2) 0)).1]) else none)
 else some (st ++ [atM (arrX V x) p])
def cF (V : List Vr) (p : Nat) : List Ins → List Int → Option (List Int)
 | [], st => some st
 | x :: X, st => match stX V p x st with
  | none => none
  | some st' => cF V p X st'
def GoodA (V : List Vr) (p : Nat) (x : Ins) : Prop := putsX x = true → ((arrX V x).1 = [] → 0 < (arrX V x).2.length) ∧ ((arrX V x).1 ≠ [] → p < (arrX V x).2.length)
theorem atI (s d : List Int) (p : Nat) (h1 : s = [] → 0 < d.length) (h2 : s ≠ [] → p < d.length) (R : Int → Option Res) : impl_at.g s d (p : Int) R = R (atM (s, d) p) := by
 simp only [impl_at.e, impl_at.b, z0, atM]
 by_cases h : s = []
 ·have e : decide (0 < (d.length : Int)) = true := by have := h1 h; simp; omega
  simp only [h, decide_true, cond_true, e, if_true]
 ·simp only [h, decide_false, cond_false, ix0, ixl (h2 h), Bool.and_self, cond_true, if_false, Int.toNat_natCast]
theorem atS (s d : List Int) (p : Nat) (h1 : s = [] → 0 < d.length) (h2 : s ≠ [] → p < d.length) (R : Int → Option Res) : spec_l4Of.g s d (p : Int) R = R (atM (s, d) p) := by
 simp only [spec_l4Of.e, spec_l4Of.b, z0, atM]
 by_cases h : s = []
 ·have e : decide (0 < (d.length : Int)) = true := by have := h1 h; simp; omega
  simp only [h, decide_true, cond_true, e, if_true]
 ·simp only [h, decide_false, cond_false, ix0, ixl (h2 h), Bool.and_self, cond_true, if_false, Int.toNat_natCast]
def goC (R : Int → Bool → Option Res) : Option (List Int) → Option Res
 | none => R 0 false
 | some st => R (st.getD 0 0) true
theorem plain_cases {x : Ins} (hp : plainX x = true) (ho : insOk x = true) : (putsX x = true ∧ takesX x = 0 ∧ x.1 ≠ 4 ∧ x.1 ≠ 5) ∨ (x.1 = 4 ∧ takesX x = 1) ∨ (x.1 = 5 ∧ takesX x = 2) := by
 obtain ⟨h, _⟩ := plain_ok hp ho
 rcases h with ⟨a, b⟩ | ⟨a, b⟩ | ⟨a, b⟩ | ⟨a, b⟩
 ·exact .inl ⟨by simp [putsX, a], b, by omega, by omega⟩
 ·exact .inl ⟨by simp [putsX, a], b, by omega, by omega⟩
 ·exact .inr (.inl ⟨a, b⟩)
 ·exact .inr (.inr ⟨a, b⟩)
theorem w_sub {n k : Nat} (h : k ≤ n) (hn : n ≤ 2000000) : IntKind.i64.wrap ((n : Int) - (k : Int)) = ((n - k : Nat) : Int) := by rw [w64 (by omega)]; omega
theorem placeI (V : List Vr) (hV : varsB V = true) (p : Nat) (X : List Ins) (hX : X.length ≤ 1000000) (ho : X.all insOk = true) (hpl : X.all plainX = true) (hn : NumsX 2000000 X) (hg : ∀ x ∈ X, GoodA V p x) (hd : runD X 0 = some 1) (R : Int → Bool → Option Res) :
 impl_atPlace.g (X.map mkX) (V.map mkV) (p : Int) R = goC R (cF V p X []) := by
 have hl26 : V.length = 26 := by unfold varsB at hV; simp only [Bool.and_eq_true, decide_eq_true_eq] at hV; exact hV.1
 simp only [impl_atPlace.e, impl_atPlace.b, List.length_map]
 have key := up0 (N := X.length) (P := fun n i => ∀ st : List Int, runD (X.drop i) st.length = some 1 → st.length ≤ i → impl_atPlace.l0 (V.map mkV) (p : Int) (X.map mkX) (X.length : Int) (fun y22 => bif decide (0 < (y22.length : Int)) then R (y22.getD 0 0) true else none) R n (i : Int) st = goC R (cF V p (X.drop i) st)) (by omega) ?_ ?_ 0 (by omega) [] hd (by simp)
 ·exact key
 ·intro n st h _
  rw [List.drop_length, runD] at h
  have h1 : st.length = 1 := Option.some.inj h
  simp only [impl_atPlace.l0, impl_atPlace.l0s, ixe, cond_false, List.drop_length, cF, goC]
  rw [cd_t (by simp; omega)]
 ·intro n i hi ih st h hle
  have hx := insAt ho hi
  have hxn := hn.at hi
  have hmem : X.getD i dX ∈ X := by rw [List.getD_eq_getElem?_getD, List.getElem?_eq_getElem hi]; exact List.getElem_mem hi
  have hp := List.all_eq_true.1 hpl _ hmem
  have hgx := hg _ hmem
  have ew : IntKind.i64.wrap ((i : Int) + 1) = ((i + 1 : Nat) : Int) := ixw (by omega)
  rw [drop_cons dX hi] at h ⊢
  rw [runD] at h
  simp only [impl_atPlace.l0, impl_atPlace.l0s, List.length_map, ixl hi, ix0, Bool.and_self, cond_true, Int.toNat_natCast, getX hi, mkX_0, mkX_1, mkX_2, mkX_3, mkX_4, mkX_5, numsI _ hxn, takesI, oneI, twoI, ew, cF]
  generalize X.getD i dX = x at hx hxn hp hgx h ⊢
  rcases plain_cases hp hx with ⟨a1, a2, a4, a5⟩ | ⟨a1, a2⟩ | ⟨a1, a2⟩
  ·rw [a2, if_pos (Nat.zero_le _)] at h
   have e4 : (x.1 == 4) = false := by simpa using a4
   obtain ⟨g1, g2⟩ := hgx a1
   have hst : stX V p x st = some (st ++ [atM (arrX V x) p]) := by rw [stX, if_neg a4, if_neg a5]
   have e0 : IntKind.i64.wrap ((st.length : Int) - ((0 : Nat) : Int)) = ((st.length : Nat) : Int) := by rw [w_sub (Nat.zero_le _) (by omega)]; rfl
   have tl_ : (bif decide (0 ≤ (st.length : Int)) && decide ((st.length : Int) ≤ (st.length : Int)) then (bif decide (((st.length : Int).toNat + 1) * 8 ≤ 140737488355328) then impl_atPlace.l0 (V.map mkV) (p : Int) (X.map mkX) (X.length : Int) (fun y22 => bif decide (0 < (y22.length : Int)) then R (y22.getD 0 0) true else none) R n ((i + 1 : Nat) : Int) ((st.take ((st.length : Int).toNat)) ++ ([atM (arrX V x) p] : List Int)) else none) else none) = goC R (cF V p (X.drop (i + 1)) (st ++ [atM (arrX V x) p])) := by
    rw [Int.toNat_natCast, cd_t (by simp), cd_t (by simp; omega), List.take_length]
    exact ih _ (by rw [List.length_append, List.length_singleton]; exact h) (by rw [List.length_append, List.length_singleton]; omega)
   by_cases h1 : x.1 = 1
   ·have e1 : (x.1 == 1) = true := by simpa using h1
    have ha : arrX V x = numsA x.2.2.2 := by rw [arrX, if_pos h1]
    rw [ha] at g1 g2 tl_
    rw [hst]
    simp only [e1, cond_true, atI _ _ _ g1 g2, a2, e0, ha]
    exact tl_
   ·have e1 : (x.1 == 1) = false := by simpa using h1
    have h2 : x.1 = 2 := by simpa [putsX, h1] using a1
    have e2 : (x.1 == 2) = true := by simpa using h2
    obtain ⟨k, hk, hk2⟩ := ins_letter hx h2
    have hkV : k < V.length := by omega
    have ha : arrX V x = (V.getD k dV).2 := by rw [arrX, if_neg h1, hk, Int.toNat_natCast]
    rw [ha] at g1 g2 tl_
    rw [hst]
    simp only [e1, e2, cond_true, cond_false, hk, Int.toNat_natCast, ix0, ixl hkV, Bool.and_self, getV hkV, mkV_1, mkV_2, atI _ _ _ g1 g2, a2, e0, ha]
    exact tl_
  ·rw [a2] at h
   have hc : 1 ≤ st.length := by
    by_cases hc : 1 ≤ st.length
    ·exact hc
    ·rw [if_neg hc] at h; cases h
   rw [if_pos hc] at h
   have w1 : IntKind.i64.wrap ((st.length : Int) - 1) = ((st.length - 1 : Nat) : Int) := w_sub (k := 1) hc (by omega)
   have w1' : IntKind.i64.wrap ((st.length : Int) - ((1 : Nat) : Int)) = ((st.length - 1 : Nat) : Int) := w_sub (k := 1) hc (by omega)
   have b1 : decide (((st.length - 1 : Nat) : Int) < (st.length : Int)) = true := by simp; omega
   have b2 : decide (((st.length - 1 : Nat) : Int) ≤ (st.length : Int)) = true := by simp
   have b3 : decide ((st.length - 1 + 1) * 8 ≤ 140737488355328) = true := by simp; omega
   have e1 : (x.1 == 1) = false := by rw [a1]; rfl
   have e2 : (x.1 == 2) = false := by rw [a1]; rfl
   have e4 : (x.1 == 4) = true := by rw [a1]; rfl
   simp only [e1, e2, e4, cond_true, cond_false, w1, w1', ix0, b1, b2, b3, Bool.and_self, Int.toNat_natCast, a2, stX, if_pos a1]
   by_cases hq : (oneN x.2.2.1.1 (st.getD (st.length - 1) 0)).2 = 0
   ·rw [if_pos hq, cd_f (by simpa using hq)]
    exact ih _ (by rw [List.length_append, List.length_singleton, List.length_take, Nat.min_eq_left (Nat.sub_le _ _)]; exact h) (by rw [List.length_append, List.length_singleton, List.length_take]; omega)
   ·rw [if_neg hq, cd_t (by simpa using hq)]; rfl
  ·rw [a2] at h
   have hc : 2 ≤ st.length := by
    by_cases hc : 2 ≤ st.length
    ·exact hc
    ·rw [if_neg hc] at h; cases h
   rw [if_pos hc] at h
   have w1 : IntKind.i64.wrap ((st.length : Int) - 1) = ((st.length - 1 : Nat) : Int) := w_sub (k := 1) (by omega) (by omega)
   have w2 : IntKind.i64.wrap ((st.length : Int) - 2) = ((st.length - 2 : Nat) : Int) := w_sub (k := 2) hc (by omega)
   have w2' : IntKind.i64.wrap ((st.length : Int) - ((2 : Nat) : Int)) = ((st.length - 2 : Nat) : Int) := w_sub (k := 2) hc (by omega)
   have b1 : decide (((st.length - 1 : Nat) : Int) < (st.length : Int)) = true := by simp; omega
   have b1' : decide (((st.length - 2 : Nat) : Int) < (st.length : Int)) = true := by simp; omega
   have b2 : decide (((st.length - 2 : Nat) : Int) ≤ (st.length : Int)) = true := by simp
   have b3 : decide ((st.length - 2 + 1) * 8 ≤ 140737488355328) = true := by simp; omega
   have e1 : (x.1 == 1) = false := by rw [a1]; rfl
   have e2 : (x.1 == 2) = false := by rw [a1]; rfl
   have e4 : (x.1 == 4) = false := by rw [a1]; rfl
   simp only [e1, e2, e4, cond_true, cond_false, w1, w2, w2', ix0, b1, b1', b2, b3, Bool.and_self, Int.toNat_natCast, a2, stX, if_neg (show ¬ x.1 = 4 by omega), if_pos a1]
   by_cases hq : (twoN x.2.2.1.1 (st.getD (st.length - 1) 0) (st.getD (st.length - 2) 0)).2 = 0
   ·rw [if_pos hq, cd_f (by simpa using hq)]
    exact ih _ (by rw [List.length_append, List.length_singleton, List.length_take, Nat.min_eq_left (Nat.sub_le _ _)]; exact h) (by rw [List.length_append, List.length_singleton, List.length_take]; omega)
   ·rw [if_neg hq, cd_t (by simpa using hq)]; rfl
theorem set_last (l : List Int) (h : 1 ≤ l.length) (r : Int) : l.set (l.length - 1) r = l.take (l.length - 1) ++ [r] := by
 refine List.ext_getElem (by simp; omega) fun j h1 h2 => ?_
 simp only [List.length_set] at h1
 rw [List.getElem_set]
 by_cases hj : l.length - 1 = j
 ·rw [if_pos hj, List.getElem_append_right (by simp; omega)]; simp
 ·rw [if_neg hj, List.getElem_append_left (by simp; omega), List.getElem_take]
theorem cellS (V : List Vr) (hV : varsB V = true) (p : Nat) (L : List Ins) (hL : L.length ≤ 1000000) (ho : L.all insOk = true) (hn : NumsX 2000000 L) (f q : Nat) (hfq : f ≤ q) (hq : q ≤ L.length) (hpl : ((L.drop f).take (q - f)).all plainX = true)
 (hg : ∀ x ∈ (L.drop f).take (q - f), GoodA V p x) (hset : ∀ x ∈ (L.drop f).take (q - f), putsX x = true → setX V x = true) (hd : runD ((L.drop f).take (q - f)) 0 = some 1) (R : Int → Bool → Option Res) :
 spec_l15Cell.g (L.map mkX) (f : Int) (q : Int) (V.map mkV) (p : Int) R = goC R (cF V p ((L.drop f).take (q - f)) []) := by
 simp only [spec_l15Cell.e, spec_l15Cell.b]
 have key := up0 (N := q) (P := fun n i => ∀ st : List Int, runD ((L.drop i).take (q - i)) st.length = some 1 → st.length ≤ i → ((L.drop i).take (q - i)).all plainX = true → (∀ x ∈ (L.drop i).take (q - i), GoodA V p x) → (∀ x ∈ (L.drop i).take (q - i), putsX x = true → setX V x = true) →
  spec_l15Cell.l0 (L.map mkX) (V.map mkV) (p : Int) (f : Int) (q : Int) (fun y21 => bif decide (0 < (y21.length : Int)) then R (y21.getD 0 0) true else none) R n (i : Int) st = goC R (cF V p ((L.drop i).take (q - i)) st)) (by omega) ?_ ?_ f hfq [] hd (by simp) hpl hg hset
 ·exact key
 ·intro n st h _ _ _ _
  rw [Nat.sub_self, List.take_zero, runD] at h
  have h1 : st.length = 1 := Option.some.inj h
  simp only [spec_l15Cell.l0, spec_l15Cell.l0s, ixe, cond_false, Nat.sub_self, List.take_zero, cF, goC]
  rw [cd_t (by simp; omega)]
 ·intro n i hi ih st h hle hpl hg hset
  have hiL : i < L.length := by omega
  have hx := insAt ho hiL
  have hxn := hn.at hiL
  have ew : IntKind.i64.wrap ((i : Int) + 1) = ((i + 1 : Nat) : Int) := ixw (by omega)
  rw [take_cons hi hq] at h hpl hg hset ⊢
  rw [List.all_cons, Bool.and_eq_true] at hpl
  have hgx := hg _ (List.mem_cons_self ..)
  have hsx := hset _ (List.mem_cons_self ..)
  have hg' := fun y hy => hg y (List.mem_cons_of_mem _ hy)
  have hset' := fun y hy => hset y (List.mem_cons_of_mem _ hy)
  have hp := hpl.1
  rw [runD] at h
  simp only [spec_l15Cell.l0, spec_l15Cell.l0s, List.length_map, ixl hi, ixl hiL, ix0, Bool.and_self, cond_true, Int.toNat_natCast, getX hiL, mkX_0, mkX_1, mkX_2, mkX_3, mkX_4, mkX_5, oneS, twoS, ew, cF]
  generalize L.getD i dX = x at hx hxn hp hgx hsx h ⊢
  rcases plain_cases hp hx with ⟨a1, a2, a4, a5⟩ | ⟨a1, a2⟩ | ⟨a1, a2⟩
  ·rw [a2, if_pos (Nat.zero_le _)] at h
   have e4 : (x.1 == 4) = false := by simpa using a4
   have e5 : (x.1 == 5) = false := by simpa using a5
   obtain ⟨g1, g2⟩ := hgx a1
   have hst : stX V p x st = some (st ++ [atM (arrX V x) p]) := by rw [stX, if_neg a4, if_neg a5]
   rw [hst]
   simp only [e4, e5, cond_false, arrS V hV x hx hxn a1, atS _ _ _ g1 g2]
   rw [cd_t (by simp; omega)]
   exact ih _ (by rw [List.length_append, List.length_singleton]; exact h) (by rw [List.length_append, List.length_singleton]; omega) hpl.2 hg' hset'
  ·rw [a2] at h
   have hc : 1 ≤ st.length := by
    by_cases hc : 1 ≤ st.length
    ·exact hc
    ·rw [if_neg hc] at h; cases h
   rw [if_pos hc] at h
   have w1 : IntKind.i64.wrap ((st.length : Int) - 1) = ((st.length - 1 : Nat) : Int) := w_sub (k := 1) hc (by omega)
   have b1 : decide (((st.length - 1 : Nat) : Int) < (st.length : Int)) = true := by simp; omega
   have e4 : (x.1 == 4) = true := by rw [a1]; rfl
   simp only [e4, cond_true, w1, ix0, b1, Bool.and_self, Int.toNat_natCast, stX, if_pos a1]
   by_cases hq : (oneN x.2.2.1.1 (st.getD (st.length - 1) 0)).2 = 0
   ·rw [if_pos hq, cd_f (by simpa using hq), set_last st hc]
    exact ih _ (by rw [List.length_append, List.length_singleton, List.length_take, Nat.min_eq_left (Nat.sub_le _ _)]; exact h) (by rw [List.length_append, List.length_singleton, List.length_take]; omega) hpl.2 hg' hset'
   ·rw [if_neg hq, cd_t (by simpa using hq)]; rfl
  ·rw [a2] at h
   have hc : 2 ≤ st.length := by
    by_cases hc : 2 ≤ st.length
    ·exact hc
    ·rw [if_neg hc] at h; cases h
   rw [if_pos hc] at h
   have w1 : IntKind.i64.wrap ((st.length : Int) - 1) = ((st.length - 1 : Nat) : Int) := w_sub (k := 1) (by omega) (by omega)
   have w2 : IntKind.i64.wrap ((st.length : Int) - 2) = ((st.length - 2 : Nat) : Int) := w_sub (k := 2) hc (by omega)
   have b1 : decide (((st.length - 1 : Nat) : Int) < (st.length : Int)) = true := by simp; omega
   have b1' : decide (((st.length - 2 : Nat) : Int) < (st.length : Int)) = true := by simp; omega
   have b2 : decide (((st.length - 2 : Nat) : Int) ≤ (st.length : Int)) = true := by simp
   have b3 : decide ((st.length - 2 + 1) * 8 ≤ 140737488355328) = true := by simp; omega
   have e4 : (x.1 == 4) = false := by rw [a1]; rfl
   have e5 : (x.1 == 5) = true := by rw [a1]; rfl
   simp only [e4, e5, cond_true, cond_false, w1, w2, ix0, b1, b1', b2, b3, Bool.and_self, Int.toNat_natCast, stX, if_neg (show ¬ x.1 = 4 by omega), if_pos a1]
   by_cases hq : (twoN x.2.2.1.1 (st.getD (st.length - 1) 0) (st.getD (st.length - 2) 0)).2 = 0
   ·rw [if_pos hq, cd_f (by simpa using hq)]
    exact ih _ (by rw [List.length_append, List.length_singleton, List.length_take, Nat.min_eq_left (Nat.sub_le _ _)]; exact h) (by rw [List.length_append, List.length_singleton, List.length_take]; omega) hpl.2 hg' hset'
   ·rw [if_neg hq, cd_t (by simpa using hq)]; rfl
def datF (f : Nat → Option Int) : Nat → Nat → Option (List Int)
 | 0, _ => some []
 | m + 1, i => match f i with
  | none => none
  | some v => (datF f m (i + 1)).map (v :: ·)
def fuseX (V : List Vr) (X : List Ins) : Option Ar := match gF V X [] with
 | none => none
 | some sh => (datF (fun i => (cF V i X []).map fun st => st.getD 0 0) (sizeOf sh).toNat 0).map fun d => (sh, d)
def goF (R : List Int → List Int → Bool → Option Res) : Option Ar → Option Res
 | none => R [] [] false
 | some a => R a.1 a.2 true
theorem endR_run : ∀ (L : List Ins) (i : Nat) (e : Option Nat) (m : Nat) (w : Bool) (q : Nat), endR L i e m w = some q → e ≠ some q → (L.take (q - i)).all plainX = true ∧ runD (L.take (q - i)) m = some 1
 | [], i, e, m, w, q, h, he => by rw [endR] at h; exact absurd h he
 | x :: L, i, e, m, w, q, h, he => by
  obtain ⟨s1, s2, s3, s4, s5⟩ := endR_step h he
  by_cases hq : i + 1 = q
  ·rw [show q - i = 1 by omega, List.take_succ_cons, List.take_zero, List.all_cons, List.all_nil, s1, runD, if_pos s2, runD, (s4 hq).1]
   exact ⟨rfl, rfl⟩
  ·obtain ⟨e', he', h'⟩ := s5 (by omega)
   obtain ⟨g1, g2⟩ := endR_run L (i + 1) e' _ _ q h' he'
   rw [show q - i = (q - (i + 1)) + 1 by omega, List.take_succ_cons, List.all_cons, s1, g1, runD, if_pos s2, g2]
   exact ⟨rfl, rfl⟩
theorem span_run {L : List Ins} {p q : Nat} (h : endX L p = some q) : ((L.drop p).take (q - p)).all plainX = true ∧ runD ((L.drop p).take (q - p)) 0 = some 1 := endR_run _ _ _ _ _ _ h (by simp)
theorem span_mem {L : List Ins} {s : Spn} (h : s ∈ spansX L) : codeB L = true ∧ endX L s.1 = some s.2 ∧ s.1 < L.length ∧ s.2 ≤ L.length ∧ s.1 < s.2 := by
 unfold spansX at h
 split at h
 ·rename_i hc
  obtain ⟨j, hj, rfl⟩ := List.mem_iff_getElem.1 h
  obtain ⟨a, b, _, _⟩ := spansR_ok L (L.length + 1) 0 j _ (List.getElem?_eq_getElem hj)
  have := endX_lt a (by omega)
  exact ⟨hc, a, b, this.2, this.1⟩
 ·cases h
theorem good_all {V : List Vr} (hV : varsB V = true) {X : List Ins} (ho : X.all insOk = true) {sh : List Int} (hg : gF V X [] = some sh) {p : Nat} (hp : (p : Int) < sizeOf sh) : ∀ x ∈ X, GoodA V p x := by
 intro x hx hpx
 obtain ⟨h1, h2⟩ := gF_all hg x hx hpx
 have ha := arrX_ok hV (List.all_eq_true.1 ho x hx) hpx h1
 unfold arrOk at ha
 simp only [Bool.and_eq_true, decide_eq_true_eq] at ha
 refine ⟨fun h => ?_, fun h => ?_⟩
 ·rw [h] at ha
  have : sizeOf [] = 1 := by decide
  omega
 ·rcases h2 with h2 | h2
  ·exact absurd h2 h
  ·rw [h2.1] at ha; omega
theorem goC_f (R : Int → Bool → Option Res) (o : Option (List Int)) : goC R o = match o.map fun st => st.getD 0 0 with | none => R 0 false | some v => R v true := by cases o <;> rfl
theorem datR_loop {f : Nat → Option Int} {N : Nat} {l : Nat → Int → List Int → Option Res} {F : Option Res} {k : List Int → Option Res} (hN : N ≤ 1000000)
 (hend : ∀ n acc, l (n + 1) (N : Int) acc = k acc) (hstep : ∀ n (i : Nat) acc, i < N → acc.length ≤ i → l (n + 1) (i : Int) acc = match f i with | none => F | some v => l n ((i + 1 : Nat) : Int) (acc ++ [v])) :
 l fuel 0 [] = match datF f N 0 with | none => F | some d => k d := by
 have := up0 (N := N) (P := fun n i => ∀ acc : List Int, acc.length ≤ i → l n (i : Int) acc = match datF f (N - i) i with | none => F | some d => k (acc ++ d)) (by omega) ?_ ?_ 0 (by omega) [] (by simp)
 ·simpa using this
 ·intro n acc _; rw [hend, Nat.sub_self, datF]; simp
 ·intro n i hi ih acc ha
  rw [hstep n i acc hi ha, show N - i = (N - (i + 1)) + 1 by omega, datF]
  cases f i with
  | none => rfl
  | some v =>
   simp only
   rw [ih (acc ++ [v]) (by rw [List.length_append, List.length_singleton]; omega)]
   cases datF f (N - (i + 1)) (i + 1) with
   | none => rfl
   | some d => simp
theorem size_toNat (s : List Int) : ∀ i : Nat, decide ((i : Int) < sizeOf s) = decide (i < (sizeOf s).toNat) := fun i => by rw [Bool.eq_iff_iff, decide_eq_true_eq, decide_eq_true_eq]; omega
theorem contI (S : List Spn) (hS : S.length ≤ 2000000) (a b : Int) (R : Bool → Option Res) : slices_Contains_impl_Span_impl_Span.g (S.map mkS) a b R = R (S.any fun s => decide ((s.1 : Int) = a) && decide ((s.2 : Int) = b)) := by
 have hi : ∀ R, slices_Index_impl_Span_impl_Span.g (S.map mkS) a b R = R (idx (fun s : Spn => decide ((s.1 : Int) = a) && decide ((s.2 : Int) = b)) S 0) := fun R => by
  simp only [slices_Index_impl_Span_impl_Span.e, slices_Index_impl_Span_impl_Span.b, List.length_map]
  have := up0 (N := S.length) (P := fun n i => slices_Index_impl_Span_impl_Span.l0 (S.map mkS) (S.length : Int) a b (R (-1)) R n (i : Int) = R (idx (fun s : Spn => decide ((s.1 : Int) = a) && decide ((s.2 : Int) = b)) (S.drop i) i)) (by omega) ?_ ?_ 0 (by omega)
  ·simpa using this
  ·intro n; simp only [slices_Index_impl_Span_impl_Span.l0, slices_Index_impl_Span_impl_Span.l0s, ixe, cond_false, List.drop_length, idx]
  ·intro n i hi ih
   simp only [slices_Index_impl_Span_impl_Span.l0, slices_Index_impl_Span_impl_Span.l0s, List.length_map, ixl hi, ix0, Bool.and_self, cond_true, Int.toNat_natCast, mkS_getD hi, mkS_0, mkS_1, Bool.and_true, ixw (by omega : i < 9223372036854775807)]
   rw [drop_cons (0, 0) hi, idx]
   have e : ((a == ((S.getD i (0, 0)).1 : Int)) && (b == ((S.getD i (0, 0)).2 : Int))) = (decide (((S.getD i (0, 0)).1 : Int) = a) && decide (((S.getD i (0, 0)).2 : Int) = b)) := by
    rw [Bool.eq_iff_iff]; simp only [Bool.and_eq_true, beq_iff_eq, decide_eq_true_eq]; constructor <;> exact fun h => ⟨h.1.symm, h.2.symm⟩
   rw [e]
   cases decide (((S.getD i (0, 0)).1 : Int) = a) && decide (((S.getD i (0, 0)).2 : Int) = b) with
   | true => rfl
   | false => exact ih
 simp only [slices_Contains_impl_Span_impl_Span.e, slices_Contains_impl_Span_impl_Span.b, hi, idx_any _ _ _ (Int.le_refl 0)]
/-- a span is done at once: where it is one, and what it comes to -/
def fuseM (L : List Ins) (V : List Vr) (a b : Int) : Option Ar :=
 if varsB V = true ∧ ((spansX L).any fun s => decide ((s.1 : Int) = a) && decide ((s.2 : Int) = b)) = true then fuseX V ((L.drop a.toNat).take (b.toNat - a.toNat)) else none
theorem spansX_len (L : List Ins) (hL : L.length ≤ 1000000) : (spansX L).length ≤ 1000001 := by
 unfold spansX
 split
 ·have := spansR_len L (L.length + 1) 0; omega
 ·exact Nat.zero_le _
theorem code_all {L : List Ins} (h : codeB L = true) : L.all insOk = true := by
 unfold codeB at h
 simp only [Bool.and_eq_true] at h
 exact h.1.2
theorem fuseI (L : List Ins) (hL : L.length ≤ 1000000) (hn : NumsX 2000000 L) (V : List Vr) (hVl : V.length ≤ 2000000) (hVn : NumsV 2000000 V) (a b : Int) (R : List Int → List Int → Bool → Option Res) :
 impl_FuseTry.g (L.map mkX) a b (V.map mkV) R = goF R (fuseM L V a b) := by
 have hsl := spansX_len L hL
 simp only [impl_FuseTry.e, impl_FuseTry.b, varsI V hVl hVn, spansI L (by omega) hn, contI _ (by omega : (spansX L).length ≤ 2000000), fuseM]
 cases hV : varsB V with
 | false => rw [if_neg (by simp)]; rfl
 | true =>
  rw [Bool.not_true, cond_false]
  cases hc : (spansX L).any fun s => decide ((s.1 : Int) = a) && decide ((s.2 : Int) = b) with
  | false => rw [if_neg (by simp)]; rfl
  | true =>
   rw [if_pos ⟨rfl, rfl⟩]
   obtain ⟨s, hs, he⟩ := List.any_eq_true.1 hc
   simp only [Bool.and_eq_true, decide_eq_true_eq] at he
   obtain ⟨rfl, rfl⟩ := he
   obtain ⟨p, q⟩ := s
   obtain ⟨c1, c2, c3, c4, c5⟩ := span_mem hs
   simp only at c2 c3 c4 c5 ⊢
   obtain ⟨r1, r2⟩ := span_run c2
   have ho := code_all c1
   simp only [Bool.not_true, cond_false, Int.toNat_natCast, List.length_map]
   rw [cd_t (by simp; omega)]
   rw [← List.map_drop, ← List.map_take]
   have hX : ((L.drop p).take (q - p)).length ≤ 1000000 := by rw [List.length_take, List.length_drop]; omega
   have hXo : ((L.drop p).take (q - p)).all insOk = true := List.all_eq_true.2 fun x hx => List.all_eq_true.1 ho x (List.mem_of_mem_drop (List.mem_of_mem_take hx))
   have hXn : NumsX 2000000 ((L.drop p).take (q - p)) := fun x hx => hn x (List.mem_of_mem_drop (List.mem_of_mem_take hx))
   generalize (L.drop p).take (q - p) = X at *
   rw [guardedI V hV X (by omega) hXo hXn, fuseX]
   cases hg : gF V X [] with
   | none => rfl
   | some sh =>
    simp only [goG, Bool.not_true, cond_false]
    have hsz := sizeOf_le sh
    have := datR_loop (f := fun i => (cF V i X []).map fun st => st.getD 0 0) (N := (sizeOf sh).toNat) (l := impl_FuseTry.l0 (V.map mkV) (X.map mkX) sh (fun y18 => R sh y18 true) R) (F := R [] [] false) (k := fun y => R sh y true) (by omega) ?_ ?_
    ·rw [this]
     cases datF (fun i => (cF V i X []).map fun st => st.getD 0 0) (sizeOf sh).toNat 0 <;> rfl
    ·intro n acc
     simp only [impl_FuseTry.l0, impl_FuseTry.l0s, sizeOfI, size_toNat, Nat.lt_irrefl, decide_false, cond_false]
    ·intro n i acc hi ha
     have hgd := good_all hV hXo hg (p := i) (by omega)
     simp only [impl_FuseTry.l0, impl_FuseTry.l0s, sizeOfI, size_toNat, hi, decide_true, cond_true, placeI V hV i X hX hXo r1 hXn hgd r2, goC_f, ixw (by omega : i < 9223372036854775807)]
     cases (cF V i X []).map fun st => st.getD 0 0 with
     | none => rfl
     | some v => simp only [Bool.not_true, cond_false]; exact cd_t (by simp; omega) _ _
theorem fuseS (L : List Ins) (hL : L.length ≤ 1000000) (hn : NumsX 2000000 L) (V : List Vr) (hVl : V.length ≤ 2000000) (hVn : NumsV 2000000 V) (a b : Int) (R : List Int → List Int → Bool → Option Res) :
 spec_FuseTry.g (L.map mkX) a b (V.map mkV) R = goF R (fuseM L V a b) := by
 have hsl := spansX_len L hL
 simp only [spec_FuseTry.e, spec_FuseTry.b, varsS V hVl hVn, spansS L (by omega) hn, codeOkS L (by omega) hn, fuseM]
 cases hcb : codeB L with
 | false =>
  have : spansX L = [] := by unfold spansX; rw [if_neg (by simp [hcb])]
  rw [this, if_neg (by simp)]; rfl
 | true =>
  cases hV : varsB V with
  | false => rw [if_neg (by simp)]; rfl
  | true =>
   simp only [Bool.not_true, cond_false]
   have ho := code_all hcb
   have mem : ∀ s ∈ spansX L, endX L s.1 = some s.2 ∧ s.1 < L.length ∧ s.2 ≤ L.length ∧ s.1 < s.2 := fun s hs => (span_mem hs).2
   generalize spansX L = S at hsl mem
   have try_ : ∀ p q : Nat, endX L p = some q → p < L.length → q ≤ L.length → p < q → spec_l15Try.g (L.map mkX) (p : Int) (q : Int) (V.map mkV) R = goF R (fuseX V ((L.drop p).take (q - p))) := by
    intro p q c2 c3 c4 c5
    obtain ⟨r1, r2⟩ := span_run c2
    obtain ⟨Y, hY⟩ := shapeS V hV L (by omega) ho hn p q (by omega) c4
    have hXo : ((L.drop p).take (q - p)).all insOk = true := List.all_eq_true.2 fun x hx => List.all_eq_true.1 ho x (List.mem_of_mem_drop (List.mem_of_mem_take hx))
    simp only [spec_l15Try.e, spec_l15Try.b, hY, fuseX]
    cases hg : gF V ((L.drop p).take (q - p)) [] with
    | none => rfl
    | some sh =>
     simp only [Bool.not_true, cond_false]
     have hsz := sizeOf_le sh
     have := datR_loop (f := fun i => (cF V i ((L.drop p).take (q - p)) []).map fun st => st.getD 0 0) (N := (sizeOf sh).toNat) (l := spec_l15Try.l0 (L.map mkX) (V.map mkV) sh (p : Int) (q : Int) sh (fun y18 => R sh y18 true) R) (F := R [] [] false) (k := fun y => R sh y true) (by omega) ?_ ?_
     ·rw [this]
      cases datF (fun i => (cF V i ((L.drop p).take (q - p)) []).map fun st => st.getD 0 0) (sizeOf sh).toNat 0 <;> rfl
     ·intro n acc
      simp only [spec_l15Try.l0, spec_l15Try.l0s, sizeOfS, size_toNat, Nat.lt_irrefl, decide_false, cond_false]
     ·intro n i acc hi ha
      have hgd := good_all hV hXo hg (p := i) (by omega)
      have hst : ∀ x ∈ (L.drop p).take (q - p), putsX x = true → setX V x = true := fun x hx hp => (gF_all hg x hx hp).1
      simp only [spec_l15Try.l0, spec_l15Try.l0s, sizeOfS, size_toNat, hi, decide_true, cond_true, cellS V hV i L hL ho hn p q (by omega) c4 r1 hgd hst r2, goC_f, ixw (by omega : i < 9223372036854775807)]
      cases (cF V i ((L.drop p).take (q - p)) []).map fun st => st.getD 0 0 with
      | none => rfl
      | some v => simp only [Bool.not_true, cond_false]; exact cd_t (by simp; omega) _ _
   have := up0 (N := S.length) (P := fun n j => spec_FuseTry.l0 (L.map mkX) (V.map mkV) (S.map mkS) a b (R [] [] false) R n (j : Int) = goF R (if ((S.drop j).any fun s => decide ((s.1 : Int) = a) && decide ((s.2 : Int) = b)) = true then fuseX V ((L.drop a.toNat).take (b.toNat - a.toNat)) else none)) (by omega) ?_ ?_ 0 (by omega)
   ·rw [List.drop_zero] at this
    refine this.trans ?_
    simp only [true_and]
   ·intro n
    simp only [spec_FuseTry.l0, spec_FuseTry.l0s, List.length_map, ixe, cond_false, List.drop_length, List.any_nil]; rfl
   ·intro n j hj ih
    have hmem : S.getD j (0, 0) ∈ S := by rw [List.getD_eq_getElem?_getD, List.getElem?_eq_getElem hj]; exact List.getElem_mem hj
    obtain ⟨m1, m2, m3, m4⟩ := mem _ hmem
    simp only [spec_FuseTry.l0, spec_FuseTry.l0s, List.length_map, ixl hj, ix0, Bool.and_self, cond_true, Int.toNat_natCast, mkS_getD hj, mkS_0, mkS_1, Bool.and_true, ixw (by omega : j < 9223372036854775807), ih]
    rw [drop_cons (0, 0) hj, List.any_cons]
    generalize S.getD j (0, 0) = s at m1 m2 m3 m4 ⊢
    obtain ⟨p, q⟩ := s
    simp only at m1 m2 m3 m4 ⊢
    have e : (((p : Int) == a) && ((q : Int) == b)) = (decide ((p : Int) = a) && decide ((q : Int) = b)) := rfl
    rw [e]
    cases hpq : decide ((p : Int) = a) && decide ((q : Int) = b) with
    | false => rw [cond_false, Bool.false_or]
    | true =>
     simp only [Bool.and_eq_true, decide_eq_true_eq] at hpq
     obtain ⟨rfl, rfl⟩ := hpq
     rw [cond_true, Bool.true_or, if_pos rfl, Int.toNat_natCast, Int.toNat_natCast]
     exact try_ p q m1 m2 m3 m4
def mkA (A : Ar) : List Cl := [.l A.1, .l A.2]
theorem getA {S : List Ar} {i : Nat} (h : i < S.length) : (S.map mkA).getD i [] = mkA (S.getD i ([], [])) := getD_map mkA S h [] _
theorem mkA_0 (A : Ar) : ((mkA A).getD 0 (.i 0)).toL = A.1 := rfl
theorem mkA_1 (A : Ar) : ((mkA A).getD 1 (.i 0)).toL = A.2 := rfl
theorem copyA (s d : List Int) (h1 : s.length ≤ 2000000) (h2 : d.length ≤ 2000000) (R : Option Res) : impl_copyArray.g s d R = R := by
 simp only [impl_copyArray.e, impl_copyArray.b]
 rw [cd_t (by simp; omega), cd_t (by simp; omega)]
theorem copyV (V : List Vr) (hl : V.length ≤ 2000000) (hn : NumsV 2000000 V) (R : List (List Cl) → Option Res) : impl_copyVars.g (V.map mkV) R = R (V.map mkV) := by
 simp only [impl_copyVars.e, impl_copyVars.b, List.length_map]
 have := up0 (N := V.length) (P := fun n i => impl_copyVars.l0 (V.map mkV) (V.length : Int) (fun y6 => R y6) n (i : Int) ((V.take i).map mkV) = R (V.map mkV)) (by omega) ?_ ?_ 0 (by omega)
 ·simpa using this
 ·intro n; simp only [impl_copyVars.l0, impl_copyVars.l0s, ixe, cond_false, List.take_length]
 ·intro n i hi ih
  have hb := hn.at hi
  unfold vsz at hb
  have hk : decide ((((V.take i).map mkV).length + 1) * 56 ≤ 140737488355328) = true := by simp; omega
  simp only [impl_copyVars.l0, impl_copyVars.l0s, List.length_map, ixl hi, ix0, Bool.and_self, cond_true, Int.toNat_natCast, getV hi, mkV_0, mkV_1, mkV_2, copyA _ _ (by omega : (V.getD i dV).2.1.length ≤ 2000000) (by omega : (V.getD i dV).2.2.length ≤ 2000000), ixw (by omega : i < 9223372036854775807)]
  rw [List.length_map] at hk
  rw [hk, cond_true]
  have := map_snoc mkV V dV hi
  rw [← this] at ih
  exact ih
def NumsA (S : List Ar) : Prop := ∀ A ∈ S, A.1.length ≤ 2000000 ∧ A.2.length ≤ 2000000
theorem NumsA.at {S : List Ar} (h : NumsA S) {i : Nat} (hi : i < S.length) : (S.getD i ([], [])).1.length ≤ 2000000 ∧ (S.getD i ([], [])).2.length ≤ 2000000 := by
 rw [List.getD_eq_getElem?_getD, List.getElem?_eq_getElem hi]; exact h _ (List.getElem_mem hi)
theorem copyM (i : Int) (S : List Ar) (hS : S.length ≤ 2000000) (hA : NumsA S) (V : List Vr) (hl : V.length ≤ 2000000) (hn : NumsV 2000000 V) (st co : Int) (R : Int → List (List Cl) → List (List Cl) → Int → Int → Option Res) :
 impl_copyMachine.g i (S.map mkA) (V.map mkV) st co R = R i (S.map mkA) (V.map mkV) st co := by
 simp only [impl_copyMachine.e, impl_copyMachine.b, copyV V hl hn, List.length_map]
 have := up0 (N := S.length) (P := fun n j => impl_copyMachine.l0 (S.map mkA) (S.length : Int) (V.map mkV) i st co 0 0 0 (fun y18 => R i y18 (V.map mkV) st co) n (j : Int) ((S.take j).map mkA) = R i (S.map mkA) (V.map mkV) st co) (by omega) ?_ ?_ 0 (by omega)
 ·simpa using this
 ·intro n; simp only [impl_copyMachine.l0, impl_copyMachine.l0s, ixe, cond_false, List.take_length]
 ·intro n j hj ih
  obtain ⟨b1, b2⟩ := hA.at hj
  have hk : decide ((((S.take j).map mkA).length + 1) * 48 ≤ 140737488355328) = true := by simp; omega
  simp only [impl_copyMachine.l0, impl_copyMachine.l0s, List.length_map, ixl hj, ix0, Bool.and_self, cond_true, Int.toNat_natCast, getA hj, mkA_0, mkA_1, copyA _ _ b1 b2, ixw (by omega : j < 9223372036854775807)]
  rw [List.length_map] at hk
  rw [hk, cond_true]
  have := map_snoc mkA S ([], []) hj
  rw [← this] at ih
  exact ih
/-- the depths behind each instruction -/
def depL : List Ins → Nat → List Int
 | [], _ => []
 | x :: L, d => ((d - takesX x + 1 : Nat) : Int) :: depL L (d - takesX x + 1)
theorem deepF (L : List Ins) (hL : L.length ≤ 2000000) (e : Nat) (h : runD L 0 = some e) (R : List Int → Bool → Option Res) : impl_deep.g (L.map mkX) R = R (0 :: depL L 0) true := by
 simp only [impl_deep.e, impl_deep.b, List.length_map]
 have := up0 (N := L.length) (P := fun n i => ∀ (d : Nat) (Ls : List Int), d ≤ i → Ls.length = i + 1 → Ls.getD i 0 = (d : Int) → runD (L.drop i) d = some e → impl_deep.l0 (L.map mkX) (L.length : Int) (fun y8 => R y8 true) R n (i : Int) Ls = R (Ls ++ depL (L.drop i) d) true) (by omega) ?_ ?_ 0 (by omega) 0 [0] (by omega) rfl rfl h
 ·exact this
 ·intro n d Ls _ _ _ _
  simp only [impl_deep.l0, impl_deep.l0s, ixe, cond_false, List.drop_length, depL, List.append_nil]
 ·intro n i hi ih d Ls hd hl hg hr
  have hlt : decide ((i : Int) < (Ls.length : Int)) = true := by rw [decide_eq_true_eq]; omega
  have ht := takesX_le (L.getD i dX)
  rw [drop_cons dX hi, runD] at hr
  have hc : takesX (L.getD i dX) ≤ d := by
   by_cases hc : takesX (L.getD i dX) ≤ d
   ·exact hc
   ·rw [if_neg hc] at hr; cases hr
  rw [if_pos hc] at hr
  have e1 : decide ((d : Int) < (takesX (L.getD i dX) : Int)) = false := by rw [decide_eq_false_iff_not]; omega
  have e2 : decide ((Ls.length + 1) * 8 ≤ 140737488355328) = true := by rw [decide_eq_true_eq]; omega
  have w1 : IntKind.i64.wrap ((d : Int) - (takesX (L.getD i dX) : Int)) = (d : Int) - (takesX (L.getD i dX) : Int) := w64 (by omega)
  have w2 : IntKind.i64.wrap ((d : Int) - (takesX (L.getD i dX) : Int) + 1) = ((d - takesX (L.getD i dX) + 1 : Nat) : Int) := by rw [w64 (by omega)]; omega
  have := ih (d - takesX (L.getD i dX) + 1) (Ls ++ [((d - takesX (L.getD i dX) + 1 : Nat) : Int)]) (by omega) (by rw [List.length_append, hl]; rfl) (getD_app Ls _ 0 _ hl) hr
  simp only [impl_deep.l0, impl_deep.l0s, List.length_map, ixl hi, ix0, hlt, Bool.and_self, cond_true, Int.toNat_natCast, getX hi, mkX_0, mkX_1, mkX_2, mkX_3, mkX_4, mkX_5, takesI, hg, e1, cond_false, e2, w1, w2, ixw (by omega : i < 9223372036854775807)]
  rw [this, drop_cons dX hi, depL, List.append_assoc]; rfl
/-- so many arrays are on the stack ahead of an instruction -/
def DepAt (L : List Ins) (i n : Nat) : Prop := (0 :: depL L 0).drop i = (n : Int) :: depL (L.drop i) n
theorem dep0 (L : List Ins) : DepAt L 0 0 := rfl
theorem depS {L : List Ins} {i n : Nat} (h : DepAt L i n) (hi : i < L.length) : DepAt L (i + 1) (n - takesX (L.getD i dX) + 1) := by
 unfold DepAt at h ⊢
 rw [← List.drop_drop, h, List.drop_succ_cons, List.drop_zero, drop_cons dX hi, depL]
theorem depG {L : List Ins} {i n : Nat} (h : DepAt L i n) : i < (0 :: depL L 0).length ∧ (0 :: depL L 0).getD i 0 = (n : Int) := by
 unfold DepAt at h
 generalize (0 :: depL L 0) = Z at h
 have hi : i < Z.length := by
  by_cases hc : i < Z.length
  ·exact hc
  ·rw [List.drop_eq_nil_of_le (by omega)] at h; cases h
 refine ⟨hi, ?_⟩
 rw [drop_cons 0 hi] at h
 exact (List.cons.inj h).1
theorem idxA (S : List Ar) (hS : S.length ≤ 2000000) (hA : S.all (fun A => arrOk A.1 A.2) = true) (R : Int → Option Res) : slices_IndexFunc_impl_Array_impl_Array.g (S.map mkA) R = R (-1) := by
 simp only [slices_IndexFunc_impl_Array_impl_Array.e, slices_IndexFunc_impl_Array_impl_Array.b, List.length_map]
 refine up0 (N := S.length) (P := fun n i => slices_IndexFunc_impl_Array_impl_Array.l0 (S.map mkA) (S.length : Int) (R (-1)) R n (i : Int) = R (-1)) (by omega) ?_ ?_ 0 (by omega)
 ·intro n; simp only [slices_IndexFunc_impl_Array_impl_Array.l0, slices_IndexFunc_impl_Array_impl_Array.l0s, ixe, cond_false]
 ·intro n i hi ih
  have ho : arrOk (S.getD i ([], [])).1 (S.getD i ([], [])).2 = true := List.all_eq_true.1 hA _ (by rw [List.getD_eq_getElem?_getD, List.getElem?_eq_getElem hi]; exact List.getElem_mem hi)
  have hl := (arrOk_facts ho).2.2.1
  simp only [slices_IndexFunc_impl_Array_impl_Array.l0, slices_IndexFunc_impl_Array_impl_Array.l0s, List.length_map, ixl hi, ix0, Bool.and_self, cond_true, Int.toNat_natCast, getA hi, mkA_0, mkA_1, impl_machineOk_1.e, impl_machineOk_1.b, arrayOkI _ _ (by omega : (S.getD i ([], [])).2.length ≤ 9223372036854775807), ho, Bool.not_true, cond_false, ixw (by omega : i < 9223372036854775807)]
  exact ih
/-- where a machine stands, and all is right -/
structure At (L : List Ins) (V : List Vr) (i : Nat) (S : List Ar) : Prop where
 code : codeB L = true
 len : L.length ≤ 60
 nums : NumsX 2000000 L
 vars : varsB V = true
 vlen : V.length ≤ 2000000
 vnum : NumsV 2000000 V
 lt : i < L.length
 dep : DepAt L i S.length
 slen : S.length ≤ 1000
 ok : S.all (fun A => arrOk A.1 A.2) = true
theorem ok_nums {S : List Ar} (h : S.all (fun A => arrOk A.1 A.2) = true) : NumsA S := fun A hA => by
 have := arrOk_facts (List.all_eq_true.1 h A hA)
 exact ⟨by omega, by omega⟩
theorem code_run {L : List Ins} (h : codeB L = true) : runD L 0 = some 1 := by
 unfold codeB at h
 simp only [Bool.and_eq_true, beq_iff_eq] at h
 exact h.2
theorem machOk {L : List Ins} {V : List Vr} {i : Nat} {S : List Ar} (h : At L V i S) (st : Nat) (hst : st ≤ 1000000) (R : Bool → Option Res) :
 impl_machineOk.g (L.map mkX) (i : Int) (S.map mkA) (V.map mkV) (st : Int) 0 R = R true := by
 obtain ⟨d1, d2⟩ := depG h.dep
 have hl := h.len
 have hi := h.lt
 have e1 : decide ((0 : Int) ≤ (i : Int)) = true := by simp
 have e2 : decide ((i : Int) ≤ (L.length : Int)) = true := by simp; omega
 have e3 : decide ((st : Int) < 0) = false := by simp
 have e4 : decide ((i : Int) < ((0 :: depL L 0).length : Int)) = true := by rw [decide_eq_true_eq]; omega
 simp only [impl_machineOk.e, impl_machineOk.b, codeOkI L (by omega) h.nums, h.code, List.length_map, within, e1, e2, Bool.and_self, varsI V h.vlen h.vnum, h.vars, e3, deepF L (by omega) 1 (code_run h.code), e4, Int.toNat_natCast, d2, beq_self_eq_true, cond_true, Bool.not_true, cond_false, slices_ContainsFunc_impl_Array_impl_Array.e, slices_ContainsFunc_impl_Array_impl_Array.b, idxA S (by have := h.slen; omega) h.ok]
 rfl
theorem stepI {L : List Ins} {V : List Vr} {i : Nat} {S : List Ar} (h : At L V i S) (st : Nat) (h1 : st + 1 ≤ 1000000) (A : Ar) (hA : arrOk A.1 A.2 = true) (h3 : (L.getD i dX).1 ≠ 3) (ht : takesX (L.getD i dX) ≤ S.length)
 (hd : ∀ R, impl_done.g (L.getD i dX).1 (L.getD i dX).2.1 (L.getD i dX).2.2.1.1 (L.getD i dX).2.2.1.2.1 (L.getD i dX).2.2.1.2.2 (L.getD i dX).2.2.2 (S.map mkA) (V.map mkV) R = R A.1 A.2 0) (R : Int → List (List Cl) → List (List Cl) → Int → Int → Option Res) :
 impl_MachineStep.g (L.map mkX) (i : Int) (S.map mkA) (V.map mkV) ((st + 1 : Nat) : Int) 0 R = R ((i + 1 : Nat) : Int) ((S.take (S.length - takesX (L.getD i dX)) ++ [A]).map mkA) (V.map mkV) (st : Int) 0 := by
 have hi := h.lt
 have hl := h.len
 have hs := h.slen
 have hf := arrOk_facts hA
 have e1 : ((i : Int) == (L.length : Int)) = false := by simp; omega
 have e2 : (((st + 1 : Nat) : Int) == 0) = false := by simp; omega
 have e3 : ((L.getD i dX).1 == 3) = false := by simpa using h3
 have w1 : IntKind.i64.wrap (((st + 1 : Nat) : Int) - 1) = (st : Int) := by rw [w64 (by omega)]; omega
 have w2 : IntKind.i64.wrap ((S.length : Int) - (takesX (L.getD i dX) : Int)) = ((S.length - takesX (L.getD i dX) : Nat) : Int) := w_sub ht (by omega)
 have e4 : decide (((S.length - takesX (L.getD i dX) : Nat) : Int) ≤ (S.length : Int)) = true := by simp
 have e5 : decide ((S.length - takesX (L.getD i dX) + 1) * 48 ≤ 140737488355328) = true := by simp; omega
 have z0 : ((0 : Int) != 0) = false := by decide
 simp only [impl_MachineStep.e, impl_MachineStep.b, machOk h (st + 1) h1, Bool.not_true, cond_false, copyM _ S (by omega) (ok_nums h.ok) V h.vlen h.vnum, z0, List.length_map, e1, e2, ix0, ixl hi, Bool.and_self, cond_true, Int.toNat_natCast, getX hi, mkX_0, mkX_1, mkX_2, mkX_3, mkX_4, mkX_5, hd, takesI, w1, w2, e3, e4, e5, copyA _ _ (by omega : A.1.length ≤ 2000000) (by omega : A.2.length ≤ 2000000), ixw (by omega : i < 9223372036854775807)]
 rw [List.map_append, List.map_take]; rfl
/-- it runs on to the end, from where it stands -/
theorem runE (L : List Ins) (V : List Vr) (hc : codeB L = true) (hv : varsB V = true) (hl : L.length ≤ 60) (hn : NumsX 2000000 L) (hvl : V.length ≤ 2000000) (hvn : NumsV 2000000 V) (st : Nat) (r : Ar)
 (k : ∀ k : List (List Cl) → List (List Cl) → Int → Int → Int → Option Res, impl_Run.l0 (L.map mkX) (V.map mkV) k fuel [] (V.map mkV) 0 100 0 = k [mkA r] (V.map mkV) (L.length : Int) (st : Int) 0) (R : List Int → List Int → List (List Cl) → Int → Int → Option Res) :
 impl_Run.g (L.map mkX) (V.map mkV) 100 R = R r.1 r.2 (V.map mkV) 0 (st : Int) := by
 have e3 : decide ((100 : Int) < 0) = false := by decide
 simp only [impl_Run.e, impl_Run.b, codeOkI L (by omega) hn, hc, Bool.not_true, cond_false, varsI V hvl hvn, hv, e3, impl_MachineNew.e, impl_MachineNew.b, copyV V hvl hvn, k]
 rfl
theorem oneN_ok {s x : Int} (hx : numOk x = true) (h : (oneN s x).2 = 0) : numOk (oneN s x).1 = true := by
 unfold oneN at h ⊢
 have hx' := numOk_iff.1 hx
 cases h1 : sg1 s with
 | false => rw [h1] at h; cases h
 | true =>
  rw [h1, hx] at h
  rw [hx]
  simp only [Bool.not_true, cond_false] at h ⊢
  cases h2 : s == 45 with
  | true => simp only [cond_true]; rw [w64 (by omega), numOk_iff]; omega
  | false =>
   rw [h2] at h
   simp only [cond_false] at h ⊢
   cases h3 : s == 42 with
   | true =>
    simp only [cond_true, bit]
    cases decide (0 < x) <;> cases decide (x < 0) <;> decide
   | false =>
    rw [h3] at h
    simp only [cond_false] at h ⊢
    cases h4 : s == 124 with
    | true => simp only [cond_true]; rw [mm_abs hx, numOk_iff]; omega
    | false =>
     rw [h4] at h
     simp only [cond_false] at h ⊢
     cases h5 : s == 126 with
     | true =>
      rw [h5] at h
      simp only [cond_true] at h ⊢
      cases h6 : decide (0 ≤ x) && decide (x ≤ 1) with
      | false => rw [h6] at h; cases h
      | true =>
       simp only [Bool.and_eq_true, decide_eq_true_eq] at h6
       simp only [Bool.not_true, cond_false]
       rw [w64 (by omega), numOk_iff]; omega
     | false => exact hx
theorem twoN_ok {s a b : Int} (h : (twoN s a b).2 = 0) : numOk (twoN s a b).1 = true := by
 unfold twoN at h ⊢
 cases h1 : sg2 s with
 | false => rw [h1] at h; cases h
 | true =>
  cases h2 : numOk a with
  | false => rw [h1, h2] at h; cases h
  | true =>
   cases h3 : numOk b with
   | false => rw [h1, h2, h3] at h; cases h
   | true =>
    rw [h1, h2, h3] at h
    simp only [Bool.not_true, cond_false] at h ⊢
    cases h4 : s == 43 <;> rw [h4] at h <;> simp only [cond_true, cond_false] at h ⊢; rotate_left; exact lim_ok h
    cases h5 : s == 45 <;> rw [h5] at h <;> simp only [cond_true, cond_false] at h ⊢; rotate_left; exact lim_ok h
    cases h6 : s == 42 <;> rw [h6] at h <;> simp only [cond_true, cond_false] at h ⊢
    rotate_left
    ·cases h7 : decide (a.natAbs * b.natAbs ≤ 1000000000000) <;> rw [h7] at h <;> simp only [cond_true, cond_false] at h ⊢
     ·cases h
     ·exact lim_ok h
    cases h7 : s == 37 <;> rw [h7] at h <;> simp only [cond_true, cond_false] at h ⊢
    rotate_left
    ·cases h8 : b == 0 <;> rw [h8] at h <;> simp only [cond_true, cond_false] at h ⊢
     ·exact lim_ok h
     ·cases h
    cases h8 : s == 124 <;> rw [h8] at h <;> simp only [cond_true, cond_false] at h ⊢
    rotate_left
    ·cases h9 : a != 0 <;> rw [h9] at h <;> simp only [cond_true, cond_false] at h ⊢ <;> exact lim_ok h
    cases h9 : s == 38 <;> rw [h9] at h <;> simp only [cond_true, cond_false] at h ⊢; rotate_left; exact lim_ok h
    cases h10 : s == 94 <;> rw [h10] at h <;> simp only [cond_true, cond_false] at h ⊢; rotate_left; exact lim_ok h
    cases h11 : s == 61 <;> rw [h11] at h <;> simp only [cond_true, cond_false] at h ⊢; rotate_left; exact lim_ok h
    cases h12 : s == 60 <;> rw [h12] at h <;> simp only [cond_true, cond_false] at h ⊢ <;> exact lim_ok h
def okAr (A : Ar) : Bool := arrOk A.1 A.2
theorem okAr_len {A : Ar} (h : okAr A = true) : (A.2.length : Int) = sizeOf A.1 ∧ A.2.all numOk = true := by
 unfold okAr arrOk at h
 simp only [Bool.and_eq_true, decide_eq_true_eq] at h
 exact h
theorem okAr_mk {s d : List Int} (h : (d.length : Int) = sizeOf s) (h2 : d.all numOk = true) : okAr (s, d) = true := by
 show arrOk s d = true
 unfold arrOk
 simp only [Bool.and_eq_true, decide_eq_true_eq]
 exact ⟨h, h2⟩
theorem size0 : sizeOf [] = 1 := by decide
def oneA (s : Int) (A : Ar) : Ar := (A.1, A.2.map fun x => (oneN s x).1)
def shT (A B : Ar) : List Int := if A.1 = [] then B.1 else A.1
def twoA (s : Int) (A B : Ar) : Ar := (shT A B, (List.range (sizeOf (shT A B)).toNat).map fun i => (twoN s (atM A i) (atM B i)).1)
/-- a step may be done on arrays: all of its numbers go well -/
def GoOne (s : Int) (A : Ar) : Prop := ∀ i, i < A.2.length → (oneN s (A.2.getD i 0)).2 = 0
def GoTwo (s : Int) (A B : Ar) : Prop := (A.1 = [] ∨ B.1 = [] ∨ A.1 = B.1) ∧ ∀ i, i < (sizeOf (shT A B)).toNat → (twoN s (atM A i) (atM B i)).2 = 0
theorem getD_of' {l : List Int} {i : Nat} (h : i < l.length) : l.getD i 0 = l[i] := by rw [List.getD_eq_getElem?_getD, List.getElem?_eq_getElem h]; rfl
theorem oneA_ok {s : Int} {A : Ar} (h : okAr A = true) (hg : GoOne s A) : okAr (oneA s A) = true := by
 obtain ⟨h1, h2⟩ := okAr_len h
 refine okAr_mk (by rw [List.length_map]; exact h1) (List.all_eq_true.2 fun y hy => ?_)
 obtain ⟨x, hx, rfl⟩ := List.mem_map.1 hy
 obtain ⟨i, hi, rfl⟩ := List.mem_iff_getElem.1 hx
 exact oneN_ok (List.all_eq_true.1 h2 _ hx) (by have := hg i hi; rwa [getD_of' hi] at this)
theorem twoA_ok {s : Int} {A B : Ar} (hA : okAr A = true) (hB : okAr B = true) (hg : GoTwo s A B) : okAr (twoA s A B) = true := by
 obtain ⟨a1, a2⟩ := okAr_len hA
 obtain ⟨b1, b2⟩ := okAr_len hB
 refine okAr_mk ?_ (List.all_eq_true.2 fun y hy => ?_)
 ·rw [List.length_map, List.length_range]
  have : 0 ≤ sizeOf (shT A B) := by unfold shT; split <;> omega
  omega
 ·obtain ⟨i, hi, rfl⟩ := List.mem_map.1 hy
  exact twoN_ok (hg.2 i (List.mem_range.1 hi))
/-- an array that fits a shape: a number, or of it -/
def Fits (sh : List Int) (A : Ar) : Prop := okAr A = true ∧ (A.1 = [] ∨ A.1 = sh)
theorem one_sim {sh : List Int} {A : Ar} {s : Int} (hf : Fits sh A) (hN : 0 < sizeOf sh) (h : ∀ p : Nat, (p : Int) < sizeOf sh → (oneN s (atM A p)).2 = 0) :
 GoOne s A ∧ Fits sh (oneA s A) ∧ ∀ p : Nat, (p : Int) < sizeOf sh → atM (oneA s A) p = (oneN s (atM A p)).1 := by
 obtain ⟨ho, hs⟩ := hf
 obtain ⟨h1, h2⟩ := okAr_len ho
 have go : GoOne s A := by
  intro i hi
  by_cases h0 : A.1 = []
  ·rw [h0, size0] at h1
   have hi0 : i = 0 := by omega
   have := h 0 (by omega)
   rw [atM, if_pos h0] at this
   rw [hi0]; exact this
  ·have := h i (by rcases hs with hs | hs; exact absurd hs h0; rw [hs] at h1; omega)
   rw [atM, if_neg h0] at this
   exact this
 refine ⟨go, ⟨oneA_ok ho go, hs⟩, fun p hp => ?_⟩
 have mp : ∀ i, i < A.2.length → (A.2.map fun x => (oneN s x).1).getD i 0 = (oneN s (A.2.getD i 0)).1 := by
  intro i hi
  rw [getD_of' (by rw [List.length_map]; exact hi), List.getElem_map, getD_of' hi]
 unfold atM oneA
 by_cases h0 : A.1 = []
 ·rw [h0, size0] at h1
  rw [if_pos h0, if_pos h0]; exact mp 0 (by omega)
 ·rw [if_neg h0, if_neg h0]
  exact mp p (by rcases hs with hs | hs; exact absurd hs h0; rw [hs] at h1; omega)
theorem two_sim {sh : List Int} {A B : Ar} {s : Int} (hA : Fits sh A) (hB : Fits sh B) (hN : 0 < sizeOf sh) (h : ∀ p : Nat, (p : Int) < sizeOf sh → (twoN s (atM A p) (atM B p)).2 = 0) :
 GoTwo s A B ∧ Fits sh (twoA s A B) ∧ (∀ p : Nat, (p : Int) < sizeOf sh → atM (twoA s A B) p = (twoN s (atM A p) (atM B p)).1) ∧ (A.1 ≠ [] ∨ B.1 ≠ [] → (twoA s A B).1 ≠ []) := by
 have hsh : shT A B = [] ∧ A.1 = [] ∧ B.1 = [] ∨ shT A B = sh ∧ sh ≠ [] := by
  unfold shT
  by_cases a0 : A.1 = []
  ·rw [if_pos a0]
   by_cases b0 : B.1 = []
   ·exact .inl ⟨b0, a0, b0⟩
   ·rcases hB.2 with hb | hb
    ·exact absurd hb b0
    ·exact .inr ⟨hb, hb ▸ b0⟩
  ·rw [if_neg a0]
   rcases hA.2 with ha | ha
   ·exact absurd ha a0
   ·exact .inr ⟨ha, ha ▸ a0⟩
 have go : GoTwo s A B := by
  refine ⟨?_, fun i hi => ?_⟩
  ·rcases hA.2 with ha | ha
   ·exact .inl ha
   ·rcases hB.2 with hb | hb
    ·exact .inr (.inl hb)
    ·exact .inr (.inr (ha.trans hb.symm))
  ·rcases hsh with ⟨e, ea, eb⟩ | ⟨e, _⟩
   ·rw [e, size0] at hi
    have := h 0 (by omega)
    have hi0 : i = 0 := by omega
    rw [hi0]; exact this
   ·rw [e] at hi; exact h i (by omega)
 refine ⟨go, ⟨twoA_ok hA.1 hB.1 go, ?_⟩, fun p hp => ?_, fun hne => ?_⟩
 ·rcases hsh with ⟨e, _⟩ | ⟨e, _⟩
  ·exact .inl e
  ·exact .inr e
 ·have mp : ∀ i, i < (sizeOf (shT A B)).toNat → ((List.range (sizeOf (shT A B)).toNat).map fun i => (twoN s (atM A i) (atM B i)).1).getD i 0 = (twoN s (atM A i) (atM B i)).1 := by
   intro i hi
   rw [getD_of' (by rw [List.length_map, List.length_range]; exact hi), List.getElem_map, List.getElem_range]
  rcases hsh with ⟨e, ea, eb⟩ | ⟨e, e0⟩
  ·have e1 : (twoA s A B).1 = [] := e
   rw [atM, if_pos e1]
   have e2 : ∀ q, atM A q = atM A 0 ∧ atM B q = atM B 0 := fun q => ⟨by unfold atM; rw [if_pos ea, if_pos ea], by unfold atM; rw [if_pos eb, if_pos eb]⟩
   rw [(e2 p).1, (e2 p).2]
   exact mp 0 (by rw [e, size0]; decide)
  ·have e1 : (twoA s A B).1 ≠ [] := by show shT A B ≠ []; rw [e]; exact e0
   rw [atM, if_neg e1]
   exact mp p (by rw [e]; omega)
 ·rcases hsh with ⟨_, ea, eb⟩ | ⟨e, e0⟩
  ·rcases hne with hne | hne
   ·exact absurd ea hne
   ·exact absurd eb hne
  ·show shT A B ≠ []
   rw [e]; exact e0
/-- the steps of plain code on a stack of arrays, all of which go well -/
inductive Tr (V : List Vr) : List Ins → List Ar → Ar → Prop
 | nil (r : Ar) : okAr r = true → Tr V [] [r] r
 | put (x : Ins) (X : List Ins) (S : List Ar) (r : Ar) : putsX x = true → setX V x = true → okAr (arrX V x) = true → Tr V X (S ++ [arrX V x]) r → Tr V (x :: X) S r
 | one (x : Ins) (X : List Ins) (S : List Ar) (A r : Ar) : x.1 = 4 → okAr A = true → GoOne x.2.2.1.1 A → Tr V X (S ++ [oneA x.2.2.1.1 A]) r → Tr V (x :: X) (S ++ [A]) r
 | two (x : Ins) (X : List Ins) (S : List Ar) (A B r : Ar) : x.1 = 5 → okAr A = true → okAr B = true → GoTwo x.2.2.1.1 A B → Tr V X (S ++ [twoA x.2.2.1.1 A B]) r → Tr V (x :: X) (S ++ [B, A]) r
theorem snoc1 (l : List Int) (x : Int) : (l ++ [x]).length - 1 = l.length ∧ (l ++ [x]).getD l.length 0 = x ∧ (l ++ [x]).take l.length = l := by
 refine ⟨by simp, ?_, by simp⟩
 rw [List.getD_eq_getElem?_getD, List.getElem?_append_right (Nat.le_refl _), Nat.sub_self]; rfl
theorem snoc2 (l : List Int) (y x : Int) : (l ++ [y, x]).length - 1 = l.length + 1 ∧ (l ++ [y, x]).length - 2 = l.length ∧ (l ++ [y, x]).getD (l.length + 1) 0 = x ∧ (l ++ [y, x]).getD l.length 0 = y ∧ (l ++ [y, x]).take l.length = l := by
 refine ⟨by simp, by simp, ?_, ?_, by simp⟩
 ·rw [List.getD_eq_getElem?_getD, List.getElem?_append_right (by omega), show l.length + 1 - l.length = 1 by omega]; rfl
 ·rw [List.getD_eq_getElem?_getD, List.getElem?_append_right (Nat.le_refl _), Nat.sub_self]; rfl
theorem split1 {α : Type} {S : List α} (h : 1 ≤ S.length) : ∃ S0 A, S = S0 ++ [A] := by
 rcases List.eq_nil_or_concat S with rfl | ⟨S0, A, rfl⟩
 ·simp at h
 ·exact ⟨S0, A, by simp⟩
theorem split2 {α : Type} {S : List α} (h : 2 ≤ S.length) : ∃ S0 B A, S = S0 ++ [B, A] := by
 obtain ⟨S1, A, rfl⟩ := split1 (Nat.le_of_succ_le h)
 rw [List.length_append, List.length_singleton] at h
 obtain ⟨S0, B, rfl⟩ := split1 (S := S1) (by omega)
 exact ⟨S0, B, A, by simp⟩
theorem tr_sim {V : List Vr} {sh : List Int} {d : Nat → Int} (hN : 0 < sizeOf sh) : ∀ (X : List Ins) (S : List Ar), X.all insOk = true → X.all plainX = true → (∀ x ∈ X, putsX x = true → setX V x = true ∧ Fits sh (arrX V x)) →
 (∀ A ∈ S, Fits sh A) → runD X S.length = some 1 → (∀ p : Nat, (p : Int) < sizeOf sh → (cF V p X (S.map fun A => atM A p)).map (fun st => st.getD 0 0) = some (d p)) →
 (sh ≠ [] → (∃ A ∈ S, A.1 ≠ []) ∨ ∃ x ∈ X, putsX x = true ∧ (arrX V x).1 ≠ []) → ∃ r, Tr V X S r ∧ r.1 = sh ∧ okAr r = true ∧ ∀ p : Nat, (p : Int) < sizeOf sh → atM r p = d p
 | [], S, _, _, _, hS, hd, hc, hne => by
  rw [runD] at hd
  have h1 : S.length = 1 := Option.some.inj hd
  obtain ⟨S0, r, rfl⟩ := split1 (S := S) (by omega)
  have h0 : S0 = [] := List.length_eq_zero_iff.1 (by rw [List.length_append, List.length_singleton] at h1; omega)
  subst h0
  have hr := hS r (by simp)
  refine ⟨r, .nil r hr.1, ?_, hr.1, fun p hp => ?_⟩
  ·by_cases hs : sh = []
   ·rcases hr.2 with h | h
    ·rw [h, hs]
    ·exact h
   ·rcases hne hs with ⟨A, hA, hA2⟩ | ⟨x, hx, _⟩
    ·have : A = r := by simpa using hA
     subst this
     rcases hr.2 with h | h
     ·exact absurd h hA2
     ·exact h
    ·cases hx
  ·have := hc p hp
   rw [cF] at this
   simpa using this
 | x :: X, S, ho, hpl, hput, hS, hd, hc, hne => by
  rw [List.all_cons, Bool.and_eq_true] at ho hpl
  have hput' := fun y hy => hput y (List.mem_cons_of_mem _ hy)
  rw [runD] at hd
  rcases plain_cases hpl.1 ho.1 with ⟨a1, a2, a4, a5⟩ | ⟨a1, a2⟩ | ⟨a1, a2⟩
  ·rw [a2, if_pos (Nat.zero_le _)] at hd
   obtain ⟨p1, p2⟩ := hput x (List.mem_cons_self ..) a1
   obtain ⟨r, r1, r2⟩ := tr_sim hN X (S ++ [arrX V x]) ho.2 hpl.2 hput' (fun A hA => by
    rcases List.mem_append.1 hA with h | h
    ·exact hS A h
    ·rw [List.mem_singleton.1 h]; exact p2) (by rw [List.length_append, List.length_singleton]; exact hd) (fun p hp => by
    have := hc p hp
    rw [cF, stX, if_neg a4, if_neg a5] at this
    simpa using this) (fun hs => by
    rcases hne hs with ⟨A, hA, hA2⟩ | ⟨y, hy, hy2, hy3⟩
    ·exact .inl ⟨A, List.mem_append_left _ hA, hA2⟩
    ·rcases List.mem_cons.1 hy with rfl | hy
     ·exact .inl ⟨_, List.mem_append_right _ (List.mem_singleton.2 rfl), hy3⟩
     ·exact .inr ⟨y, hy, hy2, hy3⟩)
   exact ⟨r, .put x X S r a1 p1 p2.1 r1, r2⟩
  ·have hnp : putsX x = false := by simp [putsX, a1]
   rw [a2] at hd
   have hl : 1 ≤ S.length := by
    by_cases h : 1 ≤ S.length
    ·exact h
    ·rw [if_neg h] at hd; cases hd
   rw [if_pos hl] at hd
   obtain ⟨S0, A, rfl⟩ := split1 hl
   have hA := hS A (by simp)
   have hS0 : ∀ B ∈ S0, Fits sh B := fun B hB => hS B (List.mem_append_left _ hB)
   have key : ∀ p : Nat, (p : Int) < sizeOf sh → (oneN x.2.2.1.1 (atM A p)).2 = 0 ∧ (cF V p X (S0.map (fun A => atM A p) ++ [(oneN x.2.2.1.1 (atM A p)).1])).map (fun st => st.getD 0 0) = some (d p) := by
    intro p hp
    have := hc p hp
    obtain ⟨q1, q2, q3⟩ := snoc1 (S0.map fun A => atM A p) (atM A p)
    rw [cF, stX, if_pos a1, List.map_append, List.map_cons, List.map_nil, q1, q2, q3] at this
    by_cases h0 : (oneN x.2.2.1.1 (atM A p)).2 = 0
    ·rw [if_pos h0] at this; exact ⟨h0, this⟩
    ·rw [if_neg h0] at this; cases this
   obtain ⟨g1, g2, g3⟩ := one_sim hA hN fun p hp => (key p hp).1
   obtain ⟨r, r1, r2⟩ := tr_sim hN X (S0 ++ [oneA x.2.2.1.1 A]) ho.2 hpl.2 hput' (fun B hB => by
    rcases List.mem_append.1 hB with h | h
    ·exact hS0 B h
    ·rw [List.mem_singleton.1 h]; exact g2) (by
    rw [List.length_append, List.length_singleton] at hd ⊢
    rw [← hd]; congr 1) (fun p hp => by
    have := (key p hp).2
    rw [List.map_append, List.map_cons, List.map_nil, g3 p hp]; exact this) (fun hs => by
    rcases hne hs with ⟨B, hB, hB2⟩ | ⟨y, hy, hy2, hy3⟩
    ·rcases List.mem_append.1 hB with h | h
     ·exact .inl ⟨B, List.mem_append_left _ h, hB2⟩
     ·rw [List.mem_singleton.1 h] at hB2
      exact .inl ⟨_, List.mem_append_right _ (List.mem_singleton.2 rfl), hB2⟩
    ·rcases List.mem_cons.1 hy with rfl | hy
     ·rw [hnp] at hy2; cases hy2
     ·exact .inr ⟨y, hy, hy2, hy3⟩)
   exact ⟨r, .one x X S0 A r a1 hA.1 g1 r1, r2⟩
  ·have hnp : putsX x = false := by simp [putsX, a1]
   rw [a2] at hd
   have hl : 2 ≤ S.length := by
    by_cases h : 2 ≤ S.length
    ·exact h
    ·rw [if_neg h] at hd; cases hd
   rw [if_pos hl] at hd
   obtain ⟨S0, B, A, rfl⟩ := split2 hl
   have hA := hS A (by simp)
   have hB := hS B (by simp)
   have hS0 : ∀ B ∈ S0, Fits sh B := fun B hB => hS B (List.mem_append_left _ hB)
   have key : ∀ p : Nat, (p : Int) < sizeOf sh → (twoN x.2.2.1.1 (atM A p) (atM B p)).2 = 0 ∧ (cF V p X (S0.map (fun A => atM A p) ++ [(twoN x.2.2.1.1 (atM A p) (atM B p)).1])).map (fun st => st.getD 0 0) = some (d p) := by
    intro p hp
    have := hc p hp
    obtain ⟨q1, q2, q3, q4, q5⟩ := snoc2 (S0.map fun A => atM A p) (atM B p) (atM A p)
    rw [cF, stX, if_neg (by omega), if_pos a1, List.map_append, List.map_cons, List.map_cons, List.map_nil, q1, q2, q3, q4, q5] at this
    by_cases h0 : (twoN x.2.2.1.1 (atM A p) (atM B p)).2 = 0
    ·rw [if_pos h0] at this; exact ⟨h0, this⟩
    ·rw [if_neg h0] at this; cases this
   obtain ⟨g1, g2, g3, g4⟩ := two_sim hA hB hN fun p hp => (key p hp).1
   obtain ⟨r, r1, r2⟩ := tr_sim hN X (S0 ++ [twoA x.2.2.1.1 A B]) ho.2 hpl.2 hput' (fun C hC => by
    rcases List.mem_append.1 hC with h | h
    ·exact hS0 C h
    ·rw [List.mem_singleton.1 h]; exact g2) (by
    rw [List.length_append, List.length_singleton]
    rw [List.length_append, show ([B, A] : List Ar).length = 2 from rfl] at hd
    rw [← hd]; congr 1) (fun p hp => by
    have := (key p hp).2
    rw [List.map_append, List.map_cons, List.map_nil, g3 p hp]; exact this) (fun hs => by
    rcases hne hs with ⟨C, hC, hC2⟩ | ⟨y, hy, hy2, hy3⟩
    ·rcases List.mem_append.1 hC with h | h
     ·exact .inl ⟨C, List.mem_append_left _ h, hC2⟩
     ·refine .inl ⟨_, List.mem_append_right _ (List.mem_singleton.2 rfl), g4 ?_⟩
      have : C = B ∨ C = A := by simpa using h
      rcases this with rfl | rfl
      ·exact .inr hC2
      ·exact .inl hC2
    ·rcases List.mem_cons.1 hy with rfl | hy
     ·rw [hnp] at hy2; cases hy2
     ·exact .inr ⟨y, hy, hy2, hy3⟩)
   exact ⟨r, .two x X S0 A B r a1 hA.1 hB.1 g1 r1, r2⟩
theorem gF_some {V : List Vr} : ∀ {X : List Ins} {sh sh' : List Int}, gF V X sh = some sh' → sh' ≠ [] → sh ≠ [] ∨ ∃ x ∈ X, putsX x = true ∧ (arrX V x).1 ≠ []
 | [], sh, sh', h, hn => by cases h; exact .inl hn
 | x :: X, sh, sh', h, hn => by
  rw [gF] at h
  have lift : (sh ≠ [] ∨ ∃ y ∈ X, putsX y = true ∧ (arrX V y).1 ≠ []) → sh ≠ [] ∨ ∃ y ∈ x :: X, putsX y = true ∧ (arrX V y).1 ≠ [] := by
   rintro (h | ⟨y, hy, h⟩)
   ·exact .inl h
   ·exact .inr ⟨y, List.mem_cons_of_mem _ hy, h⟩
  split at h
  ·rename_i hp
   split at h
   ·cases h
   ·split at h
    ·exact lift (gF_some h hn)
    ·rename_i h1
     exact .inr ⟨x, List.mem_cons_self .., hp, h1⟩
  ·exact lift (gF_some h hn)
theorem datF_get {f : Nat → Option Int} : ∀ (m i : Nat) (d : List Int), datF f m i = some d → d.length = m ∧ ∀ j, j < m → f (i + j) = some (d.getD j 0)
 | 0, i, d, h => by cases h; exact ⟨rfl, fun j hj => by omega⟩
 | m + 1, i, d, h => by
  rw [datF] at h
  cases hf : f i with
  | none => rw [hf] at h; cases h
  | some v =>
   rw [hf] at h
   obtain ⟨d', h1, rfl⟩ := Option.map_eq_some_iff.1 h
   obtain ⟨l1, l2⟩ := datF_get m (i + 1) d' h1
   refine ⟨by rw [List.length_cons, l1], fun j hj => ?_⟩
   cases j with
   | zero => rw [Nat.add_zero, hf]; rfl
   | succ j =>
    have := l2 j (by omega)
    rw [show i + (j + 1) = i + 1 + j by omega, this]; rfl
/-- what is done at once is what its steps come to -/
theorem fuse_tr {V : List Vr} (hV : varsB V = true) {X : List Ins} (ho : X.all insOk = true) (hpl : X.all plainX = true) (hd : runD X 0 = some 1) {r : Ar} (h : fuseX V X = some r) : Tr V X [] r := by
 unfold fuseX at h
 cases hg : gF V X [] with
 | none => rw [hg] at h; cases h
 | some sh =>
  rw [hg] at h
  obtain ⟨d, h1, rfl⟩ := Option.map_eq_some_iff.1 h
  obtain ⟨d1, d2⟩ := datF_get _ _ _ h1
  have hput : ∀ x ∈ X, putsX x = true → setX V x = true ∧ Fits sh (arrX V x) := by
   intro x hx hp
   obtain ⟨s1, s2⟩ := gF_all hg x hx hp
   exact ⟨s1, arrX_ok hV (List.all_eq_true.1 ho x hx) hp s1, s2.imp id (·.1)⟩
  have hne : sh ≠ [] → ∃ x ∈ X, putsX x = true ∧ (arrX V x).1 ≠ [] := fun hs => by
   rcases gF_some hg hs with h | h
   ·exact absurd rfl h
   ·exact h
  have hN : 0 < sizeOf sh := by
   by_cases hs : sh = []
   ·rw [hs]; decide
   ·obtain ⟨x, hx, hp, h1⟩ := hne hs
    obtain ⟨s1, s2⟩ := gF_all hg x hx hp
    have hk := (okAr_len (hput x hx hp).2.1).1
    rcases s2 with s2 | ⟨s2, s3⟩
    ·exact absurd s2 h1
    ·rw [s2] at hk
     have := List.length_pos_iff.2 s3
     omega
  obtain ⟨r, r1, r2, r3, r4⟩ := tr_sim (d := fun p => d.getD p 0) hN X [] ho hpl hput (by simp) hd (fun p hp => by
   have := d2 p (by omega)
   rw [Nat.zero_add] at this
   exact this) (fun hs => .inr (hne hs))
  have hr := (okAr_len r3).1
  have e : r = (sh, d) := by
   refine Prod.ext r2 (List.ext_getElem (by rw [r2] at hr; show r.2.length = d.length; omega) fun j h1 h2 => ?_)
   rw [r2] at hr
   have := r4 j (by omega)
   rw [getD_of' h2] at this
   unfold atM at this
   split at this
   ·rename_i h0
    rw [← r2, h0, size0] at hr
    have hj : j = 0 := by omega
    subst hj
    rwa [getD_of' h1] at this
   ·rwa [getD_of' h1] at this
  rw [e] at r1
  exact r1
theorem set_mid (f : Int → Int) (l : List Int) {i : Nat} (hi : i < l.length) : ((l.take i).map f ++ l.drop i).set i (f (l.getD i 0)) = (l.take (i + 1)).map f ++ l.drop (i + 1) := by
 have hk : ((l.take i).map f).length = i := by rw [List.length_map, List.length_take]; omega
 rw [drop_cons 0 hi, List.set_append_right _ _ (by omega), hk, Nat.sub_self, List.set_cons_zero, ← map_snoc f l 0 hi, List.append_assoc]; rfl
theorem eachOneI {s : Int} {A : Ar} (h : okAr A = true) (hs : sg1 s = true) (hg : GoOne s A) (R : List Int → List Int → Int → Option Res) : impl_EachOne.g s A.1 A.2 R = R (oneA s A).1 (oneA s A).2 0 := by
 have hf := arrOk_facts h
 have hok : arrOk A.1 A.2 = true := h
 simp only [impl_EachOne.e, impl_EachOne.b, arrayOkI _ _ (by omega : A.2.length ≤ 9223372036854775807), hok, Bool.not_true, cond_false, oneSignI, hs, copyA _ _ (by omega : A.1.length ≤ 2000000) (by omega : A.2.length ≤ 2000000)]
 have := up0 (N := A.2.length) (P := fun n i => impl_EachOne.l0 s A.2 (A.2.length : Int) A.1 (fun y14 => R A.1 y14 0) R n (i : Int) ((A.2.take i).map (fun x => (oneN s x).1) ++ A.2.drop i) = R A.1 (A.2.map fun x => (oneN s x).1) 0) (by omega) ?_ ?_ 0 (by omega)
 ·have t := this
  simp at t
  exact t
 ·intro n; simp only [impl_EachOne.l0, impl_EachOne.l0s, ixe, cond_false, List.take_length, List.drop_length, List.append_nil]
 ·intro n i hi ih
  have h0 : ((oneN s (A.2.getD i 0)).2 != 0) = false := by rw [hg i hi]; rfl
  have hk : decide ((i : Int) < (((A.2.take i).map (fun x => (oneN s x).1) ++ A.2.drop i).length : Int)) = true := by
   rw [List.length_append, List.length_map, List.length_take, List.length_drop, decide_eq_true_eq]; omega
  simp only [impl_EachOne.l0, impl_EachOne.l0s, ixl hi, ix0, Bool.and_self, cond_true, Int.toNat_natCast, oneI, h0, cond_false, hk, ixw (by omega : i < 9223372036854775807)]
  rw [set_mid (fun x => (oneN s x).1) A.2 hi]
  exact ih
theorem fitI {A B : Ar} (hA : okAr A = true) (hB : okAr B = true) (h : A.1 = [] ∨ B.1 = [] ∨ A.1 = B.1) (R : List Int → Int → Option Res) : impl_Fit.g A.1 A.2 B.1 B.2 R = R (shT A B) 0 := by
 have fA := arrOk_facts hA
 have fB := arrOk_facts hB
 have oA : arrOk A.1 A.2 = true := hA
 have oB : arrOk B.1 B.2 = true := hB
 have e1 : decide (A.1.length * 8 ≤ 140737488355328) = true := by simp; omega
 have e2 : decide (B.1.length * 8 ≤ 140737488355328) = true := by simp; omega
 simp only [impl_Fit.e, impl_Fit.b, e1, e2, cond_true, arrayOkI _ _ (by omega : A.2.length ≤ 9223372036854775807), arrayOkI _ _ (by omega : B.2.length ≤ 9223372036854775807), oA, oB, Bool.not_true, cond_false, z0, shT]
 by_cases a0 : A.1 = []
 ·rw [decide_eq_true a0, cond_true, if_pos a0]
 ·rw [decide_eq_false a0, cond_false, if_neg a0]
  by_cases b0 : B.1 = []
  ·rw [decide_eq_true b0, cond_true]
  ·rw [decide_eq_false b0, cond_false]
   have e : A.1 = B.1 := by
    rcases h with h | h | h
    ·exact absurd h a0
    ·exact absurd h b0
    ·exact h
   rw [← e, bne_self_eq_false, cond_false, equalI A.1 A.1 (by omega)]
   simp
theorem eachTwoI {s : Int} {A B : Ar} (hA : okAr A = true) (hB : okAr B = true) (hs : sg2 s = true) (hg : GoTwo s A B) (R : List Int → List Int → Int → Option Res) : impl_EachTwo.g s A.1 A.2 B.1 B.2 R = R (twoA s A B).1 (twoA s A B).2 0 := by
 have z1 : ((0 : Int) == 1) = false := by decide
 have z2 : ((0 : Int) != 0) = false := by decide
 obtain ⟨lA, _⟩ := okAr_len hA
 obtain ⟨lB, _⟩ := okAr_len hB
 have hsz := sizeOf_le (shT A B)
 simp only [impl_EachTwo.e, impl_EachTwo.b, fitI hA hB hg.1, z1, z2, cond_false, twoSignI, hs, Bool.not_true]
 have := up0 (N := (sizeOf (shT A B)).toNat) (P := fun n i => impl_EachTwo.l0 s (shT A B) A.1 A.2 B.1 B.2 (fun y22 => R (shT A B) y22 0) R n (i : Int) ((List.range i).map fun j => (twoN s (atM A j) (atM B j)).1) = R (shT A B) ((List.range (sizeOf (shT A B)).toNat).map fun j => (twoN s (atM A j) (atM B j)).1) 0) (by omega) ?_ ?_ 0 (by omega)
 ·exact this
 ·intro n
  simp only [impl_EachTwo.l0, impl_EachTwo.l0s, sizeOfI, size_toNat, Nat.lt_irrefl, decide_false, cond_false]
 ·intro n i hi ih
  have a1 : A.1 = [] → 0 < A.2.length := fun h => by rw [h, size0] at lA; omega
  have a2 : A.1 ≠ [] → i < A.2.length := fun h => by
   have : shT A B = A.1 := if_neg h
   rw [this] at hi; omega
  have b1 : B.1 = [] → 0 < B.2.length := fun h => by rw [h, size0] at lB; omega
  have b2 : B.1 ≠ [] → i < B.2.length := fun h => by
   have : shT A B = B.1 := by
    unfold shT
    by_cases a0 : A.1 = []
    ·rw [if_pos a0]
    ·rw [if_neg a0]
     rcases hg.1 with g | g | g
     ·exact absurd g a0
     ·exact absurd g h
     ·exact g
   rw [this] at hi; omega
  have h0 : ((twoN s (atM A i) (atM B i)).2 != 0) = false := by rw [hg.2 i hi]; rfl
  have hk : decide ((((List.range i).map fun j => (twoN s (atM A j) (atM B j)).1).length + 1) * 8 ≤ 140737488355328) = true := by simp; omega
  simp only [impl_EachTwo.l0, impl_EachTwo.l0s, sizeOfI, size_toNat, hi, decide_true, cond_true, atI _ _ _ a1 a2, atI _ _ _ b1 b2, twoI, h0, cond_false, hk, ixw (by omega : i < 9223372036854775807)]
  rw [List.range_succ, List.map_append] at ih
  exact ih
theorem sg1_of {v : Int} (h : sg1 v = true) : v = 43 ∨ v = 45 ∨ v = 42 ∨ v = 124 ∨ v = 126 := by simpa [sg1] using h
theorem sg2_of {v : Int} (h : sg2 v = true) : v = 43 ∨ v = 45 ∨ v = 42 ∨ v = 37 ∨ v = 124 ∨ v = 38 ∨ v = 94 ∨ v = 61 ∨ v = 60 ∨ v = 62 := by simpa [sg2] using h
theorem doOneI {s w : Int} {A : Ar} (h : okAr A = true) (hs : sg1 s = true) (ho : o1F (s, 0, w) = true) (hg : GoOne s A) (R : List Int → List Int → Int → Option Res) : impl_DoOne.g s 0 w A.1 A.2 R = R (oneA s A).1 (oneA s A).2 0 := by
 simp only [impl_DoOne.e, impl_DoOne.b, funOneI, ho, Bool.not_true, cond_false, eachOneI h hs hg]
 rcases sg1_of hs with rfl | rfl | rfl | rfl | rfl <;> rfl
theorem doTwoI {s w : Int} {A B : Ar} (hA : okAr A = true) (hB : okAr B = true) (hs : sg2 s = true) (ho : o2F (s, 0, w) = true) (hg : GoTwo s A B) (R : List Int → List Int → Int → Option Res) : impl_DoTwo.g s 0 w A.1 A.2 B.1 B.2 R = R (twoA s A B).1 (twoA s A B).2 0 := by
 simp only [impl_DoTwo.e, impl_DoTwo.b, funTwoI, ho, Bool.not_true, cond_false, eachTwoI hA hB hs hg]
 rcases sg2_of hs with rfl | rfl | rfl | rfl | rfl | rfl | rfl | rfl | rfl | rfl <;> rfl
theorem snocA1 (S : List Ar) (A : Ar) : (S ++ [A]).getD S.length ([], []) = A := by
 rw [List.getD_eq_getElem?_getD, List.getElem?_append_right (Nat.le_refl _), Nat.sub_self]; rfl
theorem snocA2 (S : List Ar) (B A : Ar) : (S ++ [B, A]).getD (S.length + 1) ([], []) = A ∧ (S ++ [B, A]).getD S.length ([], []) = B := by
 refine ⟨?_, ?_⟩
 ·rw [List.getD_eq_getElem?_getD, List.getElem?_append_right (by omega), show S.length + 1 - S.length = 1 by omega]; rfl
 ·rw [List.getD_eq_getElem?_getD, List.getElem?_append_right (Nat.le_refl _), Nat.sub_self]; rfl
theorem doneP {V : List Vr} (hV : varsB V = true) {x : Ins} (hx : insOk x = true) (hxn : x.2.2.2.length ≤ 2000000) (hp : putsX x = true) (hs : setX V x = true) (T : List (List Cl)) (R : List Int → List Int → Int → Option Res) :
 impl_done.g x.1 x.2.1 x.2.2.1.1 x.2.2.1.2.1 x.2.2.1.2.2 x.2.2.2 T (V.map mkV) R = R (arrX V x).1 (arrX V x).2 0 := by
 have hl26 : V.length = 26 := by unfold varsB at hV; simp only [Bool.and_eq_true, decide_eq_true_eq] at hV; exact hV.1
 simp only [impl_done.e, impl_done.b, numsI _ hxn, List.length_map]
 by_cases h1 : x.1 = 1
 ·rw [cd_t (by simpa using h1), arrX, if_pos h1]
 ·have h2 : x.1 = 2 := by simpa [putsX, h1] using hp
  obtain ⟨k, hk, hk2⟩ := ins_letter hx h2
  have hkV : k < V.length := by omega
  have hs' : (V.getD k dV).1 = true := by
   have e1 : (x.1 == 1) = false := by simpa using h1
   rw [setX, e1, hk, Int.toNat_natCast, Bool.false_or] at hs; exact hs
  rw [cd_f (by simpa using h1), cd_t (by simpa using h2)]
  simp only [hk, Int.toNat_natCast, ix0, ixl hkV, Bool.and_self, cond_true, getV hkV, mkV_0, mkV_1, mkV_2, hs', Bool.not_true, cond_false, arrX, if_neg h1]
theorem done1 {V : List Vr} {x : Ins} (hx : insOk x = true) (hp : plainX x = true) (h4 : x.1 = 4) {S : List Ar} (hS : S.length ≤ 1000) {A : Ar} (hA : okAr A = true) (hg : GoOne x.2.2.1.1 A) (R : List Int → List Int → Int → Option Res) :
 impl_done.g x.1 x.2.1 x.2.2.1.1 x.2.2.1.2.1 x.2.2.1.2.2 x.2.2.2 ((S ++ [A]).map mkA) (V.map mkV) R = R (oneA x.2.2.1.1 A).1 (oneA x.2.2.1.1 A).2 0 := by
 obtain ⟨k, a, ⟨s, o, w⟩, xs⟩ := x
 simp only at h4
 subst h4
 have hs : ((o == 0) && sg1 s) = true := hp
 simp only [Bool.and_eq_true, beq_iff_eq] at hs
 obtain ⟨rfl, hs⟩ := hs
 have hx : ((a == 0) && (o1F (s, 0, w) && xs.isEmpty)) = true := hx
 simp only [Bool.and_eq_true] at hx
 have hn : (S ++ [A]).length = S.length + 1 := by rw [List.length_append]; rfl
 have w1 : IntKind.i64.wrap (((S.length + 1 : Nat) : Int) - 1) = (S.length : Int) := by rw [w64 (by omega)]; omega
 have e1 : decide ((S.length : Int) < ((S.length + 1 : Nat) : Int)) = true := by rw [decide_eq_true_eq]; omega
 have hg2 : ((S ++ [A]).map mkA).getD S.length [] = mkA A := by rw [getA (by omega), snocA1]
 simp only [impl_done.e, impl_done.b]
 rw [cd_f (by decide), cd_f (by decide), cd_f (by decide), cd_t (by decide), List.length_map, hn, w1, ix0, e1, Bool.and_self, cond_true, Int.toNat_natCast, hg2, mkA_0, mkA_1, doOneI hA hs hx.2.1 hg]
theorem done2 {V : List Vr} {x : Ins} (hx : insOk x = true) (hp : plainX x = true) (h5 : x.1 = 5) {S : List Ar} (hS : S.length ≤ 1000) {A B : Ar} (hA : okAr A = true) (hB : okAr B = true) (hg : GoTwo x.2.2.1.1 A B) (R : List Int → List Int → Int → Option Res) :
 impl_done.g x.1 x.2.1 x.2.2.1.1 x.2.2.1.2.1 x.2.2.1.2.2 x.2.2.2 ((S ++ [B, A]).map mkA) (V.map mkV) R = R (twoA x.2.2.1.1 A B).1 (twoA x.2.2.1.1 A B).2 0 := by
 obtain ⟨k, a, ⟨s, o, w⟩, xs⟩ := x
 simp only at h5
 subst h5
 have hs : ((o == 0) && sg2 s) = true := hp
 simp only [Bool.and_eq_true, beq_iff_eq] at hs
 obtain ⟨rfl, hs⟩ := hs
 have hx : ((a == 0) && (o2F (s, 0, w) && xs.isEmpty)) = true := hx
 simp only [Bool.and_eq_true] at hx
 have hn : (S ++ [B, A]).length = S.length + 2 := by rw [List.length_append]; rfl
 have w1 : IntKind.i64.wrap (((S.length + 2 : Nat) : Int) - 1) = ((S.length + 1 : Nat) : Int) := by rw [w64 (by omega)]; omega
 have w2 : IntKind.i64.wrap (((S.length + 2 : Nat) : Int) - 2) = (S.length : Int) := by rw [w64 (by omega)]; omega
 have e1 : decide (((S.length + 1 : Nat) : Int) < ((S.length + 2 : Nat) : Int)) = true := by rw [decide_eq_true_eq]; omega
 have e2 : decide ((S.length : Int) < ((S.length + 2 : Nat) : Int)) = true := by rw [decide_eq_true_eq]; omega
 obtain ⟨s1, s2⟩ := snocA2 S B A
 have hg1 : ((S ++ [B, A]).map mkA).getD (S.length + 1) [] = mkA A := by rw [getA (by omega), s1]
 have hg2 : ((S ++ [B, A]).map mkA).getD S.length [] = mkA B := by rw [getA (by omega), s2]
 simp only [impl_done.e, impl_done.b]
 rw [cd_f (by decide), cd_f (by decide), cd_f (by decide), cd_f (by decide), List.length_map, hn, w1, w2, ix0, ix0, e1, e2, Bool.and_self, cond_true, cond_true, Int.toNat_natCast, Int.toNat_natCast, hg1, hg2, mkA_0, mkA_1, mkA_0, mkA_1, doTwoI hA hB hs hx.2.1 hg]
/-- steps that go well, run by the machine -/
theorem trI {L : List Ins} {V : List Vr} (hc : codeB L = true) (hl : L.length ≤ 60) (hn : NumsX 2000000 L) (hv : varsB V = true) (hvl : V.length ≤ 2000000) (hvn : NumsV 2000000 V) (hpl : L.all plainX = true) (ho : L.all insOk = true)
 (k : List (List Cl) → List (List Cl) → Int → Int → Int → Option Res) {X : List Ins} {S : List Ar} {r : Ar} (h : Tr V X S r) : ∀ (i st n : Nat), L.drop i = X → i ≤ L.length → DepAt L i S.length → S.length ≤ i → S.all (fun A => arrOk A.1 A.2) = true → X.length ≤ st → st ≤ 1000 → X.length < n →
  impl_Run.l0 (L.map mkX) (V.map mkV) k n (S.map mkA) (V.map mkV) (i : Int) (st : Int) 0 = k [mkA r] (V.map mkV) (L.length : Int) ((st - X.length : Nat) : Int) 0 := by
 have z0 : ((0 : Int) == 0) = true := by decide
 have hd : ∀ {x : Ins} {X : List Ins} {i : Nat}, L.drop i = x :: X → i < L.length ∧ L.getD i dX = x ∧ L.drop (i + 1) = X := by
  intro x X i h
  have hi : i < L.length := by
   by_cases hc : i < L.length
   ·exact hc
   ·rw [List.drop_eq_nil_of_le (by omega)] at h; cases h
  rw [drop_cons dX hi] at h
  obtain ⟨h1, h2⟩ := List.cons.inj h
  exact ⟨hi, h1, h2⟩
 have mem : ∀ {i : Nat}, i < L.length → L.getD i dX ∈ L := fun {i} hi => by rw [List.getD_eq_getElem?_getD, List.getElem?_eq_getElem hi]; exact List.getElem_mem hi
 -- one step, and the rest of them
 have go : ∀ (i st n : Nat) (S S' : List Ar) (A : Ar) (x : Ins) (X : List Ins), L.drop i = x :: X → DepAt L i S.length → S.length ≤ i → S.all (fun A => arrOk A.1 A.2) = true → okAr A = true → x.1 ≠ 3 → takesX x ≤ S.length → S.take (S.length - takesX x) ++ [A] = S' →
  (∀ R, impl_done.g x.1 x.2.1 x.2.2.1.1 x.2.2.1.2.1 x.2.2.1.2.2 x.2.2.2 (S.map mkA) (V.map mkV) R = R A.1 A.2 0) → st + 1 ≤ 1000 →
  impl_Run.l0 (L.map mkX) (V.map mkV) k (n + 1) (S.map mkA) (V.map mkV) (i : Int) ((st + 1 : Nat) : Int) 0 = impl_Run.l0 (L.map mkX) (V.map mkV) k n (S'.map mkA) (V.map mkV) ((i + 1 : Nat) : Int) (st : Int) 0 ∧ DepAt L (i + 1) S'.length ∧ S'.length ≤ i + 1 ∧ S'.all (fun A => arrOk A.1 A.2) = true := by
  intro i st n S S' A x X hX hdp hsl hso hA h3 ht hS' hdone hst
  obtain ⟨hi, hx, _⟩ := hd hX
  have at' : At L V i S := ⟨hc, hl, hn, hv, hvl, hvn, hi, hdp, by omega, hso⟩
  rw [← hx] at h3 ht hdone hS'
  have hlen : S'.length = S.length - takesX (L.getD i dX) + 1 := by rw [← hS', List.length_append, List.length_take]; simp
  refine ⟨?_, ?_, ?_, ?_⟩
  ·simp only [impl_Run.l0, impl_Run.l0s, z0, cond_true, List.length_map, ixl hi]
   rw [stepI at' st (by omega) A hA h3 ht hdone, hS']
  ·rw [hlen]; exact depS hdp hi
  ·omega
  ·rw [← hS', List.all_append, Bool.and_eq_true]
   exact ⟨List.all_eq_true.2 fun B hB => List.all_eq_true.1 hso B (List.mem_of_mem_take hB), by rw [List.all_cons, List.all_nil, Bool.and_true]; exact hA⟩
 induction h with
 | nil r hr =>
  intro i st n hX hi hdp hsl hso hst hst2 hn'
  have hiL : i = L.length := by
   have := congrArg List.length hX
   rw [List.length_drop, List.length_nil] at this
   omega
  subst hiL
  obtain ⟨n, rfl⟩ : ∃ m, n = m + 1 := ⟨n - 1, by omega⟩
  simp only [impl_Run.l0, impl_Run.l0s, z0, cond_true, List.length_map, ixe, cond_false]
  rfl
 | put x X S r hp hs hA _ ih =>
  intro i st n hX hi hdp hsl hso hst hst2 hn'
  obtain ⟨hi', hx, hX'⟩ := hd hX
  have hxo : insOk x = true := hx ▸ List.all_eq_true.1 ho _ (mem hi')
  have hxn : x.2.2.2.length ≤ 2000000 := hx ▸ hn.at hi'
  have ht : takesX x = 0 := by
   have hpx : plainX x = true := hx ▸ List.all_eq_true.1 hpl _ (mem hi')
   rcases plain_cases hpx hxo with ⟨_, a2, _⟩ | ⟨a1, _⟩ | ⟨a1, _⟩
   ·exact a2
   ·simp [putsX, a1] at hp
   ·simp [putsX, a1] at hp
  have h3 : x.1 ≠ 3 := by
   intro h
   simp [putsX, h] at hp
  rw [List.length_cons] at hst hn'
  obtain ⟨st, rfl⟩ : ∃ m, st = m + 1 := ⟨st - 1, by omega⟩
  obtain ⟨n, rfl⟩ : ∃ m, n = m + 1 := ⟨n - 1, by omega⟩
  obtain ⟨g1, g2, g3, g4⟩ := go i st n S (S ++ [arrX V x]) (arrX V x) x X hX hdp hsl hso hA h3 (by omega) (by rw [ht, Nat.sub_zero, List.take_length]) (doneP hv hxo hxn hp hs (S.map mkA)) (by omega)
  rw [g1, ih (i + 1) st n hX' (by omega) g2 g3 g4 (by omega) (by omega) (by omega), List.length_cons, show st + 1 - (X.length + 1) = st - X.length by omega]
 | one x X S A r h4 hA hg _ ih =>
  intro i st n hX hi hdp hsl hso hst hst2 hn'
  obtain ⟨hi', hx, hX'⟩ := hd hX
  have hxo : insOk x = true := hx ▸ List.all_eq_true.1 ho _ (mem hi')
  have hpx : plainX x = true := hx ▸ List.all_eq_true.1 hpl _ (mem hi')
  have ht : takesX x = 1 := by unfold takesX; rw [h4]; rfl
  have hlen : (S ++ [A]).length = S.length + 1 := by rw [List.length_append]; rfl
  rw [List.length_cons] at hst hn'
  obtain ⟨st, rfl⟩ : ∃ m, st = m + 1 := ⟨st - 1, by omega⟩
  obtain ⟨n, rfl⟩ : ∃ m, n = m + 1 := ⟨n - 1, by omega⟩
  obtain ⟨g1, g2, g3, g4⟩ := go i st n (S ++ [A]) (S ++ [oneA x.2.2.1.1 A]) (oneA x.2.2.1.1 A) x X hX hdp hsl hso (oneA_ok hA hg) (by omega) (by omega) (by rw [ht, hlen, Nat.add_sub_cancel, List.take_left]) (done1 hxo hpx h4 (by omega) hA hg) (by omega)
  rw [g1, ih (i + 1) st n hX' (by omega) g2 g3 g4 (by omega) (by omega) (by omega), List.length_cons, show st + 1 - (X.length + 1) = st - X.length by omega]
 | two x X S A B r h5 hA hB hg _ ih =>
  intro i st n hX hi hdp hsl hso hst hst2 hn'
  obtain ⟨hi', hx, hX'⟩ := hd hX
  have hxo : insOk x = true := hx ▸ List.all_eq_true.1 ho _ (mem hi')
  have hpx : plainX x = true := hx ▸ List.all_eq_true.1 hpl _ (mem hi')
  have ht : takesX x = 2 := by unfold takesX; rw [h5]; rfl
  have hlen : (S ++ [B, A]).length = S.length + 2 := by rw [List.length_append]; rfl
  rw [List.length_cons] at hst hn'
  obtain ⟨st, rfl⟩ : ∃ m, st = m + 1 := ⟨st - 1, by omega⟩
  obtain ⟨n, rfl⟩ : ∃ m, n = m + 1 := ⟨n - 1, by omega⟩
  obtain ⟨g1, g2, g3, g4⟩ := go i st n (S ++ [B, A]) (S ++ [twoA x.2.2.1.1 A B]) (twoA x.2.2.1.1 A B) x X hX hdp hsl hso (twoA_ok hA hB hg) (by omega) (by omega) (by rw [ht, hlen, Nat.add_sub_cancel, List.take_left]) (done2 hxo hpx h5 (by omega) hA hB hg) (by omega)
  rw [g1, ih (i + 1) st n hX' (by omega) g2 g3 g4 (by omega) (by omega) (by omega), List.length_cons, show st + 1 - (X.length + 1) = st - X.length by omega]
/-- the machine comes to what plain steps come to -/
theorem runF {L : List Ins} {V : List Vr} (hc : codeB L = true) (hn : NumsX 2000000 L) (hv : varsB V = true) (hvl : V.length ≤ 2000000) (hvn : NumsV 2000000 V) (hpl : L.all plainX = true) {r : Ar} (h : Tr V L [] r) (R : List Int → List Int → List (List Cl) → Int → Int → Option Res) :
 impl_Run.g (L.map mkX) (V.map mkV) 100 R = R r.1 r.2 (V.map mkV) 0 ((100 - L.length : Nat) : Int) := by
 have hl : L.length ≤ 60 := by
  have := hc
  unfold codeB at this
  simp only [Bool.and_eq_true, decide_eq_true_eq] at this
  exact this.1.1.2
 refine runE L V hc hv hl hn hvl hvn (100 - L.length) r (fun k => ?_) R
 exact trI hc hl hn hv hvl hvn hpl (code_all hc) k h 0 100 fuel rfl (Nat.zero_le _) (dep0 L) (Nat.le_refl _) rfl (by omega) (by omega) (by rw [fuel_eq]; omega)
theorem gF_len {V : List Vr} (hV : varsB V = true) : ∀ (X : List Ins) (sh s : List Int), (∀ x ∈ X, insOk x = true) → gF V X sh = some s → sh.length ≤ 3 → s.length ≤ 3
 | [], sh, s, _, h, hl => by cases h; exact hl
 | x :: X, sh, s, hX, h, hl => by
  rw [gF] at h
  have hx := hX x (List.mem_cons_self ..)
  have hX' := fun y hy => hX y (List.mem_cons_of_mem _ hy)
  split at h
  ·rename_i hp
   split at h
   ·cases h
   ·rename_i h0
    split at h
    ·exact gF_len hV _ _ _ hX' h hl
    ·split at h
     ·cases h
     ·exact gF_len hV _ _ _ hX' h (ar_len hV hx hp (by simpa using h0))
  ·exact gF_len hV _ _ _ hX' h hl
theorem datF_len {f : Nat → Option Int} : ∀ (m i : Nat) (d : List Int), datF f m i = some d → d.length = m
 | 0, _, d, h => by cases h; rfl
 | m + 1, i, d, h => by
  rw [datF] at h
  cases hf : f i with
  | none => rw [hf] at h; cases h
  | some v =>
   rw [hf] at h
   obtain ⟨d', h1, rfl⟩ := Option.map_eq_some_iff.1 h
   rw [List.length_cons, datF_len m _ _ h1]
theorem fuse_len {L : List Ins} {V : List Vr} {a b : Int} {A : Ar} (h : fuseM L V a b = some A) : A.1.length ≤ 3 ∧ A.2.length ≤ 300 := by
 unfold fuseM at h
 split at h
 ·rename_i hc
  obtain ⟨hV, hc⟩ := hc
  obtain ⟨s, hs, _⟩ := List.any_eq_true.1 hc
  have ho := code_all (span_mem hs).1
  unfold fuseX at h
  cases hg : gF V ((L.drop a.toNat).take (b.toNat - a.toNat)) [] with
  | none => rw [hg] at h; cases h
  | some sh =>
   rw [hg] at h
   obtain ⟨d, h1, rfl⟩ := Option.map_eq_some_iff.1 h
   have := datF_len _ _ _ h1
   have := sizeOf_le sh
   exact ⟨gF_len hV _ _ _ (fun x hx => List.all_eq_true.1 ho x (List.mem_of_mem_drop (List.mem_of_mem_take hx))) hg (by simp), by show d.length ≤ 300; omega⟩
 ·cases h
theorem repV : (List.replicate 26 [Cl.b false, .l [], .l []] : List (List Cl)) = (List.replicate 26 dV).map mkV := by rw [List.map_replicate]; rfl
theorem NumsV.set {M : Nat} {L : List Vr} (h : NumsV M L) (i : Nat) (x : Vr) (hx : vsz x ≤ M) : NumsV M (L.set i x) := fun y hy => by
 rcases List.mem_or_eq_of_mem_set hy with hy | rfl
 ·exact h y hy
 ·exact hx
theorem newV : NumsV 400 (List.replicate 26 dV) := fun v hv => by
 rw [List.eq_of_mem_replicate hv]; decide
theorem arr_vsz {sh d : List Int} (h : arrOk sh d = true) (b : Bool) : vsz (b, sh, d) ≤ 400 := by
 obtain ⟨g1, g2, g3, g4, _⟩ := arrOk_facts h
 show sh.length + d.length ≤ 400; omega
theorem dVars (a : List Int) (i s : Int) (hi : Cu a i) : ∃ (W : List Vr) (i' s' : Int), (∀ R, spec_l10DrawVars.g a i s R = R (W.map mkV) a i' s') ∧ Cu a i' ∧ W.length = 26 ∧ NumsV 400 W := by
 simp only [spec_l10DrawVars.e, spec_l10DrawVars.b, spec_VarsNew.e, spec_VarsNew.b, repV]
 have := up0 (N := 3) (P := fun n j => ∀ (Z : List Vr) (i s : Int), Cu a i → Z.length = 26 → NumsV 400 Z → ∃ (W : List Vr) (i' s' : Int), (∀ k : List (List Cl) → List Int → Int → Int → Option Res, spec_l10DrawVars.l0 k n (j : Int) (Z.map mkV) a i s = k (W.map mkV) a i' s') ∧ Cu a i' ∧ W.length = 26 ∧ NumsV 400 W) (by omega) ?_ ?_ 0 (by omega) (List.replicate 26 dV) i s hi (by simp) newV
 ·obtain ⟨W, i1, s1, h1, c1, hl, hn⟩ := this
  obtain ⟨r, i2, s2, h2, c2⟩ := dOnce 2 (by decide) a i1 s1 c1
  have h1' : ∀ k : List (List Cl) → List Int → Int → Int → Option Res, spec_l10DrawVars.l0 k fuel 0 ((List.replicate 26 dV).map mkV) a i s = k (W.map mkV) a i1 s1 := h1
  simp only [h1', h2]
  cases r with
  | false => exact ⟨W, i2, s2, fun R => rfl, c2, hl, hn⟩
  | true =>
   have sh3 : shOk [3] := by refine ⟨by decide, by decide, by decide⟩
   obtain ⟨d1, i3, s3, h3, c3, ok1⟩ := dFill [3] a sh3 i2 s2 c2
   obtain ⟨d2, i4, s4, h4, c4, ok2⟩ := dFill [3] a sh3 i3 s3 c3
   refine ⟨(W.set 1 (true, [3], d1)).set 0 (true, [3], d2), i4, s4, fun R => ?_, c4, by simp [hl], (hn.set _ _ (arr_vsz ok1 true)).set _ _ (arr_vsz ok2 true)⟩
   simp only [cond_true, h3, List.length_map, List.length_set, h4, hl]
   rw [cd_t (by decide), cd_t (by decide)]
   rw [List.map_set, List.map_set]; rfl
 ·intro n Z i s hi hl hn
  refine ⟨Z, i, s, fun k => ?_, hi, hl, hn⟩
  have : decide (((3 : Nat) : Int) < 3) = false := by decide
  simp only [spec_l10DrawVars.l0, spec_l10DrawVars.l0s, this, cond_false]
 ·intro n j hj ih Z i s hi hl hn
  obtain ⟨r, i1, s1, h1, c1⟩ := dOnce 5 (by decide) a i s hi
  have e3 : decide ((j : Int) < 3) = true := by simp; omega
  have ew : IntKind.i64.wrap ((j : Int) + 1) = ((j + 1 : Nat) : Int) := ixw (by omega)
  have hjz : decide ((j : Int) < ((Z.map mkV).length : Int)) = true := by simp; omega
  simp only [spec_l10DrawVars.l0, spec_l10DrawVars.l0s, e3, cond_true, h1, ew, hjz, ix0, Bool.and_self, Int.toNat_natCast]
  cases r with
  | true =>
   obtain ⟨W, i', s', g1, g2⟩ := ih Z i1 s1 c1 hl hn
   exact ⟨W, i', s', g1, g2⟩
  | false =>
   obtain ⟨sh, d, i2, s2, h2, c2, ok, _⟩ := dArr a i1 s1 c1
   obtain ⟨W, i', s', g1, g2⟩ := ih (Z.set j (true, sh, d)) i2 s2 c2 (by simp [hl]) (hn.set _ _ (arr_vsz ok true))
   refine ⟨W, i', s', fun k => ?_, g2⟩
   simp only [Bool.not_false, cond_true, h2]
   rw [← g1 k, List.map_set]; rfl
theorem dVarsAny (a : List Int) (i s : Int) (hi : Cu a i) : ∃ (W : List Vr) (i' s' : Int), (∀ R, spec_l10DrawAny.g a i s R = R (W.map mkV) a i' s') ∧ Cu a i' ∧ W.length ≤ 26 ∧ NumsV 400 W := by
 obtain ⟨W, i1, s1, h1, c1, hl, hn⟩ := dVars a i s hi
 obtain ⟨r, i2, s2, h2, c2, hr⟩ := dBelow 30 (by decide) a i1 s1 c1
 have m0 : (0 : Nat) < W.length := by omega
 have m1 : (1 : Nat) < W.length := by omega
 simp only [spec_l10DrawAny.e, spec_l10DrawAny.b, h1, h2, List.length_map, hl]
 by_cases q0 : r = 0
 ·refine ⟨W.drop 1, i2, s2, fun R => ?_, c2, by rw [List.length_drop]; omega, fun v hv => hn v (List.mem_of_mem_drop hv)⟩
  rw [cd_t (by simpa using q0), cd_t (by decide), List.map_drop, List.take_of_length_le (by simp [hl])]
 have e0 : (r == 0) = false := by simpa using q0
 by_cases q1 : r = 1
 ·have e1 : (r == 1) = true := by simpa using q1
  refine ⟨W.set 0 (!(W.getD 0 dV).1, (W.getD 0 dV).2), i2, s2, fun R => ?_, c2, by simp [hl], hn.set _ _ (hn.at m0)⟩
  simp only [e0, e1, cond_false, cond_true]
  rw [cd_t (by decide), cd_t (by decide), getV m0, mkV_0, spV0, ← List.map_set]
 have e1 : (r == 1) = false := by simpa using q1
 by_cases q2 : r = 2
 ·have e2 : (r == 2) = true := by simpa using q2
  obtain ⟨sh, d, i3, s3, h3, c3, ok⟩ := dAny a i2 s2 c2
  refine ⟨W.set 1 (true, sh, d), i3, s3, fun R => ?_, c3, by simp [hl], hn.set _ _ (by obtain ⟨g1, _, g2, _⟩ := ok; show sh.length + d.length ≤ 400; omega)⟩
  simp only [e0, e1, e2, cond_false, cond_true, h3]
  rw [cd_t (by decide), List.map_set]; rfl
 have e2 : (r == 2) = false := by simpa using q2
 exact ⟨W, i2, s2, fun R => by simp only [e0, e1, e2, cond_false], c2, by omega, hn⟩
theorem nums_mono {M N : Nat} (h : M ≤ N) {L : List Ins} (hn : NumsX M L) : NumsX N L := fun x hx => Nat.le_trans (hn x hx) h
theorem numsV_mono {M N : Nat} (h : M ≤ N) {L : List Vr} (hn : NumsV M L) : NumsV N L := fun x hx => Nat.le_trans (hn x hx) h
theorem dFuse (a : List Int) (h : a.length ≤ 1048576) : ∃ (L : List Ins) (f q : Nat) (W : List Vr), (∀ R, spec_DrawFuseTry.g a R = R (L.map mkX) (f : Int) (q : Int) (W.map mkV)) ∧ L.length ≤ 100 ∧ NumsX 400 L ∧ W.length ≤ 26 ∧ NumsV 400 W ∧ f ≤ 100 ∧ q ≤ 100 := by
 obtain ⟨s0, hN, c0⟩ := dNew a h
 obtain ⟨L0, i1, s1, h1, c1, hl0, hn0⟩ := dCode a 0 s0 c0
 have := up0 (N := 6) (P := fun n j => ∀ (L : List Ins) (i s : Int), Cu a i → L.length ≤ 100 → NumsX 400 L → ∃ (Y : List Ins) (i' s' : Int), (∀ k : List (List Cl) → List Int → Int → Int → Option Res, spec_DrawFuseTry.l0 0 0 k n (L.map mkX) (j : Int) a i s = k (Y.map mkX) a i' s') ∧ Cu a i' ∧ Y.length ≤ 100 ∧ NumsX 400 Y) (by omega) ?_ ?_ 0 (by omega) L0 i1 s1 c1 hl0 hn0
 ·obtain ⟨Y, i2, s2, h2, c2, hl, hn⟩ := this
  have h2' : ∀ k : List (List Cl) → List Int → Int → Int → Option Res, spec_DrawFuseTry.l0 0 0 k fuel (L0.map mkX) 0 a i1 s1 = k (Y.map mkX) a i2 s2 := h2
  have hS := spansX_len Y (by omega)
  obtain ⟨r3, i3, s3, h3, c3, b3⟩ := dBelow 4 (by decide) a i2 s2 c2
  obtain ⟨r4, i4, s4, h4, c4, b4⟩ := dBelow 6 (by decide) a i3 s3 c3
  obtain ⟨f, rfl⟩ : ∃ k : Nat, r3 = k := ⟨r3.toNat, by omega⟩
  obtain ⟨q, rfl⟩ : ∃ k : Nat, r4 = k := ⟨r4.toNat, by omega⟩
  simp only [spec_DrawFuseTry.e, spec_DrawFuseTry.b, hN, h1, h2', spansS Y (by omega) (nums_mono (by decide) hn), h3, h4, List.length_map]
  by_cases hz : spansX Y = []
  ·obtain ⟨W, i6, s6, h6, c6, hwl, hwn⟩ := dVarsAny a i4 s4 c4
   exact ⟨Y, f, q, W, fun R => by rw [hz, cd_f (by decide), h6], hl, hn, hwl, hwn, by omega, by omega⟩
  ·have hp : 0 < (spansX Y).length := List.length_pos_iff.2 hz
   obtain ⟨b, i5, s5, h5, c5⟩ := dOnce 6 (by decide) a i4 s4 c4
   have ep : decide (0 < ((spansX Y).length : Int)) = true := by simp; omega
   simp only [ep, cond_true, h5]
   cases b with
   | true =>
    obtain ⟨W, i6, s6, h6, c6, hwl, hwn⟩ := dVarsAny a i5 s5 c5
    exact ⟨Y, f, q, W, fun R => by rw [Bool.not_true, cond_false, h6], hl, hn, hwl, hwn, by omega, by omega⟩
   | false =>
    obtain ⟨r6, i6, s6, h6, c6, b6⟩ := dBelow ((spansX Y).length : Int) (by omega) a i5 s5 c5
    obtain ⟨j, rfl⟩ : ∃ k : Nat, r6 = k := ⟨r6.toNat, by omega⟩
    have hj : j < (spansX Y).length := by omega
    obtain ⟨W, i7, s7, h7, c7, hwl, hwn⟩ := dVarsAny a i6 s6 c6
    have hm : (spansX Y).getD j (0, 0) ∈ spansX Y := by rw [List.getD_eq_getElem?_getD, List.getElem?_eq_getElem hj]; exact List.getElem_mem hj
    obtain ⟨_, _, m3, m4, _⟩ := span_mem hm
    refine ⟨Y, ((spansX Y).getD j (0, 0)).1, ((spansX Y).getD j (0, 0)).2, W, fun R => ?_, hl, hn, hwl, hwn, by omega, by omega⟩
    simp only [Bool.not_false, cond_true, h6, ix0, ixl hj, Bool.and_self, h7, Int.toNat_natCast, mkS_getD hj, mkS_0, mkS_1]
 ·intro n L i s hi hl hn
  refine ⟨L, i, s, fun k => ?_, hi, hl, hn⟩
  have : decide (((6 : Nat) : Int) < 6) = false := by decide
  simp only [spec_DrawFuseTry.l0, spec_DrawFuseTry.l0s, this, cond_false]
 ·intro n j hj ih L i s hi hl hn
  have e6 : decide ((j : Int) < 6) = true := by simp; omega
  have ew : IntKind.i64.wrap ((j : Int) + 1) = ((j + 1 : Nat) : Int) := ixw (by omega)
  simp only [spec_DrawFuseTry.l0, spec_DrawFuseTry.l0s, e6, cond_true, spansS L (by omega) (nums_mono (by decide) hn), List.length_map, ew]
  by_cases hz : spansX L = []
  ·obtain ⟨t, i1, s1, h1, c1, ht, h60, hnb⟩ := dCodeR a i s hi
   have hn' : NumsX 400 ((ndsA t 0).map insOf) := nums_mono (by decide) (nums_ins 300 t hnb)
   have hl' : ((ndsA t 0).map insOf).length = asz t := by rw [List.length_map, nds_len]
   obtain ⟨Y, i', s', g1, g2⟩ := ih _ i1 s1 c1 (by omega) hn'
   refine ⟨Y, i', s', fun k => ?_, g2⟩
   rw [hz, cd_t (by decide), h1]; exact g1 k
  ·refine ⟨L, i, s, fun k => ?_, hi, hl, hn⟩
   have : (((spansX L).length : Int) == 0) = false := by
    have := List.length_pos_iff.2 hz
    simp; omega
   rw [this, cond_false]
theorem lawFnFused (a : List Int) (ha : wfQ [.int .u8] (.ints a)) (R : Bool → Option Res) : laws_FnFused.g a R = R true := by
 simp only [laws_FnFused.e, laws_FnFused.b, laws_big.e, laws_big.b]
 by_cases h : 1048576 < (a.length : Int)
 ·simp [h]
 obtain ⟨L, f, q, W, hD, hl, hn, hwl, hwn, hf, hq⟩ := dFuse a (by omega)
 have hn2 := nums_mono (N := 2000000) (by decide) hn
 have hv2 := numsV_mono (N := 2000000) (by decide) hwn
 have fI := fun R => fuseI L (by omega) hn2 W (by omega) hv2 (f : Int) (q : Int) R
 have fS := fun R => fuseS L (by omega) hn2 W (by omega) hv2 (f : Int) (q : Int) R
 simp only [h, decide_false, cond_false, hD, fI, fS]
 cases hm : fuseM L W (f : Int) (q : Int) with
 | none => rfl
 | some A =>
  obtain ⟨l1, l2⟩ := fuse_len hm
  simp only [goF, bne_self_eq_false, cond_false, Bool.not_true]
  unfold fuseM at hm
  split at hm
  ·rename_i hc
   obtain ⟨hV, hc⟩ := hc
   obtain ⟨s, hs, he⟩ := List.any_eq_true.1 hc
   simp only [Bool.and_eq_true, decide_eq_true_eq] at he
   obtain ⟨e1, e2⟩ := he
   obtain ⟨p, z⟩ := s
   simp only at e1 e2
   have e1 : p = f := by omega
   have e2 : z = q := by omega
   subst e1 e2
   obtain ⟨c1, c2, c3, c4, c5⟩ := span_mem hs
   simp only at c2 c3 c4 c5
   obtain ⟨r1, r2⟩ := span_run c2
   have ho := code_all c1
   have h60 : L.length ≤ 60 := by
    have := c1
    unfold codeB at this
    simp only [Bool.and_eq_true, decide_eq_true_eq] at this
    exact this.1.1.2
   rw [Int.toNat_natCast, Int.toNat_natCast] at hm
   have hXl : ((L.drop p).take (z - p)).length = z - p := by rw [List.length_take, List.length_drop]; omega
   have hXo : ((L.drop p).take (z - p)).all insOk = true := List.all_eq_true.2 fun x hx => List.all_eq_true.1 ho x (List.mem_of_mem_drop (List.mem_of_mem_take hx))
   have hXn : NumsX 2000000 ((L.drop p).take (z - p)) := fun x hx => hn2 x (List.mem_of_mem_drop (List.mem_of_mem_take hx))
   have hcX : codeB ((L.drop p).take (z - p)) = true := by
    unfold codeB
    rw [hXo, r2, hXl]
    simp only [Bool.and_eq_true, decide_eq_true_eq, beq_self_eq_true, and_true]
    omega
   have hT := fuse_tr hV hXo r1 r2 hm
   have hR := fun R => runF hcX hXn hV (by omega) hv2 r1 hT R
   have g : (decide (0 ≤ (p : Int)) && decide ((p : Int) ≤ (z : Int)) && decide ((z : Int) ≤ ((L.map mkX).length : Int))) = true := by
    simp only [List.length_map, Bool.and_eq_true, decide_eq_true_eq]; omega
   rw [g, cond_true, Int.toNat_natCast, Int.toNat_natCast, ← List.map_drop, ← List.map_take, hR]
   have w1 : IntKind.i64.wrap ((z : Int) - (p : Int)) = ((z - p : Nat) : Int) := by rw [w64 (by omega)]; omega
   have w2 : IntKind.i64.wrap (100 - ((z - p : Nat) : Int)) = ((100 - (z - p) : Nat) : Int) := by rw [w64 (by omega)]; omega
   simp only [beq_self_eq_true, cond_true, sameArray A.1 A.2 (by omega) (by omega), w1, w2, hXl]
  ·cases hm
end Go.Tv.F
