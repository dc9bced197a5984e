/- The pure law about these functions. It holds without condition. -/
import Derived.Test.YtdejjcgikcfgjaaExactSpansF
set_option linter.unusedVariables false
set_option linter.unusedSectionVars false
set_option linter.unusedSimpArgs false
set_option linter.unnecessarySimpa false
set_option maxRecDepth 100000
set_option autoImplicit false
namespace Go.Tv.F
open Go Go.Tv
def numOk (x : Int) : Bool := decide (-1000000000000 ≤ x) && decide (x ≤ 1000000000000)
theorem within (x a b : Int) (R : Bool → Option Res) : impl_within.g x a b R = R (decide (a ≤ x) && decide (x ≤ b)) := by
 simp only [impl_within.e, impl_within.b]; cases decide (a ≤ x) <;> rfl
theorem l1In (x a b : Int) (R : Bool → Option Res) : spec_l1In.g x a b R = R (decide (a ≤ x) && decide (x ≤ b)) := by
 simp only [spec_l1In.e, spec_l1In.b]; cases decide (a ≤ x) <;> rfl
theorem numOkI (x : Int) (R : Bool → Option Res) : impl_NumOk.g x R = R (numOk x) := by simp only [impl_NumOk.e, impl_NumOk.b, within, numOk]
theorem numOkS (x : Int) (R : Bool → Option Res) : spec_NumOk.g x R = R (numOk x) := by simp only [spec_NumOk.e, spec_NumOk.b, l1In, numOk]
/-- the first place from i on at which something holds; -1: none -/
def idx {α : Type} (f : α → Bool) : List α → Int → Int
 | [], _ => -1
 | x :: l, i => bif f x then i else idx f l (i + 1)
theorem idx_any {α : Type} (f : α → Bool) (l : List α) : ∀ i : Int, 0 ≤ i → decide (0 ≤ idx f l i) = l.any f := by
 induction l with
 | nil => intro i _; rfl
 | cons x l ih =>
  intro i hi
  cases hf : f x with
  | true => simp [idx, hf, hi]
  | false => simpa [idx, hf] using ih (i + 1) (by omega)
theorem toIntS (a : List Int) (h : a.length ≤ 1048576) (R : List Int → Option Res) : laws_toIntS.g a R = R a := by
 have e1 : decide (0 ≤ (a.length : Int)) = true := by simp
 have e2 : decide ((a.length : Int) * 8 ≤ 140737488355328) = true := by simp; omega
 simp only [laws_toIntS.e, laws_toIntS.b, e1, e2, decide_true, Bool.and_self, cond_true]
 refine up0 (N := a.length) (P := fun n i => ∀ l : List Int, l.length = a.length → (∀ j, j < i → l[j]? = a[j]?) → laws_toIntS.l0 a R n (i : Int) l = R a) (by omega) ?_ ?_ 0 (by omega) _ (by simp) (fun j hj => by omega)
 ·intro n l hl hp
  simp only [laws_toIntS.l0, laws_toIntS.l0s, ixe, cond_false]
  rw [list_eq hl (fun j hj => hp j (by omega))]
 ·intro n i hi ih l hl hp
  have hi2 : decide ((i : Int) < (l.length : Int)) = true := by simp; omega
  simp only [laws_toIntS.l0, laws_toIntS.l0s, ixl hi, ix0, hi2, Bool.and_self, cond_true, ixw (by omega : i < 9223372036854775807), Int.toNat_natCast]
  exact ih _ (by simp [hl]) (set_pre hl hi (getD_lt 0 hi) hp)
theorem eqIntS (a : List Int) (h : a.length ≤ 9223372036854775807) (R : Bool → Option Res) : laws_eqIntS.g a a R = R true := by
 simp only [laws_eqIntS.e, laws_eqIntS.b, bne_self_eq_false, cond_false]
 refine up0 (N := a.length) (P := fun n i => laws_eqIntS.l0 a a (R true) R n (i : Int) = R true) (by omega) ?_ ?_ 0 (by omega)
 ·intro n; simp only [laws_eqIntS.l0, laws_eqIntS.l0s, ixe, cond_false]
 ·intro n i hi ih
  simp only [laws_eqIntS.l0, laws_eqIntS.l0s, ixl hi, ix0, Bool.and_self, cond_true, bne_self_eq_false, cond_false, ixw (by omega : i < 9223372036854775807)]
  exact ih
theorem markIntS (y : Int) (a : List Int) (hy : 0 ≤ y ∧ y ≤ 4611686018427387904) (h : a.length ≤ 4611686018427387903) (R : Int → List Int → Option Res) : laws_markIntS.g y a R = R (y + a.length) (cnt (fun x => x) y a.length) := by
 simp only [laws_markIntS.e, laws_markIntS.b]
 have := up0 (N := a.length) (P := fun n i => ∀ l : List Int, l.length = a.length → (∀ j, j < i → l[j]? = (cnt (fun x => x) y a.length)[j]?) → laws_markIntS.l0 R n (y + (i : Int)) (i : Int) l = R (y + a.length) (cnt (fun x => x) y a.length)) (by omega) ?_ ?_ 0 (by omega) a rfl (fun j hj => by omega)
 ·simpa using this
 ·intro n l hl hp
  have e : decide ((a.length : Int) < (l.length : Int)) = false := by simp; omega
  simp only [laws_markIntS.l0, laws_markIntS.l0s, e, cond_false]
  rw [list_eq (a := l) (by rw [hl, cnt_length]) (fun j hj => hp j (by omega))]
 ·intro n i hi ih l hl hp
  have hi2 : decide ((i : Int) < (l.length : Int)) = true := by simp; omega
  have hw : IntKind.i64.wrap (y + (i : Int) + 1) = y + ((i + 1 : Nat) : Int) := by rw [w64 (by omega)]; omega
  simp only [laws_markIntS.l0, laws_markIntS.l0s, ix0, hi2, Bool.and_self, cond_true, ixw (by omega : i < 9223372036854775807), Int.toNat_natCast, hw]
  exact ih _ (by simp [hl]) (set_pre (by rw [hl, cnt_length]) (by rw [cnt_length]; exact hi) (cnt_get _ _ _ _ hi) hp)
theorem getD_map {α β : Type} (f : α → β) (L : List α) {i : Nat} (h : i < L.length) (d : β) (e : α) : (L.map f).getD i d = f (L.getD i e) := by
 rw [List.getD_eq_getElem?_getD, List.getD_eq_getElem?_getD, List.getElem?_map, List.getElem?_eq_getElem h]; rfl
theorem map_set {α β : Type} (f : α → β) (L : List α) (i : Nat) (x : α) : (L.map f).set i (f x) = (L.set i x).map f := List.map_set.symm
theorem getD_set {α : Type} (L : List α) {i : Nat} (x d : α) (h : i < L.length) : (L.set i x).getD i d = x := by
 rw [List.getD_eq_getElem?_getD, List.getElem?_set_self h]; rfl
abbrev Ins : Type := Int × Int × (Int × Int × Int) × List Int
def mkX (x : Ins) : List Cl := [.i x.1, .i x.2.1, .i x.2.2.1.1, .i x.2.2.1.2.1, .i x.2.2.1.2.2, .l x.2.2.2]
def unX (r : List Cl) : Ins := ((r.getD 0 (.i 0)).toI, (r.getD 1 (.i 0)).toI, ((r.getD 2 (.i 0)).toI, (r.getD 3 (.i 0)).toI, (r.getD 4 (.i 0)).toI), (r.getD 5 (.i 0)).toL)
def dX : Ins := (0, 0, (0, 0, 0), [])
theorem getX {L : List Ins} {i : Nat} (h : i < L.length) : (L.map mkX).getD i [] = mkX (L.getD i dX) := getD_map mkX L h [] dX
theorem mkX_0 (x : Ins) : ((mkX x).getD 0 (.i 0)).toI = x.1 := rfl
theorem mkX_1 (x : Ins) : ((mkX x).getD 1 (.i 0)).toI = x.2.1 := rfl
theorem mkX_2 (x : Ins) : ((mkX x).getD 2 (.i 0)).toI = x.2.2.1.1 := rfl
theorem mkX_3 (x : Ins) : ((mkX x).getD 3 (.i 0)).toI = x.2.2.1.2.1 := rfl
theorem mkX_4 (x : Ins) : ((mkX x).getD 4 (.i 0)).toI = x.2.2.1.2.2 := rfl
theorem mkX_5 (x : Ins) : ((mkX x).getD 5 (.i 0)).toL = x.2.2.2 := rfl
theorem spX0 (c : Ins) (x : Int) : splice (mkX c) 0 [.i x] = mkX (x, c.2) := rfl
theorem spX1 (c : Ins) (x : Int) : splice (mkX c) 1 [.i x] = mkX (c.1, x, c.2.2) := rfl
theorem spX2 (c : Ins) (x : Int) : splice (mkX c) 2 [.i x] = mkX (c.1, c.2.1, (x, c.2.2.1.2), c.2.2.2) := rfl
theorem spX3 (c : Ins) (x : Int) : splice (mkX c) 3 [.i x] = mkX (c.1, c.2.1, (c.2.2.1.1, x, c.2.2.1.2.2), c.2.2.2) := rfl
theorem spX4 (c : Ins) (x : Int) : splice (mkX c) 4 [.i x] = mkX (c.1, c.2.1, (c.2.2.1.1, c.2.2.1.2.1, x), c.2.2.2) := rfl
theorem spX5 (c : Ins) (x : List Int) : splice (mkX c) 5 [.l x] = mkX (c.1, c.2.1, c.2.2.1, x) := rfl
theorem unX_nums (r : List Cl) : (unX r).2.2.2 = (r.getD 5 (.i 0)).toL := rfl
/-- so many numbers at most -/
def NumsX (M : Nat) (L : List Ins) : Prop := ∀ x ∈ L, x.2.2.2.length ≤ M
theorem NumsX.at {M : Nat} {L : List Ins} (h : NumsX M L) {i : Nat} (hi : i < L.length) : (L.getD i dX).2.2.2.length ≤ M := by
 rw [List.getD_eq_getElem?_getD, List.getElem?_eq_getElem hi]; exact h _ (List.getElem_mem hi)
theorem toInstrS (a : List (List Cl)) (h : a.length ≤ 1048576) (hn : NumsX 1048576 (a.map unX)) (R : List (List Cl) → Option Res) : laws_toInstrS.g a R = R ((a.map unX).map mkX) := by
 have e1 : decide (0 ≤ (a.length : Int)) = true := by simp
 have e2 : decide ((a.length : Int) * 64 ≤ 140737488355328) = true := by simp; omega
 simp only [laws_toInstrS.e, laws_toInstrS.b, e1, e2, decide_true, Bool.and_self, cond_true]
 refine up0 (N := a.length) (P := fun n i => ∀ l : List (List Cl), l.length = a.length → (∀ j, j < i → l[j]? = ((a.map unX).map mkX)[j]?) → laws_toInstrS.l0 a R n (i : Int) l = R ((a.map unX).map mkX)) (by omega) ?_ ?_ 0 (by omega) _ (by simp) (fun j hj => by omega)
 ·intro n l hl hp
  simp only [laws_toInstrS.l0, laws_toInstrS.l0s, ixe, cond_false]
  rw [list_eq (by simpa using hl) (fun j hj => hp j (by omega))]
 ·intro n i hi ih l hl hp
  have hi2 : decide ((i : Int) < (l.length : Int)) = true := by simp; omega
  have hx := hn.at (i := i) (by simpa using hi)
  have hx : ((a.getD i []).getD 5 (.i 0)).toL.length ≤ 1048576 := by rw [getD_map unX a hi dX [], unX_nums] at hx; exact hx
  simp only [laws_toInstrS.l0, laws_toInstrS.l0s, laws_toInstr.e, laws_toInstr.b, laws_toFun.e, laws_toFun.b, ixl hi, ix0, hi2, Bool.and_self, cond_true, ixw (by omega : i < 9223372036854775807), Int.toNat_natCast, toIntS _ hx]
  refine ih _ (by simp [hl]) (set_pre (a := (a.map unX).map mkX) (by simpa using hl) (by simpa using hi) ?_ hp)
  rw [List.getElem?_map, List.getElem?_map, getD_lt [] hi]; rfl
theorem eqInstrS (L : List Ins) (h : L.length ≤ 1048576) (hn : NumsX 1048576 L) (R : Bool → Option Res) : laws_eqInstrS.g (L.map mkX) (L.map mkX) R = R true := by
 simp only [laws_eqInstrS.e, laws_eqInstrS.b, bne_self_eq_false, cond_false, List.length_map]
 refine up0 (N := L.length) (P := fun n i => laws_eqInstrS.l0 (L.map mkX) (L.map mkX) (R true) R n (i : Int) = R true) (by omega) ?_ ?_ 0 (by omega)
 ·intro n; simp only [laws_eqInstrS.l0, laws_eqInstrS.l0s, List.length_map, ixe, cond_false]
 ·intro n i hi ih
  have hx := hn.at hi
  simp only [laws_eqInstrS.l0, laws_eqInstrS.l0s, laws_eqInstr.e, laws_eqInstr.b, laws_eqFun.e, laws_eqFun.b, List.length_map, ixl hi, ix0, Bool.and_self, cond_true, bne_self_eq_false, cond_false, Bool.not_true, Int.toNat_natCast, getX hi, mkX_0, mkX_1, mkX_2, mkX_3, mkX_4, mkX_5, eqIntS _ (by omega : (L.getD i dX).2.2.2.length ≤ 9223372036854775807), ixw (by omega : i < 9223372036854775807)]
  exact ih
/-- words that instructions have -/
def szX : List Ins → Nat
 | [] => 0
 | x :: L => x.2.2.2.length + szX L
theorem szX_drop (L : List Ins) {i : Nat} (hi : i < L.length) : szX (L.drop i) = (L.getD i dX).2.2.2.length + szX (L.drop (i + 1)) := by
 rw [drop_cons dX hi, szX]
theorem szX_le : ∀ (L : List Ins) (M : Nat), szX L ≤ M → NumsX M L
 | [], _, _, x, h => by cases h
 | y :: L, M, hM, x, h => by
  rw [szX] at hM
  rcases List.mem_cons.1 h with rfl | h
  ·omega
  ·exact szX_le L M (by omega) x h
theorem szInstrS (a : List (List Cl)) (h : a.length ≤ maxLen) (hn : ∀ x ∈ a.map unX, x.2.2.2.length ≤ maxLen) : ∃ y : Int, (0 ≤ y → a.length + szX (a.map unX) ≤ 1048576) ∧ ∀ R, laws_szInstrS.g a 1048576 R = R y := by
 have hm : maxLen = 9223372036854775807 := by decide
 simp only [laws_szInstrS.e, laws_szInstrS.b]
 rw [w64 (n := 1048576 - (a.length : Int)) (by omega)]
 by_cases h1 : 1048576 - (a.length : Int) < 0
 ·exact ⟨-1, by omega, fun R => by simp only [h1, decide_true, cond_true]⟩
 have e1 : decide (1048576 - (a.length : Int) < 0) = false := by simp; omega
 simp only [e1, cond_false]
 have := up0 (N := a.length) (P := fun n i => ∀ z : Nat, z ≤ 1048576 → ∃ y : Int, (0 ≤ y → szX ((a.map unX).drop i) ≤ z) ∧ ∀ R : Int → Option Res, laws_szInstrS.l0 a (fun y7 => R y7) R n (z : Int) (i : Int) = R y) (by omega) ?_ ?_ 0 (by omega) (1048576 - a.length) (by omega)
 ·obtain ⟨y, y1, y2⟩ := this
  refine ⟨y, fun hy => by have := y1 hy; rw [List.drop_zero] at this; omega, fun R => ?_⟩
  have := y2 R
  rw [show ((1048576 - a.length : Nat) : Int) = 1048576 - (a.length : Int) by omega] at this
  exact this
 ·intro n z hz
  refine ⟨z, fun _ => by rw [List.drop_eq_nil_of_le (by simp)]; exact Nat.zero_le _, fun R => ?_⟩
  simp only [laws_szInstrS.l0, laws_szInstrS.l0s, ixe, cond_false]
 ·intro n i hi ih z hz
  have hi' : i < (a.map unX).length := by simpa using hi
  have hx := hn ((a.map unX).getD i dX) (by rw [List.getD_eq_getElem?_getD, List.getElem?_eq_getElem hi']; exact List.getElem_mem hi')
  have e5 : ((a.getD i []).getD 5 (.i 0)).toL = ((a.map unX).getD i dX).2.2.2 := by rw [getD_map unX a hi dX []]; rfl
  simp only [laws_szInstrS.l0, laws_szInstrS.l0s, laws_szInstr.e, laws_szInstr.b, laws_szIntS.e, laws_szIntS.b, ixl hi, ix0, Bool.and_self, cond_true, Int.toNat_natCast, e5, ixw (by omega : i < 9223372036854775807)]
  have hd := szX_drop (a.map unX) hi'
  generalize ((a.map unX).getD i dX).2.2.2 = xs at hx hd ⊢
  rw [w64 (n := (z : Int) - (xs.length : Int)) (by omega)]
  by_cases h2 : (z : Int) - (xs.length : Int) < 0
  ·exact ⟨-1, by omega, fun R => by simp only [h2, decide_true, cond_true]; rfl⟩
  ·have e2 : decide ((z : Int) - (xs.length : Int) < 0) = false := by simpa using h2
   obtain ⟨y, y1, y2⟩ := ih (z - xs.length) (by omega)
   refine ⟨y, fun hy => by have := y1 hy; omega, fun R => ?_⟩
   have := y2 R
   rw [show ((z - xs.length : Nat) : Int) = (z : Int) - (xs.length : Int) by omega] at this
   simp only [e2, cond_false]
   exact this
/-- marks: so many numbers -/
theorem markInstrS (y : Int) (L : List Ins) (hy : 0 ≤ y ∧ y ≤ 1152921504606846976) (h : L.length ≤ 1048576) (hz : szX L ≤ 1048576) : ∃ Z : List (List Cl), ∀ R : Int → List (List Cl) → Option Res, laws_markInstrS.g y (L.map mkX) R = R (y + 5 * L.length + szX L) Z := by
 simp only [laws_markInstrS.e, laws_markInstrS.b]
 have := up0 (N := L.length) (P := fun n i => ∀ (M : List Ins) (z : Int), M.length = L.length → M.drop i = L.drop i → z = y + 5 * i + (szX L - szX (L.drop i) : Nat) → szX (L.drop i) ≤ szX L → ∃ Z : List (List Cl), ∀ R : Int → List (List Cl) → Option Res, laws_markInstrS.l0 R n z (i : Int) (M.map mkX) = R (y + 5 * L.length + szX L) Z) (by omega) ?_ ?_ 0 (by omega) L y rfl rfl (by simp) (by simp)
 ·exact this
 ·intro n M z hM _ hz' _
  have e : decide ((L.length : Int) < ((M.map mkX).length : Int)) = false := by simp; omega
  refine ⟨M.map mkX, fun R => ?_⟩
  simp only [laws_markInstrS.l0, laws_markInstrS.l0s, e, cond_false]
  rw [hz', List.drop_length, szX]; rfl
 ·intro n i hi ih M z hM hd hz' hle
  have hiM : i < M.length := by omega
  have hdl := szX_drop L hi
  have hnx : (M.getD i dX).2.2.2 = (L.getD i dX).2.2.2 := by
   have a := drop_cons dX hiM
   have b := drop_cons dX hi
   rw [hd, b] at a
   rw [(List.cons.inj a).1]
  have hd' : M.drop (i + 1) = L.drop (i + 1) := by
   have a := drop_cons dX hiM
   have b := drop_cons dX hi
   rw [hd, b] at a
   exact (List.cons.inj a).2.symm
  have hz2 : z + (L.getD i dX).2.2.2.length + 5 = y + 5 * ((i + 1 : Nat) : Int) + (szX L - szX (L.drop (i + 1)) : Nat) := by omega
  have w1 : IntKind.i64.wrap (z + 1) = z + 1 := w64 (by omega)
  have w2 : IntKind.i64.wrap (z + 1 + 1) = z + 2 := by rw [w64 (by omega)]; omega
  have w3 : IntKind.i64.wrap (z + 2 + 1) = z + 3 := by rw [w64 (by omega)]; omega
  have w4 : IntKind.i64.wrap (z + 3 + 1) = z + 4 := by rw [w64 (by omega)]; omega
  have w5 : IntKind.i64.wrap (z + 4 + 1) = z + 5 := by rw [w64 (by omega)]; omega
  have hdd : ∀ Q : List Ins, Q.length = M.length → decide ((i : Int) < ((Q.map mkX).length : Int)) = true := by intro Q hQ; simp; omega
  have hb5 : 0 ≤ z + 5 ∧ z + 5 ≤ 4611686018427387904 := by omega
  have hbx : (L.getD i dX).2.2.2.length ≤ 4611686018427387903 := by omega
  have step : ∀ x : Ins, ∃ Z : List (List Cl), ∀ R : Int → List (List Cl) → Option Res, laws_markInstrS.l0 R n (z + (L.getD i dX).2.2.2.length + 5) ((i + 1 : Nat) : Int) ((M.set i x).map mkX) = R (y + 5 * L.length + szX L) Z := fun x => by
   refine ih (M.set i x) _ (by simp [hM]) ?_ hz2 (by omega)
   rw [List.drop_set_of_lt (by omega)]; exact hd'
  have sx : ∀ (Q : List Ins) (x : Ins), Q.length = M.length → ((Q.map mkX).set i (mkX x)).getD i [] = mkX x := fun Q x hQ => getD_set _ _ _ (by simp; omega)
  simp only [laws_markInstrS.l0, laws_markInstrS.l0s, ix0, Int.toNat_natCast, w1, w2, w3, w4, w5, getX hiM, spX0, List.set_set, List.length_set, decide_true, sx M _ rfl, spX1, spX2, spX3, spX4, spX5, mkX_5, hdd M rfl, Bool.and_self, cond_true, hnx, ixw (by omega : i < 9223372036854775807), markIntS _ _ hb5 hbx]
  have e := show z + 5 + ((L.getD i dX).2.2.2.length : Int) = z + (L.getD i dX).2.2.2.length + 5 by omega
  simp only [e, map_set]
  exact step _
abbrev Tok := Int × Int
abbrev Fn3 := Int × Int × Int
def kdT (X : List Tok) (k : Nat) : Int := match X[k]? with | some t => t.1 | none => 0
def vlT (X : List Tok) (k : Nat) : Int := match X[k]? with | some t => t.2 | none => 0
def sgT (X : List Tok) (k : Nat) : Int := if kdT X k = 3 then vlT X k else 0
/-- the place of the bracket that closes, so many deep -/
def cloT : Nat → List Tok → Option Nat
 | _, [] => none
 | d, t :: X => let e := if t.1 = 4 then d + 1 else if t.1 = 5 then d - 1 else d
  if e = 0 then some 1 else (cloT e X).map (· + 1)
theorem clo_cons (d : Nat) (t : Tok) (X : List Tok) : cloT d (t :: X) = if (if t.1 = 4 then d + 1 else if t.1 = 5 then d - 1 else d) = 0 then some 1 else (cloT (if t.1 = 4 then d + 1 else if t.1 = 5 then d - 1 else d) X).map (· + 1) := rfl
def Bal (C : List Tok) : Prop := ∀ d s, 1 ≤ d → cloT d (C ++ s) = (cloT d s).map (· + C.length)
theorem Bal.nil : Bal [] := fun d s _ => by simp
theorem Bal.app {C D : List Tok} (h : Bal C) (h' : Bal D) : Bal (C ++ D) := fun d s hd => by
 rw [List.append_assoc, h d _ hd, h' d s hd, Option.map_map]
 congr 1; funext x; simp only [Function.comp_apply, List.length_append]; omega
theorem Bal.one {t : Tok} (h4 : t.1 ≠ 4) (h5 : t.1 ≠ 5) : Bal [t] := fun d s hd => by
 show cloT d (t :: s) = _
 rw [clo_cons]
 simp only [if_neg h4, if_neg h5]
 rw [if_neg (by omega)]; rfl
theorem Bal.all : ∀ {C : List Tok}, (∀ k, k < C.length → kdT C k ≠ 4 ∧ kdT C k ≠ 5) → Bal C
 | [], _ => Bal.nil
 | t :: C, h => Bal.app (C := [t]) (Bal.one (h 0 (by simp)).1 (h 0 (by simp)).2) (Bal.all fun k hk => h (k + 1) (by simpa using hk))
theorem Bal.wrap {o c : Tok} {C : List Tok} (ho : o.1 = 4) (hc : c.1 = 5) (h : Bal C) : Bal (o :: (C ++ [c])) := fun d s hd => by
 have e : o :: (C ++ [c]) ++ s = o :: (C ++ (c :: s)) := by simp
 rw [e]
 show cloT d (o :: (C ++ (c :: s))) = _
 rw [clo_cons]
 simp only [if_pos ho]
 rw [if_neg (by omega), h (d + 1) (c :: s) (by omega)]
 have e2 : cloT (d + 1) (c :: s) = (cloT d s).map (· + 1) := by
  show (if _ then _ else _) = _
  rw [if_neg (show ¬ c.1 = 4 by omega)]
  simp only [if_pos hc, Nat.add_sub_cancel]
  rw [if_neg (by omega)]
 rw [e2, Option.map_map, Option.map_map]
 congr 1
 funext x; simp only [Function.comp_apply, List.length_cons, List.length_append, List.length_nil]; omega
def Ends (r : List Tok) : Prop := r = [] ∨ kdT r 0 = 5
theorem Ends.k {r : List Tok} (h : Ends r) : kdT r 0 ≠ 1 ∧ kdT r 0 ≠ 6 ∧ sgT r 0 = 0 := by
 rcases h with rfl | h
 ·exact ⟨by decide, by decide, rfl⟩
 ·refine ⟨by omega, by omega, ?_⟩
  unfold sgT; rw [if_neg (by omega)]
def mkT (t : Tok) : List Cl := [.i t.1, .i t.2]
def hasB (s : ByteArray) (v : Int) : Bool := (bytesOf s).any fun b => b == v
theorem bytesOf_len (s : ByteArray) : (bytesOf s).length = s.size := by rw [bytesOf, List.length_map, Array.length_toList]; rfl
theorem bytesOf_b {s : ByteArray} {i : Nat} (h : i < s.size) : 0 ≤ (bytesOf s).getD i 0 ∧ (bytesOf s).getD i 0 ≤ 255 := by
 have hl : i < (bytesOf s).length := by rw [bytesOf_len]; exact h
 rw [List.getD_eq_getElem?_getD, List.getElem?_eq_getElem hl]
 simp only [Option.getD_some, bytesOf, List.getElem_map]
 have hl2 : i < s.data.toList.length := by rw [Array.length_toList]; exact h
 have := (s.data.toList[i]).toNat_lt
 omega
theorem hasSignI (s : ByteArray) (v : Int) (hs : s.size ≤ 1000000) (R : Bool → Option Res) : impl_hasSign.g s v R = R (hasB s v) := by
 simp only [impl_hasSign.e, impl_hasSign.b]
 have := up0 (N := s.size) (P := fun n i => impl_hasSign.l0 s v (R false) R n (i : Int) = R (((bytesOf s).drop i).any fun b => b == v)) (by omega) ?_ ?_ 0 (by omega)
 ·rw [List.drop_zero] at this; exact this
 ·intro n; simp only [impl_hasSign.l0, impl_hasSign.l0s, ixe, cond_false]; rw [List.drop_eq_nil_of_le (by rw [bytesOf_len]; omega)]; rfl
 ·intro n i hi ih
  have hb := bytesOf_b hi
  simp only [impl_hasSign.l0, impl_hasSign.l0s, ixl hi, ix0, Bool.and_self, cond_true, ixw (by omega : i < 9223372036854775807), Int.toNat_natCast, w64 (n := (bytesOf s).getD i 0) (by omega)]
  rw [drop_cons 0 (by rw [bytesOf_len]; exact hi), List.any_cons]
  cases (bytesOf s).getD i 0 == v with
  | true => rfl
  | false => exact ih
def nodeC (k a b s o w : Int) (xs : List Int) : List Cl := [.i k, .i a, .i b, .i s, .i o, .i w, .l xs]
theorem orR (b c : Bool) (R : Bool → Option Res) : (bif b then R true else R c) = R (b || c) := by cases b <;> rfl
def sg1 (v : Int) : Bool := v == 43 || (v == 45 || (v == 42 || (v == 124 || v == 126)))
def sg2 (v : Int) : Bool := v == 43 || (v == 45 || (v == 42 || (v == 37 || (v == 124 || (v == 38 || (v == 94 || (v == 61 || (v == 60 || v == 62))))))))
theorem beqc (a b : Int) : (a == b) = (b == a) := by rw [Bool.eq_iff_iff, beq_iff_eq, beq_iff_eq]; exact eq_comm
theorem oneSignI (v : Int) (R : Bool → Option Res) : impl_oneSign.g v R = R (sg1 v) := by
 simp only [impl_oneSign.e, impl_oneSign.b]
 rw [hasSignI _ v (by decide)]
 congr 1
 have e : bytesOf (⟨#[43, 45, 42, 124, 126]⟩ : ByteArray) = [43, 45, 42, 124, 126] := by decide
 rw [hasB, e]
 simp only [List.any_cons, List.any_nil, Bool.or_false, sg1, beqc _ v]
theorem twoSignI (v : Int) (R : Bool → Option Res) : impl_twoSign.g v R = R (sg2 v) := by
 simp only [impl_twoSign.e, impl_twoSign.b]
 rw [hasSignI _ v (by decide)]
 congr 1
 have e : bytesOf (⟨#[43, 45, 42, 37, 124, 38, 94, 61, 60, 62]⟩ : ByteArray) = [43, 45, 42, 37, 124, 38, 94, 61, 60, 62] := by decide
 rw [hasB, e]
 simp only [List.any_cons, List.any_nil, Bool.or_false, sg2, beqc _ v]
theorem sign1S (v : Int) (R : Bool → Option Res) : spec_l1Sign1.g v R = R (sg1 v) := by
 simp only [spec_l1Sign1.e, spec_l1Sign1.b, orR, sg1]
theorem sign2S (v : Int) (R : Bool → Option Res) : spec_l1Sign2.g v R = R (sg2 v) := by
 simp only [spec_l1Sign2.e, spec_l1Sign2.b, orR, sg2]
def ones (v : Int) : Bool := v == 105 || (v == 35 || (v == 44 || (v == 114 || (v == 122 || v == 103))))
def twos (v : Int) : Bool := v == 35 || (v == 44 || (v == 116 || (v == 100 || (v == 114 || (v == 64 || (v == 63 || (v == 36 || v == 101)))))))
def o1F (f : Fn3) : Bool := bif f.2.1 == 0 then bif f.2.2 == 0 then sg1 f.1 || ones f.1 else false else bif f.2.1 == 47 || f.2.1 == 92 then bif f.2.2 == 0 then sg2 f.1 else false else false
def o2F (f : Fn3) : Bool := bif f.2.1 == 0 then bif f.2.2 == 0 then sg2 f.1 || twos f.1 else false else bif f.2.1 == 111 then bif f.2.2 == 0 then sg2 f.1 else false else bif f.2.1 == 46 then sg2 f.1 && sg2 f.2.2 else false
theorem funOneI (a b c : Int) (R : Bool → Option Res) : impl_FunOne.g a b c R = R (o1F (a, b, c)) := by
 have e : ∀ R : Bool → Option Res, impl_hasSign.g (⟨#[105, 35, 44, 114, 122, 103]⟩ : ByteArray) a R = R (ones a) := fun R => by
  rw [hasSignI _ a (by decide)]
  congr 1
  have e : bytesOf (⟨#[105, 35, 44, 114, 122, 103]⟩ : ByteArray) = [105, 35, 44, 114, 122, 103] := by decide
  rw [hasB, e]
  simp only [List.any_cons, List.any_nil, Bool.or_false, ones, beqc _ a]
 simp only [impl_FunOne.e, impl_FunOne.b, oneSignI, twoSignI, e, orR, o1F]
 cases b == 0 <;> cases b == 47 <;> cases b == 92 <;> cases c == 0 <;> rfl
theorem funTwoI (a b c : Int) (R : Bool → Option Res) : impl_FunTwo.g a b c R = R (o2F (a, b, c)) := by
 have e : ∀ R : Bool → Option Res, impl_hasSign.g (⟨#[35, 44, 116, 100, 114, 64, 63, 36, 101]⟩ : ByteArray) a R = R (twos a) := fun R => by
  rw [hasSignI _ a (by decide)]
  congr 1
  have e : bytesOf (⟨#[35, 44, 116, 100, 114, 64, 63, 36, 101]⟩ : ByteArray) = [35, 44, 116, 100, 114, 64, 63, 36, 101] := by decide
  rw [hasB, e]
  simp only [List.any_cons, List.any_nil, Bool.or_false, twos, beqc _ a]
 simp only [impl_FunTwo.e, impl_FunTwo.b, twoSignI, e, orR, o2F]
 cases b == 0 <;> cases b == 111 <;> cases b == 46 <;> cases c == 0 <;> cases sg2 a <;> rfl
theorem funOneS (a b c : Int) (R : Bool → Option Res) : spec_FunOne.g a b c R = R (o1F (a, b, c)) := by
 simp only [spec_FunOne.e, spec_FunOne.b, sign1S, sign2S, orR, o1F, bne]
 by_cases h0 : b = 0
 ·subst h0
  have : (sg1 a || (a == 105 || (a == 35 || (a == 44 || (a == 114 || (a == 122 || a == 103)))))) = (sg1 a || ones a) := rfl
  rw [this]
  cases c == 0 <;> rfl
 ·have : (b == 0) = false := by simpa using h0
  rw [this]
  cases b == 47 <;> cases b == 92 <;> cases c == 0 <;> rfl
theorem funTwoS (a b c : Int) (R : Bool → Option Res) : spec_FunTwo.g a b c R = R (o2F (a, b, c)) := by
 simp only [spec_FunTwo.e, spec_FunTwo.b, sign2S, orR, o2F, bne]
 by_cases h0 : b = 0
 ·subst h0
  have : (sg2 a || (a == 35 || (a == 44 || (a == 116 || (a == 100 || (a == 114 || (a == 64 || (a == 63 || (a == 36 || a == 101))))))))) = (sg2 a || twos a) := rfl
  rw [this]
  cases c == 0 <;> rfl
 ·have e : (b == 0) = false := by simpa using h0
  rw [e]
  by_cases h1 : b = 46
  ·subst h1; cases sg2 a <;> rfl
  ·have e : (b == 46) = false := by simpa using h1
   rw [e]
   cases b == 111 <;> cases c == 0 <;> rfl
theorem snoc_map {α β : Type} (f : α → β) (d : List α) (z : α) {i : Nat} (hi : i < d.length) : (d.take i).map f ++ [f (d.getD i z)] = (d.take (i + 1)).map f := by
 rw [List.take_succ_eq_append_getElem hi, List.map_append, List.getD_eq_getElem?_getD, List.getElem?_eq_getElem hi]; rfl
def shN (n : Int) (r : List Cl) : List Cl :=
 let k := (r.getD 0 (.i 0)).toI
 nodeC k (if k = 5 then (r.getD 1 (.i 0)).toI + n else (r.getD 1 (.i 0)).toI) (if k = 5 ∨ k = 4 ∨ k = 3 then (r.getD 2 (.i 0)).toI + n else (r.getD 2 (.i 0)).toI) ((r.getD 3 (.i 0)).toI) ((r.getD 4 (.i 0)).toI) ((r.getD 5 (.i 0)).toI) ((r.getD 6 (.i 0)).toL)
def rowB (M : Nat) (r : List Cl) : Prop :=
 ((r.getD 0 (.i 0)).toI = 5 → -1 ≤ (r.getD 1 (.i 0)).toI ∧ (r.getD 1 (.i 0)).toI ≤ M) ∧ ((r.getD 0 (.i 0)).toI = 5 ∨ (r.getD 0 (.i 0)).toI = 4 ∨ (r.getD 0 (.i 0)).toI = 3 → -1 ≤ (r.getD 2 (.i 0)).toI ∧ (r.getD 2 (.i 0)).toI ≤ M)
theorem behind (l ns t : List (List Cl)) (i : Int) (hl : l.length ≤ 100000) (hn : ns.length ≤ 100000) (hb : ∀ r ∈ l, rowB 1000000 r) (R : List (List Cl) → Int → List (List Cl) → Option Res) :
 spec_l9Behind.g l ns t i R = R t i (ns ++ l.map (shN (ns.length : Nat))) := by
 simp only [spec_l9Behind.e, spec_l9Behind.b]
 have := up0 (N := l.length) (P := fun n j => ∀ k : List (List Cl) → Option Res, spec_l9Behind.l0 l (ns.length : Int) t i k n (j : Int) (ns ++ (l.take j).map (shN (ns.length : Nat))) = k (ns ++ l.map (shN (ns.length : Nat)))) (by omega) ?_ ?_ 0 (by omega) (fun y11 => R t i y11)
 ·rw [List.take_zero, List.map_nil, List.append_nil] at this; exact this
 ·intro n k; simp only [spec_l9Behind.l0, spec_l9Behind.l0s, ixe, cond_false, List.take_length]
 ·intro n j hj ih k
  obtain ⟨b1, b2⟩ := hb (l.getD j []) (by rw [List.getD_eq_getElem?_getD, List.getElem?_eq_getElem hj]; exact List.getElem_mem hj)
  have hg : decide (((ns ++ (l.take j).map (shN (ns.length : Nat))).length + 1) * 72 ≤ 140737488355328) = true := by
   rw [List.length_append, List.length_map, List.length_take]; simp only [decide_eq_true_eq]; omega
  simp only [spec_l9Behind.l0, spec_l9Behind.l0s, hg, cond_true]
  rw [cd_t (ixl hj), cd_t (by rw [ix0, ixl hj]; rfl), Int.toNat_natCast, ixw (i := j) (by omega)]
  have fin : ∀ row, row = shN (ns.length : Nat) (l.getD j []) → spec_l9Behind.l0 l (ns.length : Int) t i k n ((j + 1 : Nat) : Int) (ns ++ (l.take j).map (shN (ns.length : Nat)) ++ [row]) = k (ns ++ l.map (shN (ns.length : Nat))) := fun row hrow => by
   rw [hrow, List.append_assoc, snoc_map (shN (ns.length : Nat)) l [] hj]; exact ih k
  generalize l.getD j [] = row at b1 b2 fin ⊢
  by_cases h5 : (row.getD 0 (.i 0)).toI = 5
  ·rw [cd_t (by simpa using h5)]
   refine fin _ ?_
   have c1 := b1 h5
   have c2 := b2 (.inl h5)
   rw [w64 (by omega), w64 (by omega), shN]
   simp only [h5, if_true]
   rfl
  rw [cd_f (by simpa using h5)]
  by_cases h4 : (row.getD 0 (.i 0)).toI = 4
  ·rw [cd_t (by simpa using h4)]
   refine fin _ ?_
   have c2 := b2 (.inr (.inl h4))
   rw [w64 (by omega), shN]
   simp only [h4]
   rfl
  rw [cd_f (by simpa using h4)]
  by_cases h3 : (row.getD 0 (.i 0)).toI = 3
  ·rw [cd_t (by simpa using h3)]
   refine fin _ ?_
   have c2 := b2 (.inr (.inr h3))
   rw [w64 (by omega), shN]
   simp only [h3]
   rfl
  rw [cd_f (by simpa using h3)]
  refine fin _ ?_
  rw [shN]
  simp only [h5, h4, h3, if_false, or_self]
  rfl
abbrev Nd := Int × Int × Int × Fn3 × List Int
def numsOk (xs : List Int) : Bool := decide (1 ≤ xs.length) && decide (xs.length ≤ 300) && xs.all numOk
theorem fz (a b c : Int) : ((a == 0) && ((b == 0) && ((c == 0) && true))) = ((a, b, c) == ((0, 0, 0) : Fn3)) := by
 rw [Bool.eq_iff_iff]; simp
theorem lz (xs : List Int) : ((xs.length : Int) == 0) = xs.isEmpty := by
 cases xs with
 | nil => rfl
 | cons x xs => rw [List.isEmpty_cons]; simp; omega
theorem numsIdx (d : List Int) (h : d.length ≤ 2000000) (R : Int → Option Res) : slices_IndexFunc_int_int_i3.g d R = R (idx (fun x => !numOk x) d 0) := by
 simp only [slices_IndexFunc_int_int_i3.e, slices_IndexFunc_int_int_i3.b]
 have := up0 (N := d.length) (P := fun n i => slices_IndexFunc_int_int_i3.l0 d (d.length : Int) (R (-1)) R n (i : Int) = R (idx (fun x => !numOk x) (d.drop i) i)) (by omega) ?_ ?_ 0 (by omega)
 ·simpa using this
 ·intro n; simp only [slices_IndexFunc_int_int_i3.l0, slices_IndexFunc_int_int_i3.l0s, ixe, cond_false, List.drop_length, idx]
 ·intro n i hi ih
  simp only [slices_IndexFunc_int_int_i3.l0, slices_IndexFunc_int_int_i3.l0s, ixl hi, ix0, Bool.and_self, cond_true, impl_numsOk_1.e, impl_numsOk_1.b, numOkI, ixw (by omega : i < 9223372036854775807), Int.toNat_natCast]
  rw [drop_cons 0 hi, idx]
  cases numOk (d.getD i 0) with
  | true => exact ih
  | false => rfl
theorem allNot {α : Type} (p : α → Bool) (l : List α) : (!(l.any fun x => !p x)) = l.all p := by rw [List.any_eq_not_all_not]; simp
theorem numsOkI2 (xs : List Int) (h : xs.length ≤ 2000000) (R : Bool → Option Res) : impl_numsOk.g xs R = R (numsOk xs) := by
 simp only [impl_numsOk.e, impl_numsOk.b, within, slices_ContainsFunc_int_int_i3.e, slices_ContainsFunc_int_int_i3.b, numsIdx xs h, idx_any _ _ _ (Int.le_refl 0), allNot]
 have e : (decide ((1 : Int) ≤ (xs.length : Int)) && decide ((xs.length : Int) ≤ 300)) = (decide (1 ≤ xs.length) && decide (xs.length ≤ 300)) := by
  congr 1 <;> · rw [Bool.eq_iff_iff]; simp; omega
 rw [e, numsOk]
 cases decide (1 ≤ xs.length) && decide (xs.length ≤ 300) <;> rfl
theorem numsOkS2 (xs : List Int) (h : xs.length ≤ 2000000) (R : Bool → Option Res) : spec_l9Nums.g xs R = R (numsOk xs) := by
 simp only [spec_l9Nums.e, spec_l9Nums.b, l1In]
 have e : (decide ((1 : Int) ≤ (xs.length : Int)) && decide ((xs.length : Int) ≤ 300)) = (decide (1 ≤ xs.length) && decide (xs.length ≤ 300)) := by
  congr 1 <;> · rw [Bool.eq_iff_iff]; simp; omega
 rw [e]
 have := up0 (N := xs.length) (P := fun n i => spec_l9Nums.l0 xs (R (decide (1 ≤ xs.length) && decide (xs.length ≤ 300))) R n (i : Int) = R ((decide (1 ≤ xs.length) && decide (xs.length ≤ 300)) && (xs.drop i).all numOk)) (by omega) ?_ ?_ 0 (by omega)
 ·exact this
 ·intro n; simp only [spec_l9Nums.l0, spec_l9Nums.l0s, ixe, cond_false, List.drop_length, List.all_nil, Bool.and_true]
 ·intro n i hi ih
  simp only [spec_l9Nums.l0, spec_l9Nums.l0s, ixl hi, ix0, Bool.and_self, cond_true, numOkS, ixw (by omega : i < 9223372036854775807), Int.toNat_natCast]
  rw [drop_cons 0 hi, List.all_cons]
  cases numOk (xs.getD i 0) with
  | true => exact ih
  | false => rw [Bool.false_and, Bool.and_false]; rfl
def dN : Nd := (0, 0, 0, (0, 0, 0), [])
def NumB (T : List Nd) : Prop := ∀ n ∈ T, n.2.2.2.2.length ≤ 1000000
theorem NumB.at {T : List Nd} (h : NumB T) {i : Nat} (hi : i < T.length) : (T.getD i dN).2.2.2.2.length ≤ 1000000 := by
 rw [List.getD_eq_getElem?_getD, List.getElem?_eq_getElem hi]; exact h _ (List.getElem_mem hi)
def insOk (x : Ins) : Bool :=
 bif x.1 == 1 then (x.2.1 == 0) && ((x.2.2.1 == (0, 0, 0)) && numsOk x.2.2.2)
 else bif x.1 == 2 then (decide (0 ≤ x.2.1) && decide (x.2.1 ≤ 25)) && ((x.2.2.1 == (0, 0, 0)) && x.2.2.2.isEmpty)
 else bif x.1 == 3 then (decide (0 ≤ x.2.1) && decide (x.2.1 ≤ 25)) && ((x.2.2.1 == (0, 0, 0)) && x.2.2.2.isEmpty)
 else bif x.1 == 4 then (x.2.1 == 0) && (o1F x.2.2.1 && x.2.2.2.isEmpty)
 else bif x.1 == 5 then (x.2.1 == 0) && (o2F x.2.2.1 && x.2.2.2.isEmpty) else false
theorem insOkI (x : Ins) (h : x.2.2.2.length ≤ 2000000) (R : Bool → Option Res) : impl_instrOk.g x.1 x.2.1 x.2.2.1.1 x.2.2.1.2.1 x.2.2.1.2.2 x.2.2.2 R = R (insOk x) := by
 obtain ⟨k, a, ⟨s, o, w⟩, xs⟩ := x
 simp only at h
 simp only [impl_instrOk.e, impl_instrOk.b, numsOkI2 xs h, within, funOneI, funTwoI, fz, lz, insOk]
 cases k == 1 <;> cases k == 2 <;> cases k == 3 <;> cases k == 4 <;> cases k == 5 <;> simp only [cond_true, cond_false] <;>
  cases (a == 0) <;> cases (((s, o, w) : Fn3) == (0, 0, 0)) <;> cases (decide (0 ≤ a) && decide (a ≤ 25)) <;> cases o1F (s, o, w) <;> cases o2F (s, o, w) <;> rfl
theorem insOkS (x : Ins) (h : x.2.2.2.length ≤ 2000000) (R : Bool → Option Res) : spec_l11Instr.g x.1 x.2.1 x.2.2.1.1 x.2.2.1.2.1 x.2.2.1.2.2 x.2.2.2 R = R (insOk x) := by
 obtain ⟨k, a, ⟨s, o, w⟩, xs⟩ := x
 simp only at h
 simp only [spec_l11Instr.e, spec_l11Instr.b, numsOkS2 xs h, l1In, funOneS, funTwoS, fz, lz, insOk]
 cases k == 1 <;> cases k == 2 <;> cases k == 3 <;> cases k == 4 <;> cases k == 5 <;> simp only [cond_true, cond_false] <;>
  cases (a == 0) <;> cases (((s, o, w) : Fn3) == (0, 0, 0)) <;> cases (decide (0 ≤ a) && decide (a ≤ 25)) <;> cases o1F (s, o, w) <;> cases o2F (s, o, w) <;> rfl
/-- how many arrays an instruction takes -/
def takesX (x : Ins) : Nat := bif x.1 == 3 then 1 else bif x.1 == 4 then 1 else bif x.1 == 5 then 2 else 0
theorem takesX_le (x : Ins) : takesX x ≤ 2 := by unfold takesX; cases x.1 == 3 <;> cases x.1 == 4 <;> cases x.1 == 5 <;> decide
theorem takesI (x : Ins) (R : Int → Option Res) : impl_takes.g x.1 x.2.1 x.2.2.1.1 x.2.2.1.2.1 x.2.2.1.2.2 x.2.2.2 R = R (takesX x) := by
 simp only [impl_takes.e, impl_takes.b, takesX]
 cases x.1 == 3 <;> cases x.1 == 4 <;> cases x.1 == 5 <;> rfl
theorem op_of {x : Ins} (h : insOk x = true) : x.1 = 1 ∨ x.1 = 2 ∨ x.1 = 3 ∨ x.1 = 4 ∨ x.1 = 5 := by
 unfold insOk at h
 by_cases h1 : x.1 = 1; · exact .inl h1
 by_cases h2 : x.1 = 2; · exact .inr (.inl h2)
 by_cases h3 : x.1 = 3; · exact .inr (.inr (.inl h3))
 by_cases h4 : x.1 = 4; · exact .inr (.inr (.inr (.inl h4)))
 by_cases h5 : x.1 = 5; · exact .inr (.inr (.inr (.inr h5)))
 rw [cd_f (by simpa using h1), cd_f (by simpa using h2), cd_f (by simpa using h3), cd_f (by simpa using h4), cd_f (by simpa using h5)] at h
 cases h
theorem takesS (x : Ins) (h : x.1 = 1 ∨ x.1 = 2 ∨ x.1 = 3 ∨ x.1 = 4 ∨ x.1 = 5) (R : Int → Int → Option Res) : spec_l11Takes.g x.1 x.2.1 x.2.2.1.1 x.2.2.1.2.1 x.2.2.1.2.2 x.2.2.2 R = R (takesX x) (1 - takesX x) := by
 obtain ⟨k, a, f, xs⟩ := x
 simp only at h
 simp only [spec_l11Takes.e, spec_l11Takes.b, takesX]
 rcases h with rfl | rfl | rfl | rfl | rfl <;> rfl
/-- how many arrays there are behind code; none: one was lacking -/
def runD : List Ins → Nat → Option Nat
 | [], d => some d
 | x :: L, d => if takesX x ≤ d then runD L (d - takesX x + 1) else none
def codeB (L : List Ins) : Bool := decide (1 ≤ L.length) && decide (L.length ≤ 60) && L.all insOk && (runD L 0 == some 1)
theorem insIdx (L : List Ins) (hL : L.length ≤ 2000000) (hn : NumsX 2000000 L) (R : Int → Option Res) : slices_IndexFunc_impl_Instr_impl_Instr.g (L.map mkX) R = R (idx (fun x => !insOk x) L 0) := by
 simp only [slices_IndexFunc_impl_Instr_impl_Instr.e, slices_IndexFunc_impl_Instr_impl_Instr.b, List.length_map]
 have := up0 (N := L.length) (P := fun n i => slices_IndexFunc_impl_Instr_impl_Instr.l0 (L.map mkX) (L.length : Int) (R (-1)) R n (i : Int) = R (idx (fun x => !insOk x) (L.drop i) i)) (by omega) ?_ ?_ 0 (by omega)
 ·simpa using this
 ·intro n; simp only [slices_IndexFunc_impl_Instr_impl_Instr.l0, slices_IndexFunc_impl_Instr_impl_Instr.l0s, ixe, cond_false, List.drop_length, idx]
 ·intro n i hi ih
  simp only [slices_IndexFunc_impl_Instr_impl_Instr.l0, slices_IndexFunc_impl_Instr_impl_Instr.l0s, List.length_map, ixl hi, ix0, Bool.and_self, cond_true, Int.toNat_natCast, getX hi, mkX_0, mkX_1, mkX_2, mkX_3, mkX_4, mkX_5, impl_CodeOk_1.e, impl_CodeOk_1.b, insOkI _ (hn.at hi), ixw (by omega : i < 9223372036854775807)]
  rw [drop_cons dX hi, idx]
  cases insOk (L.getD i dX) with
  | true => exact ih
  | false => rfl
theorem getD_app {α : Type} (l : List α) (x d : α) (i : Nat) (h : l.length = i) : (l ++ [x]).getD i d = x := by
 rw [List.getD_eq_getElem?_getD, List.getElem?_append_right (by omega), h, Nat.sub_self]; rfl
/-- the list of depths has so many, the last of them is that behind the code -/
def DepE (L : List Ins) (i d : Nat) (Z : List Int) (ok : Bool) : Prop := ok = (runD (L.drop i) d).isSome ∧ ∀ e, runD (L.drop i) d = some e → Z.length = L.length + 1 ∧ Z.getD L.length 0 = (e : Int)
theorem deepI (L : List Ins) (hL : L.length ≤ 2000000) : ∃ Z ok, DepE L 0 0 Z ok ∧ ∀ R, impl_deep.g (L.map mkX) R = R Z ok := by
 have := up0 (N := L.length) (P := fun n i => ∀ (d : Nat) (Ls : List Int), d ≤ i → Ls.length = i + 1 → Ls.getD i 0 = (d : Int) → ∃ Z ok, DepE L i d Z ok ∧ ∀ R : List Int → Bool → Option Res, impl_deep.l0 (L.map mkX) (L.length : Int) (fun y8 => R y8 true) R n (i : Int) Ls = R Z ok) (by omega) ?_ ?_ 0 (by omega) 0 [0] (by omega) rfl rfl
 ·obtain ⟨Z, ok, h1, h2⟩ := this
  exact ⟨Z, ok, h1, fun R => by simp only [impl_deep.e, impl_deep.b, List.length_map]; exact h2 R⟩
 ·intro n d Ls _ hl hg
  refine ⟨Ls, true, ⟨by rw [List.drop_length, runD]; rfl, fun e he => ?_⟩, fun R => by simp only [impl_deep.l0, impl_deep.l0s, ixe, cond_false]⟩
  rw [List.drop_length, runD] at he
  cases he
  exact ⟨hl, hg⟩
 ·intro n i hi ih d Ls hd hl hg
  have hlt : decide ((i : Int) < (Ls.length : Int)) = true := by rw [decide_eq_true_eq]; omega
  have ht := takesX_le (L.getD i dX)
  by_cases hc : takesX (L.getD i dX) ≤ d
  ·have e1 : decide ((d : Int) < (takesX (L.getD i dX) : Int)) = false := by rw [decide_eq_false_iff_not]; omega
   have e2 : decide ((Ls.length + 1) * 8 ≤ 140737488355328) = true := by rw [decide_eq_true_eq]; omega
   have w1 : IntKind.i64.wrap ((d : Int) - (takesX (L.getD i dX) : Int)) = (d : Int) - (takesX (L.getD i dX) : Int) := w64 (by omega)
   have w2 : IntKind.i64.wrap ((d : Int) - (takesX (L.getD i dX) : Int) + 1) = ((d - takesX (L.getD i dX) + 1 : Nat) : Int) := by rw [w64 (by omega)]; omega
   obtain ⟨Z, ok, ⟨h1, h2⟩, h3⟩ := ih (d - takesX (L.getD i dX) + 1) (Ls ++ [((d - takesX (L.getD i dX) + 1 : Nat) : Int)]) (by omega) (by rw [List.length_append, hl]; rfl) (getD_app Ls _ 0 _ hl)
   have e3 : runD (L.drop i) d = runD (L.drop (i + 1)) (d - takesX (L.getD i dX) + 1) := by rw [drop_cons dX hi, runD, if_pos hc]
   refine ⟨Z, ok, ⟨by rw [e3]; exact h1, fun e he => h2 e (by rw [← e3]; exact he)⟩, fun R => ?_⟩
   simp only [impl_deep.l0, impl_deep.l0s, List.length_map, ixl hi, ix0, hlt, Bool.and_self, cond_true, Int.toNat_natCast, getX hi, mkX_0, mkX_1, mkX_2, mkX_3, mkX_4, mkX_5, takesI, hg, e1, cond_false, e2, w1, w2, ixw (by omega : i < 9223372036854775807)]
   exact h3 R
  ·have e1 : decide ((d : Int) < (takesX (L.getD i dX) : Int)) = true := by rw [decide_eq_true_eq]; omega
   have e3 : runD (L.drop i) d = none := by rw [drop_cons dX hi, runD, if_neg hc]
   refine ⟨[], false, ⟨by rw [e3]; rfl, fun e he => by rw [e3] at he; cases he⟩, fun R => ?_⟩
   simp only [impl_deep.l0, impl_deep.l0s, List.length_map, ixl hi, ix0, hlt, Bool.and_self, cond_true, Int.toNat_natCast, getX hi, mkX_0, mkX_1, mkX_2, mkX_3, mkX_4, mkX_5, takesI, hg, e1]
theorem deepS (L : List Ins) (hL : L.length ≤ 2000000) (ho : L.all insOk = true) : ∃ Z ok, DepE L 0 0 Z ok ∧ ∀ R, spec_l11Depths.g (L.map mkX) R = R Z ok := by
 have := up0 (N := L.length) (P := fun n i => ∀ (d : Nat) (Ls : List Int), d ≤ i → Ls.length = i + 1 → Ls.getD i 0 = (d : Int) → ∃ Z ok, DepE L i d Z ok ∧ ∀ R : List Int → Bool → Option Res, spec_l11Depths.l0 (L.map mkX) (fun y8 => R y8 true) R n (d : Int) (i : Int) Ls = R Z ok) (by omega) ?_ ?_ 0 (by omega) 0 [0] (by omega) rfl rfl
 ·obtain ⟨Z, ok, h1, h2⟩ := this
  exact ⟨Z, ok, h1, fun R => by simp only [spec_l11Depths.e, spec_l11Depths.b]; exact h2 R⟩
 ·intro n d Ls _ hl hg
  refine ⟨Ls, true, ⟨by rw [List.drop_length, runD]; rfl, fun e he => ?_⟩, fun R => by simp only [spec_l11Depths.l0, spec_l11Depths.l0s, List.length_map, ixe, cond_false]⟩
  rw [List.drop_length, runD] at he
  cases he
  exact ⟨hl, hg⟩
 ·intro n i hi ih d Ls hd hl hg
  have ht := takesX_le (L.getD i dX)
  have hop := op_of (List.all_eq_true.1 ho (L.getD i dX) (by rw [List.getD_eq_getElem?_getD, List.getElem?_eq_getElem hi]; exact List.getElem_mem hi))
  by_cases hc : takesX (L.getD i dX) ≤ d
  ·have e1 : decide ((d : Int) < (takesX (L.getD i dX) : Int)) = false := by rw [decide_eq_false_iff_not]; omega
   have e2 : decide ((Ls.length + 1) * 8 ≤ 140737488355328) = true := by rw [decide_eq_true_eq]; omega
   have w1 : IntKind.i64.wrap ((d : Int) + (1 - (takesX (L.getD i dX) : Int))) = ((d - takesX (L.getD i dX) + 1 : Nat) : Int) := by rw [w64 (by omega)]; omega
   obtain ⟨Z, ok, ⟨h1, h2⟩, h3⟩ := ih (d - takesX (L.getD i dX) + 1) (Ls ++ [((d - takesX (L.getD i dX) + 1 : Nat) : Int)]) (by omega) (by rw [List.length_append, hl]; rfl) (getD_app Ls _ 0 _ hl)
   have e3 : runD (L.drop i) d = runD (L.drop (i + 1)) (d - takesX (L.getD i dX) + 1) := by rw [drop_cons dX hi, runD, if_pos hc]
   refine ⟨Z, ok, ⟨by rw [e3]; exact h1, fun e he => h2 e (by rw [← e3]; exact he)⟩, fun R => ?_⟩
   simp only [spec_l11Depths.l0, spec_l11Depths.l0s, List.length_map, ixl hi, ix0, Bool.and_self, cond_true, Int.toNat_natCast, getX hi, mkX_0, mkX_1, mkX_2, mkX_3, mkX_4, mkX_5, takesS _ hop, e1, cond_false, e2, w1, ixw (by omega : i < 9223372036854775807)]
   exact h3 R
  ·have e1 : decide ((d : Int) < (takesX (L.getD i dX) : Int)) = true := by rw [decide_eq_true_eq]; omega
   have e3 : runD (L.drop i) d = none := by rw [drop_cons dX hi, runD, if_neg hc]
   refine ⟨Ls, false, ⟨by rw [e3]; rfl, fun e he => by rw [e3] at he; cases he⟩, fun R => ?_⟩
   simp only [spec_l11Depths.l0, spec_l11Depths.l0s, List.length_map, ixl hi, ix0, Bool.and_self, cond_true, Int.toNat_natCast, getX hi, mkX_0, mkX_1, mkX_2, mkX_3, mkX_4, mkX_5, takesS _ hop, e1]
theorem tail_ok (L : List Ins) {Z : List Int} {ok : Bool} (h : DepE L 0 0 Z ok) (R : Bool → Option Res) : (bif ok then (bif decide (0 ≤ (L.length : Int)) && decide ((L.length : Int) < (Z.length : Int)) then R (Z.getD ((L.length : Int).toNat) 0 == 1) else none) else R false) = R (runD L 0 == some 1) := by
 obtain ⟨h1, h2⟩ := h
 rw [List.drop_zero] at h1 h2
 cases hr : runD L 0 with
 | none => rw [hr] at h1; rw [h1]; rfl
 | some e =>
  obtain ⟨a, b⟩ := h2 e hr
  rw [hr] at h1
  rw [h1, Option.isSome_some, cond_true, cd_t (by rw [Bool.and_eq_true, decide_eq_true_eq, decide_eq_true_eq]; omega), Int.toNat_natCast, b]
  congr 1
  rw [Bool.eq_iff_iff]; simp; omega
theorem codeOkI (L : List Ins) (hL : L.length ≤ 2000000) (hn : NumsX 2000000 L) (R : Bool → Option Res) : impl_CodeOk.g (L.map mkX) R = R (codeB L) := by
 obtain ⟨Z, ok, hd, hg⟩ := deepI L hL
 simp only [impl_CodeOk.e, impl_CodeOk.b, within, List.length_map, slices_ContainsFunc_impl_Instr_impl_Instr.e, slices_ContainsFunc_impl_Instr_impl_Instr.b, insIdx L hL hn, idx_any _ _ _ (Int.le_refl 0), hg, tail_ok L hd]
 have e : (decide ((1 : Int) ≤ (L.length : Int)) && decide ((L.length : Int) ≤ 60)) = (decide (1 ≤ L.length) && decide (L.length ≤ 60)) := by
  congr 1 <;> · rw [Bool.eq_iff_iff]; simp; omega
 rw [e, codeB, ← allNot]
 cases decide (1 ≤ L.length) && decide (L.length ≤ 60) <;> cases (L.any fun x => !insOk x) <;> rfl
theorem codeOkS (L : List Ins) (hL : L.length ≤ 2000000) (hn : NumsX 2000000 L) (R : Bool → Option Res) : spec_CodeOk.g (L.map mkX) R = R (codeB L) := by
 simp only [spec_CodeOk.e, spec_CodeOk.b, l1In, List.length_map]
 have e : (decide ((1 : Int) ≤ (L.length : Int)) && decide ((L.length : Int) ≤ 60)) = (decide (1 ≤ L.length) && decide (L.length ≤ 60)) := by
  congr 1 <;> · rw [Bool.eq_iff_iff]; simp; omega
 rw [e]
 cases hc : decide (1 ≤ L.length) && decide (L.length ≤ 60) with
 | false => simp only [codeB, hc, Bool.false_and]; rfl
 | true =>
  rw [Bool.not_true, cond_false]
  by_cases ho : L.all insOk = true
  ·obtain ⟨Z, ok, hd, hg⟩ := deepS L hL ho
   simp only [hg, tail_ok L hd]
   have := up0 (N := L.length) (P := fun n i => ∀ K : Option Res, spec_CodeOk.l0 (L.map mkX) K R n (i : Int) = K) (by omega) ?_ ?_ 0 (by omega) (R (runD L 0 == some 1))
   ·rw [codeB, hc, ho]; exact this
   ·intro n K; simp only [spec_CodeOk.l0, spec_CodeOk.l0s, List.length_map, ixe, cond_false]
   ·intro n i hi ih K
    have hx := List.all_eq_true.1 ho (L.getD i dX) (by rw [List.getD_eq_getElem?_getD, List.getElem?_eq_getElem hi]; exact List.getElem_mem hi)
    simp only [spec_CodeOk.l0, spec_CodeOk.l0s, List.length_map, ixl hi, ix0, Bool.and_self, cond_true, Int.toNat_natCast, getX hi, mkX_0, mkX_1, mkX_2, mkX_3, mkX_4, mkX_5, insOkS _ (hn.at hi), hx, Bool.not_true, cond_false, ixw (by omega : i < 9223372036854775807)]
    exact ih K
  ·have hf : L.all insOk = false := by simpa using ho
   have := up0 (N := L.length) (P := fun n i => ∀ K : Option Res, (L.drop i).all insOk = false → spec_CodeOk.l0 (L.map mkX) K R n (i : Int) = R false) (by omega) ?_ ?_ 0 (by omega)
   ·rw [codeB, hc, hf]; exact this _ (by rw [List.drop_zero]; exact hf)
   ·intro n K h; rw [List.drop_length] at h; cases h
   ·intro n i hi ih K h
    rw [drop_cons dX hi, List.all_cons] at h
    simp only [spec_CodeOk.l0, spec_CodeOk.l0s, List.length_map, ixl hi, ix0, Bool.and_self, cond_true, Int.toNat_natCast, getX hi, mkX_0, mkX_1, mkX_2, mkX_3, mkX_4, mkX_5, insOkS _ (hn.at hi), ixw (by omega : i < 9223372036854775807)]
    cases hx : insOk (L.getD i dX) with
    | false => rfl
    | true => rw [hx] at h; exact ih K h
def plainX (x : Ins) : Bool := bif x.1 == 1 then true else bif x.1 == 2 then true else bif x.1 == 4 then (x.2.2.1.2.1 == 0) && sg1 x.2.2.1.1 else bif x.1 == 5 then (x.2.2.1.2.1 == 0) && sg2 x.2.2.1.1 else false
theorem plainI (x : Ins) (R : Bool → Option Res) : impl_plainStep.g x.1 x.2.1 x.2.2.1.1 x.2.2.1.2.1 x.2.2.1.2.2 x.2.2.2 R = R (plainX x) := by
 simp only [impl_plainStep.e, impl_plainStep.b, oneSignI, twoSignI, plainX]
 cases x.1 == 1 <;> cases x.1 == 2 <;> cases x.1 == 4 <;> cases x.1 == 5 <;> cases (x.2.2.1.2.1 == 0) <;> rfl
theorem plainS (x : Ins) (R : Bool → Option Res) : spec_l15Plain.g x.1 x.2.1 x.2.2.1.1 x.2.2.1.2.1 x.2.2.1.2.2 x.2.2.2 R = R (plainX x) := by
 simp only [spec_l15Plain.e, spec_l15Plain.b, sign1S, sign2S, plainX]
 cases x.1 == 1 <;> cases x.1 == 2 <;> cases x.1 == 4 <;> cases x.1 == 5 <;> cases (x.2.2.1.2.1 == 0) <;> rfl
theorem plain_op {x : Ins} (h : plainX x = true) : x.1 = 1 ∨ x.1 = 2 ∨ x.1 = 3 ∨ x.1 = 4 ∨ x.1 = 5 := by
 unfold plainX at h
 by_cases h1 : x.1 = 1; · exact .inl h1
 by_cases h2 : x.1 = 2; · exact .inr (.inl h2)
 by_cases h4 : x.1 = 4; · exact .inr (.inr (.inr (.inl h4)))
 by_cases h5 : x.1 = 5; · exact .inr (.inr (.inr (.inr h5)))
 rw [cd_f (by simpa using h1), cd_f (by simpa using h2), cd_f (by simpa using h4), cd_f (by simpa using h5)] at h
 cases h
/-- where the longest run ends: place, last end, arrays, has it worked -/
def endR : List Ins → Nat → Option Nat → Nat → Bool → Option Nat
 | [], _, e, _, _ => e
 | x :: L, p, e, m, w => if plainX x = true ∧ takesX x ≤ m then endR L (p + 1) (if m - takesX x + 1 = 1 ∧ (w || decide (0 < takesX x)) = true then some (p + 1) else e) (m - takesX x + 1) (w || decide (0 < takesX x)) else e
def endX (L : List Ins) (p : Nat) : Option Nat := endR (L.drop p) p none 0 false
theorem endR_lt : ∀ (L : List Ins) (p : Nat) (e : Option Nat) (m : Nat) (w : Bool) (q : Nat), endR L p e m w = some q → e = some q ∨ (p < q ∧ q ≤ p + L.length)
 | [], p, e, m, w, q, h => .inl h
 | x :: L, p, e, m, w, q, h => by
  rw [endR] at h
  split at h
  ·rcases endR_lt L _ _ _ _ q h with h | h
   ·split at h
    ·cases h; exact .inr ⟨by omega, by simp⟩
    ·exact .inl h
   ·exact .inr ⟨by omega, by simp only [List.length_cons]; omega⟩
  ·exact .inl h
theorem endX_lt {L : List Ins} {p q : Nat} (h : endX L p = some q) (hp : p ≤ L.length) : p < q ∧ q ≤ L.length := by
 rcases endR_lt _ _ _ _ _ _ h with h | h
 ·cases h
 ·rw [List.length_drop] at h; omega
theorem spanAtI (L : List Ins) (hL : L.length ≤ 2000000) (p : Nat) (hp : p ≤ L.length) (R : Int → Option Res) : impl_spanAt.g (L.map mkX) (p : Int) R = R (((endX L p).getD p : Nat) : Int) := by
 simp only [impl_spanAt.e, impl_spanAt.b]
 have := up0 (N := L.length) (P := fun n i => ∀ (e : Option Nat) (m : Nat) (w : Bool), m ≤ i → impl_spanAt.l0 (L.map mkX) (fun y12 => R y12) n ((e.getD p : Nat) : Int) (m : Int) w (i : Int) = R (((endR (L.drop i) i e m w).getD p : Nat) : Int)) (by omega) ?_ ?_ p hp none 0 false (by omega)
 ·exact this
 ·intro n e m w _; simp only [impl_spanAt.l0, impl_spanAt.l0s, List.length_map, ixe, cond_false, List.drop_length, endR]
 ·intro n i hi ih e m w hm
  have ht := takesX_le (L.getD i dX)
  rw [drop_cons dX hi, endR]
  simp only [impl_spanAt.l0, impl_spanAt.l0s, List.length_map, ixl hi, ix0, Bool.and_self, cond_true, Int.toNat_natCast, getX hi, mkX_0, mkX_1, mkX_2, mkX_3, mkX_4, mkX_5, plainI, takesI, ixw (by omega : i < 9223372036854775807)]
  cases hpl : plainX (L.getD i dX) with
  | false => rw [cond_false, if_neg (by rintro ⟨h, _⟩; cases h)]
  | true =>
   rw [cond_true]
   by_cases hc : takesX (L.getD i dX) ≤ m
   ·have e1 : decide ((takesX (L.getD i dX) : Int) ≤ (m : Int)) = true := by rw [decide_eq_true_eq]; omega
    have w1 : IntKind.i64.wrap ((m : Int) + IntKind.i64.wrap (1 - (takesX (L.getD i dX) : Int))) = ((m - takesX (L.getD i dX) + 1 : Nat) : Int) := by rw [w64 (n := 1 - (takesX (L.getD i dX) : Int)) (by omega), w64 (by omega)]; omega
    rw [if_pos ⟨rfl, hc⟩, e1, cond_true, w1]
    have e2 : ((((m - takesX (L.getD i dX) + 1 : Nat) : Int) == 1)) = decide (m - takesX (L.getD i dX) + 1 = 1) := by rw [Bool.eq_iff_iff, beq_iff_eq, decide_eq_true_eq]; omega
    have e3 : decide ((0 : Int) < (takesX (L.getD i dX) : Int)) = decide (0 < takesX (L.getD i dX)) := by rw [Bool.eq_iff_iff, decide_eq_true_eq, decide_eq_true_eq]; omega
    rw [e2, e3]
    have k1 := ih (some (i + 1)) (m - takesX (L.getD i dX) + 1) (w || decide (0 < takesX (L.getD i dX))) (by omega)
    have k2 := ih e (m - takesX (L.getD i dX) + 1) (w || decide (0 < takesX (L.getD i dX))) (by omega)
    rw [Option.getD_some] at k1
    generalize decide (0 < takesX (L.getD i dX)) = z at k1 k2 ⊢
    cases w <;> cases z <;> by_cases h1 : m - takesX (L.getD i dX) + 1 = 1 <;> simp only [h1, decide_true, decide_false, cond_true, cond_false, Bool.or_true, Bool.or_false, Bool.true_or, Bool.false_or, and_true, and_false, if_true, if_false, true_and, Bool.false_eq_true, false_and] at k1 k2 ⊢ <;> first | exact k1 | exact k2
   ·have e1 : decide ((takesX (L.getD i dX) : Int) ≤ (m : Int)) = false := by rw [decide_eq_false_iff_not]; omega
    rw [if_neg (fun h => hc h.2), e1, cond_false]
theorem spanAtS (L : List Ins) (hL : L.length ≤ 2000000) (p : Nat) (hp : p ≤ L.length) (R : Int → Option Res) : spec_l15End.g (L.map mkX) (p : Int) R = R (((endX L p).getD 0 : Nat) : Int) := by
 simp only [spec_l15End.e, spec_l15End.b]
 have := up0 (N := L.length) (P := fun n i => ∀ (e : Option Nat) (m : Nat) (w : Bool), m ≤ i → spec_l15End.l0 (L.map mkX) (fun y12 => R y12) R n ((e.getD 0 : Nat) : Int) (m : Int) w (i : Int) = R (((endR (L.drop i) i e m w).getD 0 : Nat) : Int)) (by omega) ?_ ?_ p hp none 0 false (by omega)
 ·exact this
 ·intro n e m w _; simp only [spec_l15End.l0, spec_l15End.l0s, List.length_map, ixe, cond_false, List.drop_length, endR]
 ·intro n i hi ih e m w hm
  have ht := takesX_le (L.getD i dX)
  rw [drop_cons dX hi, endR]
  simp only [spec_l15End.l0, spec_l15End.l0s, List.length_map, ixl hi, ix0, Bool.and_self, cond_true, Int.toNat_natCast, getX hi, mkX_0, mkX_1, mkX_2, mkX_3, mkX_4, mkX_5, plainS, ixw (by omega : i < 9223372036854775807)]
  cases hpl : plainX (L.getD i dX) with
  | false => rw [cond_false, if_neg (by rintro ⟨h, _⟩; cases h)]
  | true =>
   rw [cond_true]
   simp only [takesS _ (plain_op hpl)]
   by_cases hc : takesX (L.getD i dX) ≤ m
   ·have e1 : decide ((m : Int) < (takesX (L.getD i dX) : Int)) = false := by rw [decide_eq_false_iff_not]; omega
    have w1 : IntKind.i64.wrap ((m : Int) + (1 - (takesX (L.getD i dX) : Int))) = ((m - takesX (L.getD i dX) + 1 : Nat) : Int) := by rw [w64 (by omega)]; omega
    rw [if_pos ⟨trivial, hc⟩, e1, cond_false, w1]
    have e2 : ((((m - takesX (L.getD i dX) + 1 : Nat) : Int) == 1)) = decide (m - takesX (L.getD i dX) + 1 = 1) := by rw [Bool.eq_iff_iff, beq_iff_eq, decide_eq_true_eq]; omega
    have e3 : decide ((0 : Int) < (takesX (L.getD i dX) : Int)) = decide (0 < takesX (L.getD i dX)) := by rw [Bool.eq_iff_iff, decide_eq_true_eq, decide_eq_true_eq]; omega
    rw [e2, e3]
    have k1 := ih (some (i + 1)) (m - takesX (L.getD i dX) + 1) (w || decide (0 < takesX (L.getD i dX))) (by omega)
    have k2 := ih e (m - takesX (L.getD i dX) + 1) (w || decide (0 < takesX (L.getD i dX))) (by omega)
    rw [Option.getD_some] at k1
    generalize decide (0 < takesX (L.getD i dX)) = z at k1 k2 ⊢
    cases w <;> cases z <;> by_cases h1 : m - takesX (L.getD i dX) + 1 = 1 <;> simp only [h1, decide_true, decide_false, cond_true, cond_false, Bool.or_true, Bool.or_false, Bool.true_or, Bool.false_or, and_true, and_false, if_true, if_false, true_and, Bool.false_eq_true, false_and] at k1 k2 ⊢ <;> first | exact k1 | exact k2
   ·have e1 : decide ((m : Int) < (takesX (L.getD i dX) : Int)) = true := by rw [decide_eq_true_eq]; omega
    rw [if_neg (fun h => hc h.2), e1, cond_true]
/-- spans from a place on -/
abbrev Spn : Type := Nat × Nat
def mkS (s : Spn) : List Cl := [.i s.1, .i s.2]
def spansR (L : List Ins) : Nat → Nat → List Spn
 | 0, _ => []
 | n + 1, i => if i < L.length then (match endX L i with | none => spansR L n (i + 1) | some q => (i, q) :: spansR L n q) else []
def spansX (L : List Ins) : List Spn := if codeB L = true then spansR L (L.length + 1) 0 else []
theorem spansR_end (L : List Ins) {n i : Nat} (h : L.length ≤ i) : spansR L n i = [] := by
 cases n with
 | zero => rfl
 | succ n => rw [spansR, if_neg (by omega)]
theorem spansR_more (L : List Ins) : ∀ (n m i : Nat), L.length - i < n → L.length - i < m → spansR L n i = spansR L m i
 | 0, _, _, h, _ => by omega
 | n + 1, 0, _, _, h => by omega
 | n + 1, m + 1, i, h1, h2 => by
  rw [spansR, spansR]
  by_cases hi : i < L.length
  ·rw [if_pos hi, if_pos hi]
   cases he : endX L i with
   | none => exact spansR_more L n m (i + 1) (by omega) (by omega)
   | some q =>
    have := endX_lt he (by omega)
    show (i, q) :: spansR L n q = (i, q) :: spansR L m q
    rw [spansR_more L n m q (by omega) (by omega)]
  ·rw [if_neg hi, if_neg hi]
theorem spansR_len (L : List Ins) : ∀ (n i : Nat), (spansR L n i).length ≤ n
 | 0, _ => Nat.le_refl 0
 | n + 1, i => by
  rw [spansR]
  split
  ·split
   ·exact Nat.le_trans (spansR_len L n _) (Nat.le_succ n)
   ·exact Nat.succ_le_succ (spansR_len L n _)
  ·exact Nat.zero_le _
theorem spansI (L : List Ins) (hL : L.length ≤ 2000000) (hn : NumsX 2000000 L) (R : List (List Cl) → Option Res) : impl_Spans.g (L.map mkX) R = R ((spansX L).map mkS) := by
 simp only [impl_Spans.e, impl_Spans.b, codeOkI L hL hn, spansX]
 cases codeB L with
 | false => rfl
 | true =>
  rw [Bool.not_true, cond_false, if_pos rfl]
  have key : ∀ (n i : Nat) (Y : List (List Cl)), L.length - i < n → i ≤ L.length → Y.length ≤ i → impl_Spans.l0 (L.map mkX) (fun y7 => R y7) n (i : Int) Y = R (Y ++ (spansR L (L.length + 1 - i) i).map mkS) := by
   intro n
   induction n with
   | zero => intro i Y h; omega
   | succ n ih =>
    intro i Y h hi hY
    rcases Nat.lt_or_ge i L.length with hlt | hge
    ·simp only [impl_Spans.l0, impl_Spans.l0s, List.length_map, ixl hlt, cond_true, spanAtI L hL i hi]
     rw [show L.length + 1 - i = (L.length - i) + 1 by omega, spansR, if_pos hlt]
     cases he : endX L i with
     | none =>
      have := ih (i + 1) Y (by omega) (by omega) (by omega)
      rw [Option.getD_none, cd_t (by simp), ixw (by omega), this, show L.length + 1 - (i + 1) = L.length - i by omega]
     | some q =>
      have hq := endX_lt he hi
      rw [Option.getD_some, cd_f (by simp; omega), cd_t (by rw [decide_eq_true_eq]; omega)]
      have := ih q (Y ++ [[.i (i : Int), .i (q : Int)]]) (by omega) hq.2 (by rw [List.length_append, List.length_singleton]; omega)
      rw [this, List.append_assoc, List.map_cons, spansR_more L (L.length - i) (L.length + 1 - q) q (by omega) (by omega)]; rfl
    ·obtain rfl : i = L.length := by omega
     simp only [impl_Spans.l0, impl_Spans.l0s, List.length_map, ixe, cond_false]
     rw [spansR_end L (Nat.le_refl _), List.map_nil, List.append_nil]
  have := key fuel 0 [] (by rw [fuel_eq]; omega) (by omega) (by simp)
  simpa using this
theorem spansS (L : List Ins) (hL : L.length ≤ 2000000) (hn : NumsX 2000000 L) (R : List (List Cl) → Option Res) : spec_Spans.g (L.map mkX) R = R ((spansX L).map mkS) := by
 simp only [spec_Spans.e, spec_Spans.b, codeOkS L hL hn, spansX]
 cases codeB L with
 | false => rfl
 | true =>
  rw [Bool.not_true, cond_false, if_pos rfl]
  have key : ∀ (n i : Nat) (Y : List (List Cl)), L.length - i < n → i ≤ L.length → Y.length ≤ i → spec_Spans.l0 (L.map mkX) (fun y7 => R y7) n (i : Int) Y = R (Y ++ (spansR L (L.length + 1 - i) i).map mkS) := by
   intro n
   induction n with
   | zero => intro i Y h; omega
   | succ n ih =>
    intro i Y h hi hY
    rcases Nat.lt_or_ge i L.length with hlt | hge
    ·simp only [spec_Spans.l0, spec_Spans.l0s, List.length_map, ixl hlt, cond_true, spanAtS L hL i hi]
     rw [show L.length + 1 - i = (L.length - i) + 1 by omega, spansR, if_pos hlt]
     cases he : endX L i with
     | none =>
      have := ih (i + 1) Y (by omega) (by omega) (by omega)
      rw [Option.getD_none, cd_t (by simp), ixw (by omega), this, show L.length + 1 - (i + 1) = L.length - i by omega]
     | some q =>
      have hq := endX_lt he hi
      rw [Option.getD_some, cd_f (by simp; omega), cd_t (by rw [decide_eq_true_eq]; omega)]
      have := ih q (Y ++ [[.i (i : Int), .i (q : Int)]]) (by omega) hq.2 (by rw [List.length_append, List.length_singleton]; omega)
      rw [this, List.append_assoc, List.map_cons, spansR_more L (L.length - i) (L.length + 1 - q) q (by omega) (by omega)]; rfl
    ·obtain rfl : i = L.length := by omega
     simp only [spec_Spans.l0, spec_Spans.l0s, List.length_map, ixe, cond_false]
     rw [spansR_end L (Nat.le_refl _), List.map_nil, List.append_nil]
  have := key fuel 0 [] (by rw [fuel_eq]; omega) (by omega) (by simp)
  simpa using this
abbrev PP : Type := Int × Int
def mkP (p : PP) : List Cl := [.i p.1, .i p.2]
theorem mkP_0 (c : PP) : ((mkP c).getD 0 (.i 0)).toI = c.1 := rfl
theorem mkP_1 (c : PP) : ((mkP c).getD 1 (.i 0)).toI = c.2 := rfl
theorem spP0 (c : PP) (x : Int) : splice (mkP c) 0 [.i x] = mkP (x, c.2) := rfl
theorem spP1 (c : PP) (x : Int) : splice (mkP c) 1 [.i x] = mkP (c.1, x) := rfl
theorem getP {L : List PP} {i : Nat} (h : i < L.length) : (L.map mkP).getD i [] = mkP (L.getD i (0, 0)) := getD_map mkP L h [] (0, 0)
theorem eqSpanS (L : List PP) (h : L.length ≤ 2000000) (R : Bool → Option Res) : laws_eqSpanS.g (L.map mkP) (L.map mkP) R = R true := by
 simp only [laws_eqSpanS.e, laws_eqSpanS.b, bne_self_eq_false, cond_false, List.length_map]
 refine up0 (N := L.length) (P := fun n i => laws_eqSpanS.l0 (L.map mkP) (L.map mkP) (R true) R n (i : Int) = R true) (by omega) ?_ ?_ 0 (by omega)
 ·intro n; simp only [laws_eqSpanS.l0, laws_eqSpanS.l0s, List.length_map, ixe, cond_false]
 ·intro n i hi ih
  simp only [laws_eqSpanS.l0, laws_eqSpanS.l0s, laws_eqSpan.e, laws_eqSpan.b, List.length_map, ixl hi, ix0, Bool.and_self, cond_true, bne_self_eq_false, cond_false, Bool.not_true, ixw (by omega : i < 9223372036854775807)]
  exact ih
def cntP (y : Int) : Nat → List PP
 | 0 => []
 | n + 1 => (y, y + 1) :: cntP (y + 2) n
theorem cntP_length (n : Nat) : ∀ y, (cntP y n).length = n := by
 induction n with
 | zero => intro y; rfl
 | succ n ih => intro y; simp [cntP, ih]
theorem cntP_get (n : Nat) : ∀ y i, i < n → (cntP y n)[i]? = some (y + 2 * (i : Int), y + 2 * (i : Int) + 1) := by
 induction n with
 | zero => intro y i h; omega
 | succ n ih =>
  intro y i h
  cases i with
  | zero => simp [cntP]
  | succ i =>
   simp only [cntP, List.getElem?_cons_succ]
   rw [ih _ _ (by omega)]
   have e : y + 2 + 2 * (i : Int) = y + 2 * ((i + 1 : Nat) : Int) := by omega
   rw [e]
theorem markSpanS (y : Int) (L : List PP) (hy : 0 ≤ y ∧ y ≤ 4611686018427387904) (h : L.length ≤ 2000000) (R : Int → List (List Cl) → Option Res) : laws_markSpanS.g y (L.map mkP) R = R (y + 2 * L.length) ((cntP y L.length).map mkP) := by
 simp only [laws_markSpanS.e, laws_markSpanS.b]
 have := up0 (N := L.length) (P := fun n i => ∀ M : List PP, M.length = L.length → (∀ j, j < i → M[j]? = (cntP y L.length)[j]?) → laws_markSpanS.l0 (fun y6 y7 => R y6 y7) n (y + 2 * (i : Int)) (i : Int) (M.map mkP) = R (y + 2 * L.length) ((cntP y L.length).map mkP)) (by omega) ?_ ?_ 0 (by omega) L rfl (fun j hj => by omega)
 ·simpa using this
 ·intro n M hM hp
  have e : decide ((L.length : Int) < ((M.map mkP).length : Int)) = false := by simp; omega
  simp only [laws_markSpanS.l0, laws_markSpanS.l0s, e, cond_false]
  rw [list_eq (a := M) (by rw [hM, cntP_length]) (fun j hj => hp j (by omega))]
 ·intro n i hi ih M hM hp
  have hiM : i < M.length := by omega
  have w1 : IntKind.i64.wrap (y + 2 * (i : Int) + 1) = y + 2 * (i : Int) + 1 := w64 (by omega)
  have w2 : IntKind.i64.wrap (y + 2 * (i : Int) + 1 + 1) = y + 2 * ((i + 1 : Nat) : Int) := by rw [w64 (by omega)]; omega
  have hd : decide ((i : Int) < ((M.map mkP).length : Int)) = true := by simp; omega
  have sx : ∀ x : PP, ((M.map mkP).set i (mkP x)).getD i [] = mkP x := fun x => getD_set _ _ _ (by simp; omega)
  simp only [laws_markSpanS.l0, laws_markSpanS.l0s, ix0, Int.toNat_natCast, w1, w2, getP hiM, spP0, List.length_set, hd, Bool.and_self, cond_true, sx, spP1, List.set_set, ixw (by omega : i < 9223372036854775807)]
  rw [map_set]
  exact ih _ (by simp [hM]) (set_pre (by rw [hM, cntP_length]) (by rw [cntP_length]; exact hi) (cntP_get _ _ _ hi) hp)
theorem heldSpanS (y : Int) (m : Nat) (hy : 0 ≤ y ∧ y ≤ 4611686018427387904) (h : m ≤ 2000000) (R : Int → Option Res) : laws_heldSpanS.g ((cntP y m).map mkP) y R = R (y + 2 * m) := by
 simp only [laws_heldSpanS.e, laws_heldSpanS.b]
 have := up0 (N := m) (P := fun n i => laws_heldSpanS.l0 ((cntP y m).map mkP) (fun y6 => R y6) R n (y + 2 * (i : Int)) (i : Int) = R (y + 2 * m)) (by omega) ?_ ?_ 0 (by omega)
 ·simpa using this
 ·intro n
  simp only [laws_heldSpanS.l0, laws_heldSpanS.l0s, List.length_map, cntP_length, ixe, cond_false]
 ·intro n i hi ih
  have w1 : IntKind.i64.wrap (y + 2 * (i : Int) + 1) = y + 2 * (i : Int) + 1 := w64 (by omega)
  have w2 : IntKind.i64.wrap (y + 2 * (i : Int) + 1 + 1) = y + 2 * ((i + 1 : Nat) : Int) := by rw [w64 (by omega)]; omega
  have hc : i < (cntP y m).length := by rw [cntP_length]; exact hi
  simp only [laws_heldSpanS.l0, laws_heldSpanS.l0s, List.length_map, cntP_length, ixl hi, ix0, Bool.and_self, cond_true, ixw (by omega : i < 9223372036854775807), Int.toNat_natCast, w1, w2, getP hc, getD_of (cntP_get m y i hi), mkP_0, mkP_1, bne_self_eq_false, cond_false]
  exact ih
theorem wf_nums {a : List (List Cl)} (ha : wfQ [.int .i64, .int .i64, .int .i64, .int .i64, .int .i64, .ints .i64] (.cells a)) : ∀ x ∈ a.map unX, x.2.2.2.length ≤ maxLen := fun x hx => by
 obtain ⟨r, hr, rfl⟩ := List.mem_map.1 hx
 obtain ⟨i, hi, rfl⟩ := List.mem_iff_getElem.1 hr
 obtain ⟨c, h1, h2⟩ := ha.2 i 5 (.ints .i64) hi rfl
 have h1 : (a.getD i [])[5]? = some c := h1
 have e : a.getD i [] = a[i] := by rw [List.getD_eq_getElem?_getD, List.getElem?_eq_getElem hi]; rfl
 rw [e] at h1
 rw [unX_nums, getD_of h1]
 cases c with
 | l xs => exact h2.1
 | _ => exact Nat.zero_le _
theorem lawFnExactSpans (a : List (List Cl)) (ha : wfQ [.int .i64, .int .i64, .int .i64, .int .i64, .int .i64, .ints .i64] (.cells a)) (R : Bool → Option Res) : laws_FnExactSpans.g a R = R true := by
 obtain ⟨y, hy, hsz⟩ := szInstrS a ha.1 (wf_nums ha)
 simp only [laws_FnExactSpans.e, laws_FnExactSpans.b, hsz]
 by_cases h0 : y < 0
 ·simp [h0]
 have hs := hy (by omega)
 have hn : NumsX 1048576 (a.map unX) := szX_le _ _ (by omega)
 have hn2 : NumsX 2000000 (a.map unX) := fun x hx => Nat.le_trans (hn x hx) (by decide)
 have hl : (a.map unX).length ≤ 1048576 := by rw [List.length_map]; omega
 generalize hL : a.map unX = L at hs hn hn2 hl
 have hto := toInstrS a (by omega) (by rw [hL]; exact hn)
 rw [hL] at hto
 obtain ⟨Z, hZ⟩ := markInstrS 1 L (by omega) hl (by omega)
 have hsp : ((spansX L).map mkS) = ((spansX L).map fun s => ((s.1 : Int), (s.2 : Int))).map mkP := by rw [List.map_map]; rfl
 have hsl : ((spansX L).map fun s => ((s.1 : Int), (s.2 : Int))).length ≤ 2000000 := by
  rw [List.length_map, spansX]
  split
  ·have := spansR_len L (L.length + 1) 0; omega
  ·exact Nat.zero_le _
 have e1 : decide ((1 : Int) + 5 * (L.length : Int) + (szX L : Int) < 0) = false := by simp; omega
 generalize ((spansX L).map fun s => ((s.1 : Int), (s.2 : Int))) = S at hsp hsl
 have e2 : decide ((1 : Int) + 2 * (S.length : Int) < 0) = false := by simp; omega
 simp only [h0, decide_false, cond_false, hto, spansI L (by omega) hn2, spansS L (by omega) hn2, hsp, eqSpanS S hsl, Bool.not_true, eqInstrS L hl hn, hZ, e1, markSpanS 1 S (by omega) hsl, heldSpanS 1 S.length (by omega) hsl, e2, bne_self_eq_false]
end Go.Tv.F
