/- The pure law about these functions. It holds without condition. -/
import Derived.Test.YtkokikbdndegkaaGreatExactFuseTryF
set_option linter.unusedVariables false
set_option linter.unusedSectionVars false
set_option linter.unusedSimpArgs false
set_option linter.unnecessarySimpa false
set_option maxRecDepth 100000
set_option autoImplicit false
namespace Go.Tv.F
open Go Go.Tv
def numOk (x : Int) : Bool := decide (-1000000000000 ≤ x) && decide (x ≤ 1000000000000)
theorem within (x a b : Int) (R : Bool → Option Res) : impl_within.g x a b R = R (decide (a ≤ x) && decide (x ≤ b)) := by
 simp only [impl_within.e, impl_within.b]; cases decide (a ≤ x) <;> rfl
theorem l1In (x a b : Int) (R : Bool → Option Res) : spec_l1In.g x a b R = R (decide (a ≤ x) && decide (x ≤ b)) := by
 simp only [spec_l1In.e, spec_l1In.b]; cases decide (a ≤ x) <;> rfl
theorem numOkI (x : Int) (R : Bool → Option Res) : impl_NumOk.g x R = R (numOk x) := by simp only [impl_NumOk.e, impl_NumOk.b, within, numOk]
theorem numOkS (x : Int) (R : Bool → Option Res) : spec_NumOk.g x R = R (numOk x) := by simp only [spec_NumOk.e, spec_NumOk.b, l1In, numOk]
def dimOk (x : Int) : Bool := decide (0 ≤ x) && decide (x ≤ 300)
def prod : List Int → Int := List.foldr (· * ·) 1
def sizeOf (s : List Int) : Int := bif decide (s.length ≤ 3) && s.all dimOk && decide (prod s ≤ 300) then prod s else -1
theorem prod_cons (a : Int) (l : List Int) : prod (a :: l) = a * prod l := rfl
theorem sizeOfI (s : List Int) (R : Int → Option Res) : impl_SizeOf.g s R = R (sizeOf s) := by
 simp only [impl_SizeOf.e, impl_SizeOf.b]
 by_cases h : (3 : Int) < (s.length : Int)
 ·have e : decide (s.length ≤ 3) = false := by simp; omega
  simp only [h, decide_true, cond_true, sizeOf, e, Bool.false_and, cond_false]
 have e : decide (s.length ≤ 3) = true := by simp; omega
 have loop : impl_SizeOf.l0 s (s.length : Int) (fun y7 => bif decide (300 < y7) then R (-1) else R y7) R fuel 1 0 = (bif s.all dimOk then (bif decide (300 < prod s) then R (-1) else R (prod s)) else R (-1)) := by
  have := up0 (N := s.length) (P := fun n i => ∀ acc : Int, 0 ≤ acc → acc ≤ 300 ^ i → impl_SizeOf.l0 s (s.length : Int) (fun y7 => bif decide (300 < y7) then R (-1) else R y7) R n acc (i : Int) = (bif (s.drop i).all dimOk then (bif decide (300 < acc * prod (s.drop i)) then R (-1) else R (acc * prod (s.drop i))) else R (-1))) (by omega) ?_ ?_ 0 (by omega) 1 (by omega) (by omega)
  ·simpa using this
  ·intro n acc _ _
   simp only [impl_SizeOf.l0, impl_SizeOf.l0s, ixe, cond_false, List.drop_length, List.all_nil, cond_true, prod, List.foldr_nil, Int.mul_one]
  ·intro n i hi ih acc h0 h1
   have hb : (300 : Int) ^ i ≤ 300 ^ 2 := by
    have : i = 0 ∨ i = 1 ∨ i = 2 := by omega
    rcases this with rfl | rfl | rfl <;> decide
   simp only [impl_SizeOf.l0, impl_SizeOf.l0s, ixl hi, ix0, Bool.and_self, cond_true, within, ixw (by omega : i < 9223372036854775807), Int.toNat_natCast]
   rw [drop_cons 0 hi]
   generalize s.getD i 0 = d
   rw [List.all_cons, prod_cons]
   by_cases hd : dimOk d = true
   ·have hd' := hd
    simp only [dimOk, Bool.and_eq_true, decide_eq_true_eq] at hd'
    have hm : acc * d ≤ 300 ^ 2 * 300 := Int.mul_le_mul (by omega) hd'.2 hd'.1 (by decide)
    have hm0 : 0 ≤ acc * d := Int.mul_nonneg h0 hd'.1
    rw [show (decide (0 ≤ d) && decide (d ≤ 300)) = true from hd, hd, w64 (by omega)]
    simp only [Bool.not_true, cond_false, Bool.true_and]
    rw [ih (acc * d) hm0 (by rw [Int.pow_succ]; exact Int.mul_le_mul h1 hd'.2 hd'.1 (by exact Int.pow_nonneg (by omega))), Int.mul_assoc]
   ·have hd : dimOk d = false := by simpa using hd
    rw [show (decide (0 ≤ d) && decide (d ≤ 300)) = false from hd, hd]
    simp
 rw [loop]
 simp only [h, decide_false, cond_false, sizeOf, e, Bool.true_and]
 cases hA : s.all dimOk with
 | false => simp
 | true =>
  by_cases h3 : 300 < prod s
  ·have : decide (prod s ≤ 300) = false := by simp; omega
   simp [h3, this]
  ·have : decide (prod s ≤ 300) = true := by simp; omega
   simp [h3, this]
theorem sizeOfS (s : List Int) (R : Int → Option Res) : spec_SizeOf.g s R = R (sizeOf s) := by
 simp only [spec_SizeOf.e, spec_SizeOf.b]
 by_cases h : (3 : Int) < (s.length : Int)
 ·have e : decide (s.length ≤ 3) = false := by simp; omega
  simp only [h, decide_true, cond_true, sizeOf, e, Bool.false_and, cond_false]
 have e : decide (s.length ≤ 3) = true := by simp; omega
 have loop2 : s.all dimOk = true → ∀ z k, spec_SizeOf.l2 s z k fuel 1 0 = k (prod s) := by
  intro hA z k
  have := up0 (N := s.length) (P := fun n i => ∀ acc : Int, 0 ≤ acc → acc ≤ 300 ^ i → (s.drop i).all dimOk = true → spec_SizeOf.l2 s z k n acc (i : Int) = k (acc * prod (s.drop i))) (by omega) ?_ ?_ 0 (by omega) 1 (by omega) (by omega) (by simpa using hA)
  ·simpa using this
  ·intro n acc _ _ _
   simp only [spec_SizeOf.l2, spec_SizeOf.l2s, ixe, cond_false, List.drop_length, prod, List.foldr_nil, Int.mul_one]
  ·intro n i hi ih acc h0 h1 ha
   have hb : (300 : Int) ^ i ≤ 300 ^ 2 := by
    have : i = 0 ∨ i = 1 ∨ i = 2 := by omega
    rcases this with rfl | rfl | rfl <;> decide
   simp only [spec_SizeOf.l2, spec_SizeOf.l2s, ixl hi, ix0, Bool.and_self, cond_true, ixw (by omega : i < 9223372036854775807), Int.toNat_natCast]
   rw [drop_cons 0 hi] at ha ⊢
   revert ha
   generalize s.getD i 0 = d
   intro ha
   rw [prod_cons]
   simp only [List.all_cons, Bool.and_eq_true, dimOk, decide_eq_true_eq] at ha
   have hm : acc * d ≤ 300 ^ 2 * 300 := Int.mul_le_mul (by omega) ha.1.2 ha.1.1 (by decide)
   have hm0 : 0 ≤ acc * d := Int.mul_nonneg h0 ha.1.1
   rw [w64 (by omega), ih (acc * d) hm0 (by rw [Int.pow_succ]; exact Int.mul_le_mul h1 ha.1.2 ha.1.1 (by exact Int.pow_nonneg (by omega))) (by simpa [dimOk] using ha.2), Int.mul_assoc]
 have loop : ∀ k, spec_SizeOf.l0 s k R fuel false 0 = (bif s.all dimOk then k (s.any (· == 0)) else R (-1)) := by
  intro k
  have := up0 (N := s.length) (P := fun n i => ∀ z : Bool, spec_SizeOf.l0 s k R n z (i : Int) = (bif (s.drop i).all dimOk then k (z || (s.drop i).any (· == 0)) else R (-1))) (by omega) ?_ ?_ 0 (by omega) false
  ·simpa using this
  ·intro n z
   simp only [spec_SizeOf.l0, spec_SizeOf.l0s, ixe, cond_false, List.drop_length, List.all_nil, cond_true, List.any_nil, Bool.or_false]
  ·intro n i hi ih z
   simp only [spec_SizeOf.l0, spec_SizeOf.l0s, ixl hi, ix0, Bool.and_self, cond_true, l1In, ixw (by omega : i < 9223372036854775807), Int.toNat_natCast]
   rw [drop_cons 0 hi]
   generalize s.getD i 0 = d
   rw [List.all_cons, List.any_cons]
   cases hd : dimOk d with
   | true =>
    rw [show (decide (0 ≤ d) && decide (d ≤ 300)) = true from hd]
    cases z with
    | true => simp only [Bool.not_true, cond_false, cond_true, ih, Bool.true_or, Bool.true_and]
    | false => simp only [Bool.not_true, cond_false, ih, Bool.false_or, Bool.true_and]
   | false =>
    rw [show (decide (0 ≤ d) && decide (d ≤ 300)) = false from hd]
    simp
 simp only [h, decide_false, cond_false, loop, sizeOf, e, Bool.true_and]
 cases hA : s.all dimOk with
 | false => simp
 | true =>
  simp only [cond_true, loop2 hA, Bool.true_and]
  by_cases h3 : 300 < prod s
  ·have h4 : decide (prod s ≤ 300) = false := by simp; omega
   have hz : s.any (· == 0) = false := by
    cases hz : s.any (· == 0) with
    | false => rfl
    | true =>
     exfalso
     have : ∀ l : List Int, l.any (· == 0) = true → prod l = 0 := by
      intro l
      induction l with
      | nil => intro h; simp at h
      | cons a l ih =>
       intro h
       simp only [List.any_cons, Bool.or_eq_true, beq_iff_eq] at h
       rw [prod_cons]
       rcases h with rfl | h
       ·simp
       ·rw [ih h]; simp
     rw [this s hz] at h3
     omega
   simp [h3, h4, hz]
  ·have : decide (prod s ≤ 300) = true := by simp; omega
   simp [h3, this]
def arrOk (s d : List Int) : Bool := decide ((d.length : Int) = sizeOf s) && d.all numOk
theorem sizeOf_le (s : List Int) : sizeOf s ≤ 300 := by
 simp only [sizeOf]
 cases h : decide (s.length ≤ 3) && s.all dimOk && decide (prod s ≤ 300) with
 | false => simp
 | true => simp only [Bool.and_eq_true, decide_eq_true_eq] at h; simpa using h.2
theorem arrOk_facts {s d : List Int} (h : arrOk s d = true) : s.length ≤ 3 ∧ s.all dimOk = true ∧ d.length ≤ 300 ∧ d.all numOk = true ∧ (d.length : Int) = prod s := by
 simp only [arrOk, Bool.and_eq_true, decide_eq_true_eq] at h
 have h0 := sizeOf_le s
 obtain ⟨h1, h2⟩ := h
 rw [sizeOf] at h1
 cases h3 : decide (s.length ≤ 3) && s.all dimOk && decide (prod s ≤ 300) with
 | false => rw [h3] at h1; simp at h1
 | true =>
  rw [h3] at h1
  simp only [Bool.and_eq_true, decide_eq_true_eq] at h3
  simp only [cond_true] at h1
  exact ⟨h3.1.1, h3.1.2, by omega, h2, h1⟩
/-- the first place from i on at which something holds; -1: none -/
def idx {α : Type} (f : α → Bool) : List α → Int → Int
 | [], _ => -1
 | x :: l, i => bif f x then i else idx f l (i + 1)
theorem idx_any {α : Type} (f : α → Bool) (l : List α) : ∀ i : Int, 0 ≤ i → decide (0 ≤ idx f l i) = l.any f := by
 induction l with
 | nil => intro i _; rfl
 | cons x l ih =>
  intro i hi
  cases hf : f x with
  | true => simp [idx, hf, hi]
  | false => simpa [idx, hf] using ih (i + 1) (by omega)
theorem arrayOkI_1 (x : Int) (R : Bool → Option Res) : impl_ArrayOk_1.g x R = R (!numOk x) := by simp only [impl_ArrayOk_1.e, impl_ArrayOk_1.b, numOkI]
theorem arrayOkI_idx (d : List Int) (h : d.length ≤ 9223372036854775807) (R : Int → Option Res) : slices_IndexFunc_int_int.g d R = R (idx (fun x => !numOk x) d 0) := by
 simp only [slices_IndexFunc_int_int.e, slices_IndexFunc_int_int.b]
 have := up0 (N := d.length) (P := fun n i => slices_IndexFunc_int_int.l0 d (d.length : Int) (R (-1)) R n (i : Int) = R (idx (fun x => !numOk x) (d.drop i) i)) (by omega) ?_ ?_ 0 (by omega)
 ·simpa using this
 ·intro n; simp only [slices_IndexFunc_int_int.l0, slices_IndexFunc_int_int.l0s, ixe, cond_false, List.drop_length, idx]
 ·intro n i hi ih
  simp only [slices_IndexFunc_int_int.l0, slices_IndexFunc_int_int.l0s, ixl hi, ix0, Bool.and_self, cond_true, arrayOkI_1, ixw (by omega : i < 9223372036854775807), Int.toNat_natCast]
  rw [drop_cons 0 hi, idx]
  cases numOk (d.getD i 0) with
  | true => exact ih
  | false => rfl
theorem arrayOkI (s d : List Int) (h : d.length ≤ 9223372036854775807) (R : Bool → Option Res) : impl_ArrayOk.g s d R = R (arrOk s d) := by
 simp only [impl_ArrayOk.e, impl_ArrayOk.b, sizeOfI, slices_ContainsFunc_int_int.e, slices_ContainsFunc_int_int.b, arrayOkI_idx d h, idx_any _ _ _ (Int.le_refl 0), arrOk]
 by_cases h1 : (d.length : Int) = sizeOf s
 ·simp only [h1, beq_self_eq_true, cond_true, decide_true, Bool.true_and]
  congr 1
  rw [List.any_eq_not_all_not]; simp
 ·have : ((d.length : Int) == sizeOf s) = false := by simpa using h1
  simp only [this, h1, cond_false, decide_false, Bool.false_and]
theorem arrayOkS (s d : List Int) (h : d.length ≤ 9223372036854775807) (R : Bool → Option Res) : spec_ArrayOk.g s d R = R (arrOk s d) := by
 simp only [spec_ArrayOk.e, spec_ArrayOk.b, sizeOfS, arrOk]
 have loop : spec_ArrayOk.l0 s d (R true) R fuel 0 = R (d.all numOk) := by
  have := up0 (N := d.length) (P := fun n i => spec_ArrayOk.l0 s d (R true) R n (i : Int) = R ((d.drop i).all numOk)) (by omega) ?_ ?_ 0 (by omega)
  ·simpa using this
  ·intro n; simp only [spec_ArrayOk.l0, spec_ArrayOk.l0s, ixe, cond_false, List.drop_length, List.all_nil]
  ·intro n i hi ih
   simp only [spec_ArrayOk.l0, spec_ArrayOk.l0s, ixl hi, ix0, Bool.and_self, cond_true, numOkS, ixw (by omega : i < 9223372036854775807), Int.toNat_natCast]
   rw [drop_cons 0 hi, List.all_cons]
   cases numOk (d.getD i 0) with
   | true => exact ih
   | false => rfl
 by_cases h1 : (d.length : Int) = sizeOf s
 ·rw [h1]; simp only [bne_self_eq_false, cond_false, loop, decide_true, Bool.true_and]
 ·have : (sizeOf s != (d.length : Int)) = true := by simp; omega
  simp only [this, cond_true, h1, decide_false, Bool.false_and]
theorem toIntS (a : List Int) (h : a.length ≤ 1048576) (R : List Int → Option Res) : laws_toIntS.g a R = R a := by
 have e1 : decide (0 ≤ (a.length : Int)) = true := by simp
 have e2 : decide ((a.length : Int) * 8 ≤ 140737488355328) = true := by simp; omega
 simp only [laws_toIntS.e, laws_toIntS.b, e1, e2, decide_true, Bool.and_self, cond_true]
 refine up0 (N := a.length) (P := fun n i => ∀ l : List Int, l.length = a.length → (∀ j, j < i → l[j]? = a[j]?) → laws_toIntS.l0 a R n (i : Int) l = R a) (by omega) ?_ ?_ 0 (by omega) _ (by simp) (fun j hj => by omega)
 ·intro n l hl hp
  simp only [laws_toIntS.l0, laws_toIntS.l0s, ixe, cond_false]
  rw [list_eq hl (fun j hj => hp j (by omega))]
 ·intro n i hi ih l hl hp
  have hi2 : decide ((i : Int) < (l.length : Int)) = true := by simp; omega
  simp only [laws_toIntS.l0, laws_toIntS.l0s, ixl hi, ix0, hi2, Bool.and_self, cond_true, ixw (by omega : i < 9223372036854775807), Int.toNat_natCast]
  exact ih _ (by simp [hl]) (set_pre hl hi (getD_lt 0 hi) hp)
theorem eqIntS (a : List Int) (h : a.length ≤ 9223372036854775807) (R : Bool → Option Res) : laws_eqIntS.g a a R = R true := by
 simp only [laws_eqIntS.e, laws_eqIntS.b, bne_self_eq_false, cond_false]
 refine up0 (N := a.length) (P := fun n i => laws_eqIntS.l0 a a (R true) R n (i : Int) = R true) (by omega) ?_ ?_ 0 (by omega)
 ·intro n; simp only [laws_eqIntS.l0, laws_eqIntS.l0s, ixe, cond_false]
 ·intro n i hi ih
  simp only [laws_eqIntS.l0, laws_eqIntS.l0s, ixl hi, ix0, Bool.and_self, cond_true, bne_self_eq_false, cond_false, ixw (by omega : i < 9223372036854775807)]
  exact ih
theorem eqArray (a b : List Int) (h : a.length ≤ 9223372036854775807) (h2 : b.length ≤ 9223372036854775807) (R : Bool → Option Res) : laws_eqArray.g a b a b R = R true := by
 simp only [laws_eqArray.e, laws_eqArray.b, eqIntS a h, eqIntS b h2, Bool.not_true, cond_false]
theorem markIntS (y : Int) (a : List Int) (hy : 0 ≤ y ∧ y ≤ 4611686018427387904) (h : a.length ≤ 4611686018427387903) (R : Int → List Int → Option Res) : laws_markIntS.g y a R = R (y + a.length) (cnt (fun x => x) y a.length) := by
 simp only [laws_markIntS.e, laws_markIntS.b]
 have := up0 (N := a.length) (P := fun n i => ∀ l : List Int, l.length = a.length → (∀ j, j < i → l[j]? = (cnt (fun x => x) y a.length)[j]?) → laws_markIntS.l0 R n (y + (i : Int)) (i : Int) l = R (y + a.length) (cnt (fun x => x) y a.length)) (by omega) ?_ ?_ 0 (by omega) a rfl (fun j hj => by omega)
 ·simpa using this
 ·intro n l hl hp
  have e : decide ((a.length : Int) < (l.length : Int)) = false := by simp; omega
  simp only [laws_markIntS.l0, laws_markIntS.l0s, e, cond_false]
  rw [list_eq (a := l) (by rw [hl, cnt_length]) (fun j hj => hp j (by omega))]
 ·intro n i hi ih l hl hp
  have hi2 : decide ((i : Int) < (l.length : Int)) = true := by simp; omega
  have hw : IntKind.i64.wrap (y + (i : Int) + 1) = y + ((i + 1 : Nat) : Int) := by rw [w64 (by omega)]; omega
  simp only [laws_markIntS.l0, laws_markIntS.l0s, ix0, hi2, Bool.and_self, cond_true, ixw (by omega : i < 9223372036854775807), Int.toNat_natCast, hw]
  exact ih _ (by simp [hl]) (set_pre (by rw [hl, cnt_length]) (by rw [cnt_length]; exact hi) (cnt_get _ _ _ _ hi) hp)
theorem markArray (y : Int) (a b : List Int) (hy : 0 ≤ y ∧ y ≤ 1152921504606846976) (h : a.length ≤ 1152921504606846976) (h2 : b.length ≤ 1152921504606846976) (R : Int → List Int → List Int → Option Res) : laws_markArray.g y a b R = R (y + a.length + b.length) (cnt (fun x => x) y a.length) (cnt (fun x => x) (y + a.length) b.length) := by
 simp only [laws_markArray.e, laws_markArray.b]
 rw [markIntS y a (by omega) (by omega), markIntS _ b (by omega) (by omega)]
theorem heldIntS (y : Int) (m : Nat) (hy : 0 ≤ y ∧ y ≤ 4611686018427387904) (h : m ≤ 4611686018427387903) (R : Int → Option Res) : laws_heldIntS.g (cnt (fun x => x) y m) y R = R (y + m) := by
 simp only [laws_heldIntS.e, laws_heldIntS.b]
 have := up0 (N := m) (P := fun n i => laws_heldIntS.l0 (cnt (fun x => x) y m) R R n (y + (i : Int)) (i : Int) = R (y + m)) (by omega) ?_ ?_ 0 (by omega)
 ·simpa using this
 ·intro n
  simp only [laws_heldIntS.l0, laws_heldIntS.l0s, cnt_length, ixe, cond_false]
 ·intro n i hi ih
  have hw : IntKind.i64.wrap (y + (i : Int) + 1) = y + ((i + 1 : Nat) : Int) := by rw [w64 (by omega)]; omega
  simp only [laws_heldIntS.l0, laws_heldIntS.l0s, cnt_length, ixl hi, ix0, Bool.and_self, cond_true, ixw (by omega : i < 9223372036854775807), Int.toNat_natCast, hw, getD_of (cnt_get (fun x => x) m y i hi), bne_self_eq_false, cond_false]
  exact ih
theorem getD_map {α β : Type} (f : α → β) (L : List α) {i : Nat} (h : i < L.length) (d : β) (e : α) : (L.map f).getD i d = f (L.getD i e) := by
 rw [List.getD_eq_getElem?_getD, List.getD_eq_getElem?_getD, List.getElem?_map, List.getElem?_eq_getElem h]; rfl
theorem map_set {α β : Type} (f : α → β) (L : List α) (i : Nat) (x : α) : (L.map f).set i (f x) = (L.set i x).map f := List.map_set.symm
theorem getD_set {α : Type} (L : List α) {i : Nat} (x d : α) (h : i < L.length) : (L.set i x).getD i d = x := by
 rw [List.getD_eq_getElem?_getD, List.getElem?_set_self h]; rfl
abbrev Ins : Type := Int × Int × (Int × Int × Int) × List Int
def mkX (x : Ins) : List Cl := [.i x.1, .i x.2.1, .i x.2.2.1.1, .i x.2.2.1.2.1, .i x.2.2.1.2.2, .l x.2.2.2]
def unX (r : List Cl) : Ins := ((r.getD 0 (.i 0)).toI, (r.getD 1 (.i 0)).toI, ((r.getD 2 (.i 0)).toI, (r.getD 3 (.i 0)).toI, (r.getD 4 (.i 0)).toI), (r.getD 5 (.i 0)).toL)
def dX : Ins := (0, 0, (0, 0, 0), [])
theorem getX {L : List Ins} {i : Nat} (h : i < L.length) : (L.map mkX).getD i [] = mkX (L.getD i dX) := getD_map mkX L h [] dX
theorem mkX_0 (x : Ins) : ((mkX x).getD 0 (.i 0)).toI = x.1 := rfl
theorem mkX_1 (x : Ins) : ((mkX x).getD 1 (.i 0)).toI = x.2.1 := rfl
theorem mkX_2 (x : Ins) : ((mkX x).getD 2 (.i 0)).toI = x.2.2.1.1 := rfl
theorem mkX_3 (x : Ins) : ((mkX x).getD 3 (.i 0)).toI = x.2.2.1.2.1 := rfl
theorem mkX_4 (x : Ins) : ((mkX x).getD 4 (.i 0)).toI = x.2.2.1.2.2 := rfl
theorem mkX_5 (x : Ins) : ((mkX x).getD 5 (.i 0)).toL = x.2.2.2 := rfl
theorem spX0 (c : Ins) (x : Int) : splice (mkX c) 0 [.i x] = mkX (x, c.2) := rfl
theorem spX1 (c : Ins) (x : Int) : splice (mkX c) 1 [.i x] = mkX (c.1, x, c.2.2) := rfl
theorem spX2 (c : Ins) (x : Int) : splice (mkX c) 2 [.i x] = mkX (c.1, c.2.1, (x, c.2.2.1.2), c.2.2.2) := rfl
theorem spX3 (c : Ins) (x : Int) : splice (mkX c) 3 [.i x] = mkX (c.1, c.2.1, (c.2.2.1.1, x, c.2.2.1.2.2), c.2.2.2) := rfl
theorem spX4 (c : Ins) (x : Int) : splice (mkX c) 4 [.i x] = mkX (c.1, c.2.1, (c.2.2.1.1, c.2.2.1.2.1, x), c.2.2.2) := rfl
theorem spX5 (c : Ins) (x : List Int) : splice (mkX c) 5 [.l x] = mkX (c.1, c.2.1, c.2.2.1, x) := rfl
theorem unX_nums (r : List Cl) : (unX r).2.2.2 = (r.getD 5 (.i 0)).toL := rfl
/-- so many numbers at most -/
def NumsX (M : Nat) (L : List Ins) : Prop := ∀ x ∈ L, x.2.2.2.length ≤ M
theorem NumsX.at {M : Nat} {L : List Ins} (h : NumsX M L) {i : Nat} (hi : i < L.length) : (L.getD i dX).2.2.2.length ≤ M := by
 rw [List.getD_eq_getElem?_getD, List.getElem?_eq_getElem hi]; exact h _ (List.getElem_mem hi)
theorem toInstrS (a : List (List Cl)) (h : a.length ≤ 1048576) (hn : NumsX 1048576 (a.map unX)) (R : List (List Cl) → Option Res) : laws_toInstrS.g a R = R ((a.map unX).map mkX) := by
 have e1 : decide (0 ≤ (a.length : Int)) = true := by simp
 have e2 : decide ((a.length : Int) * 64 ≤ 140737488355328) = true := by simp; omega
 simp only [laws_toInstrS.e, laws_toInstrS.b, e1, e2, decide_true, Bool.and_self, cond_true]
 refine up0 (N := a.length) (P := fun n i => ∀ l : List (List Cl), l.length = a.length → (∀ j, j < i → l[j]? = ((a.map unX).map mkX)[j]?) → laws_toInstrS.l0 a R n (i : Int) l = R ((a.map unX).map mkX)) (by omega) ?_ ?_ 0 (by omega) _ (by simp) (fun j hj => by omega)
 ·intro n l hl hp
  simp only [laws_toInstrS.l0, laws_toInstrS.l0s, ixe, cond_false]
  rw [list_eq (by simpa using hl) (fun j hj => hp j (by omega))]
 ·intro n i hi ih l hl hp
  have hi2 : decide ((i : Int) < (l.length : Int)) = true := by simp; omega
  have hx := hn.at (i := i) (by simpa using hi)
  have hx : ((a.getD i []).getD 5 (.i 0)).toL.length ≤ 1048576 := by rw [getD_map unX a hi dX [], unX_nums] at hx; exact hx
  simp only [laws_toInstrS.l0, laws_toInstrS.l0s, laws_toInstr.e, laws_toInstr.b, laws_toFun.e, laws_toFun.b, ixl hi, ix0, hi2, Bool.and_self, cond_true, ixw (by omega : i < 9223372036854775807), Int.toNat_natCast, toIntS _ hx]
  refine ih _ (by simp [hl]) (set_pre (a := (a.map unX).map mkX) (by simpa using hl) (by simpa using hi) ?_ hp)
  rw [List.getElem?_map, List.getElem?_map, getD_lt [] hi]; rfl
theorem eqInstrS (L : List Ins) (h : L.length ≤ 1048576) (hn : NumsX 1048576 L) (R : Bool → Option Res) : laws_eqInstrS.g (L.map mkX) (L.map mkX) R = R true := by
 simp only [laws_eqInstrS.e, laws_eqInstrS.b, bne_self_eq_false, cond_false, List.length_map]
 refine up0 (N := L.length) (P := fun n i => laws_eqInstrS.l0 (L.map mkX) (L.map mkX) (R true) R n (i : Int) = R true) (by omega) ?_ ?_ 0 (by omega)
 ·intro n; simp only [laws_eqInstrS.l0, laws_eqInstrS.l0s, List.length_map, ixe, cond_false]
 ·intro n i hi ih
  have hx := hn.at hi
  simp only [laws_eqInstrS.l0, laws_eqInstrS.l0s, laws_eqInstr.e, laws_eqInstr.b, laws_eqFun.e, laws_eqFun.b, List.length_map, ixl hi, ix0, Bool.and_self, cond_true, bne_self_eq_false, cond_false, Bool.not_true, Int.toNat_natCast, getX hi, mkX_0, mkX_1, mkX_2, mkX_3, mkX_4, mkX_5, eqIntS _ (by omega : (L.getD i dX).2.2.2.length ≤ 9223372036854775807), ixw (by omega : i < 9223372036854775807)]
  exact ih
/-- words that instructions have -/
def szX : List Ins → Nat
 | [] => 0
 | x :: L => x.2.2.2.length + szX L
theorem szX_drop (L : List Ins) {i : Nat} (hi : i < L.length) : szX (L.drop i) = (L.getD i dX).2.2.2.length + szX (L.drop (i + 1)) := by
 rw [drop_cons dX hi, szX]
theorem szX_le : ∀ (L : List Ins) (M : Nat), szX L ≤ M → NumsX M L
 | [], _, _, x, h => by cases h
 | y :: L, M, hM, x, h => by
  rw [szX] at hM
  rcases List.mem_cons.1 h with rfl | h
  ·omega
  ·exact szX_le L M (by omega) x h
/-- marks: so many numbers -/
theorem markInstrS (y : Int) (L : List Ins) (hy : 0 ≤ y ∧ y ≤ 1152921504606846976) (h : L.length ≤ 1048576) (hz : szX L ≤ 1048576) : ∃ Z : List (List Cl), ∀ R : Int → List (List Cl) → Option Res, laws_markInstrS.g y (L.map mkX) R = R (y + 5 * L.length + szX L) Z := by
 simp only [laws_markInstrS.e, laws_markInstrS.b]
 have := up0 (N := L.length) (P := fun n i => ∀ (M : List Ins) (z : Int), M.length = L.length → M.drop i = L.drop i → z = y + 5 * i + (szX L - szX (L.drop i) : Nat) → szX (L.drop i) ≤ szX L → ∃ Z : List (List Cl), ∀ R : Int → List (List Cl) → Option Res, laws_markInstrS.l0 R n z (i : Int) (M.map mkX) = R (y + 5 * L.length + szX L) Z) (by omega) ?_ ?_ 0 (by omega) L y rfl rfl (by simp) (by simp)
 ·exact this
 ·intro n M z hM _ hz' _
  have e : decide ((L.length : Int) < ((M.map mkX).length : Int)) = false := by simp; omega
  refine ⟨M.map mkX, fun R => ?_⟩
  simp only [laws_markInstrS.l0, laws_markInstrS.l0s, e, cond_false]
  rw [hz', List.drop_length, szX]; rfl
 ·intro n i hi ih M z hM hd hz' hle
  have hiM : i < M.length := by omega
  have hdl := szX_drop L hi
  have hnx : (M.getD i dX).2.2.2 = (L.getD i dX).2.2.2 := by
   have a := drop_cons dX hiM
   have b := drop_cons dX hi
   rw [hd, b] at a
   rw [(List.cons.inj a).1]
  have hd' : M.drop (i + 1) = L.drop (i + 1) := by
   have a := drop_cons dX hiM
   have b := drop_cons dX hi
   rw [hd, b] at a
   exact (List.cons.inj a).2.symm
  have hz2 : z + (L.getD i dX).2.2.2.length + 5 = y + 5 * ((i + 1 : Nat) : Int) + (szX L - szX (L.drop (i + 1)) : Nat) := by omega
  have w1 : IntKind.i64.wrap (z + 1) = z + 1 := w64 (by omega)
  have w2 : IntKind.i64.wrap (z + 1 + 1) = z + 2 := by rw [w64 (by omega)]; omega
  have w3 : IntKind.i64.wrap (z + 2 + 1) = z + 3 := by rw [w64 (by omega)]; omega
  have w4 : IntKind.i64.wrap (z + 3 + 1) = z + 4 := by rw [w64 (by omega)]; omega
  have w5 : IntKind.i64.wrap (z + 4 + 1) = z + 5 := by rw [w64 (by omega)]; omega
  have hdd : ∀ Q : List Ins, Q.length = M.length → decide ((i : Int) < ((Q.map mkX).length : Int)) = true := by intro Q hQ; simp; omega
  have hb5 : 0 ≤ z + 5 ∧ z + 5 ≤ 4611686018427387904 := by omega
  have hbx : (L.getD i dX).2.2.2.length ≤ 4611686018427387903 := by omega
  have step : ∀ x : Ins, ∃ Z : List (List Cl), ∀ R : Int → List (List Cl) → Option Res, laws_markInstrS.l0 R n (z + (L.getD i dX).2.2.2.length + 5) ((i + 1 : Nat) : Int) ((M.set i x).map mkX) = R (y + 5 * L.length + szX L) Z := fun x => by
   refine ih (M.set i x) _ (by simp [hM]) ?_ hz2 (by omega)
   rw [List.drop_set_of_lt (by omega)]; exact hd'
  have sx : ∀ (Q : List Ins) (x : Ins), Q.length = M.length → ((Q.map mkX).set i (mkX x)).getD i [] = mkX x := fun Q x hQ => getD_set _ _ _ (by simp; omega)
  simp only [laws_markInstrS.l0, laws_markInstrS.l0s, ix0, Int.toNat_natCast, w1, w2, w3, w4, w5, getX hiM, spX0, List.set_set, List.length_set, decide_true, sx M _ rfl, spX1, spX2, spX3, spX4, spX5, mkX_5, hdd M rfl, Bool.and_self, cond_true, hnx, ixw (by omega : i < 9223372036854775807), markIntS _ _ hb5 hbx]
  have e := show z + 5 + ((L.getD i dX).2.2.2.length : Int) = z + (L.getD i dX).2.2.2.length + 5 by omega
  simp only [e, map_set]
  exact step _
abbrev Tok := Int × Int
abbrev Fn3 := Int × Int × Int
def kdT (X : List Tok) (k : Nat) : Int := match X[k]? with | some t => t.1 | none => 0
def vlT (X : List Tok) (k : Nat) : Int := match X[k]? with | some t => t.2 | none => 0
def sgT (X : List Tok) (k : Nat) : Int := if kdT X k = 3 then vlT X k else 0
/-- the place of the bracket that closes, so many deep -/
def cloT : Nat → List Tok → Option Nat
 | _, [] => none
 | d, t :: X => let e := if t.1 = 4 then d + 1 else if t.1 = 5 then d - 1 else d
  if e = 0 then some 1 else (cloT e X).map (· + 1)
theorem clo_cons (d : Nat) (t : Tok) (X : List Tok) : cloT d (t :: X) = if (if t.1 = 4 then d + 1 else if t.1 = 5 then d - 1 else d) = 0 then some 1 else (cloT (if t.1 = 4 then d + 1 else if t.1 = 5 then d - 1 else d) X).map (· + 1) := rfl
def Bal (C : List Tok) : Prop := ∀ d s, 1 ≤ d → cloT d (C ++ s) = (cloT d s).map (· + C.length)
theorem Bal.nil : Bal [] := fun d s _ => by simp
theorem Bal.app {C D : List Tok} (h : Bal C) (h' : Bal D) : Bal (C ++ D) := fun d s hd => by
 rw [List.append_assoc, h d _ hd, h' d s hd, Option.map_map]
 congr 1; funext x; simp only [Function.comp_apply, List.length_append]; omega
theorem Bal.one {t : Tok} (h4 : t.1 ≠ 4) (h5 : t.1 ≠ 5) : Bal [t] := fun d s hd => by
 show cloT d (t :: s) = _
 rw [clo_cons]
 simp only [if_neg h4, if_neg h5]
 rw [if_neg (by omega)]; rfl
theorem Bal.all : ∀ {C : List Tok}, (∀ k, k < C.length → kdT C k ≠ 4 ∧ kdT C k ≠ 5) → Bal C
 | [], _ => Bal.nil
 | t :: C, h => Bal.app (C := [t]) (Bal.one (h 0 (by simp)).1 (h 0 (by simp)).2) (Bal.all fun k hk => h (k + 1) (by simpa using hk))
theorem Bal.wrap {o c : Tok} {C : List Tok} (ho : o.1 = 4) (hc : c.1 = 5) (h : Bal C) : Bal (o :: (C ++ [c])) := fun d s hd => by
 have e : o :: (C ++ [c]) ++ s = o :: (C ++ (c :: s)) := by simp
 rw [e]
 show cloT d (o :: (C ++ (c :: s))) = _
 rw [clo_cons]
 simp only [if_pos ho]
 rw [if_neg (by omega), h (d + 1) (c :: s) (by omega)]
 have e2 : cloT (d + 1) (c :: s) = (cloT d s).map (· + 1) := by
  show (if _ then _ else _) = _
  rw [if_neg (show ¬ c.1 = 4 by omega)]
  simp only [if_pos hc, Nat.add_sub_cancel]
  rw [if_neg (by omega)]
 rw [e2, Option.map_map, Option.map_map]
 congr 1
 funext x; simp only [Function.comp_apply, List.length_cons, List.length_append, List.length_nil]; omega
def Ends (r : List Tok) : Prop := r = [] ∨ kdT r 0 = 5
theorem Ends.k {r : List Tok} (h : Ends r) : kdT r 0 ≠ 1 ∧ kdT r 0 ≠ 6 ∧ sgT r 0 = 0 := by
 rcases h with rfl | h
 ·exact ⟨by decide, by decide, rfl⟩
 ·refine ⟨by omega, by omega, ?_⟩
  unfold sgT; rw [if_neg (by omega)]
def mkT (t : Tok) : List Cl := [.i t.1, .i t.2]
def hasB (s : ByteArray) (v : Int) : Bool := (bytesOf s).any fun b => b == v
theorem bytesOf_len (s : ByteArray) : (bytesOf s).length = s.size := by rw [bytesOf, List.length_map, Array.length_toList]; rfl
theorem bytesOf_b {s : ByteArray} {i : Nat} (h : i < s.size) : 0 ≤ (bytesOf s).getD i 0 ∧ (bytesOf s).getD i 0 ≤ 255 := by
 have hl : i < (bytesOf s).length := by rw [bytesOf_len]; exact h
 rw [List.getD_eq_getElem?_getD, List.getElem?_eq_getElem hl]
 simp only [Option.getD_some, bytesOf, List.getElem_map]
 have hl2 : i < s.data.toList.length := by rw [Array.length_toList]; exact h
 have := (s.data.toList[i]).toNat_lt
 omega
theorem hasSignI (s : ByteArray) (v : Int) (hs : s.size ≤ 1000000) (R : Bool → Option Res) : impl_hasSign.g s v R = R (hasB s v) := by
 simp only [impl_hasSign.e, impl_hasSign.b]
 have := up0 (N := s.size) (P := fun n i => impl_hasSign.l0 s v (R false) R n (i : Int) = R (((bytesOf s).drop i).any fun b => b == v)) (by omega) ?_ ?_ 0 (by omega)
 ·rw [List.drop_zero] at this; exact this
 ·intro n; simp only [impl_hasSign.l0, impl_hasSign.l0s, ixe, cond_false]; rw [List.drop_eq_nil_of_le (by rw [bytesOf_len]; omega)]; rfl
 ·intro n i hi ih
  have hb := bytesOf_b hi
  simp only [impl_hasSign.l0, impl_hasSign.l0s, ixl hi, ix0, Bool.and_self, cond_true, ixw (by omega : i < 9223372036854775807), Int.toNat_natCast, w64 (n := (bytesOf s).getD i 0) (by omega)]
  rw [drop_cons 0 (by rw [bytesOf_len]; exact hi), List.any_cons]
  cases (bytesOf s).getD i 0 == v with
  | true => rfl
  | false => exact ih
def nodeC (k a b s o w : Int) (xs : List Int) : List Cl := [.i k, .i a, .i b, .i s, .i o, .i w, .l xs]
theorem orR (b c : Bool) (R : Bool → Option Res) : (bif b then R true else R c) = R (b || c) := by cases b <;> rfl
def sg1 (v : Int) : Bool := v == 43 || (v == 45 || (v == 42 || (v == 124 || v == 126)))
def sg2 (v : Int) : Bool := v == 43 || (v == 45 || (v == 42 || (v == 37 || (v == 124 || (v == 38 || (v == 94 || (v == 61 || (v == 60 || v == 62))))))))
theorem beqc (a b : Int) : (a == b) = (b == a) := by rw [Bool.eq_iff_iff, beq_iff_eq, beq_iff_eq]; exact eq_comm
theorem oneSignI (v : Int) (R : Bool → Option Res) : impl_oneSign.g v R = R (sg1 v) := by
 simp only [impl_oneSign.e, impl_oneSign.b]
 rw [hasSignI _ v (by decide)]
 congr 1
 have e : bytesOf (⟨#[43, 45, 42, 124, 126]⟩ : ByteArray) = [43, 45, 42, 124, 126] := by decide
 rw [hasB, e]
 simp only [List.any_cons, List.any_nil, Bool.or_false, sg1, beqc _ v]
theorem twoSignI (v : Int) (R : Bool → Option Res) : impl_twoSign.g v R = R (sg2 v) := by
 simp only [impl_twoSign.e, impl_twoSign.b]
 rw [hasSignI _ v (by decide)]
 congr 1
 have e : bytesOf (⟨#[43, 45, 42, 37, 124, 38, 94, 61, 60, 62]⟩ : ByteArray) = [43, 45, 42, 37, 124, 38, 94, 61, 60, 62] := by decide
 rw [hasB, e]
 simp only [List.any_cons, List.any_nil, Bool.or_false, sg2, beqc _ v]
theorem sign1S (v : Int) (R : Bool → Option Res) : spec_l1Sign1.g v R = R (sg1 v) := by
 simp only [spec_l1Sign1.e, spec_l1Sign1.b, orR, sg1]
theorem sign2S (v : Int) (R : Bool → Option Res) : spec_l1Sign2.g v R = R (sg2 v) := by
 simp only [spec_l1Sign2.e, spec_l1Sign2.b, orR, sg2]
def ones (v : Int) : Bool := v == 105 || (v == 35 || (v == 44 || (v == 114 || (v == 122 || v == 103))))
def twos (v : Int) : Bool := v == 35 || (v == 44 || (v == 116 || (v == 100 || (v == 114 || (v == 64 || (v == 63 || (v == 36 || v == 101)))))))
def o1F (f : Fn3) : Bool := bif f.2.1 == 0 then bif f.2.2 == 0 then sg1 f.1 || ones f.1 else false else bif f.2.1 == 47 || f.2.1 == 92 then bif f.2.2 == 0 then sg2 f.1 else false else false
def o2F (f : Fn3) : Bool := bif f.2.1 == 0 then bif f.2.2 == 0 then sg2 f.1 || twos f.1 else false else bif f.2.1 == 111 then bif f.2.2 == 0 then sg2 f.1 else false else bif f.2.1 == 46 then sg2 f.1 && sg2 f.2.2 else false
theorem funOneI (a b c : Int) (R : Bool → Option Res) : impl_FunOne.g a b c R = R (o1F (a, b, c)) := by
 have e : ∀ R : Bool → Option Res, impl_hasSign.g (⟨#[105, 35, 44, 114, 122, 103]⟩ : ByteArray) a R = R (ones a) := fun R => by
  rw [hasSignI _ a (by decide)]
  congr 1
  have e : bytesOf (⟨#[105, 35, 44, 114, 122, 103]⟩ : ByteArray) = [105, 35, 44, 114, 122, 103] := by decide
  rw [hasB, e]
  simp only [List.any_cons, List.any_nil, Bool.or_false, ones, beqc _ a]
 simp only [impl_FunOne.e, impl_FunOne.b, oneSignI, twoSignI, e, orR, o1F]
 cases b == 0 <;> cases b == 47 <;> cases b == 92 <;> cases c == 0 <;> rfl
theorem funTwoI (a b c : Int) (R : Bool → Option Res) : impl_FunTwo.g a b c R = R (o2F (a, b, c)) := by
 have e : ∀ R : Bool → Option Res, impl_hasSign.g (⟨#[35, 44, 116, 100, 114, 64, 63, 36, 101]⟩ : ByteArray) a R = R (twos a) := fun R => by
  rw [hasSignI _ a (by decide)]
  congr 1
  have e : bytesOf (⟨#[35, 44, 116, 100, 114, 64, 63, 36, 101]⟩ : ByteArray) = [35, 44, 116, 100, 114, 64, 63, 36, 101] := by decide
  rw [hasB, e]
  simp only [List.any_cons, List.any_nil, Bool.or_false, twos, beqc _ a]
 simp only [impl_FunTwo.e, impl_FunTwo.b, twoSignI, e, orR, o2F]
 cases b == 0 <;> cases b == 111 <;> cases b == 46 <;> cases c == 0 <;> cases sg2 a <;> rfl
theorem funOneS (a b c : Int) (R : Bool → Option Res) : spec_FunOne.g a b c R = R (o1F (a, b, c)) := by
 simp only [spec_FunOne.e, spec_FunOne.b, sign1S, sign2S, orR, o1F, bne]
 by_cases h0 : b = 0
 ·subst h0
  have : (sg1 a || (a == 105 || (a == 35 || (a == 44 || (a == 114 || (a == 122 || a == 103)))))) = (sg1 a || ones a) := rfl
  rw [this]
  cases c == 0 <;> rfl
 ·have : (b == 0) = false := by simpa using h0
  rw [this]
  cases b == 47 <;> cases b == 92 <;> cases c == 0 <;> rfl
theorem funTwoS (a b c : Int) (R : Bool → Option Res) : spec_FunTwo.g a b c R = R (o2F (a, b, c)) := by
 simp only [spec_FunTwo.e, spec_FunTwo.b, sign2S, orR, o2F, bne]
 by_cases h0 : b = 0
 ·subst h0
  have : (sg2 a || (a == 35 || (a == 44 || (a == 116 || (a == 100 || (a == 114 || (a == 64 || (a == 63 || (a == 36 || a == 101))))))))) = (sg2 a || twos a) := rfl
  rw [this]
  cases c == 0 <;> rfl
 ·have e : (b == 0) = false := by simpa using h0
  rw [e]
  by_cases h1 : b = 46
  ·subst h1; cases sg2 a <;> rfl
  ·have e : (b == 46) = false := by simpa using h1
   rw [e]
   cases b == 111 <;> cases c == 0 <;> rfl
theorem snoc_map {α β : Type} (f : α → β) (d : List α) (z : α) {i : Nat} (hi : i < d.length) : (d.take i).map f ++ [f (d.getD i z)] = (d.take (i + 1)).map f := by
 rw [List.take_succ_eq_append_getElem hi, List.map_append, List.getD_eq_getElem?_getD, List.getElem?_eq_getElem hi]; rfl
def shN (n : Int) (r : List Cl) : List Cl :=
 let k := (r.getD 0 (.i 0)).toI
 nodeC k (if k = 5 then (r.getD 1 (.i 0)).toI + n else (r.getD 1 (.i 0)).toI) (if k = 5 ∨ k = 4 ∨ k = 3 then (r.getD 2 (.i 0)).toI + n else (r.getD 2 (.i 0)).toI) ((r.getD 3 (.i 0)).toI) ((r.getD 4 (.i 0)).toI) ((r.getD 5 (.i 0)).toI) ((r.getD 6 (.i 0)).toL)
def rowB (M : Nat) (r : List Cl) : Prop :=
 ((r.getD 0 (.i 0)).toI = 5 → -1 ≤ (r.getD 1 (.i 0)).toI ∧ (r.getD 1 (.i 0)).toI ≤ M) ∧ ((r.getD 0 (.i 0)).toI = 5 ∨ (r.getD 0 (.i 0)).toI = 4 ∨ (r.getD 0 (.i 0)).toI = 3 → -1 ≤ (r.getD 2 (.i 0)).toI ∧ (r.getD 2 (.i 0)).toI ≤ M)
theorem behind (l ns t : List (List Cl)) (i : Int) (hl : l.length ≤ 100000) (hn : ns.length ≤ 100000) (hb : ∀ r ∈ l, rowB 1000000 r) (R : List (List Cl) → Int → List (List Cl) → Option Res) :
 spec_l9Behind.g l ns t i R = R t i (ns ++ l.map (shN (ns.length : Nat))) := by
 simp only [spec_l9Behind.e, spec_l9Behind.b]
 have := up0 (N := l.length) (P := fun n j => ∀ k : List (List Cl) → Option Res, spec_l9Behind.l0 l (ns.length : Int) t i k n (j : Int) (ns ++ (l.take j).map (shN (ns.length : Nat))) = k (ns ++ l.map (shN (ns.length : Nat)))) (by omega) ?_ ?_ 0 (by omega) (fun y11 => R t i y11)
 ·rw [List.take_zero, List.map_nil, List.append_nil] at this; exact this
 ·intro n k; simp only [spec_l9Behind.l0, spec_l9Behind.l0s, ixe, cond_false, List.take_length]
 ·intro n j hj ih k
  obtain ⟨b1, b2⟩ := hb (l.getD j []) (by rw [List.getD_eq_getElem?_getD, List.getElem?_eq_getElem hj]; exact List.getElem_mem hj)
  have hg : decide (((ns ++ (l.take j).map (shN (ns.length : Nat))).length + 1) * 72 ≤ 140737488355328) = true := by
   rw [List.length_append, List.length_map, List.length_take]; simp only [decide_eq_true_eq]; omega
  simp only [spec_l9Behind.l0, spec_l9Behind.l0s, hg, cond_true]
  rw [cd_t (ixl hj), cd_t (by rw [ix0, ixl hj]; rfl), Int.toNat_natCast, ixw (i := j) (by omega)]
  have fin : ∀ row, row = shN (ns.length : Nat) (l.getD j []) → spec_l9Behind.l0 l (ns.length : Int) t i k n ((j + 1 : Nat) : Int) (ns ++ (l.take j).map (shN (ns.length : Nat)) ++ [row]) = k (ns ++ l.map (shN (ns.length : Nat))) := fun row hrow => by
   rw [hrow, List.append_assoc, snoc_map (shN (ns.length : Nat)) l [] hj]; exact ih k
  generalize l.getD j [] = row at b1 b2 fin ⊢
  by_cases h5 : (row.getD 0 (.i 0)).toI = 5
  ·rw [cd_t (by simpa using h5)]
   refine fin _ ?_
   have c1 := b1 h5
   have c2 := b2 (.inl h5)
   rw [w64 (by omega), w64 (by omega), shN]
   simp only [h5, if_true]
   rfl
  rw [cd_f (by simpa using h5)]
  by_cases h4 : (row.getD 0 (.i 0)).toI = 4
  ·rw [cd_t (by simpa using h4)]
   refine fin _ ?_
   have c2 := b2 (.inr (.inl h4))
   rw [w64 (by omega), shN]
   simp only [h4]
   rfl
  rw [cd_f (by simpa using h4)]
  by_cases h3 : (row.getD 0 (.i 0)).toI = 3
  ·rw [cd_t (by simpa using h3)]
   refine fin _ ?_
   have c2 := b2 (.inr (.inr h3))
   rw [w64 (by omega), shN]
   simp only [h3]
   rfl
  rw [cd_f (by simpa using h3)]
  refine fin _ ?_
  rw [shN]
  simp only [h5, h4, h3, if_false, or_self]
  rfl
abbrev Nd := Int × Int × Int × Fn3 × List Int
def numsOk (xs : List Int) : Bool := decide (1 ≤ xs.length) && decide (xs.length ≤ 300) && xs.all numOk
theorem fz (a b c : Int) : ((a == 0) && ((b == 0) && ((c == 0) && true))) = ((a, b, c) == ((0, 0, 0) : Fn3)) := by
 rw [Bool.eq_iff_iff]; simp
theorem lz (xs : List Int) : ((xs.length : Int) == 0) = xs.isEmpty := by
 cases xs with
 | nil => rfl
 | cons x xs => rw [List.isEmpty_cons]; simp; omega
theorem numsIdx (d : List Int) (h : d.length ≤ 2000000) (R : Int → Option Res) : slices_IndexFunc_int_int_i3.g d R = R (idx (fun x => !numOk x) d 0) := by
 simp only [slices_IndexFunc_int_int_i3.e, slices_IndexFunc_int_int_i3.b]
 have := up0 (N := d.length) (P := fun n i => slices_IndexFunc_int_int_i3.l0 d (d.length : Int) (R (-1)) R n (i : Int) = R (idx (fun x => !numOk x) (d.drop i) i)) (by omega) ?_ ?_ 0 (by omega)
 ·simpa using this
 ·intro n; simp only [slices_IndexFunc_int_int_i3.l0, slices_IndexFunc_int_int_i3.l0s, ixe, cond_false, List.drop_length, idx]
 ·intro n i hi ih
  simp only [slices_IndexFunc_int_int_i3.l0, slices_IndexFunc_int_int_i3.l0s, ixl hi, ix0, Bool.and_self, cond_true, impl_numsOk_1.e, impl_numsOk_1.b, numOkI, ixw (by omega : i < 9223372036854775807), Int.toNat_natCast]
  rw [drop_cons 0 hi, idx]
  cases numOk (d.getD i 0) with
  | true => exact ih
  | false => rfl
theorem allNot {α : Type} (p : α → Bool) (l : List α) : (!(l.any fun x => !p x)) = l.all p := by rw [List.any_eq_not_all_not]; simp
theorem numsOkI2 (xs : List Int) (h : xs.length ≤ 2000000) (R : Bool → Option Res) : impl_numsOk.g xs R = R (numsOk xs) := by
 simp only [impl_numsOk.e, impl_numsOk.b, within, slices_ContainsFunc_int_int_i3.e, slices_ContainsFunc_int_int_i3.b, numsIdx xs h, idx_any _ _ _ (Int.le_refl 0), allNot]
 have e : (decide ((1 : Int) ≤ (xs.length : Int)) && decide ((xs.length : Int) ≤ 300)) = (decide (1 ≤ xs.length) && decide (xs.length ≤ 300)) := by
  congr 1 <;> · rw [Bool.eq_iff_iff]; simp; omega
 rw [e, numsOk]
 cases decide (1 ≤ xs.length) && decide (xs.length ≤ 300) <;> rfl
theorem numsOkS2 (xs : List Int) (h : xs.length ≤ 2000000) (R : Bool → Option Res) : spec_l9Nums.g xs R = R (numsOk xs) := by
 simp only [spec_l9Nums.e, spec_l9Nums.b, l1In]
 have e : (decide ((1 : Int) ≤ (xs.length : Int)) && decide ((xs.length : Int) ≤ 300)) = (decide (1 ≤ xs.length) && decide (xs.length ≤ 300)) := by
  congr 1 <;> · rw [Bool.eq_iff_iff]; simp; omega
 rw [e]
 have := up0 (N := xs.length) (P := fun n i => spec_l9Nums.l0 xs (R (decide (1 ≤ xs.length) && decide (xs.length ≤ 300))) R n (i : Int) = R ((decide (1 ≤ xs.length) && decide (xs.length ≤ 300)) && (xs.drop i).all numOk)) (by omega) ?_ ?_ 0 (by omega)
 ·exact this
 ·intro n; simp only [spec_l9Nums.l0, spec_l9Nums.l0s, ixe, cond_false, List.drop_length, List.all_nil, Bool.and_true]
 ·intro n i hi ih
  simp only [spec_l9Nums.l0, spec_l9Nums.l0s, ixl hi, ix0, Bool.and_self, cond_true, numOkS, ixw (by omega : i < 9223372036854775807), Int.toNat_natCast]
  rw [drop_cons 0 hi, List.all_cons]
  cases numOk (xs.getD i 0) with
  | true => exact ih
  | false => rw [Bool.false_and, Bool.and_false]; rfl
def dN : Nd := (0, 0, 0, (0, 0, 0), [])
def NumB (T : List Nd) : Prop := ∀ n ∈ T, n.2.2.2.2.length ≤ 1000000
theorem NumB.at {T : List Nd} (h : NumB T) {i : Nat} (hi : i < T.length) : (T.getD i dN).2.2.2.2.length ≤ 1000000 := by
 rw [List.getD_eq_getElem?_getD, List.getElem?_eq_getElem hi]; exact h _ (List.getElem_mem hi)
def insOk (x : Ins) : Bool :=
 bif x.1 == 1 then (x.2.1 == 0) && ((x.2.2.1 == (0, 0, 0)) && numsOk x.2.2.2)
 else bif x.1 == 2 then (decide (0 ≤ x.2.1) && decide (x.2.1 ≤ 25)) && ((x.2.2.1 == (0, 0, 0)) && x.2.2.2.isEmpty)
 else bif x.1 == 3 then (decide (0 ≤ x.2.1) && decide (x.2.1 ≤ 25)) && ((x.2.2.1 == (0, 0, 0)) && x.2.2.2.isEmpty)
 else bif x.1 == 4 then (x.2.1 == 0) && (o1F x.2.2.1 && x.2.2.2.isEmpty)
 else bif x.1 == 5 then (x.2.1 == 0) && (o2F x.2.2.1 && x.2.2.2.isEmpty) else false
theorem insOkI (x : Ins) (h : x.2.2.2.length ≤ 2000000) (R : Bool → Option Res) : impl_instrOk.g x.1 x.2.1 x.2.2.1.1 x.2.2.1.2.1 x.2.2.1.2.2 x.2.2.2 R = R (insOk x) := by
 obtain ⟨k, a, ⟨s, o, w⟩, xs⟩ := x
 simp only at h
 simp only [impl_instrOk.e, impl_instrOk.b, numsOkI2 xs h, within, funOneI, funTwoI, fz, lz, insOk]
 cases k == 1 <;> cases k == 2 <;> cases k == 3 <;> cases k == 4 <;> cases k == 5 <;> simp only [cond_true, cond_false] <;>
  cases (a == 0) <;> cases (((s, o, w) : Fn3) == (0, 0, 0)) <;> cases (decide (0 ≤ a) && decide (a ≤ 25)) <;> cases o1F (s, o, w) <;> cases o2F (s, o, w) <;> rfl
theorem insOkS (x : Ins) (h : x.2.2.2.length ≤ 2000000) (R : Bool → Option Res) : spec_l11Instr.g x.1 x.2.1 x.2.2.1.1 x.2.2.1.2.1 x.2.2.1.2.2 x.2.2.2 R = R (insOk x) := by
 obtain ⟨k, a, ⟨s, o, w⟩, xs⟩ := x
 simp only at h
 simp only [spec_l11Instr.e, spec_l11Instr.b, numsOkS2 xs h, l1In, funOneS, funTwoS, fz, lz, insOk]
 cases k == 1 <;> cases k == 2 <;> cases k == 3 <;> cases k == 4 <;> cases k == 5 <;> simp only [cond_true, cond_false] <;>
  cases (a == 0) <;> cases (((s, o, w) : Fn3) == (0, 0, 0)) <;> cases (decide (0 ≤ a) && decide (a ≤ 25)) <;> cases o1F (s, o, w) <;> cases o2F (s, o, w) <;> rfl
/-- how many arrays an instruction takes -/
def takesX (x : Ins) : Nat := bif x.1 == 3 then 1 else bif x.1 == 4 then 1 else bif x.1 == 5 then 2 else 0
theorem takesX_le (x : Ins) : takesX x ≤ 2 := by unfold takesX; cases x.1 == 3 <;> cases x.1 == 4 <;> cases x.1 == 5 <;> decide
theorem takesI (x : Ins) (R : Int → Option Res) : impl_takes.g x.1 x.2.1 x.2.2.1.1 x.2.2.1.2.1 x.2.2.1.2.2 x.2.2.2 R = R (takesX x) := by
 simp only [impl_takes.e, impl_takes.b, takesX]
 cases x.1 == 3 <;> cases x.1 == 4 <;> cases x.1 == 5 <;> rfl
theorem op_of {x : Ins} (h : insOk x = true) : x.1 = 1 ∨ x.1 = 2 ∨ x.1 = 3 ∨ x.1 = 4 ∨ x.1 = 5 := by
 unfold insOk at h
 by_cases h1 : x.1 = 1; · exact .inl h1
 by_cases h2 : x.1 = 2; · exact .inr (.inl h2)
 by_cases h3 : x.1 = 3; · exact .inr (.inr (.inl h3))
 by_cases h4 : x.1 = 4; · exact .inr (.inr (.inr (.inl h4)))
 by_cases h5 : x.1 = 5; · exact .inr (.inr (.inr (.inr h5)))
 rw [cd_f (by simpa using h1), cd_f (by simpa using h2), cd_f (by simpa using h3), cd_f (by simpa using h4), cd_f (by simpa using h5)] at h
 cases h
theorem takesS (x : Ins) (h : x.1 = 1 ∨ x.1 = 2 ∨ x.1 = 3 ∨ x.1 = 4 ∨ x.1 = 5) (R : Int → Int → Option Res) : spec_l11Takes.g x.1 x.2.1 x.2.2.1.1 x.2.2.1.2.1 x.2.2.1.2.2 x.2.2.2 R = R (takesX x) (1 - takesX x) := by
 obtain ⟨k, a, f, xs⟩ := x
 simp only at h
 simp only [spec_l11Takes.e, spec_l11Takes.b, takesX]
 rcases h with rfl | rfl | rfl | rfl | rfl <;> rfl
/-- how many arrays there are behind code; none: one was lacking -/
def runD : List Ins → Nat → Option Nat
 | [], d => some d
 | x :: L, d => if takesX x ≤ d then runD L (d - takesX x + 1) else none
def codeB (L : List Ins) : Bool := decide (1 ≤ L.length) && decide (L.length ≤ 60) && L.all insOk && (runD L 0 == some 1)
theorem insIdx (L : List Ins) (hL : L.length ≤ 2000000) (hn : NumsX 2000000 L) (R : Int → Option Res) : slices_IndexFunc_impl_Instr_impl_Instr.g (L.map mkX) R = R (idx (fun x => !insOk x) L 0) := by
 simp only [slices_IndexFunc_impl_Instr_impl_Instr.e, slices_IndexFunc_impl_Instr_impl_Instr.b, List.length_map]
 have := up0 (N := L.length) (P := fun n i => slices_IndexFunc_impl_Instr_impl_Instr.l0 (L.map mkX) (L.length : Int) (R (-1)) R n (i : Int) = R (idx (fun x => !insOk x) (L.drop i) i)) (by omega) ?_ ?_ 0 (by omega)
 ·simpa using this
 ·intro n; simp only [slices_IndexFunc_impl_Instr_impl_Instr.l0, slices_IndexFunc_impl_Instr_impl_Instr.l0s, ixe, cond_false, List.drop_length, idx]
 ·intro n i hi ih
  simp only [slices_IndexFunc_impl_Instr_impl_Instr.l0, slices_IndexFunc_impl_Instr_impl_Instr.l0s, List.length_map, ixl hi, ix0, Bool.and_self, cond_true, Int.toNat_natCast, getX hi, mkX_0, mkX_1, mkX_2, mkX_3, mkX_4, mkX_5, impl_CodeOk_1.e, impl_CodeOk_1.b, insOkI _ (hn.at hi), ixw (by omega : i < 9223372036854775807)]
  rw [drop_cons dX hi, idx]
  cases insOk (L.getD i dX) with
  | true => exact ih
  | false => rfl
theorem getD_app {α : Type} (l : List α) (x d : α) (i : Nat) (h : l.length = i) : (l ++ [x]).getD i d = x := by
 rw [List.getD_eq_getElem?_getD, List.getElem?_append_right (by omega), h, Nat.sub_self]; rfl
/-- the list of depths has so many, the last of them is that behind the code -/
def DepE (L : List Ins) (i d : Nat) (Z : List Int) (ok : Bool) : Prop := ok = (runD (L.drop i) d).isSome ∧ ∀ e, runD (L.drop i) d = some e → Z.length = L.length + 1 ∧ Z.getD L.length 0 = (e : Int)
theorem deepI (L : List Ins) (hL : L.length ≤ 2000000) : ∃ Z ok, DepE L 0 0 Z ok ∧ ∀ R, impl_deep.g (L.map mkX) R = R Z ok := by
 have := up0 (N := L.length) (P := fun n i => ∀ (d : Nat) (Ls : List Int), d ≤ i → Ls.length = i + 1 → Ls.getD i 0 = (d : Int) → ∃ Z ok, DepE L i d Z ok ∧ ∀ R : List Int → Bool → Option Res, impl_deep.l0 (L.map mkX) (L.length : Int) (fun y8 => R y8 true) R n (i : Int) Ls = R Z ok) (by omega) ?_ ?_ 0 (by omega) 0 [0] (by omega) rfl rfl
 ·obtain ⟨Z, ok, h1, h2⟩ := this
  exact ⟨Z, ok, h1, fun R => by simp only [impl_deep.e, impl_deep.b, List.length_map]; exact h2 R⟩
 ·intro n d Ls _ hl hg
  refine ⟨Ls, true, ⟨by rw [List.drop_length, runD]; rfl, fun e he => ?_⟩, fun R => by simp only [impl_deep.l0, impl_deep.l0s, ixe, cond_false]⟩
  rw [List.drop_length, runD] at he
  cases he
  exact ⟨hl, hg⟩
 ·intro n i hi ih d Ls hd hl hg
  have hlt : decide ((i : Int) < (Ls.length : Int)) = true := by rw [decide_eq_true_eq]; omega
  have ht := takesX_le (L.getD i dX)
  by_cases hc : takesX (L.getD i dX) ≤ d
  ·have e1 : decide ((d : Int) < (takesX (L.getD i dX) : Int)) = false := by rw [decide_eq_false_iff_not]; omega
   have e2 : decide ((Ls.length + 1) * 8 ≤ 140737488355328) = true := by rw [decide_eq_true_eq]; omega
   have w1 : IntKind.i64.wrap ((d : Int) - (takesX (L.getD i dX) : Int)) = (d : Int) - (takesX (L.getD i dX) : Int) := w64 (by omega)
   have w2 : IntKind.i64.wrap ((d : Int) - (takesX (L.getD i dX) : Int) + 1) = ((d - takesX (L.getD i dX) + 1 : Nat) : Int) := by rw [w64 (by omega)]; omega
   obtain ⟨Z, ok, ⟨h1, h2⟩, h3⟩ := ih (d - takesX (L.getD i dX) + 1) (Ls ++ [((d - takesX (L.getD i dX) + 1 : Nat) : Int)]) (by omega) (by rw [List.length_append, hl]; rfl) (getD_app Ls _ 0 _ hl)
   have e3 : runD (L.drop i) d = runD (L.drop (i + 1)) (d - takesX (L.getD i dX) + 1) := by rw [drop_cons dX hi, runD, if_pos hc]
   refine ⟨Z, ok, ⟨by rw [e3]; exact h1, fun e he => h2 e (by rw [← e3]; exact he)⟩, fun R => ?_⟩
   simp only [impl_deep.l0, impl_deep.l0s, List.length_map, ixl hi, ix0, hlt, Bool.and_self, cond_true, Int.toNat_natCast, getX hi, mkX_0, mkX_1, mkX_2, mkX_3, mkX_4, mkX_5, takesI, hg, e1, cond_false, e2, w1, w2, ixw (by omega : i < 9223372036854775807)]
   exact h3 R
  ·have e1 : decide ((d : Int) < (takesX (L.getD i dX) : Int)) = true := by rw [decide_eq_true_eq]; omega
   have e3 : runD (L.drop i) d = none := by rw [drop_cons dX hi, runD, if_neg hc]
   refine ⟨[], false, ⟨by rw [e3]; rfl, fun e he => by rw [e3] at he; cases he⟩, fun R => ?_⟩
   simp only [impl_deep.l0, impl_deep.l0s, List.length_map, ixl hi, ix0, hlt, Bool.and_self, cond_true, Int.toNat_natCast, getX hi, mkX_0, mkX_1, mkX_2, mkX_3, mkX_4, mkX_5, takesI, hg, e1]
theorem deepS (L : List Ins) (hL : L.length ≤ 2000000) (ho : L.all insOk = true) : ∃ Z ok, DepE L 0 0 Z ok ∧ ∀ R, spec_l11Depths.g (L.map mkX) R = R Z ok := by
 have := up0 (N := L.length) (P := fun n i => ∀ (d : Nat) (Ls : List Int), d ≤ i → Ls.length = i + 1 → Ls.getD i 0 = (d : Int) → ∃ Z ok, DepE L i d Z ok ∧ ∀ R : List Int → Bool → Option Res, spec_l11Depths.l0 (L.map mkX) (fun y8 => R y8 true) R n (d : Int) (i : Int) Ls = R Z ok) (by omega) ?_ ?_ 0 (by omega) 0 [0] (by omega) rfl rfl
 ·obtain ⟨Z, ok, h1, h2⟩ := this
  exact ⟨Z, ok, h1, fun R => by simp only [spec_l11Depths.e, spec_l11Depths.b]; exact h2 R⟩
 ·intro n d Ls _ hl hg
  refine ⟨Ls, true, ⟨by rw [List.drop_length, runD]; rfl, fun e he => ?_⟩, fun R => by simp only [spec_l11Depths.l0, spec_l11Depths.l0s, List.length_map, ixe, cond_false]⟩
  rw [List.drop_length, runD] at he
  cases he
  exact ⟨hl, hg⟩
 ·intro n i hi ih d Ls hd hl hg
  have ht := takesX_le (L.getD i dX)
  have hop := op_of (List.all_eq_true.1 ho (L.getD i dX) (by rw [List.getD_eq_getElem?_getD, List.getElem?_eq_getElem hi]; exact List.getElem_mem hi))
  by_cases hc : takesX (L.getD i dX) ≤ d
  ·have e1 : decide ((d : Int) < (takesX (L.getD i dX) : Int)) = false := by rw [decide_eq_false_iff_not]; omega
   have e2 : decide ((Ls.length + 1) * 8 ≤ 140737488355328) = true := by rw [decide_eq_true_eq]; omega
   have w1 : IntKind.i64.wrap ((d : Int) + (1 - (takesX (L.getD i dX) : Int))) = ((d - takesX (L.getD i dX) + 1 : Nat) : Int) := by rw [w64 (by omega)]; omega
   obtain ⟨Z, ok, ⟨h1, h2⟩, h3⟩ := ih (d - takesX (L.getD i dX) + 1) (Ls ++ [((d - takesX (L.getD i dX) + 1 : Nat) : Int)]) (by omega) (by rw [List.length_append, hl]; rfl) (getD_app Ls _ 0 _ hl)
   have e3 : runD (L.drop i) d = runD (L.drop (i + 1)) (d - takesX (L.getD i dX) + 1) := by rw [drop_cons dX hi, runD, if_pos hc]
   refine ⟨Z, ok, ⟨by rw [e3]; exact h1, fun e he => h2 e (by rw [← e3]; exact he)⟩, fun R => ?_⟩
   simp only [spec_l11Depths.l0, spec_l11Depths.l0s, List.length_map, ixl hi, ix0, Bool.and_self, cond_true, Int.toNat_natCast, getX hi, mkX_0, mkX_1, mkX_2, mkX_3, mkX_4, mkX_5, takesS _ hop, e1, cond_false, e2, w1, ixw (by omega : i < 9223372036854775807)]
   exact h3 R
  ·have e1 : decide ((d : Int) < (takesX (L.getD i dX) : Int)) = true := by rw [decide_eq_true_eq]; omega
   have e3 : runD (L.drop i) d = none := by rw [drop_cons dX hi, runD, if_neg hc]
   refine ⟨Ls, false, ⟨by rw [e3]; rfl, fun e he => by rw [e3] at he; cases he⟩, fun R => ?_⟩
   simp only [spec_l11Depths.l0, spec_l11Depths.l0s, List.length_map, ixl hi, ix0, Bool.and_self, cond_true, Int.toNat_natCast, getX hi, mkX_0, mkX_1, mkX_2, mkX_3, mkX_4, mkX_5, takesS _ hop, e1]
theorem tail_ok (L : List Ins) {Z : List Int} {ok : Bool} (h : DepE L 0 0 Z ok) (R : Bool → Option Res) : (bif ok then (bif decide (0 ≤ (L.length : Int)) && decide ((L.length : Int) < (Z.length : Int)) then R (Z.getD ((L.length : Int).toNat) 0 == 1) else none) else R false) = R (runD L 0 == some 1) := by
 obtain ⟨h1, h2⟩ := h
 rw [List.drop_zero] at h1 h2
 cases hr : runD L 0 with
 | none => rw [hr] at h1; rw [h1]; rfl
 | some e =>
  obtain ⟨a, b⟩ := h2 e hr
  rw [hr] at h1
  rw [h1, Option.isSome_some, cond_true, cd_t (by rw [Bool.and_eq_true, decide_eq_true_eq, decide_eq_true_eq]; omega), Int.toNat_natCast, b]
  congr 1
  rw [Bool.eq_iff_iff]; simp; omega
theorem codeOkI (L : List Ins) (hL : L.length ≤ 2000000) (hn : NumsX 2000000 L) (R : Bool → Option Res) : impl_CodeOk.g (L.map mkX) R = R (codeB L) := by
 obtain ⟨Z, ok, hd, hg⟩ := deepI L hL
 simp only [impl_CodeOk.e, impl_CodeOk.b, within, List.length_map, slices_ContainsFunc_impl_Instr_impl_Instr.e, slices_ContainsFunc_impl_Instr_impl_Instr.b, insIdx L hL hn, idx_any _ _ _ (Int.le_refl 0), hg, tail_ok L hd]
 have e : (decide ((1 : Int) ≤ (L.length : Int)) && decide ((L.length : Int) ≤ 60)) = (decide (1 ≤ L.length) && decide (L.length ≤ 60)) := by
  congr 1 <;> · rw [Bool.eq_iff_iff]; simp; omega
 rw [e, codeB, ← allNot]
 cases decide (1 ≤ L.length) && decide (L.length ≤ 60) <;> cases (L.any fun x => !insOk x) <;> rfl
theorem codeOkS (L : List Ins) (hL : L.length ≤ 2000000) (hn : NumsX 2000000 L) (R : Bool → Option Res) : spec_CodeOk.g (L.map mkX) R = R (codeB L) := by
 simp only [spec_CodeOk.e, spec_CodeOk.b, l1In, List.length_map]
 have e : (decide ((1 : Int) ≤ (L.length : Int)) && decide ((L.length : Int) ≤ 60)) = (decide (1 ≤ L.length) && decide (L.length ≤ 60)) := by
  congr 1 <;> · rw [Bool.eq_iff_iff]; simp; omega
 rw [e]
 cases hc : decide (1 ≤ L.length) && decide (L.length ≤ 60) with
 | false => simp only [codeB, hc, Bool.false_and]; rfl
 | true =>
  rw [Bool.not_true, cond_false]
  by_cases ho : L.all insOk = true
  ·obtain ⟨Z, ok, hd, hg⟩ := deepS L hL ho
   simp only [hg, tail_ok L hd]
   have := up0 (N := L.length) (P := fun n i => ∀ K : Option Res, spec_CodeOk.l0 (L.map mkX) K R n (i : Int) = K) (by omega) ?_ ?_ 0 (by omega) (R (runD L 0 == some 1))
   ·rw [codeB, hc, ho]; exact this
   ·intro n K; simp only [spec_CodeOk.l0, spec_CodeOk.l0s, List.length_map, ixe, cond_false]
   ·intro n i hi ih K
    have hx := List.all_eq_true.1 ho (L.getD i dX) (by rw [List.getD_eq_getElem?_getD, List.getElem?_eq_getElem hi]; exact List.getElem_mem hi)
    simp only [spec_CodeOk.l0, spec_CodeOk.l0s, List.length_map, ixl hi, ix0, Bool.and_self, cond_true, Int.toNat_natCast, getX hi, mkX_0, mkX_1, mkX_2, mkX_3, mkX_4, mkX_5, insOkS _ (hn.at hi), hx, Bool.not_true, cond_false, ixw (by omega : i < 9223372036854775807)]
    exact ih K
  ·have hf : L.all insOk = false := by simpa using ho
   have := up0 (N := L.length) (P := fun n i => ∀ K : Option Res, (L.drop i).all insOk = false → spec_CodeOk.l0 (L.map mkX) K R n (i : Int) = R false) (by omega) ?_ ?_ 0 (by omega)
   ·rw [codeB, hc, hf]; exact this _ (by rw [List.drop_zero]; exact hf)
   ·intro n K h; rw [List.drop_length] at h; cases h
   ·intro n i hi ih K h
    rw [drop_cons dX hi, List.all_cons] at h
    simp only [spec_CodeOk.l0, spec_CodeOk.l0s, List.length_map, ixl hi, ix0, Bool.and_self, cond_true, Int.toNat_natCast, getX hi, mkX_0, mkX_1, mkX_2, mkX_3, mkX_4, mkX_5, insOkS _ (hn.at hi), ixw (by omega : i < 9223372036854775807)]
    cases hx : insOk (L.getD i dX) with
    | false => rfl
    | true => rw [hx] at h; exact ih K h
def plainX (x : Ins) : Bool := bif x.1 == 1 then true else bif x.1 == 2 then true else bif x.1 == 4 then (x.2.2.1.2.1 == 0) && sg1 x.2.2.1.1 else bif x.1 == 5 then (x.2.2.1.2.1 == 0) && sg2 x.2.2.1.1 else false
theorem plainI (x : Ins) (R : Bool → Option Res) : impl_plainStep.g x.1 x.2.1 x.2.2.1.1 x.2.2.1.2.1 x.2.2.1.2.2 x.2.2.2 R = R (plainX x) := by
 simp only [impl_plainStep.e, impl_plainStep.b, oneSignI, twoSignI, plainX]
 cases x.1 == 1 <;> cases x.1 == 2 <;> cases x.1 == 4 <;> cases x.1 == 5 <;> cases (x.2.2.1.2.1 == 0) <;> rfl
theorem plainS (x : Ins) (R : Bool → Option Res) : spec_l15Plain.g x.1 x.2.1 x.2.2.1.1 x.2.2.1.2.1 x.2.2.1.2.2 x.2.2.2 R = R (plainX x) := by
 simp only [spec_l15Plain.e, spec_l15Plain.b, sign1S, sign2S, plainX]
 cases x.1 == 1 <;> cases x.1 == 2 <;> cases x.1 == 4 <;> cases x.1 == 5 <;> cases (x.2.2.1.2.1 == 0) <;> rfl
theorem plain_op {x : Ins} (h : plainX x = true) : x.1 = 1 ∨ x.1 = 2 ∨ x.1 = 3 ∨ x.1 = 4 ∨ x.1 = 5 := by
 unfold plainX at h
 by_cases h1 : x.1 = 1; · exact .inl h1
 by_cases h2 : x.1 = 2; · exact .inr (.inl h2)
 by_cases h4 : x.1 = 4; · exact .inr (.inr (.inr (.inl h4)))
 by_cases h5 : x.1 = 5; · exact .inr (.inr (.inr (.inr h5)))
 rw [cd_f (by simpa using h1), cd_f (by simpa using h2), cd_f (by simpa using h4), cd_f (by simpa using h5)] at h
 cases h
/-- where the longest run ends: place, last end, arrays, has it worked -/
def endR : List Ins → Nat → Option Nat → Nat → Bool → Option Nat
 | [], _, e, _, _ => e
 | x :: L, p, e, m, w => if plainX x = true ∧ takesX x ≤ m then endR L (p + 1) (if m - takesX x + 1 = 1 ∧ (w || decide (0 < takesX x)) = true then some (p + 1) else e) (m - takesX x + 1) (w || decide (0 < takesX x)) else e
def endX (L : List Ins) (p : Nat) : Option Nat := endR (L.drop p) p none 0 false
theorem endR_lt : ∀ (L : List Ins) (p : Nat) (e : Option Nat) (m : Nat) (w : Bool) (q : Nat), endR L p e m w = some q → e = some q ∨ (p < q ∧ q ≤ p + L.length)
 | [], p, e, m, w, q, h => .inl h
 | x :: L, p, e, m, w, q, h => by
  rw [endR] at h
  split at h
  ·rcases endR_lt L _ _ _ _ q h with h | h
   ·split at h
    ·cases h; exact .inr ⟨by omega, by simp⟩
    ·exact .inl h
   ·exact .inr ⟨by omega, by simp only [List.length_cons]; omega⟩
  ·exact .inl h
theorem endX_lt {L : List Ins} {p q : Nat} (h : endX L p = some q) (hp : p ≤ L.length) : p < q ∧ q ≤ L.length := by
 rcases endR_lt _ _ _ _ _ _ h with h | h
 ·cases h
 ·rw [List.length_drop] at h; omega
theorem spanAtI (L : List Ins) (hL : L.length ≤ 2000000) (p : Nat) (hp : p ≤ L.length) (R : Int → Option Res) : impl_spanAt.g (L.map mkX) (p : Int) R = R (((endX L p).getD p : Nat) : Int) := by
 simp only [impl_spanAt.e, impl_spanAt.b]
 have := up0 (N := L.length) (P := fun n i => ∀ (e : Option Nat) (m : Nat) (w : Bool), m ≤ i → impl_spanAt.l0 (L.map mkX) (fun y12 => R y12) n ((e.getD p : Nat) : Int) (m : Int) w (i : Int) = R (((endR (L.drop i) i e m w).getD p : Nat) : Int)) (by omega) ?_ ?_ p hp none 0 false (by omega)
 ·exact this
 ·intro n e m w _; simp only [impl_spanAt.l0, impl_spanAt.l0s, List.length_map, ixe, cond_false, List.drop_length, endR]
 ·intro n i hi ih e m w hm
  have ht := takesX_le (L.getD i dX)
  rw [drop_cons dX hi, endR]
  simp only [impl_spanAt.l0, impl_spanAt.l0s, List.length_map, ixl hi, ix0, Bool.and_self, cond_true, Int.toNat_natCast, getX hi, mkX_0, mkX_1, mkX_2, mkX_3, mkX_4, mkX_5, plainI, takesI, ixw (by omega : i < 9223372036854775807)]
  cases hpl : plainX (L.getD i dX) with
  | false => rw [cond_false, if_neg (by rintro ⟨h, _⟩; cases h)]
  | true =>
   rw [cond_true]
   by_cases hc : takesX (L.getD i dX) ≤ m
   ·have e1 : decide ((takesX (L.getD i dX) : Int) ≤ (m : Int)) = true := by rw [decide_eq_true_eq]; omega
    have w1 : IntKind.i64.wrap ((m : Int) + IntKind.i64.wrap (1 - (takesX (L.getD i dX) : Int))) = ((m - takesX (L.getD i dX) + 1 : Nat) : Int) := by rw [w64 (n := 1 - (takesX (L.getD i dX) : Int)) (by omega), w64 (by omega)]; omega
    rw [if_pos ⟨rfl, hc⟩, e1, cond_true, w1]
    have e2 : ((((m - takesX (L.getD i dX) + 1 : Nat) : Int) == 1)) = decide (m - takesX (L.getD i dX) + 1 = 1) := by rw [Bool.eq_iff_iff, beq_iff_eq, decide_eq_true_eq]; omega
    have e3 : decide ((0 : Int) < (takesX (L.getD i dX) : Int)) = decide (0 < takesX (L.getD i dX)) := by rw [Bool.eq_iff_iff, decide_eq_true_eq, decide_eq_true_eq]; omega
    rw [e2, e3]
    have k1 := ih (some (i + 1)) (m - takesX (L.getD i dX) + 1) (w || decide (0 < takesX (L.getD i dX))) (by omega)
    have k2 := ih e (m - takesX (L.getD i dX) + 1) (w || decide (0 < takesX (L.getD i dX))) (by omega)
    rw [Option.getD_some] at k1
    generalize decide (0 < takesX (L.getD i dX)) = z at k1 k2 ⊢
    cases w <;> cases z <;> by_cases h1 : m - takesX (L.getD i dX) + 1 = 1 <;> simp only [h1, decide_true, decide_false, cond_true, cond_false, Bool.or_true, Bool.or_false, Bool.true_or, Bool.false_or, and_true, and_false, if_true, if_false, true_and, Bool.false_eq_true, false_and] at k1 k2 ⊢ <;> first | exact k1 | exact k2
   ·have e1 : decide ((takesX (L.getD i dX) : Int) ≤ (m : Int)) = false := by rw [decide_eq_false_iff_not]; omega
    rw [if_neg (fun h => hc h.2), e1, cond_false]
theorem spanAtS (L : List Ins) (hL : L.length ≤ 2000000) (p : Nat) (hp : p ≤ L.length) (R : Int → Option Res) : spec_l15End.g (L.map mkX) (p : Int) R = R (((endX L p).getD 0 : Nat) : Int) := by
 simp only [spec_l15End.e, spec_l15End.b]
 have := up0 (N := L.length) (P := fun n i => ∀ (e : Option Nat) (m : Nat) (w : Bool), m ≤ i → spec_l15End.l0 (L.map mkX) (fun y12 => R y12) R n ((e.getD 0 : Nat) : Int) (m : Int) w (i : Int) = R (((endR (L.drop i) i e m w).getD 0 : Nat) : Int)) (by omega) ?_ ?_ p hp none 0 false (by omega)
 ·exact this
 ·intro n e m w _; simp only [spec_l15End.l0, spec_l15End.l0s, List.length_map, ixe, cond_false, List.drop_length, endR]
 ·intro n i hi ih e m w hm
  have ht := takesX_le (L.getD i dX)
  rw [drop_cons dX hi, endR]
  simp only [spec_l15End.l0, spec_l15End.l0s, List.length_map, ixl hi, ix0, Bool.and_self, cond_true, Int.toNat_natCast, getX hi, mkX_0, mkX_1, mkX_2, mkX_3, mkX_4, mkX_5, plainS, ixw (by omega : i < 9223372036854775807)]
  cases hpl : plainX (L.getD i dX) with
  | false => rw [cond_false, if_neg (by rintro ⟨h, _⟩; cases h)]
  | true =>
   rw [cond_true]
   simp only [takesS _ (plain_op hpl)]
   by_cases hc : takesX (L.getD i dX) ≤ m
   ·have e1 : decide ((m : Int) < (takesX (L.getD i dX) : Int)) = false := by rw [decide_eq_false_iff_not]; omega
    have w1 : IntKind.i64.wrap ((m : Int) + (1 - (takesX (L.getD i dX) : Int))) = ((m - takesX (L.getD i dX) + 1 : Nat) : Int) := by rw [w64 (by omega)]; omega
    rw [if_pos ⟨trivial, hc⟩, e1, cond_false, w1]
    have e2 : ((((m - takesX (L.getD i dX) + 1 : Nat) : Int) == 1)) = decide (m - takesX (L.getD i dX) + 1 = 1) := by rw [Bool.eq_iff_iff, beq_iff_eq, decide_eq_true_eq]; omega
    have e3 : decide ((0 : Int) < (takesX (L.getD i dX) : Int)) = decide (0 < takesX (L.getD i dX)) := by rw [Bool.eq_iff_iff, decide_eq_true_eq, decide_eq_true_eq]; omega
    rw [e2, e3]
    have k1 := ih (some (i + 1)) (m - takesX (L.getD i dX) + 1) (w || decide (0 < takesX (L.getD i dX))) (by omega)
    have k2 := ih e (m - takesX (L.getD i dX) + 1) (w || decide (0 < takesX (L.getD i dX))) (by omega)
    rw [Option.getD_some] at k1
    generalize decide (0 < takesX (L.getD i dX)) = z at k1 k2 ⊢
    cases w <;> cases z <;> by_cases h1 : m - takesX (L.getD i dX) + 1 = 1 <;> simp only [h1, decide_true, decide_false, cond_true, cond_false, Bool.or_true, Bool.or_false, Bool.true_or, Bool.false_or, and_true, and_false, if_true, if_false, true_and, Bool.false_eq_true, false_and] at k1 k2 ⊢ <;> first | exact k1 | exact k2
   ·have e1 : decide ((m : Int) < (takesX (L.getD i dX) : Int)) = true := by rw [decide_eq_true_eq]; omega
    rw [if_neg (fun h => hc h.2), e1, cond_true]
/-- spans from a place on -/
abbrev Spn : Type := Nat × Nat
def mkS (s : Spn) : List Cl := [.i s.1, .i s.2]
def spansR (L : List Ins) : Nat → Nat → List Spn
 | 0, _ => []
 | n + 1, i => if i < L.length then (match endX L i with | none => spansR L n (i + 1) | some q => (i, q) :: spansR L n q) else []
def spansX (L : List Ins) : List Spn := if codeB L = true then spansR L (L.length + 1) 0 else []
theorem spansR_end (L : List Ins) {n i : Nat} (h : L.length ≤ i) : spansR L n i = [] := by
 cases n with
 | zero => rfl
 | succ n => rw [spansR, if_neg (by omega)]
theorem spansR_more (L : List Ins) : ∀ (n m i : Nat), L.length - i < n → L.length - i < m → spansR L n i = spansR L m i
 | 0, _, _, h, _ => by omega
 | n + 1, 0, _, _, h => by omega
 | n + 1, m + 1, i, h1, h2 => by
  rw [spansR, spansR]
  by_cases hi : i < L.length
  ·rw [if_pos hi, if_pos hi]
   cases he : endX L i with
   | none => exact spansR_more L n m (i + 1) (by omega) (by omega)
   | some q =>
    have := endX_lt he (by omega)
    show (i, q) :: spansR L n q = (i, q) :: spansR L m q
    rw [spansR_more L n m q (by omega) (by omega)]
  ·rw [if_neg hi, if_neg hi]
theorem spansR_len (L : List Ins) : ∀ (n i : Nat), (spansR L n i).length ≤ n
 | 0, _ => Nat.le_refl 0
 | n + 1, i => by
  rw [spansR]
  split
  ·split
   ·exact Nat.le_trans (spansR_len L n _) (Nat.le_succ n)
   ·exact Nat.succ_le_succ (spansR_len L n _)
  ·exact Nat.zero_le _
theorem spansI (L : List Ins) (hL : L.length ≤ 2000000) (hn : NumsX 2000000 L) (R : List (List Cl) → Option Res) : impl_Spans.g (L.map mkX) R = R ((spansX L).map mkS) := by
 simp only [impl_Spans.e, impl_Spans.b, codeOkI L hL hn, spansX]
 cases codeB L with
 | false => rfl
 | true =>
  rw [Bool.not_true, cond_false, if_pos rfl]
  have key : ∀ (n i : Nat) (Y : List (List Cl)), L.length - i < n → i ≤ L.length → Y.length ≤ i → impl_Spans.l0 (L.map mkX) (fun y7 => R y7) n (i : Int) Y = R (Y ++ (spansR L (L.length + 1 - i) i).map mkS) := by
   intro n
   induction n with
   | zero => intro i Y h; omega
   | succ n ih =>
    intro i Y h hi hY
    rcases Nat.lt_or_ge i L.length with hlt | hge
    ·simp only [impl_Spans.l0, impl_Spans.l0s, List.length_map, ixl hlt, cond_true, spanAtI L hL i hi]
     rw [show L.length + 1 - i = (L.length - i) + 1 by omega, spansR, if_pos hlt]
     cases he : endX L i with
     | none =>
      have := ih (i + 1) Y (by omega) (by omega) (by omega)
      rw [Option.getD_none, cd_t (by simp), ixw (by omega), this, show L.length + 1 - (i + 1) = L.length - i by omega]
     | some q =>
      have hq := endX_lt he hi
      rw [Option.getD_some, cd_f (by simp; omega), cd_t (by rw [decide_eq_true_eq]; omega)]
      have := ih q (Y ++ [[.i (i : Int), .i (q : Int)]]) (by omega) hq.2 (by rw [List.length_append, List.length_singleton]; omega)
      rw [this, List.append_assoc, List.map_cons, spansR_more L (L.length - i) (L.length + 1 - q) q (by omega) (by omega)]; rfl
    ·obtain rfl : i = L.length := by omega
     simp only [impl_Spans.l0, impl_Spans.l0s, List.length_map, ixe, cond_false]
     rw [spansR_end L (Nat.le_refl _), List.map_nil, List.append_nil]
  have := key fuel 0 [] (by rw [fuel_eq]; omega) (by omega) (by simp)
  simpa using this
theorem spansS (L : List Ins) (hL : L.length ≤ 2000000) (hn : NumsX 2000000 L) (R : List (List Cl) → Option Res) : spec_Spans.g (L.map mkX) R = R ((spansX L).map mkS) := by
 simp only [spec_Spans.e, spec_Spans.b, codeOkS L hL hn, spansX]
 cases codeB L with
 | false => rfl
 | true =>
  rw [Bool.not_true, cond_false, if_pos rfl]
  have key : ∀ (n i : Nat) (Y : List (List Cl)), L.length - i < n → i ≤ L.length → Y.length ≤ i → spec_Spans.l0 (L.map mkX) (fun y7 => R y7) n (i : Int) Y = R (Y ++ (spansR L (L.length + 1 - i) i).map mkS) := by
   intro n
   induction n with
   | zero => intro i Y h; omega
   | succ n ih =>
    intro i Y h hi hY
    rcases Nat.lt_or_ge i L.length with hlt | hge
    ·simp only [spec_Spans.l0, spec_Spans.l0s, List.length_map, ixl hlt, cond_true, spanAtS L hL i hi]
     rw [show L.length + 1 - i = (L.length - i) + 1 by omega, spansR, if_pos hlt]
     cases he : endX L i with
     | none =>
      have := ih (i + 1) Y (by omega) (by omega) (by omega)
      rw [Option.getD_none, cd_t (by simp), ixw (by omega), this, show L.length + 1 - (i + 1) = L.length - i by omega]
     | some q =>
      have hq := endX_lt he hi
      rw [Option.getD_some, cd_f (by simp; omega), cd_t (by rw [decide_eq_true_eq]; omega)]
      have := ih q (Y ++ [[.i (i : Int), .i (q : Int)]]) (by omega) hq.2 (by rw [List.length_append, List.length_singleton]; omega)
      rw [this, List.append_assoc, List.map_cons, spansR_more L (L.length - i) (L.length + 1 - q) q (by omega) (by omega)]; rfl
    ·obtain rfl : i = L.length := by omega
     simp only [spec_Spans.l0, spec_Spans.l0s, List.length_map, ixe, cond_false]
     rw [spansR_end L (Nat.le_refl _), List.map_nil, List.append_nil]
  have := key fuel 0 [] (by rw [fuel_eq]; omega) (by omega) (by simp)
  simpa using this
def i64 (x : Int) : Prop := -9223372036854775808 ≤ x ∧ x ≤ 9223372036854775807
theorem mem_set {α : Type} {l : List α} {i : Nat} {x y : α} (h : y ∈ l.set i x) : y ∈ l ∨ y = x := by
 obtain ⟨j, hj, rfl⟩ := List.mem_iff_getElem.1 h
 rw [List.getElem_set]
 split
 ·exact .inr rfl
 ·exact .inl (List.getElem_mem _)
theorem NumsX.set {M : Nat} {L : List Ins} (h : NumsX M L) (i : Nat) (x : Ins) (hx : x.2.2.2.length ≤ M) : NumsX M (L.set i x) := fun y hy => by
 rcases mem_set hy with hy | rfl
 ·exact h y hy
 ·exact hx
theorem NumsX.app {M : Nat} {L : List Ins} (h : NumsX M L) (x : Ins) (hx : x.2.2.2.length ≤ M) : NumsX M (L ++ [x]) := fun y hy => by
 rcases List.mem_append.1 hy with hy | hy
 ·exact h y hy
 ·rw [List.mem_singleton] at hy; subst hy; exact hx
theorem endR_step {x : Ins} {L : List Ins} {i : Nat} {e : Option Nat} {m : Nat} {w : Bool} {q : Nat} (h : endR (x :: L) i e m w = some q) (he : e ≠ some q) :
 plainX x = true ∧ takesX x ≤ m ∧ i < q ∧ (i + 1 = q → m - takesX x + 1 = 1 ∧ (w || decide (0 < takesX x)) = true) ∧
 (i + 1 < q → ∃ e', e' ≠ some q ∧ endR L (i + 1) e' (m - takesX x + 1) (w || decide (0 < takesX x)) = some q) := by
 rw [endR] at h
 by_cases hc : plainX x = true ∧ takesX x ≤ m
 ·rw [if_pos hc] at h
  have hlt := endR_lt _ _ _ _ _ _ h
  refine ⟨hc.1, hc.2, ?_, fun hq => ?_, fun hq => ⟨_, ?_, h⟩⟩
  ·rcases hlt with hlt | hlt
   ·split at hlt
    ·cases hlt; omega
    ·exact absurd hlt he
   ·omega
  ·rcases hlt with hlt | hlt
   ·by_cases hd : m - takesX x + 1 = 1 ∧ (w || decide (0 < takesX x)) = true
    ·exact hd
    ·rw [if_neg hd] at hlt; exact absurd hlt he
   ·omega
  ·split
   ·intro e; cases e; omega
   ·exact he
 ·rw [if_neg hc] at h; exact absurd h he
theorem plain_ok {x : Ins} (hp : plainX x = true) (ho : insOk x = true) : (x.1 = 1 ∧ takesX x = 0 ∨ x.1 = 2 ∧ takesX x = 0 ∨ x.1 = 4 ∧ takesX x = 1 ∨ x.1 = 5 ∧ takesX x = 2) ∧ x.2.2.1.2.1 = 0 := by
 obtain ⟨k, a, ⟨s, o, w⟩, xs⟩ := x
 unfold plainX at hp
 unfold insOk at ho
 simp only at hp ho
 by_cases h1 : k = 1
 ·subst h1
  rw [cd_t (by rfl)] at ho
  simp only [Bool.and_eq_true, beq_iff_eq, Prod.mk.injEq] at ho
  exact ⟨.inl ⟨rfl, rfl⟩, ho.2.1.2.1⟩
 rw [cd_f (by simpa using h1)] at hp ho
 by_cases h2 : k = 2
 ·subst h2
  rw [cd_t (by rfl)] at ho
  simp only [Bool.and_eq_true, beq_iff_eq, Prod.mk.injEq] at ho
  exact ⟨.inr (.inl ⟨rfl, rfl⟩), ho.2.1.2.1⟩
 rw [cd_f (by simpa using h2)] at hp
 by_cases h4 : k = 4
 ·subst h4
  rw [cd_t (by rfl)] at hp
  simp only [Bool.and_eq_true, beq_iff_eq] at hp
  exact ⟨.inr (.inr (.inl ⟨rfl, rfl⟩)), hp.1⟩
 rw [cd_f (by simpa using h4)] at hp
 by_cases h5 : k = 5
 ·subst h5
  rw [cd_t (by rfl)] at hp
  simp only [Bool.and_eq_true, beq_iff_eq] at hp
  exact ⟨.inr (.inr (.inr ⟨rfl, rfl⟩)), hp.1⟩
 rw [cd_f (by simpa using h5)] at hp
 cases hp
/-- the spans, one behind the other -/
theorem spansR_ok (L : List Ins) : ∀ (n i j : Nat) (s : Spn), (spansR L n i)[j]? = some s → endX L s.1 = some s.2 ∧ s.1 < L.length ∧ i ≤ s.1 ∧ ∀ s', (spansR L n i)[j + 1]? = some s' → s.2 ≤ s'.1
 | 0, i, j, s, h => by simp [spansR] at h
 | n + 1, i, j, s, h => by
  rw [spansR] at h ⊢
  by_cases hi : i < L.length
  ·rw [if_pos hi] at h ⊢
   cases he : endX L i with
   | none =>
    rw [he] at h
    simp only at h ⊢
    obtain ⟨a, b, c, d⟩ := spansR_ok L n (i + 1) j s h
    exact ⟨a, b, by omega, d⟩
   | some q =>
    rw [he] at h
    simp only at h ⊢
    cases j with
    | zero =>
     cases h
     refine ⟨he, hi, Nat.le_refl _, fun s' hs' => ?_⟩
     exact (spansR_ok L n q 0 s' (by simpa using hs')).2.2.1
    | succ j =>
     obtain ⟨a, b, c, d⟩ := spansR_ok L n q j s (by simpa using h)
     have := endX_lt he (by omega)
     exact ⟨a, b, by omega, fun s' hs' => d s' (by simpa using hs')⟩
  ·rw [if_neg hi] at h; cases h
theorem mkS_getD {S : List Spn} {j : Nat} (h : j < S.length) : (S.map mkS).getD j [] = mkS (S.getD j (0, 0)) := getD_map mkS S h [] (0, 0)
theorem mkS_0 (s : Spn) : ((mkS s).getD 0 (.i 0)).toI = s.1 := rfl
theorem mkS_1 (s : Spn) : ((mkS s).getD 1 (.i 0)).toI = s.2 := rfl
def lim (x : Int) : Int × Int := bif numOk x then (x, 0) else (0, 6)
def bit (b : Bool) : Int := bif b then 1 else 0
def oneN (s x : Int) : Int × Int :=
 bif !sg1 s then (0, 1) else bif !numOk x then (0, 1) else bif s == 45 then (IntKind.i64.wrap (0 - x), 0) else bif s == 42 then (IntKind.i64.wrap (bit (decide (0 < x)) - bit (decide (x < 0))), 0)
 else bif s == 124 then (minmax true x (IntKind.i64.wrap (0 - x)), 0) else bif s == 126 then (bif !(decide (0 ≤ x) && decide (x ≤ 1)) then (0, 2) else (IntKind.i64.wrap (1 - x), 0)) else (x, 0)
def flo (a b : Int) : Int := bif a.tmod b != 0 then (bif (decide (a < 0)) != (decide (b < 0)) then IntKind.i64.wrap (IntKind.i64.wrap (a.tdiv b) - 1) else IntKind.i64.wrap (a.tdiv b)) else IntKind.i64.wrap (a.tdiv b)
def twoN (s a b : Int) : Int × Int :=
 bif !sg2 s then (0, 1) else bif !numOk a then (0, 1) else bif !numOk b then (0, 1) else bif s == 43 then lim (IntKind.i64.wrap (a + b)) else bif s == 45 then lim (IntKind.i64.wrap (a - b))
 else bif s == 42 then (bif decide (a.natAbs * b.natAbs ≤ 1000000000000) then lim (IntKind.i64.wrap (a * b)) else (0, 6))
 else bif s == 37 then (bif b == 0 then (0, 2) else lim (flo a b)) else bif s == 124 then (bif a != 0 then lim (IntKind.i64.wrap (b - IntKind.i64.wrap (a * flo b a))) else lim b)
 else bif s == 38 then lim (minmax false a b) else bif s == 94 then lim (minmax true a b) else bif s == 61 then lim (bit (a == b)) else bif s == 60 then lim (bit (decide (a < b))) else lim (bit (decide (b < a)))
theorem truthI (b : Bool) (R : Int → Option Res) : impl_truth.g b R = R (bit b) := by simp only [impl_truth.e, impl_truth.b, bit]; cases b <;> rfl
theorem bitS (b : Bool) (R : Int → Option Res) : spec_l1Bit.g b R = R (bit b) := by simp only [spec_l1Bit.e, spec_l1Bit.b, bit]; cases b <;> rfl
theorem maxS (a b : Int) (R : Int → Option Res) : spec_l1Max.g a b R = R (minmax true a b) := by
 simp only [spec_l1Max.e, spec_l1Max.b, minmax, cond_true]
 by_cases h : b < a
 ·rw [cd_t (by simpa using h), if_neg (by omega)]
 ·rw [cd_f (by simpa using h)]
  split
  ·rfl
  ·rw [show b = a by omega]
theorem minS (a b : Int) (R : Int → Option Res) : spec_l1Min.g a b R = R (minmax false a b) := by
 simp only [spec_l1Min.e, spec_l1Min.b, minmax, cond_false]
 by_cases h : a < b
 ·rw [cd_t (by simpa using h), if_neg (by omega)]
 ·rw [cd_f (by simpa using h)]
  split
  ·rfl
  ·rw [show b = a by omega]
theorem oneI (s x : Int) (R : Int → Int → Option Res) : impl_One.g s x R = R (oneN s x).1 (oneN s x).2 := by
 simp only [impl_One.e, impl_One.b, oneSignI, numOkI, truthI, within, oneN]
 cases sg1 s <;> cases numOk x <;> cases s == 45 <;> cases s == 42 <;> cases s == 124 <;> cases s == 126 <;> cases (decide (0 ≤ x) && decide (x ≤ 1)) <;> rfl
theorem oneS (s x : Int) (R : Int → Int → Option Res) : spec_One.g s x R = R (oneN s x).1 (oneN s x).2 := by
 simp only [spec_One.e, spec_One.b, sign1S, numOkS, bitS, maxS, l1In, oneN]
 cases sg1 s <;> cases numOk x <;> cases s == 45 <;> cases s == 42 <;> cases s == 124 <;> cases s == 126 <;> cases (decide (0 ≤ x) && decide (x ≤ 1)) <;> rfl
theorem floI (a b : Int) (hb : b ≠ 0) (R : Int → Option Res) : impl_floor.g a b R = R (flo a b) := by
 simp only [impl_floor.e, impl_floor.b, flo, hb, decide_false, cond_false]
 cases (a.tmod b != 0) <;> cases ((decide (a < 0)) != (decide (b < 0))) <;> rfl
theorem floS (a b : Int) (hb : b ≠ 0) (R : Int → Option Res) : spec_l1Floor.g a b R = R (flo a b) := by
 simp only [spec_l1Floor.e, spec_l1Floor.b, flo, hb, decide_false, cond_false]
 cases (a.tmod b != 0) <;> cases ((decide (a < 0)) != (decide (b < 0))) <;> rfl
theorem numOk_iff {x : Int} : numOk x = true ↔ -1000000000000 ≤ x ∧ x ≤ 1000000000000 := by simp [numOk]
theorem mm_abs {a : Int} (h : numOk a = true) : minmax true a (IntKind.i64.wrap (0 - a)) = (a.natAbs : Int) := by
 rw [numOk_iff] at h
 rw [w64 (by omega)]
 simp only [minmax, cond_true]
 split <;> omega
theorem quo_abs {n : Nat} (h : n ≠ 0) : IntKind.i64.wrap ((1000000000000 : Int).tdiv (n : Int)) = ((1000000000000 / n : Nat) : Int) := by
 have e : (1000000000000 : Int).tdiv (n : Int) = ((1000000000000 / n : Nat) : Int) := by
  rw [show (1000000000000 : Int) = ((1000000000000 : Nat) : Int) from rfl, Int.ofNat_tdiv]
 have := Nat.div_le_self 1000000000000 n
 rw [e]
 generalize 1000000000000 / n = d at this ⊢
 exact w64 (by omega)
theorem div_mul {M n m : Nat} (h : n ≠ 0) : (M / n < m) ↔ ¬ n * m ≤ M := by
 rw [Nat.div_lt_iff_lt_mul (by omega), Nat.mul_comm]; omega
theorem mul_ok {a b : Int} (h : a.natAbs * b.natAbs ≤ 1000000000000) : numOk (IntKind.i64.wrap (a * b)) = true ∧ IntKind.i64.wrap (a * b) = a * b := by
 rw [← Int.natAbs_mul] at h
 have : IntKind.i64.wrap (a * b) = a * b := w64 (by omega)
 rw [this]
 exact ⟨by rw [numOk_iff]; omega, rfl⟩
theorem prodI {a b : Int} (ha : numOk a = true) (hb : numOk b = true) (R : Int → Bool → Option Res) : impl_product.g a b R = bif decide (a.natAbs * b.natAbs ≤ 1000000000000) then R (IntKind.i64.wrap (a * b)) true else R 0 false := by
 simp only [impl_product.e, impl_product.b, mm_abs ha, mm_abs hb]
 by_cases h0 : a = 0
 ·subst h0; simp
 have h1 : a.natAbs ≠ 0 := by omega
 have e0 : (a != 0) = true := by simpa using h0
 rw [e0, cond_true, cd_f (by simp; omega), quo_abs h1]
 have e : decide (((1000000000000 / a.natAbs : Nat) : Int) < (b.natAbs : Int)) = !decide (a.natAbs * b.natAbs ≤ 1000000000000) := by
  rw [Bool.eq_iff_iff]; simp only [decide_eq_true_eq, Bool.not_eq_true', decide_eq_false_iff_not, Int.ofNat_lt]; exact div_mul h1
 rw [e]
 cases decide (a.natAbs * b.natAbs ≤ 1000000000000) <;> rfl
theorem timesS {a b : Int} (ha : numOk a = true) (hb : numOk b = true) (R : Int → Bool → Option Res) : spec_l1Times.g a b R = bif decide (a.natAbs * b.natAbs ≤ 1000000000000) then R (IntKind.i64.wrap (a * b)) true else R 0 false := by
 simp only [spec_l1Times.e, spec_l1Times.b, maxS, mm_abs ha, mm_abs hb]
 have z : IntKind.i64.wrap 0 = 0 := w64 (by omega)
 by_cases h0 : a = 0
 ·subst h0; simp [z]
 by_cases h0' : b = 0
 ·subst h0'; simp [z]
 have h1 : b.natAbs ≠ 0 := by omega
 rw [cd_f (by simpa using h0), cd_f (by simpa using h0'), cd_f (by simp; omega), quo_abs h1]
 have e : decide (((1000000000000 / b.natAbs : Nat) : Int) < (a.natAbs : Int)) = !decide (a.natAbs * b.natAbs ≤ 1000000000000) := by
  rw [Bool.eq_iff_iff]; simp only [decide_eq_true_eq, Bool.not_eq_true', decide_eq_false_iff_not, Int.ofNat_lt]; rw [div_mul h1, Nat.mul_comm]
 rw [e]
 cases decide (a.natAbs * b.natAbs ≤ 1000000000000) <;> rfl
theorem limR (x : Int) (R : Int → Int → Option Res) : (bif !numOk x then R 0 6 else R x 0) = R (lim x).1 (lim x).2 := by unfold lim; cases numOk x <;> rfl
theorem twoI (s a b : Int) (R : Int → Int → Option Res) : impl_Two.g s a b R = R (twoN s a b).1 (twoN s a b).2 := by
 simp only [impl_Two.e, impl_Two.b, twoSignI, numOkI, truthI, limR, twoN]
 cases hs : sg2 s with
 | false => rfl
 | true =>
  cases ha : numOk a with
  | false => rfl
  | true =>
   cases hb : numOk b with
   | false => rfl
   | true =>
    simp only [Bool.not_true, cond_false, prodI ha hb]
    cases s == 43; rotate_left; rfl
    cases s == 45; rotate_left; rfl
    cases s == 42
    ·simp only [cond_false]
     cases s == 37
     ·simp only [cond_false]
      cases s == 124
      ·simp only [cond_false]
       cases s == 38 <;> cases s == 94 <;> cases s == 61 <;> cases s == 60 <;> rfl
      ·simp only [cond_true]
       by_cases h0 : a = 0
       ·subst h0; rfl
       ·have e0 : (a != 0) = true := by simpa using h0
        simp only [e0, cond_true, cond_false, floI b a h0]
     ·simp only [cond_true]
      by_cases h0 : b = 0
      ·subst h0; rfl
      ·have e0 : (b == 0) = false := by simpa using h0
       simp only [e0, cond_false, floI a b h0]
    ·simp only [cond_true]
     by_cases h : a.natAbs * b.natAbs ≤ 1000000000000
     ·simp only [decide_eq_true h, cond_true, cond_false, (mul_ok h).1, Bool.not_true]
     ·simp only [decide_eq_false h, cond_true, cond_false, Bool.not_false]
theorem twoS (s a b : Int) (R : Int → Int → Option Res) : spec_Two.g s a b R = R (twoN s a b).1 (twoN s a b).2 := by
 simp only [spec_Two.e, spec_Two.b, sign2S, numOkS, bitS, maxS, minS, limR, twoN]
 cases hs : sg2 s with
 | false => rfl
 | true =>
  cases ha : numOk a with
  | false => rfl
  | true =>
   cases hb : numOk b with
   | false => rfl
   | true =>
    simp only [Bool.not_true, cond_false, timesS ha hb]
    cases h1 : s == 43; rotate_left; rfl
    cases h2 : s == 45; rotate_left; rfl
    cases h3 : s == 42
    ·simp only [cond_false]
     cases h4 : s == 37
     ·simp only [cond_false]
      cases h5 : s == 124
      ·simp only [cond_false]
       cases h6 : s == 38; rotate_left; rfl
       cases h7 : s == 94; rotate_left; rfl
       cases h8 : s == 61; rotate_left; rfl
       cases h9 : s == 60; rotate_left; rfl
       have : (s == 62) = true := by simpa [sg2, h1, h2, h3, h4, h5, h6, h7, h8, h9] using hs
       rw [this]; rfl
      ·simp only [cond_true]
       by_cases h0 : a = 0
       ·subst h0; rfl
       ·have e0 : (a != 0) = true := by simpa using h0
        simp only [e0, cond_true, cond_false, floS b a h0]
     ·simp only [cond_true]
      by_cases h0 : b = 0
      ·subst h0; rfl
      ·have e0 : (b == 0) = false := by simpa using h0
       simp only [e0, cond_false, floS a b h0]
    ·simp only [cond_true]
     by_cases h : a.natAbs * b.natAbs ≤ 1000000000000
     ·simp only [decide_eq_true h, cond_true, cond_false, (mul_ok h).1, Bool.not_true]
     ·simp only [decide_eq_false h, cond_true, cond_false, Bool.not_false]
theorem toArray (a b : List Int) (ha : a.length ≤ 1048576) (hb : b.length ≤ 1048576) (R : List Int → List Int → Option Res) : laws_toArray.g a b R = R a b := by
 simp only [laws_toArray.e, laws_toArray.b, toIntS a ha, toIntS b hb]
abbrev Vr : Type := Bool × List Int × List Int
def mkV (v : Vr) : List Cl := [.b v.1, .l v.2.1, .l v.2.2]
def unV (r : List Cl) : Vr := ((r.getD 0 (.i 0)).toB, (r.getD 1 (.i 0)).toL, (r.getD 2 (.i 0)).toL)
def dV : Vr := (false, [], [])
theorem getV {L : List Vr} {i : Nat} (h : i < L.length) : (L.map mkV).getD i [] = mkV (L.getD i dV) := getD_map mkV L h [] dV
theorem mkV_0 (v : Vr) : ((mkV v).getD 0 (.i 0)).toB = v.1 := rfl
theorem mkV_1 (v : Vr) : ((mkV v).getD 1 (.i 0)).toL = v.2.1 := rfl
theorem mkV_2 (v : Vr) : ((mkV v).getD 2 (.i 0)).toL = v.2.2 := rfl
theorem spV0 (c : Vr) (x : Bool) : splice (mkV c) 0 [.b x] = mkV (x, c.2) := rfl
theorem spV1 (c : Vr) (x : List Int) : splice (mkV c) 1 [.l x] = mkV (c.1, x, c.2.2) := rfl
theorem spV2 (c : Vr) (x : List Int) : splice (mkV c) 2 [.l x] = mkV (c.1, c.2.1, x) := rfl
def vsz (v : Vr) : Nat := v.2.1.length + v.2.2.length
def szV : List Vr → Nat
 | [] => 0
 | v :: L => vsz v + szV L
theorem szV_drop (L : List Vr) {i : Nat} (hi : i < L.length) : szV (L.drop i) = vsz (L.getD i dV) + szV (L.drop (i + 1)) := by
 rw [drop_cons dV hi, szV]
theorem szV_drop_le : ∀ (L : List Vr) (i : Nat), szV (L.drop i) ≤ szV L
 | [], i => by rw [List.drop_nil]; exact Nat.le_refl _
 | x :: L, 0 => Nat.le_refl _
 | x :: L, i + 1 => by rw [List.drop_succ_cons, szV]; exact Nat.le_trans (szV_drop_le L i) (Nat.le_add_left _ _)
theorem szV_le : ∀ (L : List Vr) (M : Nat), szV L ≤ M → ∀ v ∈ L, vsz v ≤ M
 | [], _, _, x, h => by cases h
 | y :: L, M, hM, x, h => by
  rw [szV] at hM
  rcases List.mem_cons.1 h with rfl | h
  ·omega
  ·exact szV_le L M (by omega) x h
def NumsV (M : Nat) (L : List Vr) : Prop := ∀ v ∈ L, vsz v ≤ M
theorem NumsV.at {M : Nat} {L : List Vr} (h : NumsV M L) {i : Nat} (hi : i < L.length) : vsz (L.getD i dV) ≤ M := by
 rw [List.getD_eq_getElem?_getD, List.getElem?_eq_getElem hi]; exact h _ (List.getElem_mem hi)
theorem szIntN (n : Int) (hn : 0 ≤ n ∧ n ≤ 1048576) (a : List Int) (ha : a.length ≤ maxLen) : ∃ y : Int, y ≤ 1048576 ∧ (0 ≤ y → (a.length : Int) + y = n) ∧ ∀ R, laws_szIntS.g a n R = R y := by
 have hm : maxLen = 9223372036854775807 := by decide
 simp only [laws_szIntS.e, laws_szIntS.b]
 rw [w64 (n := n - (a.length : Int)) (by omega)]
 by_cases h : n - (a.length : Int) < 0
 ·exact ⟨-1, by omega, by omega, fun R => by rw [cd_t (by simpa using h)]⟩
 ·exact ⟨n - a.length, by omega, by omega, fun R => by rw [cd_f (by simpa using h)]⟩
theorem szVarN (n : Int) (hn : 0 ≤ n ∧ n ≤ 1048576) (b : Bool) (s d : List Int) (hs : s.length ≤ maxLen) (hd : d.length ≤ maxLen) : ∃ y : Int, y ≤ 1048576 ∧ (0 ≤ y → (s.length : Int) + d.length + y = n) ∧ ∀ R, laws_szVar.g b s d n R = R y := by
 obtain ⟨y, y1, y2, y3⟩ := szIntN n hn s hs
 simp only [laws_szVar.e, laws_szVar.b, laws_szArray.e, laws_szArray.b, y3]
 by_cases h : y < 0
 ·exact ⟨-1, by omega, by omega, fun R => by rw [cd_t (by simpa using h)]; rfl⟩
 obtain ⟨z, z1, z2, z3⟩ := szIntN y ⟨by omega, y1⟩ d hd
 simp only [z3]
 by_cases h' : z < 0
 ·exact ⟨-1, by omega, by omega, fun R => by rw [cd_f (by simpa using h), cd_t (by simpa using h')]; rfl⟩
 ·refine ⟨z, by omega, fun _ => ?_, fun R => by rw [cd_f (by simpa using h), cd_f (by simpa using h'), cd_f (by simpa using h')]⟩
  have := y2 (by omega)
  have := z2 (by omega)
  omega
theorem szVarS (a : List (List Cl)) (m : Int) (hm : 0 ≤ m ∧ m ≤ 1048576) (h : a.length ≤ maxLen) (hn : ∀ v ∈ a.map unV, v.2.1.length ≤ maxLen ∧ v.2.2.length ≤ maxLen) : ∃ y : Int, y ≤ 1048576 ∧ (0 ≤ y → (a.length : Int) + szV (a.map unV) + y = m) ∧ ∀ R, laws_szVarS.g a m R = R y := by
 have hM : maxLen = 9223372036854775807 := by decide
 simp only [laws_szVarS.e, laws_szVarS.b]
 rw [w64 (n := m - (a.length : Int)) (by omega)]
 by_cases h1 : m - (a.length : Int) < 0
 ·exact ⟨-1, by omega, by omega, fun R => by simp only [h1, decide_true, cond_true]⟩
 have e1 : decide (m - (a.length : Int) < 0) = false := by simp; omega
 simp only [e1, cond_false]
 have := up0 (N := a.length) (P := fun n i => ∀ z : Int, 0 ≤ z → z ≤ 1048576 → ∃ y : Int, y ≤ 1048576 ∧ (0 ≤ y → (szV ((a.map unV).drop i) : Int) + y = z) ∧ ∀ R : Int → Option Res, laws_szVarS.l0 a (fun y7 => R y7) R n z (i : Int) = R y) (by omega) ?_ ?_ 0 (by omega) (m - a.length) (by omega) (by omega)
 ·obtain ⟨y, y0, y1, y2⟩ := this
  exact ⟨y, y0, fun hy => by have := y1 hy; rw [List.drop_zero] at this; omega, y2⟩
 ·intro n z hz hz2
  refine ⟨z, hz2, fun _ => by rw [List.drop_eq_nil_of_le (by simp)]; simp [szV], fun R => ?_⟩
  simp only [laws_szVarS.l0, laws_szVarS.l0s, ixe, cond_false]
 ·intro n i hi ih z hz hz2
  have hi' : i < (a.map unV).length := by simpa using hi
  have hx := hn ((a.map unV).getD i dV) (by rw [List.getD_eq_getElem?_getD, List.getElem?_eq_getElem hi']; exact List.getElem_mem hi')
  have hd := szV_drop (a.map unV) hi'
  have e : (a.map unV).getD i dV = unV (a.getD i []) := by rw [getD_map unV a hi dV []]
  rw [e] at hx hd
  obtain ⟨y, y1, y2, y3⟩ := szVarN z ⟨hz, hz2⟩ (unV (a.getD i [])).1 _ _ hx.1 hx.2
  have y3' : ∀ R, laws_szVar.g (((a.getD i []).getD 0 (.i 0)).toB) (((a.getD i []).getD 1 (.i 0)).toL) (((a.getD i []).getD 2 (.i 0)).toL) z R = R y := y3
  simp only [laws_szVarS.l0, laws_szVarS.l0s, ixl hi, ix0, Bool.and_self, cond_true, Int.toNat_natCast, y3', ixw (by omega : i < 9223372036854775807)]
  by_cases h2 : y < 0
  ·exact ⟨-1, by omega, by omega, fun R => by rw [cd_t (by simpa using h2)]⟩
  ·obtain ⟨z', z0, z1, z2⟩ := ih y (by omega) y1
   have := y2 (by omega)
   refine ⟨z', z0, fun hz => ?_, fun R => by rw [cd_f (by simpa using h2)]; exact z2 R⟩
   have := z1 hz
   rw [hd]
   unfold vsz
   omega
theorem szInstrN (a : List (List Cl)) (h : a.length ≤ maxLen) (hn : ∀ x ∈ a.map unX, x.2.2.2.length ≤ maxLen) : ∃ y : Int, y ≤ 1048576 ∧ (0 ≤ y → a.length + szX (a.map unX) ≤ 1048576) ∧ ∀ R, laws_szInstrS.g a 1048576 R = R y := by
 have hm : maxLen = 9223372036854775807 := by decide
 simp only [laws_szInstrS.e, laws_szInstrS.b]
 rw [w64 (n := 1048576 - (a.length : Int)) (by omega)]
 by_cases h1 : 1048576 - (a.length : Int) < 0
 ·exact ⟨-1, by omega, by omega, fun R => by simp only [h1, decide_true, cond_true]⟩
 have e1 : decide (1048576 - (a.length : Int) < 0) = false := by simp; omega
 simp only [e1, cond_false]
 have := up0 (N := a.length) (P := fun n i => ∀ z : Nat, z ≤ 1048576 → ∃ y : Int, y ≤ 1048576 ∧ (0 ≤ y → szX ((a.map unX).drop i) ≤ z) ∧ ∀ R : Int → Option Res, laws_szInstrS.l0 a (fun y7 => R y7) R n (z : Int) (i : Int) = R y) (by omega) ?_ ?_ 0 (by omega) (1048576 - a.length) (by omega)
 ·obtain ⟨y, y0, y1, y2⟩ := this
  refine ⟨y, y0, fun hy => by have := y1 hy; rw [List.drop_zero] at this; omega, fun R => ?_⟩
  have := y2 R
  rw [show ((1048576 - a.length : Nat) : Int) = 1048576 - (a.length : Int) by omega] at this
  exact this
 ·intro n z hz
  refine ⟨z, by omega, fun _ => by rw [List.drop_eq_nil_of_le (by simp)]; exact Nat.zero_le _, fun R => ?_⟩
  simp only [laws_szInstrS.l0, laws_szInstrS.l0s, ixe, cond_false]
 ·intro n i hi ih z hz
  have hi' : i < (a.map unX).length := by simpa using hi
  have hx := hn ((a.map unX).getD i dX) (by rw [List.getD_eq_getElem?_getD, List.getElem?_eq_getElem hi']; exact List.getElem_mem hi')
  have e5 : ((a.getD i []).getD 5 (.i 0)).toL = ((a.map unX).getD i dX).2.2.2 := by rw [getD_map unX a hi dX []]; rfl
  simp only [laws_szInstrS.l0, laws_szInstrS.l0s, laws_szInstr.e, laws_szInstr.b, laws_szIntS.e, laws_szIntS.b, ixl hi, ix0, Bool.and_self, cond_true, Int.toNat_natCast, e5, ixw (by omega : i < 9223372036854775807)]
  have hd := szX_drop (a.map unX) hi'
  generalize ((a.map unX).getD i dX).2.2.2 = xs at hx hd ⊢
  rw [w64 (n := (z : Int) - (xs.length : Int)) (by omega)]
  by_cases h2 : (z : Int) - (xs.length : Int) < 0
  ·exact ⟨-1, by omega, by omega, fun R => by simp only [h2, decide_true, cond_true]; rfl⟩
  ·have e2 : decide ((z : Int) - (xs.length : Int) < 0) = false := by simpa using h2
   obtain ⟨y, y0, y1, y2⟩ := ih (z - xs.length) (by omega)
   refine ⟨y, y0, fun hy => by have := y1 hy; omega, fun R => ?_⟩
   have := y2 R
   rw [show ((z - xs.length : Nat) : Int) = (z : Int) - (xs.length : Int) by omega] at this
   simp only [e2, cond_false]
   exact this
theorem toVarS (a : List (List Cl)) (h : a.length ≤ 1048576) (hn : NumsV 1048576 (a.map unV)) (R : List (List Cl) → Option Res) : laws_toVarS.g a R = R ((a.map unV).map mkV) := by
 have e1 : decide (0 ≤ (a.length : Int)) = true := by simp
 have e2 : decide ((a.length : Int) * 56 ≤ 140737488355328) = true := by simp; omega
 simp only [laws_toVarS.e, laws_toVarS.b, e1, e2, decide_true, Bool.and_self, cond_true]
 refine up0 (N := a.length) (P := fun n i => ∀ l : List (List Cl), l.length = a.length → (∀ j, j < i → l[j]? = ((a.map unV).map mkV)[j]?) → laws_toVarS.l0 a (fun y7 => R y7) n (i : Int) l = R ((a.map unV).map mkV)) (by omega) ?_ ?_ 0 (by omega) _ (by simp) (fun j hj => by omega)
 ·intro n l hl hp
  simp only [laws_toVarS.l0, laws_toVarS.l0s, ixe, cond_false]
  rw [list_eq (by simpa using hl) (fun j hj => hp j (by omega))]
 ·intro n i hi ih l hl hp
  have hi2 : decide ((i : Int) < (l.length : Int)) = true := by simp; omega
  have hx := hn.at (i := i) (by simpa using hi)
  rw [getD_map unV a hi dV [], vsz] at hx
  have h1 : ((a.getD i []).getD 1 (.i 0)).toL.length ≤ 1048576 := Nat.le_trans (Nat.le_add_right _ _) hx
  have h2 : ((a.getD i []).getD 2 (.i 0)).toL.length ≤ 1048576 := Nat.le_trans (Nat.le_add_left _ _) hx
  simp only [laws_toVarS.l0, laws_toVarS.l0s, laws_toVar.e, laws_toVar.b, ixl hi, ix0, hi2, Bool.and_self, cond_true, ixw (by omega : i < 9223372036854775807), Int.toNat_natCast, toArray _ _ h1 h2]
  refine ih _ (by simp [hl]) (set_pre (a := (a.map unV).map mkV) (by simpa using hl) (by simpa using hi) ?_ hp)
  rw [List.getElem?_map, List.getElem?_map, getD_lt [] hi]; rfl
theorem eqVarS (L : List Vr) (h : L.length ≤ 1048576) (hn : NumsV 1048576 L) (R : Bool → Option Res) : laws_eqVarS.g (L.map mkV) (L.map mkV) R = R true := by
 simp only [laws_eqVarS.e, laws_eqVarS.b, bne_self_eq_false, cond_false, List.length_map]
 refine up0 (N := L.length) (P := fun n i => laws_eqVarS.l0 (L.map mkV) (L.map mkV) (R true) R n (i : Int) = R true) (by omega) ?_ ?_ 0 (by omega)
 ·intro n; simp only [laws_eqVarS.l0, laws_eqVarS.l0s, List.length_map, ixe, cond_false]
 ·intro n i hi ih
  have hx := hn.at hi
  unfold vsz at hx
  simp only [laws_eqVarS.l0, laws_eqVarS.l0s, laws_eqVar.e, laws_eqVar.b, List.length_map, ixl hi, ix0, Bool.and_self, cond_true, bne_self_eq_false, cond_false, Bool.not_true, Int.toNat_natCast, getV hi, mkV_0, mkV_1, mkV_2, eqArray _ _ (by omega : (L.getD i dV).2.1.length ≤ 9223372036854775807) (by omega : (L.getD i dV).2.2.length ≤ 9223372036854775807), ixw (by omega : i < 9223372036854775807)]
  exact ih
theorem wf_vars {a : List (List Cl)} (ha : wfQ [.bool, .ints .i64, .ints .i64] (.cells a)) : ∀ v ∈ a.map unV, v.2.1.length ≤ maxLen ∧ v.2.2.length ≤ maxLen := fun x hx => by
 obtain ⟨r, hr, rfl⟩ := List.mem_map.1 hx
 obtain ⟨i, hi, rfl⟩ := List.mem_iff_getElem.1 hr
 have e : a.getD i [] = a[i] := by rw [List.getD_eq_getElem?_getD, List.getElem?_eq_getElem hi]; rfl
 have key : ∀ j, [Ct.bool, .ints .i64, .ints .i64][j]? = some (.ints .i64) → ((a[i].getD j (.i 0)).toL).length ≤ maxLen := by
  intro j hj
  obtain ⟨c, h1, h2⟩ := ha.2 i j (.ints .i64) hi hj
  have h1 : (a.getD i [])[j]? = some c := h1
  rw [e] at h1
  rw [getD_of h1]
  cases c with
  | l xs => exact h2.1
  | _ => exact Nat.zero_le _
 exact ⟨key 1 rfl, key 2 rfl⟩
def mkdV (z : Int) (m n : Nat) : Vr := (z.tmod 3 == 0, cnt (fun x => x) (z + 1) m, cnt (fun x => x) (z + 1 + m) n)
def cntVs : Int → List Vr → List Vr
 | _, [] => []
 | y, v :: L => mkdV y v.2.1.length v.2.2.length :: cntVs (y + 1 + vsz v) L
theorem cntVs_length : ∀ (L : List Vr) (y : Int), (cntVs y L).length = L.length
 | [], _ => rfl
 | x :: L, y => by rw [cntVs, List.length_cons, cntVs_length, List.length_cons]
def zVt (y : Int) (L : List Vr) (i : Nat) : Int := y + i + ((szV L - szV (L.drop i) : Nat) : Int)
theorem zVt_0 (y : Int) (L : List Vr) : zVt y L 0 = y := by simp [zVt]
theorem zVt_end (y : Int) (L : List Vr) : zVt y L L.length = y + L.length + szV L := by simp [zVt, szV]
theorem zVt_succ (y : Int) (L : List Vr) {i : Nat} (hi : i < L.length) : zVt y L (i + 1) = zVt y L i + 1 + vsz (L.getD i dV) := by
 have h1 := szV_drop L hi
 have h2 := szV_drop_le L i
 unfold zVt; omega
theorem zVt_cons (y : Int) (x : Vr) (L : List Vr) (i : Nat) : zVt y (x :: L) (i + 1) = zVt (y + 1 + vsz x) L i := by
 have h2 := szV_drop_le L i
 unfold zVt; rw [List.drop_succ_cons, szV]; omega
theorem cntVs_get : ∀ (L : List Vr) (y : Int) (i : Nat), i < L.length → (cntVs y L)[i]? = some (mkdV (zVt y L i) (L.getD i dV).2.1.length (L.getD i dV).2.2.length)
 | [], _, _, h => by cases h
 | x :: L, y, 0, _ => by rw [cntVs, zVt_0]; rfl
 | x :: L, y, i + 1, h => by
  rw [cntVs, List.getElem?_cons_succ, cntVs_get L _ i (by simp only [List.length_cons] at h; omega), zVt_cons]; rfl
theorem zVt_le (y : Int) (L : List Vr) (i : Nat) (hi : i ≤ L.length) : y ≤ zVt y L i ∧ zVt y L i ≤ y + L.length + szV L := by
 have h2 := szV_drop_le L i
 unfold zVt; omega
theorem markVarF (y : Int) (L : List Vr) (hy : 0 ≤ y ∧ y ≤ 1152921504606846976) (h : L.length ≤ 1048576) (hz : szV L ≤ 1048576) (R : Int → List (List Cl) → Option Res) : laws_markVarS.g y (L.map mkV) R = R (y + L.length + szV L) ((cntVs y L).map mkV) := by
 simp only [laws_markVarS.e, laws_markVarS.b]
 have := up0 (N := L.length) (P := fun n i => ∀ M : List Vr, M.length = L.length → (∀ j, j < i → M[j]? = (cntVs y L)[j]?) → M.drop i = L.drop i → laws_markVarS.l0 (fun y8 y9 => R y8 y9) n (zVt y L i) (i : Int) (M.map mkV) = R (y + L.length + szV L) ((cntVs y L).map mkV)) (by omega) ?_ ?_ 0 (by omega) L rfl (fun j hj => by omega) rfl
 ·rw [zVt_0] at this; exact this
 ·intro n M hM hp _
  have e : decide ((L.length : Int) < ((M.map mkV).length : Int)) = false := by simp; omega
  simp only [laws_markVarS.l0, laws_markVarS.l0s, e, cond_false]
  rw [list_eq (a := M) (by rw [hM, cntVs_length]) (fun j hj => hp j (by omega)), zVt_end]
 ·intro n i hi ih M hM hp hd
  have hiM : i < M.length := by omega
  have hb := zVt_le y L i (by omega)
  have hz1 := zVt_succ y L hi
  have hb1 := zVt_le y L (i + 1) hi
  have hnx : M.getD i dV = L.getD i dV := by
   have a := drop_cons dV hiM
   have b := drop_cons dV hi
   rw [hd, b] at a
   exact (List.cons.inj a).1.symm
  have hd' : M.drop (i + 1) = L.drop (i + 1) := by
   have a := drop_cons dV hiM
   have b := drop_cons dV hi
   rw [hd, b] at a
   exact (List.cons.inj a).2.symm
  have step := ih (M.set i (mkdV (zVt y L i) (L.getD i dV).2.1.length (L.getD i dV).2.2.length)) (by simp [hM]) (set_pre (by rw [hM, cntVs_length]) (by rw [cntVs_length]; exact hi) (cntVs_get L y i hi) hp) (by rw [List.drop_set_of_lt (by omega)]; exact hd')
  rw [hz1, vsz] at step
  rw [hz1, vsz] at hb1
  generalize zVt y L i = z at *
  have w1 : IntKind.i64.wrap (z + 1) = z + 1 := w64 (by omega)
  have hdd : decide ((i : Int) < ((M.map mkV).length : Int)) = true := by simp; omega
  have b1 : 0 ≤ z + 1 ∧ z + 1 ≤ 4611686018427387904 := by omega
  have b2 : (L.getD i dV).2.1.length ≤ 4611686018427387903 := by omega
  have b3 : 0 ≤ z + 1 + (L.getD i dV).2.1.length ∧ z + 1 + ((L.getD i dV).2.1.length : Int) ≤ 4611686018427387904 := by omega
  have b4 : (L.getD i dV).2.2.length ≤ 4611686018427387903 := by omega
  have sx : ∀ (Q : List Vr) (x : Vr), Q.length = M.length → ((Q.map mkV).set i (mkV x)).getD i [] = mkV x := fun Q x hQ => getD_set _ _ _ (by simp; omega)
  simp only [laws_markVarS.l0, laws_markVarS.l0s, ix0, Int.toNat_natCast, w1, getV hiM, spV0, List.set_set, List.length_set, decide_true, sx M _ rfl, spV1, spV2, mkV_1, mkV_2, hdd, Bool.and_self, cond_true, hnx, ixw (by omega : i < 9223372036854775807), markIntS _ _ b1 b2, markIntS _ _ b3 b4]
  simp only [map_set]
  have e : z + 1 + ((L.getD i dV).2.1.length : Int) + ((L.getD i dV).2.2.length : Int) = z + 1 + (((L.getD i dV).2.1.length + (L.getD i dV).2.2.length : Nat) : Int) := by omega
  rw [e]
  exact step
def varOk (v : Vr) : Bool := bif v.1 then arrOk v.2.1 v.2.2 else v.2.1.isEmpty && v.2.2.isEmpty
def varsB (V : List Vr) : Bool := decide (V.length = 26) && V.all varOk
theorem len0 (s d : List Int) (h1 : s.length ≤ 2000000) (h2 : d.length ≤ 2000000) : decide (0 < IntKind.i64.wrap ((s.length : Int) + (d.length : Int))) = !(s.isEmpty && d.isEmpty) := by
 rw [w64 (by omega)]
 cases s <;> cases d <;> simp <;> omega
theorem varOkI (v : Vr) (h : vsz v ≤ 2000000) (R : Bool → Option Res) : impl_VarsOk_1.g v.1 v.2.1 v.2.2 R = R (!varOk v) := by
 unfold vsz at h
 simp only [impl_VarsOk_1.e, impl_VarsOk_1.b, arrayOkI _ _ (by omega : v.2.2.length ≤ 9223372036854775807), len0 _ _ (by omega : v.2.1.length ≤ 2000000) (by omega : v.2.2.length ≤ 2000000), varOk]
 cases v.1 <;> cases arrOk v.2.1 v.2.2 <;> simp
theorem varsI (V : List Vr) (hl : V.length ≤ 2000000) (hn : NumsV 2000000 V) (R : Bool → Option Res) : impl_VarsOk.g (V.map mkV) R = R (varsB V) := by
 have hi : ∀ R, slices_IndexFunc_impl_Var_impl_Var.g (V.map mkV) R = R (idx (fun v => !varOk v) V 0) := fun R => by
  simp only [slices_IndexFunc_impl_Var_impl_Var.e, slices_IndexFunc_impl_Var_impl_Var.b, List.length_map]
  have := up0 (N := V.length) (P := fun n i => slices_IndexFunc_impl_Var_impl_Var.l0 (V.map mkV) (V.length : Int) (R (-1)) R n (i : Int) = R (idx (fun v => !varOk v) (V.drop i) i)) (by omega) ?_ ?_ 0 (by omega)
  ·simpa using this
  ·intro n; simp only [slices_IndexFunc_impl_Var_impl_Var.l0, slices_IndexFunc_impl_Var_impl_Var.l0s, ixe, cond_false, List.drop_length, idx]
  ·intro n i hi ih
   simp only [slices_IndexFunc_impl_Var_impl_Var.l0, slices_IndexFunc_impl_Var_impl_Var.l0s, List.length_map, ixl hi, ix0, Bool.and_self, cond_true, Int.toNat_natCast, getV hi, mkV_0, mkV_1, mkV_2, varOkI _ (hn.at hi), ixw (by omega : i < 9223372036854775807)]
   rw [drop_cons dV hi, idx]
   cases varOk (V.getD i dV) with
   | true => exact ih
   | false => rfl
 have e : ((V.length : Int) == 26) = decide (V.length = 26) := by rw [Bool.eq_iff_iff, beq_iff_eq, decide_eq_true_eq]; omega
 simp only [impl_VarsOk.e, impl_VarsOk.b, slices_ContainsFunc_impl_Var_impl_Var.e, slices_ContainsFunc_impl_Var_impl_Var.b, hi, idx_any _ _ _ (Int.le_refl 0), List.length_map, e, varsB, allNot]
 cases decide (V.length = 26) <;> rfl
theorem varsS (V : List Vr) (hl : V.length ≤ 2000000) (hn : NumsV 2000000 V) (R : Bool → Option Res) : spec_VarsOk.g (V.map mkV) R = R (varsB V) := by
 simp only [spec_VarsOk.e, spec_VarsOk.b, List.length_map, varsB]
 by_cases h : V.length = 26
 ·have e : ((V.length : Int) != 26) = false := by simp; omega
  rw [e, cond_false, decide_eq_true h, Bool.true_and]
  have := up0 (N := 26) (P := fun n i => spec_VarsOk.l0 (V.map mkV) (R true) R n (i : Int) = R ((V.drop i).all varOk)) (by omega) ?_ ?_ 0 (by omega)
  ·simpa using this
  ·intro n
   have : decide (((26 : Nat) : Int) < 26) = false := by decide
   simp only [spec_VarsOk.l0, spec_VarsOk.l0s, this, cond_false]
   rw [List.drop_eq_nil_of_le (by omega)]; rfl
  ·intro n i hi ih
   have hi' : i < V.length := by omega
   have hb := hn.at hi'
   unfold vsz at hb
   have e26 : decide ((i : Int) < 26) = true := by simp; omega
   simp only [spec_VarsOk.l0, spec_VarsOk.l0s, List.length_map, e26, ixl hi', ix0, Bool.and_self, cond_true, Int.toNat_natCast, getV hi', mkV_0, mkV_1, mkV_2, arrayOkS _ _ (by omega : (V.getD i dV).2.2.length ≤ 9223372036854775807), len0 _ _ (by omega : (V.getD i dV).2.1.length ≤ 2000000) (by omega : (V.getD i dV).2.2.length ≤ 2000000), ixw (by omega : i < 9223372036854775807), ih]
   rw [drop_cons dV hi', List.all_cons, varOk]
   cases (V.getD i dV).1 <;> cases arrOk (V.getD i dV).2.1 (V.getD i dV).2.2 <;> cases ((V.getD i dV).2.1.isEmpty && (V.getD i dV).2.2.isEmpty) <;> rfl
 ·have e : ((V.length : Int) != 26) = true := by simp; omega
  rw [e, cond_true, decide_eq_false h]; rfl
theorem vars_at {V : List Vr} (h : varsB V = true) {i : Nat} (hi : i < 26) : i < V.length ∧ varOk (V.getD i dV) = true := by
 unfold varsB at h
 simp only [Bool.and_eq_true, decide_eq_true_eq] at h
 have hl : i < V.length := by omega
 exact ⟨hl, List.all_eq_true.1 h.2 _ (by rw [List.getD_eq_getElem?_getD, List.getElem?_eq_getElem hl]; exact List.getElem_mem hl)⟩
abbrev Ar : Type := List Int × List Int
def numsA (xs : List Int) : Ar := if xs.length = 1 then ([], xs) else ([(xs.length : Int)], xs)
theorem one_elt {xs : List Int} (h : xs.length = 1) : ([xs.getD 0 0] : List Int) = xs := by
 cases xs with
 | nil => cases h
 | cons a l => cases l with
  | nil => rfl
  | cons b l => simp at h
theorem numsI (xs : List Int) (h : xs.length ≤ 2000000) (R : List Int → List Int → Option Res) : impl_numsArray.g xs R = R (numsA xs).1 (numsA xs).2 := by
 have e : ((xs.length : Int) == 1) = decide (xs.length = 1) := by rw [Bool.eq_iff_iff, beq_iff_eq, decide_eq_true_eq]; omega
 have e2 : decide (xs.length * 8 ≤ 140737488355328) = true := by simp; omega
 simp only [impl_numsArray.e, impl_numsArray.b, impl_vector.e, impl_vector.b, e, e2, numsA]
 by_cases h1 : xs.length = 1
 ·have e3 : decide (0 < (xs.length : Int)) = true := by simp; omega
  simp only [h1, decide_true, cond_true, e3, if_true, one_elt h1]; rfl
 ·simp only [h1, decide_false, cond_false, cond_true, if_false]
theorem numsS (xs : List Int) (h : xs.length ≤ 2000000) (R : List Int → List Int → Option Res) : spec_l10Nums.g xs R = R (numsA xs).1 (numsA xs).2 := by
 have e : ((xs.length : Int) == 1) = decide (xs.length = 1) := by rw [Bool.eq_iff_iff, beq_iff_eq, decide_eq_true_eq]; omega
 have e2 : decide ((0 + xs.length) * 8 ≤ 140737488355328) = true := by simp; omega
 simp only [spec_l10Nums.e, spec_l10Nums.b, spec_l3Vector.e, spec_l3Vector.b, spec_l3Scalar.e, spec_l3Scalar.b, e, e2, numsA, List.nil_append]
 by_cases h1 : xs.length = 1
 ·have e3 : decide (0 < (xs.length : Int)) = true := by simp; omega
  simp only [h1, decide_true, cond_true, e3, if_true, one_elt h1]; rfl
 ·simp only [h1, decide_false, cond_false, cond_true, if_false]
def putsX (x : Ins) : Bool := x.1 == 1 || x.1 == 2
def arrX (V : List Vr) (x : Ins) : Ar := if x.1 = 1 then numsA x.2.2.2 else (V.getD x.2.1.toNat dV).2
def setX (V : List Vr) (x : Ins) : Bool := x.1 == 1 || (V.getD x.2.1.toNat dV).1
theorem prod1 (n : Int) : prod [n] = n := by show n * 1 = n; omega
theorem numsA_ok {xs : List Int} (h : numsOk xs = true) : arrOk (numsA xs).1 (numsA xs).2 = true := by
 simp only [numsOk, Bool.and_eq_true, decide_eq_true_eq] at h
 obtain ⟨⟨h1, h2⟩, h3⟩ := h
 unfold numsA
 split
 ·rename_i h1'
  simp only [arrOk, h3, Bool.and_true, decide_eq_true_eq, h1']
  decide
 ·have e : sizeOf [(xs.length : Int)] = xs.length := by
   have : dimOk (xs.length : Int) = true := by simp [dimOk]; omega
   simp only [sizeOf, List.all_cons, List.all_nil, this, prod1, Bool.and_true, List.length_singleton]
   rw [cd_t (by simp; omega)]
  simp only [arrOk, h3, Bool.and_true, decide_eq_true_eq, e]
/-- what an instruction that puts an array puts is right -/
theorem arrX_ok {V : List Vr} (hV : varsB V = true) {x : Ins} (hx : insOk x = true) (hp : putsX x = true) (hs : setX V x = true) : arrOk (arrX V x).1 (arrX V x).2 = true := by
 unfold arrX
 unfold putsX at hp
 unfold setX at hs
 unfold insOk at hx
 by_cases h1 : x.1 = 1
 ·rw [if_pos h1]
  rw [cd_t (by simpa using h1)] at hx
  simp only [Bool.and_eq_true] at hx
  exact numsA_ok hx.2.2
 ·have h2 : x.1 = 2 := by simpa [h1] using hp
  rw [if_neg h1]
  rw [cd_f (by simpa using h1), cd_t (by simpa using h2)] at hx
  simp only [Bool.and_eq_true, decide_eq_true_eq] at hx
  have hs : (V.getD x.2.1.toNat dV).1 = true := by simpa [h1] using hs
  have := (vars_at hV (i := x.2.1.toNat) (by omega)).2
  unfold varOk at this
  rw [hs] at this
  exact this
theorem ins_letter {x : Ins} (hx : insOk x = true) (h2 : x.1 = 2) : ∃ i : Nat, x.2.1 = i ∧ i < 26 := by
 unfold insOk at hx
 rw [cd_f (by rw [h2]; decide), cd_t (by rw [h2]; decide)] at hx
 simp only [Bool.and_eq_true, decide_eq_true_eq] at hx
 exact ⟨x.2.1.toNat, by omega, by omega⟩
theorem dcons (x y : Int) (l m : List Int) : decide (x :: l = y :: m) = (decide (x = y) && decide (l = m)) := by rw [Bool.eq_iff_iff]; simp
theorem equalI (a b : List Int) (ha : a.length ≤ 2000000) (R : Bool → Option Res) : slices_Equal_int_int.g a b R = R (decide (a = b)) := by
 simp only [slices_Equal_int_int.e, slices_Equal_int_int.b]
 by_cases h : a.length = b.length
 ·have e : ((a.length : Int) != (b.length : Int)) = false := by simp; omega
  rw [e, cond_false]
  have := up0 (N := a.length) (P := fun n i => slices_Equal_int_int.l0 a b (a.length : Int) (R true) R n (i : Int) = R (decide (a.drop i = b.drop i))) (by omega) ?_ ?_ 0 (by omega)
  ·simpa using this
  ·intro n; simp only [slices_Equal_int_int.l0, slices_Equal_int_int.l0s, ixe, cond_false]; rw [List.drop_length, List.drop_eq_nil_of_le (by omega)]; rfl
  ·intro n i hi ih
   have hi' : i < b.length := by omega
   simp only [slices_Equal_int_int.l0, slices_Equal_int_int.l0s, ixl hi, ixl hi', ix0, Bool.and_self, cond_true, Int.toNat_natCast, ixw (by omega : i < 9223372036854775807), ih]
   rw [drop_cons 0 hi, drop_cons 0 hi']
   by_cases hq : a.getD i 0 = b.getD i 0
   ·rw [cd_f (by simpa using hq), dcons, decide_eq_true hq, Bool.true_and]
   ·rw [cd_t (by simpa using hq), dcons, decide_eq_false hq, Bool.false_and]
 ·have e : ((a.length : Int) != (b.length : Int)) = true := by simp; omega
  rw [e, cond_true, decide_eq_false (fun hq => h (by rw [hq]))]
theorem sameS (a b : List Int) (ha : a.length ≤ 2000000) (R : Bool → Option Res) : spec_l2Same.g a b R = R (decide (a = b)) := by
 simp only [spec_l2Same.e, spec_l2Same.b]
 by_cases h : a.length = b.length
 ·have e : ((a.length : Int) != (b.length : Int)) = false := by simp; omega
  rw [e, cond_false]
  have := up0 (N := a.length) (P := fun n i => spec_l2Same.l0 a b (R true) R n (i : Int) = R (decide (a.drop i = b.drop i))) (by omega) ?_ ?_ 0 (by omega)
  ·simpa using this
  ·intro n; simp only [spec_l2Same.l0, spec_l2Same.l0s, ixe, cond_false]; rw [List.drop_length, List.drop_eq_nil_of_le (by omega)]; rfl
  ·intro n i hi ih
   have hi' : i < b.length := by omega
   simp only [spec_l2Same.l0, spec_l2Same.l0s, ixl hi, ixl hi', ix0, Bool.and_self, cond_true, Int.toNat_natCast, ixw (by omega : i < 9223372036854775807), ih]
   rw [drop_cons 0 hi, drop_cons 0 hi']
   by_cases hq : a.getD i 0 = b.getD i 0
   ·rw [cd_f (by simpa using hq), dcons, decide_eq_true hq, Bool.true_and]
   ·rw [cd_t (by simpa using hq), dcons, decide_eq_false hq, Bool.false_and]
 ·have e : ((a.length : Int) != (b.length : Int)) = true := by simp; omega
  rw [e, cond_true, decide_eq_false (fun hq => h (by rw [hq]))]
def gF (V : List Vr) : List Ins → List Int → Option (List Int)
 | [], sh => some sh
 | x :: X, sh => if putsX x = true then (if setX V x = false then none else if (arrX V x).1 = [] then gF V X sh else if (arrX V x).2 = [] ∨ (sh ≠ [] ∧ sh ≠ (arrX V x).1) then none else gF V X (arrX V x).1) else gF V X sh
theorem gF_keep {V : List Vr} : ∀ {X : List Ins} {sh sh' : List Int}, gF V X sh = some sh' → sh ≠ [] → sh' = sh
 | [], sh, sh', h, _ => by cases h; rfl
 | x :: X, sh, sh', h, hn => by
  rw [gF] at h
  split at h
  ·split at h
   ·cases h
   ·split at h
    ·exact gF_keep h hn
    ·split at h
     ·cases h
     ·rename_i h1 h2
      have e : sh = (arrX V x).1 := Classical.byContradiction fun hc => h2 (.inr ⟨hn, hc⟩)
      rw [e]; exact gF_keep h h1
  ·exact gF_keep h hn
theorem gF_all {V : List Vr} : ∀ {X : List Ins} {sh sh' : List Int}, gF V X sh = some sh' → ∀ x ∈ X, putsX x = true → setX V x = true ∧ ((arrX V x).1 = [] ∨ ((arrX V x).1 = sh' ∧ (arrX V x).2 ≠ []))
 | [], _, _, _, x, hx, _ => by cases hx
 | y :: X, sh, sh', h, x, hx, hp => by
  rw [gF] at h
  rcases List.mem_cons.1 hx with rfl | hx
  ·rw [if_pos hp] at h
   split at h
   ·cases h
   ·rename_i h0
    refine ⟨by simpa using h0, ?_⟩
    split at h
    ·rename_i h1; exact .inl h1
    ·split at h
     ·cases h
     ·rename_i h1 h2
      exact .inr ⟨(gF_keep h h1).symm, fun hc => h2 (.inl hc)⟩
  ·split at h
   ·split at h
    ·cases h
    ·split at h
     ·exact gF_all h x hx hp
     ·split at h
      ·cases h
      ·exact gF_all h x hx hp
   ·exact gF_all h x hx hp
def goG (R : List Int → Bool → Option Res) : Option (List Int) → Option Res
 | none => R [] false
 | some sh => R sh true
theorem insAt {X : List Ins} (ho : X.all insOk = true) {i : Nat} (hi : i < X.length) : insOk (X.getD i dX) = true :=
 List.all_eq_true.1 ho (X.getD i dX) (by rw [List.getD_eq_getElem?_getD, List.getElem?_eq_getElem hi]; exact List.getElem_mem hi)
theorem z0 (l : List Int) : ((l.length : Int) == 0) = decide (l = []) := by
 rw [Bool.eq_iff_iff, beq_iff_eq, decide_eq_true_eq]; cases l with
 | nil => simp
 | cons a l => simp; omega
theorem ar_len {V : List Vr} (hV : varsB V = true) {x : Ins} (hx : insOk x = true) (hp : putsX x = true) (hs : setX V x = true) : (arrX V x).1.length ≤ 3 := (arrOk_facts (arrX_ok hV hx hp hs)).1
theorem lim3 {s : List Int} (h : s.length ≤ 3) : decide (s.length * 8 ≤ 140737488355328) = true := by simp; omega
theorem p3 (s : List Int) : decide (0 < s.length) = !decide (s = []) := by cases s <;> simp
theorem p3i (s : List Int) : decide (0 < (s.length : Int)) = !decide (s = []) := by cases s <;> simp
theorem guardedI (V : List Vr) (hV : varsB V = true) (X : List Ins) (hX : X.length ≤ 2000000) (ho : X.all insOk = true) (hn : NumsX 2000000 X) (R : List Int → Bool → Option Res) : impl_guarded.g (X.map mkX) (V.map mkV) R = goG R (gF V X []) := by
 simp only [impl_guarded.e, impl_guarded.b, List.length_map]
 have key := up0 (N := X.length) (P := fun n i => (impl_guarded.l0_2 (V.map mkV) (X.map mkX) (X.length : Int) (R [] true) (fun y => R y true) R n (i : Int) = goG R (gF V (X.drop i) [])) ∧
  ∀ sh : List Int, sh ≠ [] → sh.length ≤ 3 → impl_guarded.l0 (fun y => R y true) R n (V.map mkV) (X.map mkX) (X.length : Int) (i : Int) sh = goG R (gF V (X.drop i) sh)) (by omega) ?_ ?_ 0 (by omega)
 ·exact key.1
 ·intro n
  refine ⟨?_, fun sh _ _ => ?_⟩
  ·simp only [impl_guarded.l0_2, impl_guarded.l0_2s, ixe, cond_false, List.drop_length, gF, goG]
  ·simp only [impl_guarded.l0, impl_guarded.l0s, ixe, cond_false, List.drop_length, gF, goG]
 ·intro n i hi ih
  obtain ⟨ihA, ihB⟩ := ih
  have hx := insAt ho hi
  have hxn := hn.at hi
  have hl26 : V.length = 26 := by unfold varsB at hV; simp only [Bool.and_eq_true, decide_eq_true_eq] at hV; exact hV.1
  have ew : IntKind.i64.wrap ((i : Int) + 1) = ((i + 1 : Nat) : Int) := ixw (by omega)
  rw [drop_cons dX hi]
  simp only [impl_guarded.l0, impl_guarded.l0s, impl_guarded.l0_2, impl_guarded.l0_2s, List.length_map, ixl hi, ix0, Bool.and_self, cond_true, Int.toNat_natCast, getX hi, mkX_0, mkX_1, mkX_5, numsI _ hxn, ew, ihA, gF]
  generalize X.getD i dX = x at hx hxn ⊢
  by_cases h1 : x.1 = 1
  ·have hp : putsX x = true := by simp [putsX, h1]
   have hs : setX V x = true := by simp [setX, h1]
   have ha : arrX V x = numsA x.2.2.2 := by rw [arrX, if_pos h1]
   have hl := ar_len hV hx hp hs
   have e1 : (x.1 == 1) = true := by simpa using h1
   simp only [e1, cond_true, hp, hs, if_true, if_false, Bool.true_eq_false, ← ha, z0]
   by_cases q1 : (arrX V x).1 = []
   ·simp only [q1, decide_true, cond_true, if_true, true_and]
    exact ihB
   ·simp only [q1, decide_false, cond_false, if_false]
    by_cases q2 : (arrX V x).2 = []
    ·simp only [q2, decide_true, cond_true, true_or, if_true, goG, true_and]
     intros; trivial
    ·simp only [q2, decide_false, cond_false, false_or, lim3 hl, cond_true]
     refine ⟨?_, fun sh hsh hsl => ?_⟩
     ·rw [if_neg (by simp)]; exact ihB _ q1 hl
     ·rw [p3, decide_eq_false hsh, Bool.not_false, cond_true, equalI sh _ (by omega)]
      by_cases q3 : sh = (arrX V x).1
      ·rw [decide_eq_true q3, Bool.not_true, cond_false, if_neg (fun h => h.2 q3)]; exact ihB _ q1 hl
      ·rw [decide_eq_false q3, Bool.not_false, cond_true, if_pos ⟨hsh, q3⟩]; rfl
  have e1 : (x.1 == 1) = false := by simpa using h1
  simp only [e1, cond_false]
  by_cases h2 : x.1 = 2
  ·obtain ⟨k, hk, hk2⟩ := ins_letter hx h2
   have hkV : k < V.length := by omega
   have e2 : (x.1 == 2) = true := by simpa using h2
   have hp : putsX x = true := by simp [putsX, h2]
   have ha : arrX V x = (V.getD k dV).2 := by rw [arrX, if_neg h1, hk, Int.toNat_natCast]
   have hse : setX V x = (V.getD k dV).1 := by rw [setX, e1, hk, Int.toNat_natCast, Bool.false_or]
   simp only [e2, cond_true, hk, Int.toNat_natCast, ix0, ixl hkV, Bool.and_self, getV hkV, mkV_0, mkV_1, mkV_2, hp, if_true, ← hse]
   cases hs : setX V x with
   | false => simp only [Bool.not_false, cond_true, if_true, goG, true_and]; intros; trivial
   | true =>
    have hl := ar_len hV hx hp hs
    simp only [Bool.not_true, cond_false, if_false, Bool.true_eq_false, ← ha, z0]
    by_cases q1 : (arrX V x).1 = []
    ·simp only [q1, decide_true, cond_true, if_true, true_and]
     exact ihB
    ·simp only [q1, decide_false, cond_false, if_false]
     by_cases q2 : (arrX V x).2 = []
     ·simp only [q2, decide_true, cond_true, true_or, if_true, goG, true_and]
      intros; trivial
     ·simp only [q2, decide_false, cond_false, false_or, lim3 hl, cond_true]
      refine ⟨?_, fun sh hsh hsl => ?_⟩
      ·rw [if_neg (by simp)]; exact ihB _ q1 hl
      ·rw [p3, decide_eq_false hsh, Bool.not_false, cond_true, equalI sh _ (by omega)]
       by_cases q3 : sh = (arrX V x).1
       ·rw [decide_eq_true q3, Bool.not_true, cond_false, if_neg (fun h => h.2 q3)]; exact ihB _ q1 hl
       ·rw [decide_eq_false q3, Bool.not_false, cond_true, if_pos ⟨hsh, q3⟩]; rfl
  ·have e2 : (x.1 == 2) = false := by simpa using h2
   have hp : putsX x = false := by simp [putsX, h1, h2]
   simp only [e2, cond_false, hp, if_false, Bool.false_eq_true, true_and]
   exact ihB
theorem arrS (V : List Vr) (hV : varsB V = true) (x : Ins) (hx : insOk x = true) (hxn : x.2.2.2.length ≤ 2000000) (hp : putsX x = true) (R : List Int → List Int → Bool → Option Res) :
 spec_l15Array.g x.1 x.2.1 x.2.2.1.1 x.2.2.1.2.1 x.2.2.1.2.2 x.2.2.2 (V.map mkV) R = R (arrX V x).1 (arrX V x).2 (setX V x) := by
 have hl26 : V.length = 26 := by unfold varsB at hV; simp only [Bool.and_eq_true, decide_eq_true_eq] at hV; exact hV.1
 simp only [spec_l15Array.e, spec_l15Array.b, numsS _ hxn, List.length_map]
 by_cases h1 : x.1 = 1
 ·have e1 : (x.1 == 1) = true := by simpa using h1
  rw [e1, cond_true, arrX, if_pos h1, setX, e1]; rfl
 ·have e1 : (x.1 == 1) = false := by simpa using h1
  have h2 : x.1 = 2 := by simpa [putsX, h1] using hp
  obtain ⟨k, hk, hk2⟩ := ins_letter hx h2
  have hkV : k < V.length := by omega
  simp only [e1, cond_false, hk, Int.toNat_natCast, ix0, ixl hkV, Bool.and_self, cond_true, getV hkV, mkV_0, mkV_1, mkV_2, arrX, if_neg h1, setX, Bool.false_or]
theorem take_cons {L : List Ins} {i q : Nat} (hi : i < q) (hq : q ≤ L.length) : (L.drop i).take (q - i) = L.getD i dX :: (L.drop (i + 1)).take (q - (i + 1)) := by
 rw [drop_cons dX (by omega : i < L.length), show q - i = (q - (i + 1)) + 1 by omega, List.take_succ_cons]
theorem shapeS (V : List Vr) (hV : varsB V = true) (L : List Ins) (hL : L.length ≤ 2000000) (ho : L.all insOk = true) (hn : NumsX 2000000 L) (p q : Nat) (hpq : p ≤ q) (hq : q ≤ L.length) :
 ∃ Y, ∀ R, spec_l15Shape.g (L.map mkX) (p : Int) (q : Int) (V.map mkV) R = match gF V ((L.drop p).take (q - p)) [] with | none => R Y false | some sh => R sh true := by
 simp only [spec_l15Shape.e, spec_l15Shape.b]
 have := up0 (N := q) (P := fun n i => ∀ sh : List Int, sh.length ≤ 3 → ∃ Y, ∀ (k : List Int → Option Res) (R : List Int → Bool → Option Res), spec_l15Shape.l0 (L.map mkX) (V.map mkV) (p : Int) (q : Int) k R n sh (i : Int) = match gF V ((L.drop i).take (q - i)) sh with | none => R Y false | some s => bif decide (s.length ≤ 3) then k s else none) (by omega) ?_ ?_ p hpq [] (by simp)
 ·obtain ⟨Y, hY⟩ := this
  refine ⟨Y, fun R => ?_⟩
  rw [hY]
  cases hg : gF V ((L.drop p).take (q - p)) [] with
  | none => rfl
  | some s =>
   have hs : s.length ≤ 3 := by
    by_cases hc : s.length ≤ 3
    ·exact hc
    ·have := hY (fun _ => none) (fun _ _ => none)
     exfalso
     have h0 : s ≠ [] := by intro e; subst e; simp at hc
     -- the shape is that of an array that is put
     have key : ∀ (X : List Ins) (sh s : List Int), (∀ x ∈ X, insOk x = true) → gF V X sh = some s → sh.length ≤ 3 → s.length ≤ 3 := by
      intro X
      induction X with
      | nil => intro sh s _ h hl; cases h; exact hl
      | cons x X ih =>
       intro sh s hX h hl
       rw [gF] at h
       have hx := hX x (List.mem_cons_self ..)
       have hX' := fun y hy => hX y (List.mem_cons_of_mem _ hy)
       split at h
       ·rename_i hp
        split at h
        ·cases h
        ·rename_i h0
         split at h
         ·exact ih _ _ hX' h hl
         ·split at h
          ·cases h
          ·exact ih _ _ hX' h (ar_len hV hx hp (by simpa using h0))
       ·exact ih _ _ hX' h hl
     exact hc (key _ _ _ (fun x hx => List.all_eq_true.1 ho x (List.mem_of_mem_drop (List.mem_of_mem_take hx))) hg (by simp))
   simp only [decide_eq_true hs, cond_true]
   rw [cd_t (by simp; omega), List.nil_append]
 ·intro n sh hl
  refine ⟨[], fun k R => ?_⟩
  simp only [spec_l15Shape.l0, spec_l15Shape.l0s, ixe, cond_false, Nat.sub_self, List.take_zero, gF, decide_eq_true hl, cond_true]
 ·intro n i hi ih sh hl
  have hiL : i < L.length := by omega
  have hx := insAt ho hiL
  have hxn := hn.at hiL
  have ew : IntKind.i64.wrap ((i : Int) + 1) = ((i + 1 : Nat) : Int) := ixw (by omega)
  rw [take_cons hi hq]
  simp only [spec_l15Shape.l0, spec_l15Shape.l0s, List.length_map, ixl hi, ixl hiL, ix0, Bool.and_self, cond_true, Int.toNat_natCast, getX hiL, mkX_0, mkX_1, mkX_2, mkX_3, mkX_4, mkX_5, ew, gF]
  generalize L.getD i dX = x at hx hxn ⊢
  obtain ⟨Y0, hY0⟩ := ih sh hl
  by_cases hp : putsX x = true
  ·have hA := arrS V hV x hx hxn hp
   simp only [hA, hp, if_true]
   have hc : (x.1 != 1) = true → (x.1 != 2) = false := by
    intro h
    have : x.1 = 2 := by simpa [putsX, (by simpa using h : x.1 ≠ 1)] using hp
    rw [this]; rfl
   have step : ∀ (T : Option Res), (bif x.1 != 1 then (bif x.1 != 2 then T else none) else none) = (bif x.1 != 1 then none else none : Option Res) := by
    intro T
    cases h : x.1 != 1 with
    | false => rfl
    | true => rw [hc h]; rfl
   have bth : ∀ (A T : Option Res), (bif x.1 != 1 then (bif x.1 != 2 then T else A) else A) = A := by
    intro A T
    cases h : x.1 != 1 with
    | false => rfl
    | true => rw [hc h]; rfl
   simp only [bth, z0, p3i]
   cases hs : setX V x with
   | false => exact ⟨sh, fun k R => by simp⟩
   | true =>
    have hal := ar_len hV hx hp hs
    have hok := arrX_ok hV hx hp hs
    simp only [Bool.not_true, cond_false, if_false, Bool.true_eq_false]
    by_cases q1 : (arrX V x).1 = []
    ·have q2 : (arrX V x).2 ≠ [] := by
      intro e
      rw [q1, e] at hok
      revert hok; decide
     refine ⟨Y0, fun k R => ?_⟩
     simp only [q1, q2, decide_true, decide_false, Bool.not_true, cond_false, if_true]
     exact hY0 k R
    ·by_cases q2 : (arrX V x).2 = []
     ·exact ⟨sh, fun k R => by simp only [q1, q2, decide_true, cond_true, if_false, true_or, if_true]⟩
     ·simp only [q1, q2, decide_false, cond_false, Bool.not_false, cond_true, if_false, false_or]
      obtain ⟨Y1, hY1⟩ := ih (arrX V x).1 hal
      by_cases q3 : sh = []
      ·refine ⟨Y1, fun k R => ?_⟩
       simp only [q3, decide_true, Bool.not_true, cond_false, ne_eq, not_true, false_and, if_false]
       exact hY1 k R
      ·simp only [q3, decide_false, Bool.not_false, cond_true, sameS _ _ (by omega : (arrX V x).1.length ≤ 2000000), ne_eq, not_false_iff, true_and]
       by_cases q4 : (arrX V x).1 = sh
       ·refine ⟨Y1, fun k R => ?_⟩
        rw [decide_eq_true q4, Bool.not_true, cond_false, if_neg (fun h => h q4.symm)]
        exact hY1 k R
       ·refine ⟨sh, fun k R => ?_⟩
        rw [decide_eq_false q4, Bool.not_false, cond_true, if_pos (fun h => q4 h.symm)]
  ·have h1 : (x.1 != 1) = true := by
    simp only [putsX, Bool.or_eq_true, beq_iff_eq, not_or] at hp
    simpa using hp.1
   have h2 : (x.1 != 2) = true := by
    simp only [putsX, Bool.or_eq_true, beq_iff_eq, not_or] at hp
    simpa using hp.2
   refine ⟨Y0, fun k R => ?_⟩
   rw [h1, cond_true, h2, cond_true, if_neg hp]
   exact hY0 k R
def atM (a : Ar) (p : Nat) : Int := if a.1 = [] then a.2.getD 0 0 else a.2.getD p 0
def stX (V : List Vr) (p : Nat) (x : Ins) (st : List Int) : Option (List Int) :=
 if x.1 = 4 then (if (oneN x.2.2.1.1 (st.getD (st.length - 1) 0)).2 = 0 then some (st.take (st.length - 1) ++ [(oneN x.2.2.1.1 (st.getD (st.length - 1) 0)).1]) else none)
 else if x.1 = 5 then (if (twoN x.2.2.1.1 (st.getD (st.length - 1) 0) (st.getD (st.length - 2) 0)).2 = 0 then some (st.take (st.length - 2) ++ [(twoN x.2.2.1.1 (st.getD (st.length - 1) 0) (st.getD (st.length - 2) 0)).1]) else none)
 else some (st ++ [atM (arrX V x) p])
def cF (V : List Vr) (p : Nat) : List Ins → List Int → Option (List Int)
 | [], st => some st
 | x :: X, st => match stX V p x st with
  | none => none
  | some st' => cF V p X st'
def GoodA (V : List Vr) (p : Nat) (x : Ins) : Prop := putsX x = true → ((arrX V x).1 = [] → 0 < (arrX V x).2.length) ∧ ((arrX V x).1 ≠ [] → p < (arrX V x).2.length)
theorem atI (s d : List Int) (p : Nat) (h1 : s = [] → 0 < d.length) (h2 : s ≠ [] → p < d.length) (R : Int → Option Res) : impl_at.g s d (p : Int) R = R (atM (s, d) p) := by
 simp only [impl_at.e, impl_at.b, z0, atM]
 by_cases h : s = []
 ·have e : decide (0 < (d.length : Int)) = true := by have := h1 h; simp; omega
  simp only [h, decide_true, cond_true, e, if_true]
 ·simp only [h, decide_false, cond_false, ix0, ixl (h2 h), Bool.and_self, cond_true, if_false, Int.toNat_natCast]
theorem atS (s d : List Int) (p : Nat) (h1 : s = [] → 0 < d.length) (h2 : s ≠ [] → p < d.length) (R : Int → Option Res) : spec_l4Of.g s d (p : Int) R = R (atM (s, d) p) := by
 simp only [spec_l4Of.e, spec_l4Of.b, z0, atM]
 by_cases h : s = []
 ·have e : decide (0 < (d.length : Int)) = true := by have := h1 h; simp; omega
  simp only [h, decide_true, cond_true, e, if_true]
 ·simp only [h, decide_false, cond_false, ix0, ixl (h2 h), Bool.and_self, cond_true, if_false, Int.toNat_natCast]
def goC (R : Int → Bool → Option Res) : Option (List Int) → Option Res
 | none => R 0 false
 | some st => R (st.getD 0 0) true
theorem plain_cases {x : Ins} (hp : plainX x = true) (ho : insOk x = true) : (putsX x = true ∧ takesX x = 0 ∧ x.1 ≠ 4 ∧ x.1 ≠ 5) ∨ (x.1 = 4 ∧ takesX x = 1) ∨ (x.1 = 5 ∧ takesX x = 2) := by
 obtain ⟨h, _⟩ := plain_ok hp ho
 rcases h with ⟨a, b⟩ | ⟨a, b⟩ | ⟨a, b⟩ | ⟨a, b⟩
 ·exact .inl ⟨by simp [putsX, a], b, by omega, by omega⟩
 ·exact .inl ⟨by simp [putsX, a], b, by omega, by omega⟩
 ·exact .inr (.inl ⟨a, b⟩)
 ·exact .inr (.inr ⟨a, b⟩)
theorem w_sub {n k : Nat} (h : k ≤ n) (hn : n ≤ 2000000) : IntKind.i64.wrap ((n : Int) - (k : Int)) = ((n - k : Nat) : Int) := by rw [w64 (by omega)]; omega
theorem placeI (V : List Vr) (hV : varsB V = true) (p : Nat) (X : List Ins) (hX : X.length ≤ 1000000) (ho : X.all insOk = true) (hpl : X.all plainX = true) (hn : NumsX 2000000 X) (hg : ∀ x ∈ X, GoodA V p x) (hd : runD X 0 = some 1) (R : Int → Bool → Option Res) :
 impl_atPlace.g (X.map mkX) (V.map mkV) (p : Int) R = goC R (cF V p X []) := by
 have hl26 : V.length = 26 := by unfold varsB at hV; simp only [Bool.and_eq_true, decide_eq_true_eq] at hV; exact hV.1
 simp only [impl_atPlace.e, impl_atPlace.b, List.length_map]
 have key := up0 (N := X.length) (P := fun n i => ∀ st : List Int, runD (X.drop i) st.length = some 1 → st.length ≤ i → impl_atPlace.l0 (V.map mkV) (p : Int) (X.map mkX) (X.length : Int) (fun y22 => bif decide (0 < (y22.length : Int)) then R (y22.getD 0 0) true else none) R n (i : Int) st = goC R (cF V p (X.drop i) st)) (by omega) ?_ ?_ 0 (by omega) [] hd (by simp)
 ·exact key
 ·intro n st h _
  rw [List.drop_length, runD] at h
  have h1 : st.length = 1 := Option.some.inj h
  simp only [impl_atPlace.l0, impl_atPlace.l0s, ixe, cond_false, List.drop_length, cF, goC]
  rw [cd_t (by simp; omega)]
 ·intro n i hi ih st h hle
  have hx := insAt ho hi
  have hxn := hn.at hi
  have hmem : X.getD i dX ∈ X := by rw [List.getD_eq_getElem?_getD, List.getElem?_eq_getElem hi]; exact List.getElem_mem hi
  have hp := List.all_eq_true.1 hpl _ hmem
  have hgx := hg _ hmem
  have ew : IntKind.i64.wrap ((i : Int) + 1) = ((i + 1 : Nat) : Int) := ixw (by omega)
  rw [drop_cons dX hi] at h ⊢
  rw [runD] at h
  simp only [impl_atPlace.l0, impl_atPlace.l0s, List.length_map, ixl hi, ix0, Bool.and_self, cond_true, Int.toNat_natCast, getX hi, mkX_0, mkX_1, mkX_2, mkX_3, mkX_4, mkX_5, numsI _ hxn, takesI, oneI, twoI, ew, cF]
  generalize X.getD i dX = x at hx hxn hp hgx h ⊢
  rcases plain_cases hp hx with ⟨a1, a2, a4, a5⟩ | ⟨a1, a2⟩ | ⟨a1, a2⟩
  ·rw [a2, if_pos (Nat.zero_le _)] at h
   have e4 : (x.1 == 4) = false := by simpa using a4
   obtain ⟨g1, g2⟩ := hgx a1
   have hst : stX V p x st = some (st ++ [atM (arrX V x) p]) := by rw [stX, if_neg a4, if_neg a5]
   have e0 : IntKind.i64.wrap ((st.length : Int) - ((0 : Nat) : Int)) = ((st.length : Nat) : Int) := by rw [w_sub (Nat.zero_le _) (by omega)]; rfl
   have tl_ : (bif decide (0 ≤ (st.length : Int)) && decide ((st.length : Int) ≤ (st.length : Int)) then (bif decide (((st.length : Int).toNat + 1) * 8 ≤ 140737488355328) then impl_atPlace.l0 (V.map mkV) (p : Int) (X.map mkX) (X.length : Int) (fun y22 => bif decide (0 < (y22.length : Int)) then R (y22.getD 0 0) true else none) R n ((i + 1 : Nat) : Int) ((st.take ((st.length : Int).toNat)) ++ ([atM (arrX V x) p] : List Int)) else none) else none) = goC R (cF V p (X.drop (i + 1)) (st ++ [atM (arrX V x) p])) := by
    rw [Int.toNat_natCast, cd_t (by simp), cd_t (by simp; omega), List.take_length]
    exact ih _ (by rw [List.length_append, List.length_singleton]; exact h) (by rw [List.length_append, List.length_singleton]; omega)
   by_cases h1 : x.1 = 1
   ·have e1 : (x.1 == 1) = true := by simpa using h1
    have ha : arrX V x = numsA x.2.2.2 := by rw [arrX, if_pos h1]
    rw [ha] at g1 g2 tl_
    rw [hst]
    simp only [e1, cond_true, atI _ _ _ g1 g2, a2, e0, ha]
    exact tl_
   ·have e1 : (x.1 == 1) = false := by simpa using h1
    have h2 : x.1 = 2 := by simpa [putsX, h1] using a1
    have e2 : (x.1 == 2) = true := by simpa using h2
    obtain ⟨k, hk, hk2⟩ := ins_letter hx h2
    have hkV : k < V.length := by omega
    have ha : arrX V x = (V.getD k dV).2 := by rw [arrX, if_neg h1, hk, Int.toNat_natCast]
    rw [ha] at g1 g2 tl_
    rw [hst]
    simp only [e1, e2, cond_true, cond_false, hk, Int.toNat_natCast, ix0, ixl hkV, Bool.and_self, getV hkV, mkV_1, mkV_2, atI _ _ _ g1 g2, a2, e0, ha]
    exact tl_
  ·rw [a2] at h
   have hc : 1 ≤ st.length := by
    by_cases hc : 1 ≤ st.length
    ·exact hc
    ·rw [if_neg hc] at h; cases h
   rw [if_pos hc] at h
   have w1 : IntKind.i64.wrap ((st.length : Int) - 1) = ((st.length - 1 : Nat) : Int) := w_sub (k := 1) hc (by omega)
   have w1' : IntKind.i64.wrap ((st.length : Int) - ((1 : Nat) : Int)) = ((st.length - 1 : Nat) : Int) := w_sub (k := 1) hc (by omega)
   have b1 : decide (((st.length - 1 : Nat) : Int) < (st.length : Int)) = true := by simp; omega
   have b2 : decide (((st.length - 1 : Nat) : Int) ≤ (st.length : Int)) = true := by simp
   have b3 : decide ((st.length - 1 + 1) * 8 ≤ 140737488355328) = true := by simp; omega
   have e1 : (x.1 == 1) = false := by rw [a1]; rfl
   have e2 : (x.1 == 2) = false := by rw [a1]; rfl
   have e4 : (x.1 == 4) = true := by rw [a1]; rfl
   simp only [e1, e2, e4, cond_true, cond_false, w1, w1', ix0, b1, b2, b3, Bool.and_self, Int.toNat_natCast, a2, stX, if_pos a1]
   by_cases hq : (oneN x.2.2.1.1 (st.getD (st.length - 1) 0)).2 = 0
   ·rw [if_pos hq, cd_f (by simpa using hq)]
    exact ih _ (by rw [List.length_append, List.length_singleton, List.length_take, Nat.min_eq_left (Nat.sub_le _ _)]; exact h) (by rw [List.length_append, List.length_singleton, List.length_take]; omega)
   ·rw [if_neg hq, cd_t (by simpa using hq)]; rfl
  ·rw [a2] at h
   have hc : 2 ≤ st.length := by
    by_cases hc : 2 ≤ st.length
    ·exact hc
    ·rw [if_neg hc] at h; cases h
   rw [if_pos hc] at h
   have w1 : IntKind.i64.wrap ((st.length : Int) - 1) = ((st.length - 1 : Nat) : Int) := w_sub (k := 1) (by omega) (by omega)
   have w2 : IntKind.i64.wrap ((st.length : Int) - 2) = ((st.length - 2 : Nat) : Int) := w_sub (k := 2) hc (by omega)
   have w2' : IntKind.i64.wrap ((st.length : Int) - ((2 : Nat) : Int)) = ((st.length - 2 : Nat) : Int) := w_sub (k := 2) hc (by omega)
   have b1 : decide (((st.length - 1 : Nat) : Int) < (st.length : Int)) = true := by simp; omega
   have b1' : decide (((st.length - 2 : Nat) : Int) < (st.length : Int)) = true := by simp; omega
   have b2 : decide (((st.length - 2 : Nat) : Int) ≤ (st.length : Int)) = true := by simp
   have b3 : decide ((st.length - 2 + 1) * 8 ≤ 140737488355328) = true := by simp; omega
   have e1 : (x.1 == 1) = false := by rw [a1]; rfl
   have e2 : (x.1 == 2) = false := by rw [a1]; rfl
   have e4 : (x.1 == 4) = false := by rw [a1]; rfl
   simp only [e1, e2, e4, cond_true, cond_false, w1, w2, w2', ix0, b1, b1', b2, b3, Bool.and_self, Int.toNat_natCast, a2, stX, if_neg (show ¬ x.1 = 4 by omega), if_pos a1]
   by_cases hq : (twoN x.2.2.1.1 (st.getD (st.length - 1) 0) (st.getD (st.length - 2) 0)).2 = 0
   ·rw [if_pos hq, cd_f (by simpa using hq)]
    exact ih _ (by rw [List.length_append, List.length_singleton, List.length_take, Nat.min_eq_left (Nat.sub_le _ _)]; exact h) (by rw [List.length_append, List.length_singleton, List.length_take]; omega)
   ·rw [if_neg hq, cd_t (by simpa using hq)]; rfl
theorem set_last (l : List Int) (h : 1 ≤ l.length) (r : Int) : l.set (l.length - 1) r = l.take (l.length - 1) ++ [r] := by
 refine List.ext_getElem (by simp; omega) fun j h1 h2 => ?_
 simp only [List.length_set] at h1
 rw [List.getElem_set]
 by_cases hj : l.length - 1 = j
 ·rw [if_pos hj, List.getElem_append_right (by simp; omega)]; simp
 ·rw [if_neg hj, List.getElem_append_left (by simp; omega), List.getElem_take]
theorem cellS (V : List Vr) (hV : varsB V = true) (p : Nat) (L : List Ins) (hL : L.length ≤ 1000000) (ho : L.all insOk = true) (hn : NumsX 2000000 L) (f q : Nat) (hfq : f ≤ q) (hq : q ≤ L.length) (hpl : ((L.drop f).take (q - f)).all plainX = true)
 (hg : ∀ x ∈ (L.drop f).take (q - f), GoodA V p x) (hset : ∀ x ∈ (L.drop f).take (q - f), putsX x = true → setX V x = true) (hd : runD ((L.drop f).take (q - f)) 0 = some 1) (R : Int → Bool → Option Res) :
 spec_l15Cell.g (L.map mkX) (f : Int) (q : Int) (V.map mkV) (p : Int) R = goC R (cF V p ((L.drop f).take (q - f)) []) := by
 simp only [spec_l15Cell.e, spec_l15Cell.b]
 have key := up0 (N := q) (P := fun n i => ∀ st : List Int, runD ((L.drop i).take (q - i)) st.length = some 1 → st.length ≤ i → ((L.drop i).take (q - i)).all plainX = true → (∀ x ∈ (L.drop i).take (q - i), GoodA V p x) → (∀ x ∈ (L.drop i).take (q - i), putsX x = true → setX V x = true) →
  spec_l15Cell.l0 (L.map mkX) (V.map mkV) (p : Int) (f : Int) (q : Int) (fun y21 => bif decide (0 < (y21.length : Int)) then R (y21.getD 0 0) true else none) R n (i : Int) st = goC R (cF V p ((L.drop i).take (q - i)) st)) (by omega) ?_ ?_ f hfq [] hd (by simp) hpl hg hset
 ·exact key
 ·intro n st h _ _ _ _
  rw [Nat.sub_self, List.take_zero, runD] at h
  have h1 : st.length = 1 := Option.some.inj h
  simp only [spec_l15Cell.l0, spec_l15Cell.l0s, ixe, cond_false, Nat.sub_self, List.take_zero, cF, goC]
  rw [cd_t (by simp; omega)]
 ·intro n i hi ih st h hle hpl hg hset
  have hiL : i < L.length := by omega
  have hx := insAt ho hiL
  have hxn := hn.at hiL
  have ew : IntKind.i64.wrap ((i : Int) + 1) = ((i + 1 : Nat) : Int) := ixw (by omega)
  rw [take_cons hi hq] at h hpl hg hset ⊢
  rw [List.all_cons, Bool.and_eq_true] at hpl
  have hgx := hg _ (List.mem_cons_self ..)
  have hsx := hset _ (List.mem_cons_self ..)
  have hg' := fun y hy => hg y (List.mem_cons_of_mem _ hy)
  have hset' := fun y hy => hset y (List.mem_cons_of_mem _ hy)
  have hp := hpl.1
  rw [runD] at h
  simp only [spec_l15Cell.l0, spec_l15Cell.l0s, List.length_map, ixl hi, ixl hiL, ix0, Bool.and_self, cond_true, Int.toNat_natCast, getX hiL, mkX_0, mkX_1, mkX_2, mkX_3, mkX_4, mkX_5, oneS, twoS, ew, cF]
  generalize L.getD i dX = x at hx hxn hp hgx hsx h ⊢
  rcases plain_cases hp hx with ⟨a1, a2, a4, a5⟩ | ⟨a1, a2⟩ | ⟨a1, a2⟩
  ·rw [a2, if_pos (Nat.zero_le _)] at h
   have e4 : (x.1 == 4) = false := by simpa using a4
   have e5 : (x.1 == 5) = false := by simpa using a5
   obtain ⟨g1, g2⟩ := hgx a1
   have hst : stX V p x st = some (st ++ [atM (arrX V x) p]) := by rw [stX, if_neg a4, if_neg a5]
   rw [hst]
   simp only [e4, e5, cond_false, arrS V hV x hx hxn a1, atS _ _ _ g1 g2]
   rw [cd_t (by simp; omega)]
   exact ih _ (by rw [List.length_append, List.length_singleton]; exact h) (by rw [List.length_append, List.length_singleton]; omega) hpl.2 hg' hset'
  ·rw [a2] at h
   have hc : 1 ≤ st.length := by
    by_cases hc : 1 ≤ st.length
    ·exact hc
    ·rw [if_neg hc] at h; cases h
   rw [if_pos hc] at h
   have w1 : IntKind.i64.wrap ((st.length : Int) - 1) = ((st.length - 1 : Nat) : Int) := w_sub (k := 1) hc (by omega)
   have b1 : decide (((st.length - 1 : Nat) : Int) < (st.length : Int)) = true := by simp; omega
   have e4 : (x.1 == 4) = true := by rw [a1]; rfl
   simp only [e4, cond_true, w1, ix0, b1, Bool.and_self, Int.toNat_natCast, stX, if_pos a1]
   by_cases hq : (oneN x.2.2.1.1 (st.getD (st.length - 1) 0)).2 = 0
   ·rw [if_pos hq, cd_f (by simpa using hq), set_last st hc]
    exact ih _ (by rw [List.length_append, List.length_singleton, List.length_take, Nat.min_eq_left (Nat.sub_le _ _)]; exact h) (by rw [List.length_append, List.length_singleton, List.length_take]; omega) hpl.2 hg' hset'
   ·rw [if_neg hq, cd_t (by simpa using hq)]; rfl
  ·rw [a2] at h
   have hc : 2 ≤ st.length := by
    by_cases hc : 2 ≤ st.length
    ·exact hc
    ·rw [if_neg hc] at h; cases h
   rw [if_pos hc] at h
   have w1 : IntKind.i64.wrap ((st.length : Int) - 1) = ((st.length - 1 : Nat) : Int) := w_sub (k := 1) (by omega) (by omega)
   have w2 : IntKind.i64.wrap ((st.length : Int) - 2) = ((st.length - 2 : Nat) : Int) := w_sub (k := 2) hc (by omega)
   have b1 : decide (((st.length - 1 : Nat) : Int) < (st.length : Int)) = true := by simp; omega
   have b1' : decide (((st.length - 2 : Nat) : Int) < (st.length : Int)) = true := by simp; omega
   have b2 : decide (((st.length - 2 : Nat) : Int) ≤ (st.length : Int)) = true := by simp
   have b3 : decide ((st.length - 2 + 1) * 8 ≤ 140737488355328) = true := by simp; omega
   have e4 : (x.1 == 4) = false := by rw [a1]; rfl
   have e5 : (x.1 == 5) = true := by rw [a1]; rfl
   simp only [e4, e5, cond_true, cond_false, w1, w2, ix0, b1, b1', b2, b3, Bool.and_self, Int.toNat_natCast, stX, if_neg (show ¬ x.1 = 4 by omega), if_pos a1]
   by_cases hq : (twoN x.2.2.1.1 (st.getD (st.length - 1) 0) (st.getD (st.length - 2) 0)).2 = 0
   ·rw [if_pos hq, cd_f (by simpa using hq)]
    exact ih _ (by rw [List.length_append, List.length_singleton, List.length_take, Nat.min_eq_left (Nat.sub_le _ _)]; exact h) (by rw [List.length_append, List.length_singleton, List.length_take]; omega) hpl.2 hg' hset'
   ·rw [if_neg hq, cd_t (by simpa using hq)]; rfl
def datF (f : Nat → Option Int) : Nat → Nat → Option (List Int)
 | 0, _ => some []
 | m + 1, i => match f i with
  | none => none
  | some v => (datF f m (i + 1)).map (v :: ·)
def fuseX (V : List Vr) (X : List Ins) : Option Ar := match gF V X [] with
 | none => none
 | some sh => (datF (fun i => (cF V i X []).map fun st => st.getD 0 0) (sizeOf sh).toNat 0).map fun d => (sh, d)
def goF (R : List Int → List Int → Bool → Option Res) : Option Ar → Option Res
 | none => R [] [] false
 | some a => R a.1 a.2 true
theorem endR_run : ∀ (L : List Ins) (i : Nat) (e : Option Nat) (m : Nat) (w : Bool) (q : Nat), endR L i e m w = some q → e ≠ some q → (L.take (q - i)).all plainX = true ∧ runD (L.take (q - i)) m = some 1
 | [], i, e, m, w, q, h, he => by rw [endR] at h; exact absurd h he
 | x :: L, i, e, m, w, q, h, he => by
  obtain ⟨s1, s2, s3, s4, s5⟩ := endR_step h he
  by_cases hq : i + 1 = q
  ·rw [show q - i = 1 by omega, List.take_succ_cons, List.take_zero, List.all_cons, List.all_nil, s1, runD, if_pos s2, runD, (s4 hq).1]
   exact ⟨rfl, rfl⟩
  ·obtain ⟨e', he', h'⟩ := s5 (by omega)
   obtain ⟨g1, g2⟩ := endR_run L (i + 1) e' _ _ q h' he'
   rw [show q - i = (q - (i + 1)) + 1 by omega, List.take_succ_cons, List.all_cons, s1, g1, runD, if_pos s2, g2]
   exact ⟨rfl, rfl⟩
theorem span_run {L : List Ins} {p q : Nat} (h : endX L p = some q) : ((L.drop p).take (q - p)).all plainX = true ∧ runD ((L.drop p).take (q - p)) 0 = some 1 := endR_run _ _ _ _ _ _ h (by simp)
theorem span_mem {L : List Ins} {s : Spn} (h : s ∈ spansX L) : codeB L = true ∧ endX L s.1 = some s.2 ∧ s.1 < L.length ∧ s.2 ≤ L.length ∧ s.1 < s.2 := by
 unfold spansX at h
 split at h
 ·rename_i hc
  obtain ⟨j, hj, rfl⟩ := List.mem_iff_getElem.1 h
  obtain ⟨a, b, _, _⟩ := spansR_ok L (L.length + 1) 0 j _ (List.getElem?_eq_getElem hj)
  have := endX_lt a (by omega)
  exact ⟨hc, a, b, this.2, this.1⟩
 ·cases h
theorem good_all {V : List Vr} (hV : varsB V = true) {X : List Ins} (ho : X.all insOk = true) {sh : List Int} (hg : gF V X [] = some sh) {p : Nat} (hp : (p : Int) < sizeOf sh) : ∀ x ∈ X, GoodA V p x := by
 intro x hx hpx
 obtain ⟨h1, h2⟩ := gF_all hg x hx hpx
 have ha := arrX_ok hV (List.all_eq_true.1 ho x hx) hpx h1
 unfold arrOk at ha
 simp only [Bool.and_eq_true, decide_eq_true_eq] at ha
 refine ⟨fun h => ?_, fun h => ?_⟩
 ·rw [h] at ha
  have : sizeOf [] = 1 := by decide
  omega
 ·rcases h2 with h2 | h2
  ·exact absurd h2 h
  ·rw [h2.1] at ha; omega
theorem goC_f (R : Int → Bool → Option Res) (o : Option (List Int)) : goC R o = match o.map fun st => st.getD 0 0 with | none => R 0 false | some v => R v true := by cases o <;> rfl
theorem datR_loop {f : Nat → Option Int} {N : Nat} {l : Nat → Int → List Int → Option Res} {F : Option Res} {k : List Int → Option Res} (hN : N ≤ 1000000)
 (hend : ∀ n acc, l (n + 1) (N : Int) acc = k acc) (hstep : ∀ n (i : Nat) acc, i < N → acc.length ≤ i → l (n + 1) (i : Int) acc = match f i with | none => F | some v => l n ((i + 1 : Nat) : Int) (acc ++ [v])) :
 l fuel 0 [] = match datF f N 0 with | none => F | some d => k d := by
 have := up0 (N := N) (P := fun n i => ∀ acc : List Int, acc.length ≤ i → l n (i : Int) acc = match datF f (N - i) i with | none => F | some d => k (acc ++ d)) (by omega) ?_ ?_ 0 (by omega) [] (by simp)
 ·simpa using this
 ·intro n acc _; rw [hend, Nat.sub_self, datF]; simp
 ·intro n i hi ih acc ha
  rw [hstep n i acc hi ha, show N - i = (N - (i + 1)) + 1 by omega, datF]
  cases f i with
  | none => rfl
  | some v =>
   simp only
   rw [ih (acc ++ [v]) (by rw [List.length_append, List.length_singleton]; omega)]
   cases datF f (N - (i + 1)) (i + 1) with
   | none => rfl
   | some d => simp
theorem size_toNat (s : List Int) : ∀ i : Nat, decide ((i : Int) < sizeOf s) = decide (i < (sizeOf s).toNat) := fun i => by rw [Bool.eq_iff_iff, decide_eq_true_eq, decide_eq_true_eq]; omega
theorem contI (S : List Spn) (hS : S.length ≤ 2000000) (a b : Int) (R : Bool → Option Res) : slices_Contains_impl_Span_impl_Span.g (S.map mkS) a b R = R (S.any fun s => decide ((s.1 : Int) = a) && decide ((s.2 : Int) = b)) := by
 have hi : ∀ R, slices_Index_impl_Span_impl_Span.g (S.map mkS) a b R = R (idx (fun s : Spn => decide ((s.1 : Int) = a) && decide ((s.2 : Int) = b)) S 0) := fun R => by
  simp only [slices_Index_impl_Span_impl_Span.e, slices_Index_impl_Span_impl_Span.b, List.length_map]
  have := up0 (N := S.length) (P := fun n i => slices_Index_impl_Span_impl_Span.l0 (S.map mkS) (S.length : Int) a b (R (-1)) R n (i : Int) = R (idx (fun s : Spn => decide ((s.1 : Int) = a) && decide ((s.2 : Int) = b)) (S.drop i) i)) (by omega) ?_ ?_ 0 (by omega)
  ·simpa using this
  ·intro n; simp only [slices_Index_impl_Span_impl_Span.l0, slices_Index_impl_Span_impl_Span.l0s, ixe, cond_false, List.drop_length, idx]
  ·intro n i hi ih
   simp only [slices_Index_impl_Span_impl_Span.l0, slices_Index_impl_Span_impl_Span.l0s, List.length_map, ixl hi, ix0, Bool.and_self, cond_true, Int.toNat_natCast, mkS_getD hi, mkS_0, mkS_1, Bool.and_true, ixw (by omega : i < 9223372036854775807)]
   rw [drop_cons (0, 0) hi, idx]
   have e : ((a == ((S.getD i (0, 0)).1 : Int)) && (b == ((S.getD i (0, 0)).2 : Int))) = (decide (((S.getD i (0, 0)).1 : Int) = a) && decide (((S.getD i (0, 0)).2 : Int) = b)) := by
    rw [Bool.eq_iff_iff]; simp only [Bool.and_eq_true, beq_iff_eq, decide_eq_true_eq]; constructor <;> exact fun h => ⟨h.1.symm, h.2.symm⟩
   rw [e]
   cases decide (((S.getD i (0, 0)).1 : Int) = a) && decide (((S.getD i (0, 0)).2 : Int) = b) with
   | true => rfl
   | false => exact ih
 simp only [slices_Contains_impl_Span_impl_Span.e, slices_Contains_impl_Span_impl_Span.b, hi, idx_any _ _ _ (Int.le_refl 0)]
/-- a span is done at once: where it is one, and what it comes to -/
def fuseM (L : List Ins) (V : List Vr) (a b : Int) : Option Ar :=
 if varsB V = true ∧ ((spansX L).any fun s => decide ((s.1 : Int) = a) && decide ((s.2 : Int) = b)) = true then fuseX V ((L.drop a.toNat).take (b.toNat - a.toNat)) else none
theorem spansX_len (L : List Ins) (hL : L.length ≤ 1000000) : (spansX L).length ≤ 1000001 := by
 unfold spansX
 split
 ·have := spansR_len L (L.length + 1) 0; omega
 ·exact Nat.zero_le _
theorem code_all {L : List Ins} (h : codeB L = true) : L.all insOk = true := by
 unfold codeB at h
 simp only [Bool.and_eq_true] at h
 exact h.1.2
theorem fuseI (L : List Ins) (hL : L.length ≤ 1000000) (hn : NumsX 2000000 L) (V : List Vr) (hVl : V.length ≤ 2000000) (hVn : NumsV 2000000 V) (a b : Int) (R : List Int → List Int → Bool → Option Res) :
 impl_FuseTry.g (L.map mkX) a b (V.map mkV) R = goF R (fuseM L V a b) := by
 have hsl := spansX_len L hL
 simp only [impl_FuseTry.e, impl_FuseTry.b, varsI V hVl hVn, spansI L (by omega) hn, contI _ (by omega : (spansX L).length ≤ 2000000), fuseM]
 cases hV : varsB V with
 | false => rw [if_neg (by simp)]; rfl
 | true =>
  rw [Bool.not_true, cond_false]
  cases hc : (spansX L).any fun s => decide ((s.1 : Int) = a) && decide ((s.2 : Int) = b) with
  | false => rw [if_neg (by simp)]; rfl
  | true =>
   rw [if_pos ⟨rfl, rfl⟩]
   obtain ⟨s, hs, he⟩ := List.any_eq_true.1 hc
   simp only [Bool.and_eq_true, decide_eq_true_eq] at he
   obtain ⟨rfl, rfl⟩ := he
   obtain ⟨p, q⟩ := s
   obtain ⟨c1, c2, c3, c4, c5⟩ := span_mem hs
   simp only at c2 c3 c4 c5 ⊢
   obtain ⟨r1, r2⟩ := span_run c2
   have ho := code_all c1
   simp only [Bool.not_true, cond_false, Int.toNat_natCast, List.length_map]
   rw [cd_t (by simp; omega)]
   rw [← List.map_drop, ← List.map_take]
   have hX : ((L.drop p).take (q - p)).length ≤ 1000000 := by rw [List.length_take, List.length_drop]; omega
   have hXo : ((L.drop p).take (q - p)).all insOk = true := List.all_eq_true.2 fun x hx => List.all_eq_true.1 ho x (List.mem_of_mem_drop (List.mem_of_mem_take hx))
   have hXn : NumsX 2000000 ((L.drop p).take (q - p)) := fun x hx => hn x (List.mem_of_mem_drop (List.mem_of_mem_take hx))
   generalize (L.drop p).take (q - p) = X at *
   rw [guardedI V hV X (by omega) hXo hXn, fuseX]
   cases hg : gF V X [] with
   | none => rfl
   | some sh =>
    simp only [goG, Bool.not_true, cond_false]
    have hsz := sizeOf_le sh
    have := datR_loop (f := fun i => (cF V i X []).map fun st => st.getD 0 0) (N := (sizeOf sh).toNat) (l := impl_FuseTry.l0 (V.map mkV) (X.map mkX) sh (fun y18 => R sh y18 true) R) (F := R [] [] false) (k := fun y => R sh y true) (by omega) ?_ ?_
    ·rw [this]
     cases datF (fun i => (cF V i X []).map fun st => st.getD 0 0) (sizeOf sh).toNat 0 <;> rfl
    ·intro n acc
     simp only [impl_FuseTry.l0, impl_FuseTry.l0s, sizeOfI, size_toNat, Nat.lt_irrefl, decide_false, cond_false]
    ·intro n i acc hi ha
     have hgd := good_all hV hXo hg (p := i) (by omega)
     simp only [impl_FuseTry.l0, impl_FuseTry.l0s, sizeOfI, size_toNat, hi, decide_true, cond_true, placeI V hV i X hX hXo r1 hXn hgd r2, goC_f, ixw (by omega : i < 9223372036854775807)]
     cases (cF V i X []).map fun st => st.getD 0 0 with
     | none => rfl
     | some v => simp only [Bool.not_true, cond_false]; exact cd_t (by simp; omega) _ _
theorem fuseS (L : List Ins) (hL : L.length ≤ 1000000) (hn : NumsX 2000000 L) (V : List Vr) (hVl : V.length ≤ 2000000) (hVn : NumsV 2000000 V) (a b : Int) (R : List Int → List Int → Bool → Option Res) :
 spec_FuseTry.g (L.map mkX) a b (V.map mkV) R = goF R (fuseM L V a b) := by
 have hsl := spansX_len L hL
 simp only [spec_FuseTry.e, spec_FuseTry.b, varsS V hVl hVn, spansS L (by omega) hn, codeOkS L (by omega) hn, fuseM]
 cases hcb : codeB L with
 | false =>
  have : spansX L = [] := by unfold spansX; rw [if_neg (by simp [hcb])]
  rw [this, if_neg (by simp)]; rfl
 | true =>
  cases hV : varsB V with
  | false => rw [if_neg (by simp)]; rfl
  | true =>
   simp only [Bool.not_true, cond_false]
   have ho := code_all hcb
   have mem : ∀ s ∈ spansX L, endX L s.1 = some s.2 ∧ s.1 < L.length ∧ s.2 ≤ L.length ∧ s.1 < s.2 := fun s hs => (span_mem hs).2
   generalize spansX L = S at hsl mem
   have try_ : ∀ p q : Nat, endX L p = some q → p < L.length → q ≤ L.length → p < q → spec_l15Try.g (L.map mkX) (p : Int) (q : Int) (V.map mkV) R = goF R (fuseX V ((L.drop p).take (q - p))) := by
    intro p q c2 c3 c4 c5
    obtain ⟨r1, r2⟩ := span_run c2
    obtain ⟨Y, hY⟩ := shapeS V hV L (by omega) ho hn p q (by omega) c4
    have hXo : ((L.drop p).take (q - p)).all insOk = true := List.all_eq_true.2 fun x hx => List.all_eq_true.1 ho x (List.mem_of_mem_drop (List.mem_of_mem_take hx))
    simp only [spec_l15Try.e, spec_l15Try.b, hY, fuseX]
    cases hg : gF V ((L.drop p).take (q - p)) [] with
    | none => rfl
    | some sh =>
     simp only [Bool.not_true, cond_false]
     have hsz := sizeOf_le sh
     have := datR_loop (f := fun i => (cF V i ((L.drop p).take (q - p)) []).map fun st => st.getD 0 0) (N := (sizeOf sh).toNat) (l := spec_l15Try.l0 (L.map mkX) (V.map mkV) sh (p : Int) (q : Int) sh (fun y18 => R sh y18 true) R) (F := R [] [] false) (k := fun y => R sh y true) (by omega) ?_ ?_
     ·rw [this]
      cases datF (fun i => (cF V i ((L.drop p).take (q - p)) []).map fun st => st.getD 0 0) (sizeOf sh).toNat 0 <;> rfl
     ·intro n acc
      simp only [spec_l15Try.l0, spec_l15Try.l0s, sizeOfS, size_toNat, Nat.lt_irrefl, decide_false, cond_false]
     ·intro n i acc hi ha
      have hgd := good_all hV hXo hg (p := i) (by omega)
      have hst : ∀ x ∈ (L.drop p).take (q - p), putsX x = true → setX V x = true := fun x hx hp => (gF_all hg x hx hp).1
      simp only [spec_l15Try.l0, spec_l15Try.l0s, sizeOfS, size_toNat, hi, decide_true, cond_true, cellS V hV i L hL ho hn p q (by omega) c4 r1 hgd hst r2, goC_f, ixw (by omega : i < 9223372036854775807)]
      cases (cF V i ((L.drop p).take (q - p)) []).map fun st => st.getD 0 0 with
      | none => rfl
      | some v => simp only [Bool.not_true, cond_false]; exact cd_t (by simp; omega) _ _
   have := up0 (N := S.length) (P := fun n j => spec_FuseTry.l0 (L.map mkX) (V.map mkV) (S.map mkS) a b (R [] [] false) R n (j : Int) = goF R (if ((S.drop j).any fun s => decide ((s.1 : Int) = a) && decide ((s.2 : Int) = b)) = true then fuseX V ((L.drop a.toNat).take (b.toNat - a.toNat)) else none)) (by omega) ?_ ?_ 0 (by omega)
   ·rw [List.drop_zero] at this
    refine this.trans ?_
    simp only [true_and]
   ·intro n
    simp only [spec_FuseTry.l0, spec_FuseTry.l0s, List.length_map, ixe, cond_false, List.drop_length, List.any_nil]; rfl
   ·intro n j hj ih
    have hmem : S.getD j (0, 0) ∈ S := by rw [List.getD_eq_getElem?_getD, List.getElem?_eq_getElem hj]; exact List.getElem_mem hj
    obtain ⟨m1, m2, m3, m4⟩ := mem _ hmem
    simp only [spec_FuseTry.l0, spec_FuseTry.l0s, List.length_map, ixl hj, ix0, Bool.and_self, cond_true, Int.toNat_natCast, mkS_getD hj, mkS_0, mkS_1, Bool.and_true, ixw (by omega : j < 9223372036854775807), ih]
    rw [drop_cons (0, 0) hj, List.any_cons]
    generalize S.getD j (0, 0) = s at m1 m2 m3 m4 ⊢
    obtain ⟨p, q⟩ := s
    simp only at m1 m2 m3 m4 ⊢
    have e : (((p : Int) == a) && ((q : Int) == b)) = (decide ((p : Int) = a) && decide ((q : Int) = b)) := rfl
    rw [e]
    cases hpq : decide ((p : Int) = a) && decide ((q : Int) = b) with
    | false => rw [cond_false, Bool.false_or]
    | true =>
     simp only [Bool.and_eq_true, decide_eq_true_eq] at hpq
     obtain ⟨rfl, rfl⟩ := hpq
     rw [cond_true, Bool.true_or, if_pos rfl, Int.toNat_natCast, Int.toNat_natCast]
     exact try_ p q m1 m2 m3 m4
theorem wf_nums {a : List (List Cl)} (ha : wfQ [.int .i64, .int .i64, .int .i64, .int .i64, .int .i64, .ints .i64] (.cells a)) : ∀ x ∈ a.map unX, x.2.2.2.length ≤ maxLen := fun x hx => by
 obtain ⟨r, hr, rfl⟩ := List.mem_map.1 hx
 obtain ⟨i, hi, rfl⟩ := List.mem_iff_getElem.1 hr
 obtain ⟨c, h1, h2⟩ := ha.2 i 5 (.ints .i64) hi rfl
 have h1 : (a.getD i [])[5]? = some c := h1
 have e : a.getD i [] = a[i] := by rw [List.getD_eq_getElem?_getD, List.getElem?_eq_getElem hi]; rfl
 rw [e] at h1
 rw [unX_nums, getD_of h1]
 cases c with
 | l xs => exact h2.1
 | _ => exact Nat.zero_le _
theorem heldArray (y : Int) (m n : Nat) (hy : 0 ≤ y ∧ y ≤ 1152921504606846976) (h : m ≤ 1152921504606846976) (h2 : n ≤ 1152921504606846976) (R : Int → Option Res) : laws_heldArray.g (cnt (fun x => x) y m) (cnt (fun x => x) (y + m) n) y R = R (y + m + n) := by
 have e1 : decide (y + (m : Int) < 0) = false := by simp; omega
 have e2 : decide (y + (m : Int) + (n : Int) < 0) = false := by simp; omega
 simp only [laws_heldArray.e, laws_heldArray.b]
 rw [heldIntS y m (by omega) (by omega)]
 simp only [e1, cond_false]
 rw [heldIntS _ n (by omega) (by omega)]
 simp only [e2, cond_false]
theorem gF_len {V : List Vr} (hV : varsB V = true) : ∀ (X : List Ins) (sh s : List Int), (∀ x ∈ X, insOk x = true) → gF V X sh = some s → sh.length ≤ 3 → s.length ≤ 3
 | [], sh, s, _, h, hl => by cases h; exact hl
 | x :: X, sh, s, hX, h, hl => by
  rw [gF] at h
  have hx := hX x (List.mem_cons_self ..)
  have hX' := fun y hy => hX y (List.mem_cons_of_mem _ hy)
  split at h
  ·rename_i hp
   split at h
   ·cases h
   ·rename_i h0
    split at h
    ·exact gF_len hV _ _ _ hX' h hl
    ·split at h
     ·cases h
     ·exact gF_len hV _ _ _ hX' h (ar_len hV hx hp (by simpa using h0))
  ·exact gF_len hV _ _ _ hX' h hl
theorem datF_len {f : Nat → Option Int} : ∀ (m i : Nat) (d : List Int), datF f m i = some d → d.length = m
 | 0, _, d, h => by cases h; rfl
 | m + 1, i, d, h => by
  rw [datF] at h
  cases hf : f i with
  | none => rw [hf] at h; cases h
  | some v =>
   rw [hf] at h
   obtain ⟨d', h1, rfl⟩ := Option.map_eq_some_iff.1 h
   rw [List.length_cons, datF_len m _ _ h1]
theorem fuse_len {L : List Ins} {V : List Vr} {a b : Int} {A : Ar} (h : fuseM L V a b = some A) : A.1.length ≤ 3 ∧ A.2.length ≤ 300 := by
 unfold fuseM at h
 split at h
 ·rename_i hc
  obtain ⟨hV, hc⟩ := hc
  obtain ⟨s, hs, _⟩ := List.any_eq_true.1 hc
  have ho := code_all (span_mem hs).1
  unfold fuseX at h
  cases hg : gF V ((L.drop a.toNat).take (b.toNat - a.toNat)) [] with
  | none => rw [hg] at h; cases h
  | some sh =>
   rw [hg] at h
   obtain ⟨d, h1, rfl⟩ := Option.map_eq_some_iff.1 h
   have := datF_len _ _ _ h1
   have := sizeOf_le sh
   exact ⟨gF_len hV _ _ _ (fun x hx => List.all_eq_true.1 ho x (List.mem_of_mem_drop (List.mem_of_mem_take hx))) hg (by simp), by show d.length ≤ 300; omega⟩
 ·cases h
theorem lawFnExactFuseTry (a : List (List Cl)) (b c : Int) (v : List (List Cl)) (ha : wfQ [.int .i64, .int .i64, .int .i64, .int .i64, .int .i64, .ints .i64] (.cells a)) (hb : (Lit.int .i64 b).wf = true) (hc : (Lit.int .i64 c).wf = true) (hv : wfQ [.bool, .ints .i64, .ints .i64] (.cells v)) (R : Bool → Option Res) : laws_FnExactFuseTry.g a b c v R = R true := by
 obtain ⟨y, yle, hy, hsz⟩ := szInstrN a ha.1 (wf_nums ha)
 simp only [laws_FnExactFuseTry.e, laws_FnExactFuseTry.b, hsz]
 by_cases h0 : y < 0
 ·simp [h0]
 obtain ⟨z, zle, hz, hsv⟩ := szVarS v y ⟨by omega, yle⟩ hv.1 (wf_vars hv)
 simp only [h0, decide_false, cond_false, hsv]
 by_cases h1 : z < 0
 ·simp [h1]
 have hs := hy (by omega)
 have hs2 := hz (by omega)
 have hn : NumsX 1048576 (a.map unX) := szX_le _ _ (by omega)
 have hn2 : NumsX 2000000 (a.map unX) := fun x hx => Nat.le_trans (hn x hx) (by decide)
 have hl : (a.map unX).length ≤ 1048576 := by rw [List.length_map]; omega
 have hvn : NumsV 1048576 (v.map unV) := szV_le _ _ (by omega)
 have hvl : (v.map unV).length ≤ 1048576 := by rw [List.length_map]; omega
 have hto := toInstrS a (by omega) hn
 have htv := toVarS v (by omega) hvn
 generalize hL : a.map unX = L at hs hn hn2 hl hto
 generalize hW : v.map unV = W at hs2 hvn hvl htv
 have hvn2 : NumsV 2000000 W := fun x hx => Nat.le_trans (hvn x hx) (by decide)
 obtain ⟨Z, hZ⟩ := markInstrS 1 L (by omega) hl (by omega)
 have e1 : decide ((1 : Int) + 5 * (L.length : Int) + (szX L : Int) + (W.length : Int) + (szV W : Int) < 0) = false := by simp; omega
 simp only [h1, decide_false, cond_false, hto, htv, laws_toSpan.e, laws_toSpan.b]
 have fin : ∀ (s d : List Int) (ok : Bool), s.length ≤ 3 → d.length ≤ 300 → (∀ R, impl_FuseTry.g (L.map mkX) b c (W.map mkV) R = R s d ok) → (∀ R, spec_FuseTry.g (L.map mkX) b c (W.map mkV) R = R s d ok) → (spec_FuseTry.g (L.map mkX) b c (W.map mkV) fun r9 r10 r11 => impl_FuseTry.g (L.map mkX) b c (W.map mkV) fun r14 r15 r16 => laws_eqArray.g r14 r15 r9 r10 fun r17 => bif !r17 then R false else bif r16 != r11 then R false else laws_eqInstrS.g (L.map mkX) (L.map mkX) fun r19 => bif !r19 then R false else laws_eqVarS.g (W.map mkV) (W.map mkV) fun r21 => bif !r21 then R false else laws_markInstrS.g 1 (L.map mkX) fun r22 _ => laws_markVarS.g r22 (W.map mkV) fun r24 _ => bif decide (r24 < 0) then R false else laws_eqArray.g r14 r15 r9 r10 fun r26 => bif !r26 then R false else bif r16 != r11 then R false else laws_markArray.g 1 r14 r15 fun r27 r28 r29 => laws_heldArray.g r28 r29 1 fun r30 => bif decide (r30 < 0) then R false else bif r30 != r27 then R false else impl_FuseTry.g (L.map mkX) b c (W.map mkV) fun r33 r34 r35 => laws_eqArray.g r33 r34 r9 r10 fun r36 => bif !r36 then R false else bif r35 != r11 then R false else laws_heldArray.g r28 r29 1 fun r37 => bif decide (r37 < 0) then R false else bif r37 != r27 then R false else R true) = R true := by
  intro s d ok l1 l2 gI gS
  have e2 : decide ((1 : Int) + (s.length : Int) + (d.length : Int) < 0) = false := by simp; omega
  simp only [gI, gS, eqArray s d (by omega) (by omega), Bool.not_true, cond_false, bne_self_eq_false, eqInstrS L hl hn, eqVarS W hvl hvn, hZ, markVarF _ W (by omega : (0 : Int) ≤ 1 + 5 * (L.length : Int) + (szX L : Int) ∧ 1 + 5 * (L.length : Int) + (szX L : Int) ≤ 1152921504606846976) hvl (by omega), e1, markArray 1 s d (by omega) (by omega) (by omega), heldArray 1 s.length d.length (by omega) (by omega) (by omega), e2]
 by_cases hbig : 1000000 < L.length
 ·-- so long is no code
  have hcb : codeB L = false := by
   unfold codeB
   rw [show decide (L.length ≤ 60) = false by rw [decide_eq_false_iff_not]; omega]; simp
  have hsp : spansX L = [] := by unfold spansX; rw [if_neg (by simp [hcb])]
  have gI : ∀ R, impl_FuseTry.g (L.map mkX) b c (W.map mkV) R = R [] [] false := fun R => by
   simp only [impl_FuseTry.e, impl_FuseTry.b, varsI W (by omega) hvn2, spansI L (by omega) hn2, hsp, contI _ (by simp : ([] : List Spn).length ≤ 2000000), List.any_nil, Bool.not_false, cond_true]
   cases varsB W <;> rfl
  have gS : ∀ R, spec_FuseTry.g (L.map mkX) b c (W.map mkV) R = R [] [] false := fun R => by
   simp only [spec_FuseTry.e, spec_FuseTry.b, codeOkS L (by omega) hn2, hcb, Bool.not_false, cond_true]
  exact fin [] [] false (by simp) (by simp) gI gS
 ·have fI := fun R => fuseI L (by omega) hn2 W (by omega) hvn2 b c R
  have fS := fun R => fuseS L (by omega) hn2 W (by omega) hvn2 b c R
  cases hf : fuseM L W b c with
  | none => rw [hf] at fI fS; exact fin [] [] false (by simp) (by simp) fI fS
  | some A =>
   rw [hf] at fI fS
   obtain ⟨l1, l2⟩ := fuse_len hf
   exact fin A.1 A.2 true l1 l2 fI fS
end Go.Tv.F
