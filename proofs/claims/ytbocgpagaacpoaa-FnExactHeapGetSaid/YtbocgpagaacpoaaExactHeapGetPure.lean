/- The pure law about these functions. It holds without condition. -/
import Derived.Test.YtbocgpagaacpoaaExactHeapGetF
set_option linter.unusedVariables false
set_option linter.unusedSimpArgs false
set_option linter.unnecessarySimpa false
set_option maxRecDepth 100000
set_option autoImplicit false
namespace Go.Tv.F
open Go Go.Tv
theorem toIntS (a : List Int) (h : a.length ≤ 1048576) (R : List Int → Option Res) : laws_toIntS.g a R = R a := by
  have e1 : decide (0 ≤ (a.length : Int)) = true := by simp
  have e2 : decide ((a.length : Int) * 8 ≤ 140737488355328) = true := by simp; omega
  simp only [laws_toIntS.e, laws_toIntS.b, e1, e2, decide_true, Bool.and_self, cond_true]
  refine up0 (N := a.length) (P := fun n i => ∀ l : List Int, l.length = a.length → (∀ j, j < i → l[j]? = a[j]?) → laws_toIntS.l0 a R n (i : Int) l = R a) (by omega) ?_ ?_ 0 (by omega) _ (by simp) (fun j hj => by omega)
  · intro n l hl hp
    simp only [laws_toIntS.l0, laws_toIntS.l0s, ixe, cond_false]
    rw [list_eq hl (fun j hj => hp j (by omega))]
  · intro n i hi ih l hl hp
    have hi2 : decide ((i : Int) < (l.length : Int)) = true := by simp; omega
    simp only [laws_toIntS.l0, laws_toIntS.l0s, ixl hi, ix0, hi2, Bool.and_self, cond_true, ixw (by omega : i < 9223372036854775807), Int.toNat_natCast]
    exact ih _ (by simp [hl]) (set_pre hl hi (getD_lt 0 hi) hp)

theorem eqIntS (a : List Int) (h : a.length ≤ 9223372036854775807) (R : Bool → Option Res) : laws_eqIntS.g a a R = R true := by
  simp only [laws_eqIntS.e, laws_eqIntS.b, bne_self_eq_false, cond_false]
  refine up0 (N := a.length) (P := fun n i => laws_eqIntS.l0 a a (R true) R n (i : Int) = R true) (by omega) ?_ ?_ 0 (by omega)
  · intro n; simp only [laws_eqIntS.l0, laws_eqIntS.l0s, ixe, cond_false]
  · intro n i hi ih
    simp only [laws_eqIntS.l0, laws_eqIntS.l0s, ixl hi, ix0, Bool.and_self, cond_true, bne_self_eq_false, cond_false, ixw (by omega : i < 9223372036854775807)]
    exact ih
theorem markIntS (y : Int) (a : List Int) (hy : 0 ≤ y ∧ y ≤ 4611686018427387904) (h : a.length ≤ 4611686018427387903) (R : Int → List Int → Option Res) : laws_markIntS.g y a R = R (y + a.length) (cnt (fun x => x) y a.length) := by
  simp only [laws_markIntS.e, laws_markIntS.b]
  have := up0 (N := a.length) (P := fun n i => ∀ l : List Int, l.length = a.length → (∀ j, j < i → l[j]? = (cnt (fun x => x) y a.length)[j]?) → laws_markIntS.l0 R n (y + (i : Int)) (i : Int) l = R (y + a.length) (cnt (fun x => x) y a.length)) (by omega) ?_ ?_ 0 (by omega) a rfl (fun j hj => by omega)
  · simpa using this
  · intro n l hl hp
    have e : decide ((a.length : Int) < (l.length : Int)) = false := by simp; omega
    simp only [laws_markIntS.l0, laws_markIntS.l0s, e, cond_false]
    rw [list_eq (a := l) (by rw [hl, cnt_length]) (fun j hj => hp j (by omega))]
  · intro n i hi ih l hl hp
    have hi2 : decide ((i : Int) < (l.length : Int)) = true := by simp; omega
    have hw : IntKind.i64.wrap (y + (i : Int) + 1) = y + ((i + 1 : Nat) : Int) := by rw [w64 (by omega)]; omega
    simp only [laws_markIntS.l0, laws_markIntS.l0s, ix0, hi2, Bool.and_self, cond_true, ixw (by omega : i < 9223372036854775807), Int.toNat_natCast, hw]
    exact ih _ (by simp [hl]) (set_pre (by rw [hl, cnt_length]) (by rw [cnt_length]; exact hi) (cnt_get _ _ _ _ hi) hp)
def numOk (x : Int) : Bool := decide (-1000000000000 ≤ x) && decide (x ≤ 1000000000000)
theorem within (x a b : Int) (R : Bool → Option Res) : impl_within.g x a b R = R (decide (a ≤ x) && decide (x ≤ b)) := by
  simp only [impl_within.e, impl_within.b]; cases decide (a ≤ x) <;> rfl
theorem l1In (x a b : Int) (R : Bool → Option Res) : spec_l1In.g x a b R = R (decide (a ≤ x) && decide (x ≤ b)) := by
  simp only [spec_l1In.e, spec_l1In.b]; cases decide (a ≤ x) <;> rfl
theorem numOkI (x : Int) (R : Bool → Option Res) : impl_NumOk.g x R = R (numOk x) := by simp only [impl_NumOk.e, impl_NumOk.b, within, numOk]
theorem numOkS (x : Int) (R : Bool → Option Res) : spec_NumOk.g x R = R (numOk x) := by simp only [spec_NumOk.e, spec_NumOk.b, l1In, numOk]

def dimOk (x : Int) : Bool := decide (0 ≤ x) && decide (x ≤ 300)
def prod : List Int → Int := List.foldr (· * ·) 1
def sizeOf (s : List Int) : Int := bif decide (s.length ≤ 3) && s.all dimOk && decide (prod s ≤ 300) then prod s else -1

theorem prod_cons (a : Int) (l : List Int) : prod (a :: l) = a * prod l := rfl

theorem sizeOfI (s : List Int) (R : Int → Option Res) : impl_SizeOf.g s R = R (sizeOf s) := by
  simp only [impl_SizeOf.e, impl_SizeOf.b]
  by_cases h : (3 : Int) < (s.length : Int)
  · have e : decide (s.length ≤ 3) = false := by simp; omega
    simp only [h, decide_true, cond_true, sizeOf, e, Bool.false_and, cond_false]
  have e : decide (s.length ≤ 3) = true := by simp; omega
  have loop : impl_SizeOf.l0 s (s.length : Int) (fun y7 => bif decide (300 < y7) then R (-1) else R y7) R fuel 1 0 = (bif s.all dimOk then (bif decide (300 < prod s) then R (-1) else R (prod s)) else R (-1)) := by
    have := up0 (N := s.length) (P := fun n i => ∀ acc : Int, 0 ≤ acc → acc ≤ 300 ^ i → impl_SizeOf.l0 s (s.length : Int) (fun y7 => bif decide (300 < y7) then R (-1) else R y7) R n acc (i : Int) = (bif (s.drop i).all dimOk then (bif decide (300 < acc * prod (s.drop i)) then R (-1) else R (acc * prod (s.drop i))) else R (-1))) (by omega) ?_ ?_ 0 (by omega) 1 (by omega) (by omega)
    · simpa using this
    · intro n acc _ _
      simp only [impl_SizeOf.l0, impl_SizeOf.l0s, ixe, cond_false, List.drop_length, List.all_nil, cond_true, prod, List.foldr_nil, Int.mul_one]
    · intro n i hi ih acc h0 h1
      have hb : (300 : Int) ^ i ≤ 300 ^ 2 := by
        have : i = 0 ∨ i = 1 ∨ i = 2 := by omega
        rcases this with rfl | rfl | rfl <;> decide
      simp only [impl_SizeOf.l0, impl_SizeOf.l0s, ixl hi, ix0, Bool.and_self, cond_true, within, ixw (by omega : i < 9223372036854775807), Int.toNat_natCast]
      rw [drop_cons 0 hi]
      generalize s.getD i 0 = d
      rw [List.all_cons, prod_cons]
      by_cases hd : dimOk d = true
      · have hd' := hd
        simp only [dimOk, Bool.and_eq_true, decide_eq_true_eq] at hd'
        have hm : acc * d ≤ 300 ^ 2 * 300 := Int.mul_le_mul (by omega) hd'.2 hd'.1 (by decide)
        have hm0 : 0 ≤ acc * d := Int.mul_nonneg h0 hd'.1
        rw [show (decide (0 ≤ d) && decide (d ≤ 300)) = true from hd, hd, w64 (by omega)]
        simp only [Bool.not_true, cond_false, Bool.true_and]
        rw [ih (acc * d) hm0 (by rw [Int.pow_succ]; exact Int.mul_le_mul h1 hd'.2 hd'.1 (by exact Int.pow_nonneg (by omega))), Int.mul_assoc]
      · have hd : dimOk d = false := by simpa using hd
        rw [show (decide (0 ≤ d) && decide (d ≤ 300)) = false from hd, hd]
        simp
  rw [loop]
  simp only [h, decide_false, cond_false, sizeOf, e, Bool.true_and]
  cases hA : s.all dimOk with
  | false => simp
  | true =>
    by_cases h3 : 300 < prod s
    · have : decide (prod s ≤ 300) = false := by simp; omega
      simp [h3, this]
    · have : decide (prod s ≤ 300) = true := by simp; omega
      simp [h3, this]

theorem sizeOfS (s : List Int) (R : Int → Option Res) : spec_SizeOf.g s R = R (sizeOf s) := by
  simp only [spec_SizeOf.e, spec_SizeOf.b]
  by_cases h : (3 : Int) < (s.length : Int)
  · have e : decide (s.length ≤ 3) = false := by simp; omega
    simp only [h, decide_true, cond_true, sizeOf, e, Bool.false_and, cond_false]
  have e : decide (s.length ≤ 3) = true := by simp; omega
  have loop2 : s.all dimOk = true → ∀ z k, spec_SizeOf.l2 s z k fuel 1 0 = k (prod s) := by
    intro hA z k
    have := up0 (N := s.length) (P := fun n i => ∀ acc : Int, 0 ≤ acc → acc ≤ 300 ^ i → (s.drop i).all dimOk = true → spec_SizeOf.l2 s z k n acc (i : Int) = k (acc * prod (s.drop i))) (by omega) ?_ ?_ 0 (by omega) 1 (by omega) (by omega) (by simpa using hA)
    · simpa using this
    · intro n acc _ _ _
      simp only [spec_SizeOf.l2, spec_SizeOf.l2s, ixe, cond_false, List.drop_length, prod, List.foldr_nil, Int.mul_one]
    · intro n i hi ih acc h0 h1 ha
      have hb : (300 : Int) ^ i ≤ 300 ^ 2 := by
        have : i = 0 ∨ i = 1 ∨ i = 2 := by omega
        rcases this with rfl | rfl | rfl <;> decide
      simp only [spec_SizeOf.l2, spec_SizeOf.l2s, ixl hi, ix0, Bool.and_self, cond_true, ixw (by omega : i < 9223372036854775807), Int.toNat_natCast]
      rw [drop_cons 0 hi] at ha ⊢
      revert ha
      generalize s.getD i 0 = d
      intro ha
      rw [prod_cons]
      simp only [List.all_cons, Bool.and_eq_true, dimOk, decide_eq_true_eq] at ha
      have hm : acc * d ≤ 300 ^ 2 * 300 := Int.mul_le_mul (by omega) ha.1.2 ha.1.1 (by decide)
      have hm0 : 0 ≤ acc * d := Int.mul_nonneg h0 ha.1.1
      rw [w64 (by omega), ih (acc * d) hm0 (by rw [Int.pow_succ]; exact Int.mul_le_mul h1 ha.1.2 ha.1.1 (by exact Int.pow_nonneg (by omega))) (by simpa [dimOk] using ha.2), Int.mul_assoc]
  have loop : ∀ k, spec_SizeOf.l0 s k R fuel false 0 = (bif s.all dimOk then k (s.any (· == 0)) else R (-1)) := by
    intro k
    have := up0 (N := s.length) (P := fun n i => ∀ z : Bool, spec_SizeOf.l0 s k R n z (i : Int) = (bif (s.drop i).all dimOk then k (z || (s.drop i).any (· == 0)) else R (-1))) (by omega) ?_ ?_ 0 (by omega) false
    · simpa using this
    · intro n z
      simp only [spec_SizeOf.l0, spec_SizeOf.l0s, ixe, cond_false, List.drop_length, List.all_nil, cond_true, List.any_nil, Bool.or_false]
    · intro n i hi ih z
      simp only [spec_SizeOf.l0, spec_SizeOf.l0s, ixl hi, ix0, Bool.and_self, cond_true, l1In, ixw (by omega : i < 9223372036854775807), Int.toNat_natCast]
      rw [drop_cons 0 hi]
      generalize s.getD i 0 = d
      rw [List.all_cons, List.any_cons]
      cases hd : dimOk d with
      | true =>
        rw [show (decide (0 ≤ d) && decide (d ≤ 300)) = true from hd]
        cases z with
        | true => simp only [Bool.not_true, cond_false, cond_true, ih, Bool.true_or, Bool.true_and]
        | false => simp only [Bool.not_true, cond_false, ih, Bool.false_or, Bool.true_and]
      | false =>
        rw [show (decide (0 ≤ d) && decide (d ≤ 300)) = false from hd]
        simp
  simp only [h, decide_false, cond_false, loop, sizeOf, e, Bool.true_and]
  cases hA : s.all dimOk with
  | false => simp
  | true =>
    simp only [cond_true, loop2 hA, Bool.true_and]
    by_cases h3 : 300 < prod s
    · have h4 : decide (prod s ≤ 300) = false := by simp; omega
      have hz : s.any (· == 0) = false := by
        cases hz : s.any (· == 0) with
        | false => rfl
        | true =>
          exfalso
          have : ∀ l : List Int, l.any (· == 0) = true → prod l = 0 := by
            intro l
            induction l with
            | nil => intro h; simp at h
            | cons a l ih =>
              intro h
              simp only [List.any_cons, Bool.or_eq_true, beq_iff_eq] at h
              rw [prod_cons]
              rcases h with rfl | h
              · simp
              · rw [ih h]; simp
          rw [this s hz] at h3
          omega
      simp [h3, h4, hz]
    · have : decide (prod s ≤ 300) = true := by simp; omega
      simp [h3, this]

def arrOk (s d : List Int) : Bool := decide ((d.length : Int) = sizeOf s) && d.all numOk
theorem sizeOf_le (s : List Int) : sizeOf s ≤ 300 := by
  simp only [sizeOf]
  cases h : decide (s.length ≤ 3) && s.all dimOk && decide (prod s ≤ 300) with
  | false => simp
  | true => simp only [Bool.and_eq_true, decide_eq_true_eq] at h; simpa using h.2
theorem arrOk_facts {s d : List Int} (h : arrOk s d = true) : s.length ≤ 3 ∧ s.all dimOk = true ∧ d.length ≤ 300 ∧ d.all numOk = true ∧ (d.length : Int) = prod s := by
  simp only [arrOk, Bool.and_eq_true, decide_eq_true_eq] at h
  have h0 := sizeOf_le s
  obtain ⟨h1, h2⟩ := h
  rw [sizeOf] at h1
  cases h3 : decide (s.length ≤ 3) && s.all dimOk && decide (prod s ≤ 300) with
  | false => rw [h3] at h1; simp at h1
  | true =>
    rw [h3] at h1
    simp only [Bool.and_eq_true, decide_eq_true_eq] at h3
    simp only [cond_true] at h1
    exact ⟨h3.1.1, h3.1.2, by omega, h2, h1⟩

/-- the first place from i on at which something holds; -1: none -/
def idx {α : Type} (f : α → Bool) : List α → Int → Int
  | [], _ => -1
  | x :: l, i => bif f x then i else idx f l (i + 1)
theorem idx_any {α : Type} (f : α → Bool) (l : List α) : ∀ i : Int, 0 ≤ i → decide (0 ≤ idx f l i) = l.any f := by
  induction l with
  | nil => intro i _; rfl
  | cons x l ih =>
    intro i hi
    cases hf : f x with
    | true => simp [idx, hf, hi]
    | false => simpa [idx, hf] using ih (i + 1) (by omega)

theorem arrayOkI_1 (x : Int) (R : Bool → Option Res) : impl_ArrayOk_1.g x R = R (!numOk x) := by simp only [impl_ArrayOk_1.e, impl_ArrayOk_1.b, numOkI]
theorem arrayOkI_idx (d : List Int) (h : d.length ≤ 9223372036854775807) (R : Int → Option Res) : slices_IndexFunc_int_int.g d R = R (idx (fun x => !numOk x) d 0) := by
  simp only [slices_IndexFunc_int_int.e, slices_IndexFunc_int_int.b]
  have := up0 (N := d.length) (P := fun n i => slices_IndexFunc_int_int.l0 d (d.length : Int) (R (-1)) R n (i : Int) = R (idx (fun x => !numOk x) (d.drop i) i)) (by omega) ?_ ?_ 0 (by omega)
  · simpa using this
  · intro n; simp only [slices_IndexFunc_int_int.l0, slices_IndexFunc_int_int.l0s, ixe, cond_false, List.drop_length, idx]
  · intro n i hi ih
    simp only [slices_IndexFunc_int_int.l0, slices_IndexFunc_int_int.l0s, ixl hi, ix0, Bool.and_self, cond_true, arrayOkI_1, ixw (by omega : i < 9223372036854775807), Int.toNat_natCast]
    rw [drop_cons 0 hi, idx]
    cases numOk (d.getD i 0) with
    | true => exact ih
    | false => rfl
theorem arrayOkI (s d : List Int) (h : d.length ≤ 9223372036854775807) (R : Bool → Option Res) : impl_ArrayOk.g s d R = R (arrOk s d) := by
  simp only [impl_ArrayOk.e, impl_ArrayOk.b, sizeOfI, slices_ContainsFunc_int_int.e, slices_ContainsFunc_int_int.b, arrayOkI_idx d h, idx_any _ _ _ (Int.le_refl 0), arrOk]
  by_cases h1 : (d.length : Int) = sizeOf s
  · simp only [h1, beq_self_eq_true, cond_true, decide_true, Bool.true_and]
    congr 1
    rw [List.any_eq_not_all_not]; simp
  · have : ((d.length : Int) == sizeOf s) = false := by simpa using h1
    simp only [this, h1, cond_false, decide_false, Bool.false_and]
theorem arrayOkS (s d : List Int) (h : d.length ≤ 9223372036854775807) (R : Bool → Option Res) : spec_ArrayOk.g s d R = R (arrOk s d) := by
  simp only [spec_ArrayOk.e, spec_ArrayOk.b, sizeOfS, arrOk]
  have loop : spec_ArrayOk.l0 s d (R true) R fuel 0 = R (d.all numOk) := by
    have := up0 (N := d.length) (P := fun n i => spec_ArrayOk.l0 s d (R true) R n (i : Int) = R ((d.drop i).all numOk)) (by omega) ?_ ?_ 0 (by omega)
    · simpa using this
    · intro n; simp only [spec_ArrayOk.l0, spec_ArrayOk.l0s, ixe, cond_false, List.drop_length, List.all_nil]
    · intro n i hi ih
      simp only [spec_ArrayOk.l0, spec_ArrayOk.l0s, ixl hi, ix0, Bool.and_self, cond_true, numOkS, ixw (by omega : i < 9223372036854775807), Int.toNat_natCast]
      rw [drop_cons 0 hi, List.all_cons]
      cases numOk (d.getD i 0) with
      | true => exact ih
      | false => rfl
  by_cases h1 : (d.length : Int) = sizeOf s
  · rw [h1]; simp only [bne_self_eq_false, cond_false, loop, decide_true, Bool.true_and]
  · have : (sizeOf s != (d.length : Int)) = true := by simp; omega
    simp only [this, cond_true, h1, decide_false, Bool.false_and]

theorem eqArray (a b : List Int) (h : a.length ≤ 9223372036854775807) (h2 : b.length ≤ 9223372036854775807) (R : Bool → Option Res) : laws_eqArray.g a b a b R = R true := by
  simp only [laws_eqArray.e, laws_eqArray.b, eqIntS a h, eqIntS b h2, Bool.not_true, cond_false]

theorem markArray (y : Int) (a b : List Int) (hy : 0 ≤ y ∧ y ≤ 1152921504606846976) (h : a.length ≤ 1152921504606846976) (h2 : b.length ≤ 1152921504606846976) (R : Int → List Int → List Int → Option Res) : laws_markArray.g y a b R = R (y + a.length + b.length) (cnt (fun x => x) y a.length) (cnt (fun x => x) (y + a.length) b.length) := by
  simp only [laws_markArray.e, laws_markArray.b]
  rw [markIntS y a (by omega) (by omega), markIntS _ b (by omega) (by omega)]

theorem heldIntS (y : Int) (m : Nat) (hy : 0 ≤ y ∧ y ≤ 4611686018427387904) (h : m ≤ 4611686018427387903) (R : Int → Option Res) : laws_heldIntS.g (cnt (fun x => x) y m) y R = R (y + m) := by
  simp only [laws_heldIntS.e, laws_heldIntS.b]
  have := up0 (N := m) (P := fun n i => laws_heldIntS.l0 (cnt (fun x => x) y m) R R n (y + (i : Int)) (i : Int) = R (y + m)) (by omega) ?_ ?_ 0 (by omega)
  · simpa using this
  · intro n
    simp only [laws_heldIntS.l0, laws_heldIntS.l0s, cnt_length, ixe, cond_false]
  · intro n i hi ih
    have hw : IntKind.i64.wrap (y + (i : Int) + 1) = y + ((i + 1 : Nat) : Int) := by rw [w64 (by omega)]; omega
    simp only [laws_heldIntS.l0, laws_heldIntS.l0s, cnt_length, ixl hi, ix0, Bool.and_self, cond_true, ixw (by omega : i < 9223372036854775807), Int.toNat_natCast, hw, getD_of (cnt_get (fun x => x) m y i hi), bne_self_eq_false, cond_false]
    exact ih
theorem heldArray (y : Int) (m n : Nat) (hy : 0 ≤ y ∧ y ≤ 1152921504606846976) (h : m ≤ 1152921504606846976) (h2 : n ≤ 1152921504606846976) (R : Int → Option Res) : laws_heldArray.g (cnt (fun x => x) y m) (cnt (fun x => x) (y + m) n) y R = R (y + m + n) := by
  have e1 : decide (y + (m : Int) < 0) = false := by simp; omega
  have e2 : decide (y + (m : Int) + (n : Int) < 0) = false := by simp; omega
  simp only [laws_heldArray.e, laws_heldArray.b]
  rw [heldIntS y m (by omega) (by omega)]
  simp only [e1, cond_false]
  rw [heldIntS _ n (by omega) (by omega)]
  simp only [e2, cond_false]

abbrev Cel : Type := Int × Int × Bool
def mkC (c : Cel) : List Cl := [.i c.1, .i c.2.1, .b c.2.2]
def unC (l : List Cl) : Cel := ((l.getD 0 (.i 0)).toI, (l.getD 1 (.i 0)).toI, (l.getD 2 (.i 0)).toB)
def noC : Cel := (0, 0, false)
theorem getD_map {α β : Type} (f : α → β) (L : List α) {i : Nat} (h : i < L.length) (d : β) (e : α) : (L.map f).getD i d = f (L.getD i e) := by
  rw [List.getD_eq_getElem?_getD, List.getD_eq_getElem?_getD, List.getElem?_map, List.getElem?_eq_getElem h]; rfl
theorem getC {L : List Cel} {i : Nat} (h : i < L.length) : (L.map mkC).getD i [] = mkC (L.getD i noC) := getD_map mkC L h [] noC
theorem mkC0 (c : Cel) : ((mkC c).getD 0 (.i 0)).toI = c.1 := rfl
theorem mkC1 (c : Cel) : ((mkC c).getD 1 (.i 0)).toI = c.2.1 := rfl
theorem mkC2 (c : Cel) : ((mkC c).getD 2 (.i 0)).toB = c.2.2 := rfl
theorem map_set {α β : Type} (f : α → β) (L : List α) (i : Nat) (x : α) : (L.map f).set i (f x) = (L.set i x).map f := List.map_set.symm
theorem spl0 (c : Cel) (x : Int) : splice (mkC c) 0 [.i x] = mkC (x, c.2.1, c.2.2) := rfl
theorem spl1 (c : Cel) (x : Int) : splice (mkC c) 1 [.i x] = mkC (c.1, x, c.2.2) := rfl
theorem spl2 (c : Cel) (x : Bool) : splice (mkC c) 2 [.b x] = mkC (c.1, c.2.1, x) := rfl
theorem getD_set {α : Type} (L : List α) {i : Nat} (x d : α) (h : i < L.length) : (L.set i x).getD i d = x := by
  rw [List.getD_eq_getElem?_getD, List.getElem?_set_self h]; rfl
theorem toCellS (a : List (List Cl)) (h : a.length ≤ 1048576) (R : List (List Cl) → Option Res) : laws_toCellS.g a R = R ((a.map unC).map mkC) := by
  have e1 : decide (0 ≤ (a.length : Int)) = true := by simp
  have e2 : decide ((a.length : Int) * 24 ≤ 140737488355328) = true := by simp; omega
  simp only [laws_toCellS.e, laws_toCellS.b, e1, e2, decide_true, Bool.and_self, cond_true]
  refine up0 (N := a.length) (P := fun n i => ∀ l : List (List Cl), l.length = a.length → (∀ j, j < i → l[j]? = ((a.map unC).map mkC)[j]?) → laws_toCellS.l0 a R n (i : Int) l = R ((a.map unC).map mkC)) (by omega) ?_ ?_ 0 (by omega) _ (by simp) (fun j hj => by omega)
  · intro n l hl hp
    simp only [laws_toCellS.l0, laws_toCellS.l0s, ixe, cond_false]
    rw [list_eq (by simpa using hl) (fun j hj => hp j (by omega))]
  · intro n i hi ih l hl hp
    have hi2 : decide ((i : Int) < (l.length : Int)) = true := by simp; omega
    simp only [laws_toCellS.l0, laws_toCellS.l0s, laws_toCell.e, laws_toCell.b, ixl hi, ix0, hi2, Bool.and_self, cond_true, ixw (by omega : i < 9223372036854775807), Int.toNat_natCast]
    refine ih _ (by simp [hl]) (set_pre (a := (a.map unC).map mkC) (by simpa using hl) (by simpa using hi) ?_ hp)
    rw [List.getElem?_map, List.getElem?_map, getD_lt [] hi]; rfl

theorem eqCellS (L : List Cel) (h : L.length ≤ 1048576) (R : Bool → Option Res) : laws_eqCellS.g (L.map mkC) (L.map mkC) R = R true := by
  simp only [laws_eqCellS.e, laws_eqCellS.b, bne_self_eq_false, cond_false]
  refine up0 (N := (L.map mkC).length) (P := fun n i => laws_eqCellS.l0 (L.map mkC) (L.map mkC) (R true) R n (i : Int) = R true) (by simp; omega) ?_ ?_ 0 (by omega)
  · intro n; simp only [laws_eqCellS.l0, laws_eqCellS.l0s, ixe, cond_false]
  · intro n i hi ih
    have hi' : i < 9223372036854775807 := by simp at hi; omega
    simp only [laws_eqCellS.l0, laws_eqCellS.l0s, laws_eqCell.e, laws_eqCell.b, ixl hi, ix0, Bool.and_self, cond_true, bne_self_eq_false, cond_false, Bool.not_true, ixw hi']
    exact ih
theorem eqHeap (w : List Int) (t : Int) (L : List Cel) (h1 : w.length ≤ 1048576) (h2 : L.length ≤ 1048576) (R : Bool → Option Res) : laws_eqHeap.g w t (L.map mkC) w t (L.map mkC) R = R true := by
  simp only [laws_eqHeap.e, laws_eqHeap.b, eqIntS w (by omega), eqCellS L h2, bne_self_eq_false, cond_false, Bool.not_true]

/-- marks, three a cell -/
def cntC (y : Int) : Nat → List Cel
  | 0 => []
  | n + 1 => (y, y + 1, (y + 2).tmod 3 == 0) :: cntC (y + 3) n
theorem cntC_length (n : Nat) : ∀ y, (cntC y n).length = n := by
  induction n with
  | zero => intro y; rfl
  | succ n ih => intro y; simp [cntC, ih]
theorem cntC_get (n : Nat) : ∀ y i, i < n → (cntC y n)[i]? = some (y + 3 * (i : Int), y + 3 * (i : Int) + 1, (y + 3 * (i : Int) + 2).tmod 3 == 0) := by
  induction n with
  | zero => intro y i h; omega
  | succ n ih =>
    intro y i h
    cases i with
    | zero => simp [cntC]
    | succ i =>
      simp only [cntC, List.getElem?_cons_succ]
      rw [ih _ _ (by omega)]
      have e : y + 3 + 3 * (i : Int) = y + 3 * ((i + 1 : Nat) : Int) := by omega
      rw [e]
theorem markCellS (y : Int) (L : List Cel) (hy : 0 ≤ y ∧ y ≤ 4611686018427387904) (h : L.length ≤ 1048576) (R : Int → List (List Cl) → Option Res) : laws_markCellS.g y (L.map mkC) R = R (y + 3 * L.length) ((cntC y L.length).map mkC) := by
  simp only [laws_markCellS.e, laws_markCellS.b]
  have := up0 (N := L.length) (P := fun n i => ∀ M : List Cel, M.length = L.length → (∀ j, j < i → M[j]? = (cntC y L.length)[j]?) → laws_markCellS.l0 R n (y + 3 * (i : Int)) (i : Int) (M.map mkC) = R (y + 3 * L.length) ((cntC y L.length).map mkC)) (by omega) ?_ ?_ 0 (by omega) L rfl (fun j hj => by omega)
  · simpa using this
  · intro n M hM hp
    have e : decide ((L.length : Int) < ((M.map mkC).length : Int)) = false := by simp; omega
    simp only [laws_markCellS.l0, laws_markCellS.l0s, e, cond_false]
    rw [list_eq (a := M) (by rw [hM, cntC_length]) (fun j hj => hp j (by omega))]
  · intro n i hi ih M hM hp
    have hiM : i < M.length := by omega
    have w1 : IntKind.i64.wrap (y + 3 * (i : Int) + 1) = y + 3 * (i : Int) + 1 := w64 (by omega)
    have w2 : IntKind.i64.wrap (y + 3 * (i : Int) + 1 + 1) = y + 3 * (i : Int) + 2 := by rw [w64 (by omega)]; omega
    have w3 : IntKind.i64.wrap (y + 3 * (i : Int) + 2 + 1) = y + 3 * ((i + 1 : Nat) : Int) := by rw [w64 (by omega)]; omega
    have hd : ∀ Q : List Cel, Q.length = M.length → decide ((i : Int) < ((Q.map mkC).length : Int)) = true := by intro Q hQ; simp; omega
    simp only [laws_markCellS.l0, laws_markCellS.l0s, ix0, Int.toNat_natCast, w1, w2, w3, getC hiM, spl0, map_set, ixw (by omega : i < 9223372036854775807)]
    rw [getC (L := M.set i _) (by simpa using hiM), getD_set M _ _ hiM]
    simp only [spl1, map_set]
    rw [getC (L := (M.set i _).set i _) (by simpa using hiM), getD_set _ _ _ (by simpa using hiM)]
    simp only [spl2, map_set]
    rw [hd M rfl, hd _ (by simp), hd _ (by simp)]
    simp only [Bool.and_self, cond_true, List.set_set]
    exact ih _ (by simp [hM]) (set_pre (by rw [hM, cntC_length]) (by rw [cntC_length]; exact hi) (cntC_get _ _ _ hi) hp)
theorem markHeap (y t : Int) (w : List Int) (L : List Cel) (hy : 0 ≤ y ∧ y ≤ 1152921504606846976) (h : w.length ≤ 1048576) (h2 : L.length ≤ 1048576) (R : Int → List Int → List (List Cl) → Option Res) :
    laws_markHeap.g t y w (L.map mkC) R = R (y + w.length + 3 * L.length) (cnt (fun x => x) y w.length) ((cntC (y + w.length) L.length).map mkC) := by
  simp only [laws_markHeap.e, laws_markHeap.b]
  rw [markIntS y w (by omega) (by omega), markCellS _ L (by omega) h2]
theorem toHeap (w : List Int) (t : Int) (a : List (List Cl)) (h1 : w.length ≤ 1048576) (h2 : a.length ≤ 1048576) (R : List Int → List (List Cl) → Option Res) : laws_toHeap.g w t a R = R w ((a.map unC).map mkC) := by
  simp only [laws_toHeap.e, laws_toHeap.b, toIntS w h1, toCellS a h2]
theorem szHeap (w : List Int) (t : Int) (a : List (List Cl)) (hw : w.length ≤ maxLen) (ha : a.length ≤ maxLen) : ∃ y : Int, (0 ≤ y → w.length ≤ 1048576 ∧ a.length ≤ 1048576) ∧ ∀ R, laws_szHeap.g w t a 1048576 R = R y := by
  have hm : maxLen = 9223372036854775807 := by decide
  simp only [laws_szHeap.e, laws_szHeap.b, laws_szIntS.e, laws_szIntS.b, laws_szCellS.e, laws_szCellS.b]
  rw [w64 (n := 1048576 - (w.length : Int)) (by omega)]
  by_cases h1 : 1048576 - (w.length : Int) < 0
  · exact ⟨-1, by omega, fun R => by simp only [h1, decide_true, cond_true]; rfl⟩
  · have e1 : decide (1048576 - (w.length : Int) < 0) = false := by simp; omega
    simp only [e1, cond_false]
    rw [w64 (n := 1048576 - (w.length : Int) - _) (by omega)]
    by_cases h2 : 1048576 - (w.length : Int) - (a.length : Int) < 0
    · exact ⟨-1, by omega, fun R => by simp only [h2, decide_true, cond_true]; rfl⟩
    · have e2 : decide (1048576 - (w.length : Int) - (a.length : Int) < 0) = false := by simp; omega
      exact ⟨_, fun _ => by omega, fun R => by simp only [e2, cond_false]; rfl⟩

def freeN (l : List Bool) : Nat → Nat → Bool
  | _, 0 => true
  | o, n + 1 => !l.getD o false && freeN l (o + 1) n
def markN (l : List Bool) : Nat → Nat → List Bool
  | _, 0 => l
  | o, n + 1 => markN (l.set o true) (o + 1) n
theorem freeN_set (n : Nat) : ∀ (l : List Bool) (o k : Nat), o < k → freeN (l.set o true) k n = freeN l k n := by
  induction n with
  | zero => intro l o k _; rfl
  | succ n ih =>
    intro l o k h
    simp only [freeN, ih l o (k + 1) (by omega)]
    rw [List.getD_eq_getElem?_getD, List.getD_eq_getElem?_getD, List.getElem?_set_ne (by omega)]
theorem markN_length (n : Nat) : ∀ (l : List Bool) (o : Nat), (markN l o n).length = l.length := by
  induction n with
  | zero => intro l o; rfl
  | succ n ih => intro l o; simp [markN, ih]
def celOk (t : Int) (c : Cel) : Bool := bif c.2.2 then decide (1 ≤ c.2.1) && decide (0 ≤ c.1) && decide (c.1 + c.2.1 ≤ t) else (c.1 == 0) && (c.2.1 == 0)
def okC (t : Int) : List Cel → List Bool → Bool
  | [], _ => true
  | c :: cs, l => celOk t c && (bif c.2.2 then freeN l c.1.toNat c.2.1.toNat && okC t cs (markN l c.1.toNat c.2.1.toNat) else okC t cs l)
def heapOk (w : List Int) (t : Int) (L : List Cel) : Bool := decide (w.length ≤ 6000) && (decide (0 ≤ t) && decide (t ≤ w.length)) && decide (L.length ≤ 200) && okC t L (List.replicate t.toNat false)

theorem innerI (cs xs : List (List Cl)) (x15 x16 t : Int) (ws : List Int) (o c : Int) (lv : Bool) (R : Bool → Option Res) (k : List Bool → Option Res) : ∀ (m : Nat) (n i : Nat) (l : List Bool), (i : Int) + m = o + c → m < n → o + c ≤ l.length → o + c ≤ 6000 →
    impl_HeapOk.l2 cs x15 x16 ws t xs o c lv k R n (i : Int) l = bif freeN l i m then k (markN l i m) else R false := by
  intro m
  induction m with
  | zero =>
    intro n i l h1 h2 h3 h4
    obtain ⟨n, rfl⟩ : ∃ n', n = n' + 1 := ⟨n - 1, by omega⟩
    have e : decide ((i : Int) < o + c) = false := by simp; omega
    simp only [impl_HeapOk.l2, impl_HeapOk.l2s, w64 (n := o + c) (by omega), e, cond_false, freeN, markN, cond_true]
  | succ m ih =>
    intro n i l h1 h2 h3 h4
    obtain ⟨n, rfl⟩ : ∃ n', n = n' + 1 := ⟨n - 1, by omega⟩
    have e : decide ((i : Int) < o + c) = true := by simp; omega
    have e2 : decide ((i : Int) < (l.length : Int)) = true := by simp; omega
    simp only [impl_HeapOk.l2, impl_HeapOk.l2s, w64 (n := o + c) (by omega), e, ix0, e2, Bool.and_self, cond_true, Int.toNat_natCast, freeN, markN, ixw (by omega : i < 9223372036854775807)]
    cases l.getD i false with
    | true => rfl
    | false =>
      simp only [cond_false, Bool.not_false, Bool.true_and]
      rw [ih n (i + 1) _ (by omega) (by omega) (by simp; omega) h4, freeN_set m l i (i + 1) (by omega)]
theorem innerS (cs : List (List Cl)) (x12 t : Int) (ws : List Int) (o c : Int) (lv : Bool) (R : Bool → Option Res) (k : List Bool → Option Res) : ∀ (m : Nat) (n i : Nat) (l : List Bool), (i : Int) + m = o + c → m < n → o + c ≤ l.length → o + c ≤ 6000 →
    spec_HeapOk.l2 x12 ws t cs o c lv k R n (i : Int) l = bif freeN l i m then k (markN l i m) else R false := by
  intro m
  induction m with
  | zero =>
    intro n i l h1 h2 h3 h4
    obtain ⟨n, rfl⟩ : ∃ n', n = n' + 1 := ⟨n - 1, by omega⟩
    have e : decide ((i : Int) < o + c) = false := by simp; omega
    simp only [spec_HeapOk.l2, spec_HeapOk.l2s, w64 (n := o + c) (by omega), e, cond_false, freeN, markN, cond_true]
  | succ m ih =>
    intro n i l h1 h2 h3 h4
    obtain ⟨n, rfl⟩ : ∃ n', n = n' + 1 := ⟨n - 1, by omega⟩
    have e : decide ((i : Int) < o + c) = true := by simp; omega
    have e2 : decide ((i : Int) < (l.length : Int)) = true := by simp; omega
    simp only [spec_HeapOk.l2, spec_HeapOk.l2s, w64 (n := o + c) (by omega), e, ix0, e2, Bool.and_self, cond_true, Int.toNat_natCast, freeN, markN, ixw (by omega : i < 9223372036854775807)]
    cases l.getD i false with
    | true => rfl
    | false =>
      simp only [cond_false, Bool.not_false, Bool.true_and]
      rw [ih n (i + 1) _ (by omega) (by omega) (by simp; omega) h4, freeN_set m l i (i + 1) (by omega)]

theorem okC_dead {t : Int} {c : Cel} (cs : List Cel) (l : List Bool) (h : c.2.2 = false) : okC t (c :: cs) l = ((c.1 == 0) && (c.2.1 == 0) && okC t cs l) := by
  simp only [okC, celOk, h, cond_false]
theorem okC_live {t : Int} {c : Cel} (cs : List Cel) (l : List Bool) (h : c.2.2 = true) : okC t (c :: cs) l = ((decide (1 ≤ c.2.1) && decide (0 ≤ c.1) && decide (c.1 + c.2.1 ≤ t)) && (freeN l c.1.toNat c.2.1.toNat && okC t cs (markN l c.1.toNat c.2.1.toNat))) := by
  simp only [okC, celOk, h, cond_true]

theorem heapOkI (w : List Int) (t : Int) (L : List Cel) (hw : w.length ≤ 9223372036854775807) (hL : L.length ≤ 9223372036854775807) (R : Bool → Option Res) : impl_HeapOk.g w t (L.map mkC) R = R (heapOk w t L) := by
  simp only [impl_HeapOk.e, impl_HeapOk.b, within, List.length_map]
  by_cases h1 : 6000 < (w.length : Int)
  · have e : decide (w.length ≤ 6000) = false := by simp; omega
    simp only [h1, decide_true, cond_true, heapOk, e, Bool.false_and]
  have e1 : decide (w.length ≤ 6000) = true := by simp; omega
  simp only [h1, decide_false, cond_false, heapOk, e1, Bool.true_and]
  cases h2 : decide (0 ≤ t) && decide (t ≤ (w.length : Int)) with
  | false => simp only [Bool.not_false, cond_true, Bool.false_and]
  | true =>
    simp only [Bool.not_true, cond_false, Bool.true_and]
    simp only [Bool.and_eq_true, decide_eq_true_eq] at h2
    by_cases h3 : 200 < (L.length : Int)
    · have e : decide (L.length ≤ 200) = false := by simp; omega
      simp only [h3, decide_true, cond_true, e, Bool.false_and]
    have e3 : decide (L.length ≤ 200) = true := by simp; omega
    have e4 : decide (0 ≤ t) = true := by simp; omega
    have e5 : decide (t * 1 ≤ 140737488355328) = true := by simp; omega
    simp only [h3, decide_false, cond_false, e3, Bool.true_and, e4, e5, decide_true, Bool.and_self, cond_true]
    have := up0 (N := L.length) (P := fun n i => ∀ l : List Bool, (l.length : Int) = t → impl_HeapOk.l0 (L.map mkC) (L.length : Int) w t (L.map mkC) (R true) R n (i : Int) l = R (okC t (L.drop i) l)) (by omega) ?_ ?_ 0 (by omega) (List.replicate t.toNat false) (by simp; omega)
    · simpa using this
    · intro n l _; simp only [impl_HeapOk.l0, impl_HeapOk.l0s, ixe, cond_false, List.drop_length, okC]
    · intro n i hi ih l hl
      simp only [impl_HeapOk.l0, impl_HeapOk.l0s, ixl hi, ix0, List.length_map, Bool.and_self, cond_true, Int.toNat_natCast, getC hi, mkC0, mkC1, mkC2, ixw (by omega : i < 9223372036854775807), within]
      rw [drop_cons noC hi]
      generalize L.getD i noC = c
      cases hv : c.2.2 with
      | false =>
        rw [okC_dead _ _ hv]
        simp only [Bool.not_false, cond_true, beq_self_eq_true, Bool.and_true]
        cases hq : ((c.1 == 0) && (c.2.1 == 0)) with
        | true => simp only [Bool.not_true, cond_false, Bool.true_and]; exact ih l hl
        | false => simp only [Bool.not_false, cond_true, Bool.false_and]
      | true =>
        rw [okC_live _ _ hv]
        simp only [Bool.not_true, cond_false]
        by_cases a1 : c.2.1 < 1
        · have e : decide (1 ≤ c.2.1) = false := by simp; omega
          simp only [a1, decide_true, cond_true, e, Bool.false_and]
        have e6 : decide (1 ≤ c.2.1) = true := by simp; omega
        rw [w64 (n := t - 1) (by omega)]
        simp only [a1, decide_false, cond_false, e6, Bool.true_and]
        by_cases a2 : 0 ≤ c.1 ∧ c.1 ≤ t - 1
        · have e7 : decide (c.1 ≤ t - 1) = true := by simp; omega
          have e8 : decide (0 ≤ c.1) = true := by simp; omega
          rw [w64 (n := t - c.1) (by omega)]
          simp only [e7, e8, Bool.and_self, Bool.not_true, cond_false, Bool.true_and]
          by_cases a3 : t - c.1 < c.2.1
          · have e : decide (c.1 + c.2.1 ≤ t) = false := by simp; omega
            simp only [a3, decide_true, cond_true, e, Bool.false_and]
          have e9 : decide (c.1 + c.2.1 ≤ t) = true := by simp; omega
          simp only [a3, decide_false, cond_false, e9, Bool.true_and]
          obtain ⟨o, ho⟩ := Int.eq_ofNat_of_zero_le a2.1
          obtain ⟨m, hm⟩ := Int.eq_ofNat_of_zero_le (by omega : 0 ≤ c.2.1)
          rw [ho, hm, innerI _ _ _ _ _ _ _ _ _ _ _ m fuel o l (by omega) (by rw [fuel_eq]; omega) (by omega) (by omega)]
          simp only [Int.toNat_natCast]
          cases freeN l o m with
          | false => rfl
          | true => simp only [cond_true, Bool.true_and]; exact ih _ (by rw [markN_length]; exact hl)
        · have e7 : (decide (0 ≤ c.1) && decide (c.1 ≤ t - 1)) = false := by simp; omega
          have e8 : (decide (0 ≤ c.1) && decide (c.1 + c.2.1 ≤ t)) = false := by simp; omega
          simp only [e7, e8, Bool.not_false, cond_true, Bool.false_and]
theorem heapOkS (w : List Int) (t : Int) (L : List Cel) (hw : w.length ≤ 9223372036854775807) (hL : L.length ≤ 9223372036854775807) (R : Bool → Option Res) : spec_HeapOk.g w t (L.map mkC) R = R (heapOk w t L) := by
  simp only [spec_HeapOk.e, spec_HeapOk.b, l1In, List.length_map]
  by_cases h1 : 6000 < (w.length : Int)
  · have e : decide (w.length ≤ 6000) = false := by simp; omega
    simp only [h1, decide_true, cond_true, heapOk, e, Bool.false_and]
  have e1 : decide (w.length ≤ 6000) = true := by simp; omega
  simp only [h1, decide_false, cond_false, heapOk, e1, Bool.true_and]
  cases h2 : decide (0 ≤ t) && decide (t ≤ (w.length : Int)) with
  | false => simp only [Bool.not_false, cond_true, Bool.false_and]
  | true =>
    simp only [Bool.not_true, cond_false, Bool.true_and]
    simp only [Bool.and_eq_true, decide_eq_true_eq] at h2
    by_cases h3 : 200 < (L.length : Int)
    · have e : decide (L.length ≤ 200) = false := by simp; omega
      simp only [h3, decide_true, cond_true, e, Bool.false_and]
    have e3 : decide (L.length ≤ 200) = true := by simp; omega
    have e4 : decide (0 ≤ t) = true := by simp; omega
    have e5 : decide (t * 1 ≤ 140737488355328) = true := by simp; omega
    simp only [h3, decide_false, cond_false, e3, Bool.true_and, e4, e5, decide_true, Bool.and_self, cond_true]
    have := up0 (N := L.length) (P := fun n i => ∀ l : List Bool, (l.length : Int) = t → spec_HeapOk.l0 w t (L.map mkC) (R true) R n (i : Int) l = R (okC t (L.drop i) l)) (by omega) ?_ ?_ 0 (by omega) (List.replicate t.toNat false) (by simp; omega)
    · simpa using this
    · intro n l _; simp only [spec_HeapOk.l0, spec_HeapOk.l0s, List.length_map, ixe, cond_false, List.drop_length, okC]
    · intro n i hi ih l hl
      simp only [spec_HeapOk.l0, spec_HeapOk.l0s, ixl hi, ix0, List.length_map, Bool.and_self, cond_true, Int.toNat_natCast, getC hi, mkC0, mkC1, mkC2, ixw (by omega : i < 9223372036854775807), l1In]
      rw [drop_cons noC hi]
      generalize L.getD i noC = c
      cases hv : c.2.2 with
      | false =>
        rw [okC_dead _ _ hv]
        simp only [Bool.not_false, cond_true, bne]
        cases hq : (c.1 == 0) with
        | true =>
          simp only [Bool.not_true, cond_false, Bool.true_and]
          cases hq2 : (c.2.1 == 0) with
          | true => simp only [Bool.not_true, cond_false, Bool.true_and]; exact ih l hl
          | false => simp only [Bool.not_false, cond_true, Bool.false_and]
        | false => simp only [Bool.not_false, cond_true, Bool.false_and]
      | true =>
        rw [okC_live _ _ hv]
        simp only [Bool.not_true, cond_false]
        by_cases a2 : 0 ≤ c.1 ∧ c.1 ≤ t
        · have e7 : decide (c.1 ≤ t) = true := by simp; omega
          have e8 : decide (0 ≤ c.1) = true := by simp; omega
          rw [w64 (n := t - c.1) (by omega)]
          simp only [e7, e8, Bool.and_self, Bool.not_true, cond_false, Bool.and_true]
          by_cases a3 : 1 ≤ c.2.1 ∧ c.2.1 ≤ t - c.1
          · have e9 : (decide (1 ≤ c.2.1) && decide (c.2.1 ≤ t - c.1)) = true := by simp; omega
            have e10 : (decide (1 ≤ c.2.1) && decide (c.1 + c.2.1 ≤ t)) = true := by simp; omega
            simp only [e9, e10, Bool.not_true, cond_false, Bool.true_and]
            obtain ⟨o, ho⟩ := Int.eq_ofNat_of_zero_le a2.1
            obtain ⟨m, hm⟩ := Int.eq_ofNat_of_zero_le (by omega : 0 ≤ c.2.1)
            rw [ho, hm, innerS _ _ _ _ _ _ _ _ _ m fuel o l (by omega) (by rw [fuel_eq]; omega) (by omega) (by omega)]
            simp only [Int.toNat_natCast]
            cases freeN l o m with
            | false => rfl
            | true => simp only [cond_true, Bool.true_and]; exact ih _ (by rw [markN_length]; exact hl)
          · have e9 : (decide (1 ≤ c.2.1) && decide (c.2.1 ≤ t - c.1)) = false := by simp; omega
            have e10 : (decide (1 ≤ c.2.1) && decide (c.1 + c.2.1 ≤ t)) = false := by simp; omega
            simp only [e9, e10, Bool.not_false, cond_true, Bool.false_and]
        · have e7 : (decide (0 ≤ c.1) && decide (c.1 ≤ t)) = false := by simp; omega
          have e8 : (decide (1 ≤ c.2.1) && decide (0 ≤ c.1) && decide (c.1 + c.2.1 ≤ t)) = false := by simp; omega
          simp only [e7, e8, Bool.not_false, cond_true, Bool.false_and]
theorem heapOk_facts {w : List Int} {t : Int} {L : List Cel} (h : heapOk w t L = true) : w.length ≤ 6000 ∧ 0 ≤ t ∧ t ≤ w.length ∧ L.length ≤ 200 ∧ okC t L (List.replicate t.toNat false) = true := by
  simp only [heapOk, Bool.and_eq_true, decide_eq_true_eq] at h
  exact ⟨h.1.1.1, h.1.1.2.1, h.1.1.2.2, h.1.2, h.2⟩
theorem okC_cel (t : Int) : ∀ (L : List Cel) (l : List Bool), okC t L l = true → ∀ c ∈ L, celOk t c = true := by
  intro L
  induction L with
  | nil => intro l _ c h; cases h
  | cons d L ih =>
    intro l h c hc
    simp only [okC, Bool.and_eq_true] at h
    rcases List.mem_cons.1 hc with rfl | hc
    · exact h.1
    · cases hv : d.2.2 with
      | false => rw [hv] at h; exact ih _ h.2 c hc
      | true => rw [hv] at h; simp only [cond_true, Bool.and_eq_true] at h; exact ih _ h.2.2 c hc

theorem in_range {i : Int} {n : Nat} (h : (decide (0 ≤ i) && decide (i ≤ (n : Int) - 1)) = true) : ∃ k : Nat, i = k ∧ k < n := by
  simp only [Bool.and_eq_true, decide_eq_true_eq] at h
  obtain ⟨k, rfl⟩ := Int.eq_ofNat_of_zero_le h.1
  exact ⟨k, rfl, by omega⟩
def liveAt (L : List Cel) (i : Int) : Bool := (decide (0 ≤ i) && decide (i ≤ (L.length : Int) - 1)) && (L.getD i.toNat noC).2.2
theorem liveAt_some {L : List Cel} {i : Int} (h : liveAt L i = true) : ∃ k : Nat, i = k ∧ k < L.length ∧ (L.getD k noC).2.2 = true := by
  simp only [liveAt, Bool.and_eq_true (a := (decide (0 ≤ i) && _))] at h
  obtain ⟨k, rfl, hk⟩ := in_range h.1
  exact ⟨k, rfl, hk, by simpa using h.2⟩
theorem liveS (w : List Int) (t : Int) (L : List Cel) (i : Int) (hL : L.length ≤ 200) (R : Bool → Option Res) : spec_l13Live.g w t (L.map mkC) i R = R (liveAt L i) := by
  simp only [spec_l13Live.e, spec_l13Live.b, l1In, List.length_map]
  rw [w64 (n := (L.length : Int) - 1) (by omega)]
  unfold liveAt
  cases h : decide (0 ≤ i) && decide (i ≤ (L.length : Int) - 1) with
  | false => rfl
  | true =>
    obtain ⟨k, rfl, hk⟩ := in_range h
    simp only [cond_true, ix0, ixl hk, Bool.and_self, Int.toNat_natCast, getC hk, mkC2, Bool.true_and]
theorem liveI (w : List Int) (t : Int) (L : List Cel) (i : Int) (hw : w.length ≤ 9223372036854775807) (hL : L.length ≤ 1048576) (R : Bool → Option Res) : impl_liveAt.g w t (L.map mkC) i R = R (heapOk w t L && liveAt L i) := by
  simp only [impl_liveAt.e, impl_liveAt.b, heapOkI w t L hw (by omega), within, List.length_map]
  cases heapOk w t L with
  | false => rfl
  | true =>
    rw [w64 (n := (L.length : Int) - 1) (by omega)]
    unfold liveAt
    cases h : decide (0 ≤ i) && decide (i ≤ (L.length : Int) - 1) with
    | false => rfl
    | true =>
      obtain ⟨k, rfl, hk⟩ := in_range h
      simp only [cond_true, ix0, ixl hk, Bool.and_self, Int.toNat_natCast, getC hk, mkC2, Bool.true_and]
/-- HeapGet -/
def heapWords (w : List Int) (c : Cel) : List Int := (w.drop c.1.toNat).take c.2.1.toNat
def getR (ws : List Int) (r : Int) : Option (List Int × List Int) :=
  bif decide (0 ≤ r) && decide (r ≤ (ws.length : Int) - 1) then
    (bif arrOk ((ws.drop 1).take r.toNat) (ws.drop (1 + r.toNat)) then some ((ws.drop 1).take r.toNat, ws.drop (1 + r.toNat)) else none)
  else none
def heapGet (w : List Int) (t : Int) (L : List Cel) (i : Int) : Option (List Int × List Int) :=
  bif heapOk w t L && liveAt L i then getR (heapWords w (L.getD i.toNat noC)) ((heapWords w (L.getD i.toNat noC)).getD 0 0) else none
def optR (o : Option (List Int × List Int)) (R : List Int → List Int → Bool → Option Res) : Option Res :=
  match o with
  | some (s, d) => R s d true
  | none => R [] [] false
theorem cel_bounds {w : List Int} {t : Int} {L : List Cel} {k : Nat} (h : heapOk w t L = true) (hk : k < L.length) (hl : (L.getD k noC).2.2 = true) : 1 ≤ (L.getD k noC).2.1 ∧ 0 ≤ (L.getD k noC).1 ∧ (L.getD k noC).1 + (L.getD k noC).2.1 ≤ w.length ∧ (L.getD k noC).1 + (L.getD k noC).2.1 ≤ t := by
  obtain ⟨h1, h2, h3, h4, h5⟩ := heapOk_facts h
  have := okC_cel t L _ h5 (L.getD k noC) (by rw [List.getD_eq_getElem?_getD, List.getElem?_eq_getElem hk]; exact List.getElem_mem hk)
  simp only [celOk, hl, cond_true, Bool.and_eq_true, decide_eq_true_eq] at this
  omega

theorem min_eq (a b : Int) : minmax false a b = min a b := by unfold minmax; simp only [cond_false]; split <;> omega
theorem copyArrI (s d : List Int) (h1 : s.length ≤ 1048576) (h2 : d.length ≤ 1048576) (R : Option Res) : impl_copyArray.g s d R = R := by
  have e1 : decide (s.length * 8 ≤ 140737488355328) = true := by simp; omega
  have e2 : decide (d.length * 8 ≤ 140737488355328) = true := by simp; omega
  simp only [impl_copyArray.e, impl_copyArray.b, e1, e2, cond_true]
theorem arrOk_long {s : List Int} (d : List Int) (h : 3 < s.length) : arrOk s d = false := by
  cases ha : arrOk s d with
  | false => rfl
  | true => have := (arrOk_facts ha).1; omega
theorem heapGetI (w : List Int) (t : Int) (L : List Cel) (i : Int) (hw : w.length ≤ 1048576) (hwr : ∀ x ∈ w, -9223372036854775808 ≤ x ∧ x ≤ 9223372036854775807) (hL : L.length ≤ 1048576) (R : List Int → List Int → Bool → Option Res) : impl_HeapGet.g w t (L.map mkC) i R = optR (heapGet w t L i) R := by
  simp only [impl_HeapGet.e, impl_HeapGet.b, liveI w t L i (by omega) hL, heapGet]
  cases h : heapOk w t L with
  | false => rfl
  | true =>
    cases h5 : liveAt L i with
    | false => rfl
    | true =>
      obtain ⟨k, rfl, hk, hv⟩ := liveAt_some h5
      obtain ⟨b1, b2, b3, _⟩ := cel_bounds h hk hv
      simp only [Bool.true_and, Bool.not_true, cond_false, cond_true, List.length_map, ix0, ixl hk, Int.toNat_natCast, getC hk, mkC0, mkC1, mkC2]
      generalize L.getD k noC = c at b1 b2 b3
      have hws : (w.drop c.1.toNat).take ((c.1 + c.2.1).toNat - c.1.toNat) = heapWords w c := by unfold heapWords; congr 1; omega
      have hlen : ((heapWords w c).length : Int) = c.2.1 := by simp only [heapWords, List.length_take, List.length_drop]; omega
      rw [w64 (n := c.1 + c.2.1) (by omega)]
      simp only [hws]
      have e1 : decide (0 ≤ c.1) = true := by simp; omega
      have e2 : decide (c.1 ≤ c.1 + c.2.1) = true := by simp; omega
      have e3 : decide (c.1 + c.2.1 ≤ (w.length : Int)) = true := by simp; omega
      have hr : ∀ x ∈ heapWords w c, -9223372036854775808 ≤ x ∧ x ≤ 9223372036854775807 := fun x hx => hwr x (List.mem_of_mem_drop (List.mem_of_mem_take hx))
      have hl2 : (heapWords w c).length ≤ 1048576 := by omega
      have hpos : 0 < (heapWords w c).length := by omega
      generalize heapWords w c = ws at hr hl2 hpos
      have e4 : decide (0 < (ws.length : Int)) = true := by simp; omega
      rw [w64 (n := (ws.length : Int) - 1) (by omega)]
      simp only [e1, e2, e3, e4, Bool.and_self, cond_true, within]
      generalize ws.getD 0 0 = r0
      by_cases hk2 : 0 ≤ r0 ∧ r0 ≤ (ws.length : Int) - 1
      · obtain ⟨r, rfl⟩ := Int.eq_ofNat_of_zero_le hk2.1
        unfold getR
        have e5 : decide ((r : Int) ≤ (ws.length : Int) - 1) = true := by simp; omega
        have e6 : decide (0 ≤ IntKind.i64.wrap (1 + (r : Int))) = true := by rw [w64 (by omega)]; simp; omega
        rw [w64 (n := 1 + (r : Int)) (by omega)] at e6 ⊢
        have e7 : decide (1 ≤ 1 + (r : Int)) = true := by simp; omega
        have e8 : decide (1 + (r : Int) ≤ (ws.length : Int)) = true := by simp; omega
        have e9 : ((1 : Int) + (r : Int)).toNat = 1 + r := by omega
        have e10 : 1 + r - 1 = r := by omega
        simp only [e5, e6, e7, e8, e9, e10, ix0, Bool.and_self, cond_true, Int.toNat_natCast, Bool.true_and]
        by_cases h3 : r ≤ 3
        · have e11 : decide ((r : Int) ≤ minmax false 3 ((ws.length : Int) - 1)) = true := by rw [min_eq]; simp; omega
          simp only [e11, Bool.not_true, cond_false]
          rw [copyArrI _ _ (by simp; omega) (by simp; omega), arrayOkI _ _ (by simp; omega)]
          cases arrOk ((ws.drop 1).take r) (ws.drop (1 + r)) <;> rfl
        · have e11 : decide ((r : Int) ≤ minmax false 3 ((ws.length : Int) - 1)) = false := by rw [min_eq]; simp; omega
          simp only [e11, Bool.not_false, cond_true]
          rw [arrOk_long _ (by simp; omega)]; rfl
      · unfold getR
        have e5 : (decide (0 ≤ r0) && decide (r0 ≤ (ws.length : Int) - 1)) = false := by
          rw [Bool.eq_false_iff]; intro hh; simp only [Bool.and_eq_true, decide_eq_true_eq] at hh; exact hk2 hh
        have e6 : (decide (0 ≤ r0) && decide (r0 ≤ minmax false 3 ((ws.length : Int) - 1))) = false := by
          rw [Bool.eq_false_iff]; intro hh; rw [min_eq] at hh; simp only [Bool.and_eq_true, decide_eq_true_eq] at hh
          apply hk2; omega
        simp only [e5, e6, Bool.not_false, cond_true, cond_false]; rfl
theorem heapGetS (w : List Int) (t : Int) (L : List Cel) (i : Int) (hw : w.length ≤ 1048576) (hwr : ∀ x ∈ w, -9223372036854775808 ≤ x ∧ x ≤ 9223372036854775807) (hL : L.length ≤ 1048576) (R : List Int → List Int → Bool → Option Res) : spec_HeapGet.g w t (L.map mkC) i R = optR (heapGet w t L i) R := by
  simp only [spec_HeapGet.e, spec_HeapGet.b, heapOkS w t L (by omega) (by omega), heapGet]
  cases h : heapOk w t L with
  | false => rfl
  | true =>
    simp only [Bool.not_true, cond_false, liveS w t L i (heapOk_facts h).2.2.2.1]
    cases h5 : liveAt L i with
    | false => rfl
    | true =>
      obtain ⟨k, rfl, hk, hv⟩ := liveAt_some h5
      obtain ⟨b1, b2, b3, _⟩ := cel_bounds h hk hv
      simp only [Bool.true_and, Bool.not_true, cond_false, cond_true, List.length_map, ix0, ixl hk, Int.toNat_natCast, getC hk, mkC0, mkC1, mkC2]
      generalize L.getD k noC = c at b1 b2 b3
      have hws : (w.drop c.1.toNat).take ((c.1 + c.2.1).toNat - c.1.toNat) = heapWords w c := by unfold heapWords; congr 1; omega
      have hlen : ((heapWords w c).length : Int) = c.2.1 := by simp only [heapWords, List.length_take, List.length_drop]; omega
      rw [w64 (n := c.1 + c.2.1) (by omega)]
      simp only [hws]
      have e1 : decide (0 ≤ c.1) = true := by simp; omega
      have e2 : decide (c.1 ≤ c.1 + c.2.1) = true := by simp; omega
      have e3 : decide (c.1 + c.2.1 ≤ (w.length : Int)) = true := by simp; omega
      have hr : ∀ x ∈ heapWords w c, -9223372036854775808 ≤ x ∧ x ≤ 9223372036854775807 := fun x hx => hwr x (List.mem_of_mem_drop (List.mem_of_mem_take hx))
      have hl2 : (heapWords w c).length ≤ 1048576 := by omega
      have hpos : 0 < (heapWords w c).length := by omega
      generalize heapWords w c = ws at hr hl2 hpos
      have e4 : decide (0 < (ws.length : Int)) = true := by simp; omega
      rw [w64 (n := (ws.length : Int) - 1) (by omega)]
      simp only [e1, e2, e3, e4, Bool.and_self, cond_true, l1In, List.nil_append, Nat.zero_add]
      generalize ws.getD 0 0 = r0
      by_cases hk2 : 0 ≤ r0 ∧ r0 ≤ (ws.length : Int) - 1
      · obtain ⟨r, rfl⟩ := Int.eq_ofNat_of_zero_le hk2.1
        unfold getR
        have e5 : decide ((r : Int) ≤ (ws.length : Int) - 1) = true := by simp; omega
        rw [w64 (n := 1 + (r : Int)) (by omega)]
        have e6 : decide (0 ≤ 1 + (r : Int)) = true := by simp; omega
        have e7 : decide (1 ≤ 1 + (r : Int)) = true := by simp; omega
        have e8 : decide (1 + (r : Int) ≤ (ws.length : Int)) = true := by simp; omega
        have e9 : ((1 : Int) + (r : Int)).toNat = 1 + r := by omega
        have e10 : 1 + r - 1 = r := by omega
        have e11 : decide (((ws.drop 1).take r).length * 8 ≤ 140737488355328) = true := by simp; omega
        have e12 : decide ((ws.drop (1 + r)).length * 8 ≤ 140737488355328) = true := by simp; omega
        simp only [e5, e6, e7, e8, e9, e10, e11, e12, ix0, Bool.and_self, cond_true, Int.toNat_natCast, Bool.true_and, Bool.not_true, cond_false]
        rw [arrayOkS _ _ (by simp; omega)]
        cases arrOk ((ws.drop 1).take r) (ws.drop (1 + r)) <;> rfl
      · unfold getR
        have e5 : (decide (0 ≤ r0) && decide (r0 ≤ (ws.length : Int) - 1)) = false := by
          rw [Bool.eq_false_iff]; intro hh; simp only [Bool.and_eq_true, decide_eq_true_eq] at hh; exact hk2 hh
        simp only [e5, Bool.not_false, cond_true, cond_false]; rfl
theorem heapGet_ok {w : List Int} {t : Int} {L : List Cel} {i : Int} {s d : List Int} (h : heapGet w t L i = some (s, d)) : arrOk s d = true := by
  unfold heapGet at h
  cases h1 : heapOk w t L && liveAt L i <;> rw [h1] at h <;> simp only [cond_true, cond_false] at h
  · cases h
  generalize heapWords w (L.getD i.toNat noC) = ws at h
  generalize ws.getD 0 0 = r at h
  unfold getR at h
  cases h2 : decide (0 ≤ r) && decide (r ≤ (ws.length : Int) - 1) <;> rw [h2] at h <;> simp only [cond_true, cond_false] at h
  · cases h
  cases h3 : arrOk ((ws.drop 1).take r.toNat) (ws.drop (1 + r.toNat)) <;> rw [h3] at h <;> simp only [cond_true, cond_false] at h
  · cases h
  cases h; exact h3
theorem optR_of {o : Option (List Int × List Int)} (h : ∀ s d, o = some (s, d) → arrOk s d = true) : ∃ s d ok, s.length ≤ 3 ∧ d.length ≤ 300 ∧ ∀ R, optR o R = R s d ok := by
  cases ho : o with
  | none => exact ⟨[], [], false, by simp, by simp, fun R => rfl⟩
  | some p =>
    obtain ⟨s, d⟩ := p
    obtain ⟨g1, g2, g3, g4, _⟩ := arrOk_facts (h s d ho)
    exact ⟨s, d, true, g1, g3, fun R => rfl⟩
theorem ints_ok {a : List Int} (h : wfQ [.int .i64] (.ints a)) : ∀ x ∈ a, -9223372036854775808 ≤ x ∧ x ≤ 9223372036854775807 := by
  intro x hx
  obtain ⟨i, hi, rfl⟩ := List.mem_iff_getElem.1 hx
  obtain ⟨c, h1, h2⟩ := h.2 i 0 (.int .i64) hi rfl
  simp only [Sq.get, List.getElem?_cons_zero, Option.some.injEq] at h1
  subst h1
  rw [List.getD_eq_getElem?_getD, List.getElem?_eq_getElem hi] at h2
  simp [Lit.wf, IntKind.min, IntKind.max, IntKind.bits, IntKind.signed, wfCl] at h2
  omega

theorem lawFnExactHeapGet (w : List Int) (t : Int) (c : List (List Cl)) (i : Int) (hw : wfQ [.int .i64] (.ints w)) (ht : (Lit.int .i64 t).wf = true) (hc : wfQ [.int .i64, .int .i64, .bool] (.cells c)) (hi : (Lit.int .i64 i).wf = true) (R : Bool → Option Res) : laws_FnExactHeapGet.g w t c i R = R true := by
  obtain ⟨y, hy, hsz⟩ := szHeap w t c hw.1 hc.1
  simp only [laws_FnExactHeapGet.e, laws_FnExactHeapGet.b, hsz]
  by_cases h0 : y < 0
  · simp [h0]
  obtain ⟨h1, h2⟩ := hy (by omega)
  have h2' : (c.map unC).length ≤ 1048576 := by simpa using h2
  simp only [h0, decide_false, cond_false, toHeap w t c h1 h2, heapGetS w t _ i h1 (ints_ok hw) h2', heapGetI w t _ i h1 (ints_ok hw) h2']
  obtain ⟨s, d, ok, g1, g2, hk⟩ := optR_of (o := heapGet w t (c.map unC) i) (fun s d h => heapGet_ok h)
  have e1 : decide ((1 : Int) + (w.length : Int) + 3 * ((c.map unC).length : Int) < 0) = false := by simp; omega
  have e2 : decide ((1 : Int) + (s.length : Int) + (d.length : Int) < 0) = false := by simp; omega
  simp only [hk, eqArray s d (by omega) (by omega), eqHeap w t _ h1 h2', markHeap 1 t w _ (by omega) h1 h2', markArray 1 s d (by omega) (by omega) (by omega), heldArray 1 s.length d.length (by omega) (by omega) (by omega), Bool.not_true, cond_false, bne_self_eq_false, e1, e2]

end Go.Tv.F
