/- The pure law about these functions. It holds without condition. -/
import Derived.Test.YtekpelppldgkeaaArrayPackF
set_option linter.unusedVariables false
set_option linter.unusedSimpArgs false
set_option linter.unnecessarySimpa false
set_option maxRecDepth 100000
set_option autoImplicit false
namespace Go.Tv.F
open Go Go.Tv
theorem toIntS (a : List Int) (h : a.length ≤ 1048576) (R : List Int → Option Res) : laws_toIntS.g a R = R a := by
  have e1 : decide (0 ≤ (a.length : Int)) = true := by simp
  have e2 : decide ((a.length : Int) * 8 ≤ 140737488355328) = true := by simp; omega
  simp only [laws_toIntS.g, e1, e2, decide_true, Bool.and_self, cond_true]
  refine up0 (N := a.length) (P := fun n i => ∀ l : List Int, l.length = a.length → (∀ j, j < i → l[j]? = a[j]?) → laws_toIntS.l0 a R n (i : Int) l = R a) (by omega) ?_ ?_ 0 (by omega) _ (by simp) (fun j hj => by omega)
  · intro n l hl hp
    simp only [laws_toIntS.l0, laws_toIntS.l0s, ixe, cond_false]
    rw [list_eq hl (fun j hj => hp j (by omega))]
  · intro n i hi ih l hl hp
    have hi2 : decide ((i : Int) < (l.length : Int)) = true := by simp; omega
    simp only [laws_toIntS.l0, laws_toIntS.l0s, ixl hi, ix0, hi2, Bool.and_self, cond_true, ixw (by omega : i < 9223372036854775807), Int.toNat_natCast]
    exact ih _ (by simp [hl]) (set_pre hl hi (getD_lt 0 hi) hp)

theorem eqIntS (a : List Int) (h : a.length ≤ 9223372036854775807) (R : Bool → Option Res) : laws_eqIntS.g a a R = R true := by
  simp only [laws_eqIntS.g, bne_self_eq_false, cond_false]
  refine up0 (N := a.length) (P := fun n i => laws_eqIntS.l0 a a (R true) R n (i : Int) = R true) (by omega) ?_ ?_ 0 (by omega)
  · intro n; simp only [laws_eqIntS.l0, laws_eqIntS.l0s, ixe, cond_false]
  · intro n i hi ih
    simp only [laws_eqIntS.l0, laws_eqIntS.l0s, ixl hi, ix0, Bool.and_self, cond_true, bne_self_eq_false, cond_false, ixw (by omega : i < 9223372036854775807)]
    exact ih
theorem eqByteS (a : List Int) (h : a.length ≤ 9223372036854775807) (R : Bool → Option Res) : laws_eqByteS.g a a R = R true := by
  simp only [laws_eqByteS.g, bne_self_eq_false, cond_false]
  refine up0 (N := a.length) (P := fun n i => laws_eqByteS.l0 a a (R true) R n (i : Int) = R true) (by omega) ?_ ?_ 0 (by omega)
  · intro n; simp only [laws_eqByteS.l0, laws_eqByteS.l0s, ixe, cond_false]
  · intro n i hi ih
    simp only [laws_eqByteS.l0, laws_eqByteS.l0s, ixl hi, ix0, Bool.and_self, cond_true, bne_self_eq_false, cond_false, ixw (by omega : i < 9223372036854775807)]
    exact ih
theorem eqArray (a b : List Int) (h : a.length ≤ 9223372036854775807) (h2 : b.length ≤ 9223372036854775807) (R : Bool → Option Res) : laws_eqArray.g a b a b R = R true := by
  simp only [laws_eqArray.g, eqIntS a h, eqIntS b h2, Bool.not_true, cond_false]

theorem markIntS (y : Int) (a : List Int) (hy : 0 ≤ y ∧ y ≤ 4611686018427387904) (h : a.length ≤ 4611686018427387903) (R : Int → List Int → Option Res) : laws_markIntS.g y a R = R (y + a.length) (cnt (fun x => x) y a.length) := by
  simp only [laws_markIntS.g]
  have := up0 (N := a.length) (P := fun n i => ∀ l : List Int, l.length = a.length → (∀ j, j < i → l[j]? = (cnt (fun x => x) y a.length)[j]?) → laws_markIntS.l0 R n (y + (i : Int)) (i : Int) l = R (y + a.length) (cnt (fun x => x) y a.length)) (by omega) ?_ ?_ 0 (by omega) a rfl (fun j hj => by omega)
  · simpa using this
  · intro n l hl hp
    have e : decide ((a.length : Int) < (l.length : Int)) = false := by simp; omega
    simp only [laws_markIntS.l0, laws_markIntS.l0s, e, cond_false]
    rw [list_eq (a := l) (by rw [hl, cnt_length]) (fun j hj => hp j (by omega))]
  · intro n i hi ih l hl hp
    have hi2 : decide ((i : Int) < (l.length : Int)) = true := by simp; omega
    have hw : IntKind.i64.wrap (y + (i : Int) + 1) = y + ((i + 1 : Nat) : Int) := by rw [w64 (by omega)]; omega
    simp only [laws_markIntS.l0, laws_markIntS.l0s, ix0, hi2, Bool.and_self, cond_true, ixw (by omega : i < 9223372036854775807), Int.toNat_natCast, hw]
    exact ih _ (by simp [hl]) (set_pre (by rw [hl, cnt_length]) (by rw [cnt_length]; exact hi) (cnt_get _ _ _ _ hi) hp)
theorem markByteS (y : Int) (a : List Int) (hy : 0 ≤ y ∧ y ≤ 4611686018427387904) (h : a.length ≤ 4611686018427387903) (R : Int → List Int → Option Res) : laws_markByteS.g y a R = R (y + a.length) (cnt IntKind.u8.wrap y a.length) := by
  simp only [laws_markByteS.g]
  have := up0 (N := a.length) (P := fun n i => ∀ l : List Int, l.length = a.length → (∀ j, j < i → l[j]? = (cnt IntKind.u8.wrap y a.length)[j]?) → laws_markByteS.l0 R n (y + (i : Int)) (i : Int) l = R (y + a.length) (cnt IntKind.u8.wrap y a.length)) (by omega) ?_ ?_ 0 (by omega) a rfl (fun j hj => by omega)
  · simpa using this
  · intro n l hl hp
    have e : decide ((a.length : Int) < (l.length : Int)) = false := by simp; omega
    simp only [laws_markByteS.l0, laws_markByteS.l0s, e, cond_false]
    rw [list_eq (a := l) (by rw [hl, cnt_length]) (fun j hj => hp j (by omega))]
  · intro n i hi ih l hl hp
    have hi2 : decide ((i : Int) < (l.length : Int)) = true := by simp; omega
    have hw : IntKind.i64.wrap (y + (i : Int) + 1) = y + ((i + 1 : Nat) : Int) := by rw [w64 (by omega)]; omega
    simp only [laws_markByteS.l0, laws_markByteS.l0s, ix0, hi2, Bool.and_self, cond_true, ixw (by omega : i < 9223372036854775807), Int.toNat_natCast, hw]
    exact ih _ (by simp [hl]) (set_pre (by rw [hl, cnt_length]) (by rw [cnt_length]; exact hi) (cnt_get _ _ _ _ hi) hp)
theorem heldByteS (y : Int) (m : Nat) (hy : 0 ≤ y ∧ y ≤ 4611686018427387904) (h : m ≤ 4611686018427387903) (R : Int → Option Res) : laws_heldByteS.g (cnt IntKind.u8.wrap y m) y R = R (y + m) := by
  simp only [laws_heldByteS.g]
  have := up0 (N := m) (P := fun n i => laws_heldByteS.l0 (cnt IntKind.u8.wrap y m) R R n (y + (i : Int)) (i : Int) = R (y + m)) (by omega) ?_ ?_ 0 (by omega)
  · simpa using this
  · intro n
    simp only [laws_heldByteS.l0, laws_heldByteS.l0s, cnt_length, ixe, cond_false]
  · intro n i hi ih
    have hw : IntKind.i64.wrap (y + (i : Int) + 1) = y + ((i + 1 : Nat) : Int) := by rw [w64 (by omega)]; omega
    simp only [laws_heldByteS.l0, laws_heldByteS.l0s, cnt_length, ixl hi, ix0, Bool.and_self, cond_true, ixw (by omega : i < 9223372036854775807), Int.toNat_natCast, hw, getD_of (cnt_get IntKind.u8.wrap m y i hi), bne_self_eq_false, cond_false]
    exact ih
theorem markArray (y : Int) (a b : List Int) (hy : 0 ≤ y ∧ y ≤ 1152921504606846976) (h : a.length ≤ 1152921504606846976) (h2 : b.length ≤ 1152921504606846976) (R : Int → List Int → List Int → Option Res) : laws_markArray.g y a b R = R (y + a.length + b.length) (cnt (fun x => x) y a.length) (cnt (fun x => x) (y + a.length) b.length) := by
  simp only [laws_markArray.g]
  rw [markIntS y a (by omega) (by omega), markIntS _ b (by omega) (by omega)]

theorem szIntS (a : List Int) (n : Int) (hn : 0 ≤ n ∧ n ≤ 1048576) (h : a.length ≤ maxLen) (R : Int → Option Res) : laws_szIntS.g a n R = R (if (a.length : Int) ≤ n then n - a.length else -1) := by
  have hm : maxLen = 9223372036854775807 := by decide
  simp only [laws_szIntS.g]
  rw [w64 (by omega)]
  by_cases h1 : n - (a.length : Int) < 0
  · rw [if_neg (by omega)]; simp [h1]
  · rw [if_pos (by omega)]; simp [h1]
theorem szArray (a b : List Int) (ha : a.length ≤ maxLen) (hb : b.length ≤ maxLen) : ∃ y : Int, (0 ≤ y → a.length ≤ 1048576 ∧ b.length ≤ 1048576) ∧ ∀ R, laws_szArray.g a b 1048576 R = R y := by
  simp only [laws_szArray.g]
  by_cases h1 : (a.length : Int) ≤ 1048576
  · by_cases h2 : (b.length : Int) ≤ 1048576 - a.length
    · refine ⟨1048576 - a.length - b.length, by omega, fun R => ?_⟩
      rw [szIntS a 1048576 (by omega) ha, if_pos h1]
      simp only [show decide ((1048576 : Int) - a.length < 0) = false by simp; omega, cond_false]
      rw [szIntS b _ (by omega) hb, if_pos h2]
      simp only [show decide ((1048576 : Int) - a.length - b.length < 0) = false by simp; omega, cond_false]
    · refine ⟨-1, by omega, fun R => ?_⟩
      rw [szIntS a 1048576 (by omega) ha, if_pos h1]
      simp only [show decide ((1048576 : Int) - a.length < 0) = false by simp; omega, cond_false]
      rw [szIntS b _ (by omega) hb, if_neg h2]
      rfl
  · refine ⟨-1, by omega, fun R => ?_⟩
    rw [szIntS a 1048576 (by omega) ha, if_neg h1]; rfl
theorem toArray (a b : List Int) (ha : a.length ≤ 1048576) (hb : b.length ≤ 1048576) (R : List Int → List Int → Option Res) : laws_toArray.g a b R = R a b := by
  simp only [laws_toArray.g, toIntS a ha, toIntS b hb]

def numOk (x : Int) : Bool := decide (-1000000000000 ≤ x) && decide (x ≤ 1000000000000)
theorem within (x a b : Int) (R : Bool → Option Res) : impl_within.g x a b R = R (decide (a ≤ x) && decide (x ≤ b)) := by
  simp only [impl_within.g]; cases decide (a ≤ x) <;> rfl
theorem l1In (x a b : Int) (R : Bool → Option Res) : spec_l1In.g x a b R = R (decide (a ≤ x) && decide (x ≤ b)) := by
  simp only [spec_l1In.g]; cases decide (a ≤ x) <;> rfl
theorem numOkI (x : Int) (R : Bool → Option Res) : impl_NumOk.g x R = R (numOk x) := by simp only [impl_NumOk.g, within, numOk]
theorem numOkS (x : Int) (R : Bool → Option Res) : spec_NumOk.g x R = R (numOk x) := by simp only [spec_NumOk.g, l1In, numOk]

def dimOk (x : Int) : Bool := decide (0 ≤ x) && decide (x ≤ 300)
def prod : List Int → Int := List.foldr (· * ·) 1
def sizeOf (s : List Int) : Int := bif decide (s.length ≤ 3) && s.all dimOk && decide (prod s ≤ 300) then prod s else -1

theorem prod_cons (a : Int) (l : List Int) : prod (a :: l) = a * prod l := rfl

theorem sizeOfI (s : List Int) (R : Int → Option Res) : impl_SizeOf.g s R = R (sizeOf s) := by
  simp only [impl_SizeOf.g]
  by_cases h : (3 : Int) < (s.length : Int)
  · have e : decide (s.length ≤ 3) = false := by simp; omega
    simp only [h, decide_true, cond_true, sizeOf, e, Bool.false_and, cond_false]
  have e : decide (s.length ≤ 3) = true := by simp; omega
  have loop : impl_SizeOf.l0 s (s.length : Int) (fun y7 => bif decide (300 < y7) then R (-1) else R y7) R fuel 1 0 = (bif s.all dimOk then (bif decide (300 < prod s) then R (-1) else R (prod s)) else R (-1)) := by
    have := up0 (N := s.length) (P := fun n i => ∀ acc : Int, 0 ≤ acc → acc ≤ 300 ^ i → impl_SizeOf.l0 s (s.length : Int) (fun y7 => bif decide (300 < y7) then R (-1) else R y7) R n acc (i : Int) = (bif (s.drop i).all dimOk then (bif decide (300 < acc * prod (s.drop i)) then R (-1) else R (acc * prod (s.drop i))) else R (-1))) (by omega) ?_ ?_ 0 (by omega) 1 (by omega) (by omega)
    · simpa using this
    · intro n acc _ _
      simp only [impl_SizeOf.l0, impl_SizeOf.l0s, ixe, cond_false, List.drop_length, List.all_nil, cond_true, prod, List.foldr_nil, Int.mul_one]
    · intro n i hi ih acc h0 h1
      have hb : (300 : Int) ^ i ≤ 300 ^ 2 := by
        have : i = 0 ∨ i = 1 ∨ i = 2 := by omega
        rcases this with rfl | rfl | rfl <;> decide
      simp only [impl_SizeOf.l0, impl_SizeOf.l0s, ixl hi, ix0, Bool.and_self, cond_true, within, ixw (by omega : i < 9223372036854775807), Int.toNat_natCast]
      rw [drop_cons 0 hi]
      generalize s.getD i 0 = d
      rw [List.all_cons, prod_cons]
      by_cases hd : dimOk d = true
      · have hd' := hd
        simp only [dimOk, Bool.and_eq_true, decide_eq_true_eq] at hd'
        have hm : acc * d ≤ 300 ^ 2 * 300 := Int.mul_le_mul (by omega) hd'.2 hd'.1 (by decide)
        have hm0 : 0 ≤ acc * d := Int.mul_nonneg h0 hd'.1
        rw [show (decide (0 ≤ d) && decide (d ≤ 300)) = true from hd, hd, w64 (by omega)]
        simp only [Bool.not_true, cond_false, Bool.true_and]
        rw [ih (acc * d) hm0 (by rw [Int.pow_succ]; exact Int.mul_le_mul h1 hd'.2 hd'.1 (by exact Int.pow_nonneg (by omega))), Int.mul_assoc]
      · have hd : dimOk d = false := by simpa using hd
        rw [show (decide (0 ≤ d) && decide (d ≤ 300)) = false from hd, hd]
        simp
  rw [loop]
  simp only [h, decide_false, cond_false, sizeOf, e, Bool.true_and]
  cases hA : s.all dimOk with
  | false => simp
  | true =>
    by_cases h3 : 300 < prod s
    · have : decide (prod s ≤ 300) = false := by simp; omega
      simp [h3, this]
    · have : decide (prod s ≤ 300) = true := by simp; omega
      simp [h3, this]

theorem sizeOfS (s : List Int) (R : Int → Option Res) : spec_SizeOf.g s R = R (sizeOf s) := by
  simp only [spec_SizeOf.g]
  by_cases h : (3 : Int) < (s.length : Int)
  · have e : decide (s.length ≤ 3) = false := by simp; omega
    simp only [h, decide_true, cond_true, sizeOf, e, Bool.false_and, cond_false]
  have e : decide (s.length ≤ 3) = true := by simp; omega
  have loop2 : s.all dimOk = true → ∀ z k, spec_SizeOf.l2 s z k fuel 1 0 = k (prod s) := by
    intro hA z k
    have := up0 (N := s.length) (P := fun n i => ∀ acc : Int, 0 ≤ acc → acc ≤ 300 ^ i → (s.drop i).all dimOk = true → spec_SizeOf.l2 s z k n acc (i : Int) = k (acc * prod (s.drop i))) (by omega) ?_ ?_ 0 (by omega) 1 (by omega) (by omega) (by simpa using hA)
    · simpa using this
    · intro n acc _ _ _
      simp only [spec_SizeOf.l2, spec_SizeOf.l2s, ixe, cond_false, List.drop_length, prod, List.foldr_nil, Int.mul_one]
    · intro n i hi ih acc h0 h1 ha
      have hb : (300 : Int) ^ i ≤ 300 ^ 2 := by
        have : i = 0 ∨ i = 1 ∨ i = 2 := by omega
        rcases this with rfl | rfl | rfl <;> decide
      simp only [spec_SizeOf.l2, spec_SizeOf.l2s, ixl hi, ix0, Bool.and_self, cond_true, ixw (by omega : i < 9223372036854775807), Int.toNat_natCast]
      rw [drop_cons 0 hi] at ha ⊢
      revert ha
      generalize s.getD i 0 = d
      intro ha
      rw [prod_cons]
      simp only [List.all_cons, Bool.and_eq_true, dimOk, decide_eq_true_eq] at ha
      have hm : acc * d ≤ 300 ^ 2 * 300 := Int.mul_le_mul (by omega) ha.1.2 ha.1.1 (by decide)
      have hm0 : 0 ≤ acc * d := Int.mul_nonneg h0 ha.1.1
      rw [w64 (by omega), ih (acc * d) hm0 (by rw [Int.pow_succ]; exact Int.mul_le_mul h1 ha.1.2 ha.1.1 (by exact Int.pow_nonneg (by omega))) (by simpa [dimOk] using ha.2), Int.mul_assoc]
  have loop : ∀ k, spec_SizeOf.l0 s k R fuel false 0 = (bif s.all dimOk then k (s.any (· == 0)) else R (-1)) := by
    intro k
    have := up0 (N := s.length) (P := fun n i => ∀ z : Bool, spec_SizeOf.l0 s k R n z (i : Int) = (bif (s.drop i).all dimOk then k (z || (s.drop i).any (· == 0)) else R (-1))) (by omega) ?_ ?_ 0 (by omega) false
    · simpa using this
    · intro n z
      simp only [spec_SizeOf.l0, spec_SizeOf.l0s, ixe, cond_false, List.drop_length, List.all_nil, cond_true, List.any_nil, Bool.or_false]
    · intro n i hi ih z
      simp only [spec_SizeOf.l0, spec_SizeOf.l0s, ixl hi, ix0, Bool.and_self, cond_true, l1In, ixw (by omega : i < 9223372036854775807), Int.toNat_natCast]
      rw [drop_cons 0 hi]
      generalize s.getD i 0 = d
      rw [List.all_cons, List.any_cons]
      cases hd : dimOk d with
      | true =>
        rw [show (decide (0 ≤ d) && decide (d ≤ 300)) = true from hd]
        cases z with
        | true => simp only [Bool.not_true, cond_false, cond_true, ih, Bool.true_or, Bool.true_and]
        | false => simp only [Bool.not_true, cond_false, ih, Bool.false_or, Bool.true_and]
      | false =>
        rw [show (decide (0 ≤ d) && decide (d ≤ 300)) = false from hd]
        simp
  simp only [h, decide_false, cond_false, loop, sizeOf, e, Bool.true_and]
  cases hA : s.all dimOk with
  | false => simp
  | true =>
    simp only [cond_true, loop2 hA, Bool.true_and]
    by_cases h3 : 300 < prod s
    · have h4 : decide (prod s ≤ 300) = false := by simp; omega
      have hz : s.any (· == 0) = false := by
        cases hz : s.any (· == 0) with
        | false => rfl
        | true =>
          exfalso
          have : ∀ l : List Int, l.any (· == 0) = true → prod l = 0 := by
            intro l
            induction l with
            | nil => intro h; simp at h
            | cons a l ih =>
              intro h
              simp only [List.any_cons, Bool.or_eq_true, beq_iff_eq] at h
              rw [prod_cons]
              rcases h with rfl | h
              · simp
              · rw [ih h]; simp
          rw [this s hz] at h3
          omega
      simp [h3, h4, hz]
    · have : decide (prod s ≤ 300) = true := by simp; omega
      simp [h3, this]

def arrOk (s d : List Int) : Bool := decide ((d.length : Int) = sizeOf s) && d.all numOk
theorem sizeOf_le (s : List Int) : sizeOf s ≤ 300 := by
  simp only [sizeOf]
  cases h : decide (s.length ≤ 3) && s.all dimOk && decide (prod s ≤ 300) with
  | false => simp
  | true => simp only [Bool.and_eq_true, decide_eq_true_eq] at h; simpa using h.2
theorem arrOk_facts {s d : List Int} (h : arrOk s d = true) : s.length ≤ 3 ∧ s.all dimOk = true ∧ d.length ≤ 300 ∧ d.all numOk = true ∧ (d.length : Int) = prod s := by
  simp only [arrOk, Bool.and_eq_true, decide_eq_true_eq] at h
  have h0 := sizeOf_le s
  obtain ⟨h1, h2⟩ := h
  rw [sizeOf] at h1
  cases h3 : decide (s.length ≤ 3) && s.all dimOk && decide (prod s ≤ 300) with
  | false => rw [h3] at h1; simp at h1
  | true =>
    rw [h3] at h1
    simp only [Bool.and_eq_true, decide_eq_true_eq] at h3
    simp only [cond_true] at h1
    exact ⟨h3.1.1, h3.1.2, by omega, h2, h1⟩

/-- the first place from i on at which something holds; -1: none -/
def idx {α : Type} (f : α → Bool) : List α → Int → Int
  | [], _ => -1
  | x :: l, i => bif f x then i else idx f l (i + 1)
theorem idx_any {α : Type} (f : α → Bool) (l : List α) : ∀ i : Int, 0 ≤ i → decide (0 ≤ idx f l i) = l.any f := by
  induction l with
  | nil => intro i _; rfl
  | cons x l ih =>
    intro i hi
    cases hf : f x with
    | true => simp [idx, hf, hi]
    | false => simpa [idx, hf] using ih (i + 1) (by omega)

theorem arrayOkI_1 (x : Int) (R : Bool → Option Res) : impl_ArrayOk_1.g x R = R (!numOk x) := by simp only [impl_ArrayOk_1.g, numOkI]
theorem arrayOkI_idx (d : List Int) (h : d.length ≤ 9223372036854775807) (R : Int → Option Res) : slices_IndexFunc_int_int.g d R = R (idx (fun x => !numOk x) d 0) := by
  simp only [slices_IndexFunc_int_int.g]
  have := up0 (N := d.length) (P := fun n i => slices_IndexFunc_int_int.l0 d (d.length : Int) (R (-1)) R n (i : Int) = R (idx (fun x => !numOk x) (d.drop i) i)) (by omega) ?_ ?_ 0 (by omega)
  · simpa using this
  · intro n; simp only [slices_IndexFunc_int_int.l0, slices_IndexFunc_int_int.l0s, ixe, cond_false, List.drop_length, idx]
  · intro n i hi ih
    simp only [slices_IndexFunc_int_int.l0, slices_IndexFunc_int_int.l0s, ixl hi, ix0, Bool.and_self, cond_true, arrayOkI_1, ixw (by omega : i < 9223372036854775807), Int.toNat_natCast]
    rw [drop_cons 0 hi, idx]
    cases numOk (d.getD i 0) with
    | true => exact ih
    | false => rfl
theorem arrayOkI (s d : List Int) (h : d.length ≤ 9223372036854775807) (R : Bool → Option Res) : impl_ArrayOk.g s d R = R (arrOk s d) := by
  simp only [impl_ArrayOk.g, sizeOfI, slices_ContainsFunc_int_int.g, arrayOkI_idx d h, idx_any _ _ _ (Int.le_refl 0), arrOk]
  by_cases h1 : (d.length : Int) = sizeOf s
  · simp only [h1, beq_self_eq_true, cond_true, decide_true, Bool.true_and]
    congr 1
    rw [List.any_eq_not_all_not]; simp
  · have : ((d.length : Int) == sizeOf s) = false := by simpa using h1
    simp only [this, h1, cond_false, decide_false, Bool.false_and]
theorem arrayOkS (s d : List Int) (h : d.length ≤ 9223372036854775807) (R : Bool → Option Res) : spec_ArrayOk.g s d R = R (arrOk s d) := by
  simp only [spec_ArrayOk.g, sizeOfS, arrOk]
  have loop : spec_ArrayOk.l0 s d (R true) R fuel 0 = R (d.all numOk) := by
    have := up0 (N := d.length) (P := fun n i => spec_ArrayOk.l0 s d (R true) R n (i : Int) = R ((d.drop i).all numOk)) (by omega) ?_ ?_ 0 (by omega)
    · simpa using this
    · intro n; simp only [spec_ArrayOk.l0, spec_ArrayOk.l0s, ixe, cond_false, List.drop_length, List.all_nil]
    · intro n i hi ih
      simp only [spec_ArrayOk.l0, spec_ArrayOk.l0s, ixl hi, ix0, Bool.and_self, cond_true, numOkS, ixw (by omega : i < 9223372036854775807), Int.toNat_natCast]
      rw [drop_cons 0 hi, List.all_cons]
      cases numOk (d.getD i 0) with
      | true => exact ih
      | false => rfl
  by_cases h1 : (d.length : Int) = sizeOf s
  · rw [h1]; simp only [bne_self_eq_false, cond_false, loop, decide_true, Bool.true_and]
  · have : (sizeOf s != (d.length : Int)) = true := by simp; omega
    simp only [this, cond_true, h1, decide_false, Bool.false_and]

/-- bytes of a number from a place on -/
def b8 (x : Int) (i : Nat) : Nat → List Int
  | 0 => []
  | k + 1 => IntKind.u8.wrap (x.fdiv (2 ^ (8 * i))) :: b8 x (i + 1) k
theorem b8_length (x : Int) (k : Nat) : ∀ i, (b8 x i k).length = k := by
  induction k with
  | zero => intro i; rfl
  | succ k ih => intro i; simp [b8, ih]
def numB (x : Int) : List Int := b8 (IntKind.i64.wrap (x + 1000000000000)) 0 8
def dimB (n : Int) : List Int := [IntKind.u8.wrap n, IntKind.u8.wrap (n.fdiv (2 ^ 8))]
def packB (s d : List Int) : List Int := [IntKind.u8.wrap (s.length : Int)] ++ s.flatMap dimB ++ d.flatMap numB
theorem numB_length (x : Int) : (numB x).length = 8 := b8_length _ _ _
theorem flat_length {α : Type} (f : Int → List α) (c : Nat) (h : ∀ x, (f x).length = c) (l : List Int) : (l.flatMap f).length = c * l.length := by
  induction l with
  | nil => rfl
  | cons a l ih => simp only [List.flatMap_cons, List.length_append, h, ih, List.length_cons]; rw [Nat.mul_add]; omega
theorem packB_length (s d : List Int) : (packB s d).length = 1 + 2 * s.length + 8 * d.length := by
  simp only [packB, List.length_append, List.length_cons, List.length_nil, flat_length dimB 2 (fun _ => rfl), flat_length numB 8 numB_length]

theorem putNum (x : Int) (out : List Int) (h : out.length ≤ 100000000) (R : List Int → Option Res) : impl_putNum.g x out R = R (out ++ numB x) := by
  simp only [impl_putNum.g]
  have := up0 (N := 8) (P := fun n i => ∀ l : List Int, l.length ≤ 100000000 + i → impl_putNum.l0 (IntKind.i64.wrap (x + 1000000000000)) R n (i : Int) l = R (l ++ b8 (IntKind.i64.wrap (x + 1000000000000)) i (8 - i))) (by omega) ?_ ?_ 0 (by omega) out (by omega)
  · exact this
  · intro n l _
    simp only [impl_putNum.l0, impl_putNum.l0s, show decide (((8 : Nat) : Int) < 8) = false by decide, cond_false, Nat.sub_self, b8, List.append_nil]
  · intro n i hi ih l hl
    have e1 : decide ((i : Int) < 8) = true := by simp; omega
    have e2 : decide ((l.length + 1) * 1 ≤ 140737488355328) = true := by simp; omega
    have e3 : IntKind.i64.wrap (8 * (i : Int)) = ((8 * i : Nat) : Int) := by rw [w64 (by omega)]; omega
    have e4 : decide (((8 * i : Nat) : Int) < 0) = false := by simp; omega
    have e5 : min (8 * i) 64 = 8 * i := by omega
    simp only [impl_putNum.l0, impl_putNum.l0s, e1, e2, e3, e4, e5, Int.toNat_natCast, cond_true, cond_false, ixw (by omega : i < 9223372036854775807)]
    rw [ih _ (by simp; omega), show 8 - i = (8 - (i + 1)) + 1 by omega, b8]
    simp
theorem putNumS (x y : Int) (s d out : List Int) (h : out.length ≤ 100000000) (k : List Int → Option Res) : spec_ArrayPack.l4 y (IntKind.i64.wrap (x + 1000000000000)) s d k fuel 0 out = k (out ++ numB x) := by
  have := up0 (N := 8) (P := fun n i => ∀ l : List Int, l.length ≤ 100000000 + i → spec_ArrayPack.l4 y (IntKind.i64.wrap (x + 1000000000000)) s d k n (i : Int) l = k (l ++ b8 (IntKind.i64.wrap (x + 1000000000000)) i (8 - i))) (by omega) ?_ ?_ 0 (by omega) out (by omega)
  · exact this
  · intro n l _
    simp only [spec_ArrayPack.l4, spec_ArrayPack.l4s, show decide (((8 : Nat) : Int) < 8) = false by decide, cond_false, Nat.sub_self, b8, List.append_nil]
  · intro n i hi ih l hl
    have e1 : decide ((i : Int) < 8) = true := by simp; omega
    have e2 : decide ((l.length + 1) * 1 ≤ 140737488355328) = true := by simp; omega
    have e3 : IntKind.i64.wrap (8 * (i : Int)) = ((8 * i : Nat) : Int) := by rw [w64 (by omega)]; omega
    have e4 : decide (((8 * i : Nat) : Int) < 0) = false := by simp; omega
    have e5 : min (8 * i) 64 = 8 * i := by omega
    simp only [spec_ArrayPack.l4, spec_ArrayPack.l4s, e1, e2, e3, e4, e5, Int.toNat_natCast, cond_true, cond_false, ixw (by omega : i < 9223372036854775807)]
    rw [ih _ (by simp; omega), show 8 - i = (8 - (i + 1)) + 1 by omega, b8]
    simp

theorem arrayPackI (s d : List Int) (h : d.length ≤ 9223372036854775807) (R : List Int → Bool → Option Res) : impl_ArrayPack.g s d R = bif arrOk s d then R (packB s d) true else R [] false := by
  simp only [impl_ArrayPack.g, arrayOkI s d h]
  cases ha : arrOk s d with
  | false => rfl
  | true =>
    obtain ⟨h1, h2, h3, h4, _⟩ := arrOk_facts ha
    simp only [Bool.not_true, cond_false, cond_true]
    have hs : ∀ k, impl_ArrayPack.l0 s (s.length : Int) s d k fuel 0 [IntKind.u8.wrap (s.length : Int)] = k ([IntKind.u8.wrap (s.length : Int)] ++ s.flatMap dimB) := by
      intro k
      have := up0 (N := s.length) (P := fun n i => ∀ l : List Int, l.length ≤ 1 + 2 * i → impl_ArrayPack.l0 s (s.length : Int) s d k n (i : Int) l = k (l ++ (s.drop i).flatMap dimB)) (by omega) ?_ ?_ 0 (by omega) [IntKind.u8.wrap (s.length : Int)] (by simp)
      · simpa using this
      · intro n l _; simp only [impl_ArrayPack.l0, impl_ArrayPack.l0s, ixe, cond_false, List.drop_length, List.flatMap_nil, List.append_nil]
      · intro n i hi ih l hl
        have e : decide ((l.length + 2) * 1 ≤ 140737488355328) = true := by simp; omega
        simp only [impl_ArrayPack.l0, impl_ArrayPack.l0s, ixl hi, ix0, Bool.and_self, cond_true, e, ixw (by omega : i < 9223372036854775807), Int.toNat_natCast]
        rw [ih _ (by simp; omega), drop_cons 0 hi, List.flatMap_cons]
        simp [dimB]
    rw [hs]
    have hd : ∀ (k : List Int → Option Res) (o : List Int), o.length ≤ 7 → impl_ArrayPack.l2 d (d.length : Int) k fuel 0 o = k (o ++ d.flatMap numB) := by
      intro k o ho
      have := up0 (N := d.length) (P := fun n i => ∀ l : List Int, l.length ≤ 7 + 8 * i → impl_ArrayPack.l2 d (d.length : Int) k n (i : Int) l = k (l ++ (d.drop i).flatMap numB)) (by omega) ?_ ?_ 0 (by omega) o (by omega)
      · simpa using this
      · intro n l _; simp only [impl_ArrayPack.l2, impl_ArrayPack.l2s, ixe, cond_false, List.drop_length, List.flatMap_nil, List.append_nil]
      · intro n i hi ih l hl
        simp only [impl_ArrayPack.l2, impl_ArrayPack.l2s, ixl hi, ix0, Bool.and_self, cond_true, ixw (by omega : i < 9223372036854775807), Int.toNat_natCast]
        rw [putNum _ _ (by omega), ih _ (by simp [numB_length]; omega), drop_cons 0 hi, List.flatMap_cons, List.append_assoc]
    rw [hd _ _ (by rw [List.length_append, flat_length dimB 2 (fun _ => rfl)]; simp; omega)]
    rfl
theorem arrayPackS (s d : List Int) (h : d.length ≤ 9223372036854775807) (R : List Int → Bool → Option Res) : spec_ArrayPack.g s d R = bif arrOk s d then R (packB s d) true else R [] false := by
  simp only [spec_ArrayPack.g, arrayOkS s d h]
  cases ha : arrOk s d with
  | false => rfl
  | true =>
    obtain ⟨h1, h2, h3, h4, _⟩ := arrOk_facts ha
    simp only [Bool.not_true, cond_false, cond_true]
    have hs : ∀ k, spec_ArrayPack.l0 s d k fuel 0 [IntKind.u8.wrap (s.length : Int)] = k ([IntKind.u8.wrap (s.length : Int)] ++ s.flatMap dimB) := by
      intro k
      have := up0 (N := s.length) (P := fun n i => ∀ l : List Int, l.length ≤ 1 + 2 * i → (s.drop i).all dimOk = true → spec_ArrayPack.l0 s d k n (i : Int) l = k (l ++ (s.drop i).flatMap dimB)) (by omega) ?_ ?_ 0 (by omega) [IntKind.u8.wrap (s.length : Int)] (by simp) (by simpa using h2)
      · simpa using this
      · intro n l _ _; simp only [spec_ArrayPack.l0, spec_ArrayPack.l0s, ixe, cond_false, List.drop_length, List.flatMap_nil, List.append_nil]
      · intro n i hi ih l hl hA
        have e : decide ((l.length + 2) * 1 ≤ 140737488355328) = true := by simp; omega
        simp only [spec_ArrayPack.l0, spec_ArrayPack.l0s, ixl hi, ix0, Bool.and_self, cond_true, e, ixw (by omega : i < 9223372036854775807), Int.toNat_natCast]
        rw [drop_cons 0 hi, List.all_cons, Bool.and_eq_true] at hA
        rw [ih _ (by simp; omega) hA.2, drop_cons 0 hi, List.flatMap_cons]
        have hd := hA.1
        revert hd
        generalize s.getD i 0 = x
        intro hd
        simp only [dimOk, Bool.and_eq_true, decide_eq_true_eq] at hd
        have e1 : IntKind.u8.wrap (x.tmod 256) = IntKind.u8.wrap x := by
          rw [IntKind.wrap_u8, IntKind.wrap_u8, Int.tmod_eq_emod_of_nonneg hd.1]; omega
        have e2 : IntKind.u8.wrap (IntKind.i64.wrap (x.tdiv 256)) = IntKind.u8.wrap (x.fdiv (2 ^ 8)) := by
          rw [Int.tdiv_eq_ediv_of_nonneg hd.1, Int.fdiv_eq_ediv_of_nonneg _ (by decide), w64 (by omega)]; rfl
        simp [dimB, e1, e2]
    rw [hs]
    have hd : ∀ (k : List Int → Option Res) (o : List Int), o.length ≤ 7 → spec_ArrayPack.l2 s d k fuel 0 o = k (o ++ d.flatMap numB) := by
      intro k o ho
      have := up0 (N := d.length) (P := fun n i => ∀ l : List Int, l.length ≤ 7 + 8 * i → spec_ArrayPack.l2 s d k n (i : Int) l = k (l ++ (d.drop i).flatMap numB)) (by omega) ?_ ?_ 0 (by omega) o (by omega)
      · simpa using this
      · intro n l _; simp only [spec_ArrayPack.l2, spec_ArrayPack.l2s, ixe, cond_false, List.drop_length, List.flatMap_nil, List.append_nil]
      · intro n i hi ih l hl
        simp only [spec_ArrayPack.l2, spec_ArrayPack.l2s, ixl hi, ix0, Bool.and_self, cond_true, ixw (by omega : i < 9223372036854775807), Int.toNat_natCast]
        rw [putNumS _ _ _ _ _ (by omega), ih _ (by simp [numB_length]; omega), drop_cons 0 hi, List.flatMap_cons, List.append_assoc]
    rw [hd _ _ (by rw [List.length_append, flat_length dimB 2 (fun _ => rfl)]; simp; omega)]
    rfl

theorem lawArrayPack (s d : List Int) (hs : wfQ [.int .i64] (.ints s)) (hd : wfQ [.int .i64] (.ints d)) (R : Bool → Option Res) : laws_FnExactArrayPack.g s d R = R true := by
  obtain ⟨y, hy, hsz⟩ := szArray s d hs.1 hd.1
  simp only [laws_FnExactArrayPack.g, hsz]
  by_cases h0 : y < 0
  · simp [h0]
  obtain ⟨h1, h2⟩ := hy (by omega)
  simp only [h0, decide_false, cond_false, toArray s d h1 h2, arrayPackI s d (by omega), arrayPackS s d (by omega)]
  have e1 : decide ((1 : Int) + s.length + d.length < 0) = false := by simp; omega
  cases h : arrOk s d with
  | false =>
    have e2 : decide ((1 : Int) + (([] : List Int).length : Int) < 0) = false := by decide
    simp only [cond_false, eqByteS [] (by simp), toArray s d h1 h2, eqArray s d (by omega) (by omega), markArray 1 s d (by omega) (by omega) (by omega), markByteS 1 [] (by omega) (by simp), heldByteS 1 ([] : List Int).length (by omega) (by simp), Bool.not_true, bne_self_eq_false, e1, e2, arrayPackI s d (by omega), h]
  | true =>
    obtain ⟨g1, g2, g3, g4, _⟩ := arrOk_facts h
    have hl := packB_length s d
    have e2 : decide ((1 : Int) + ((packB s d).length : Int) < 0) = false := by simp; omega
    simp only [cond_true, cond_false, eqByteS (packB s d) (by omega), toArray s d h1 h2, eqArray s d (by omega) (by omega), markArray 1 s d (by omega) (by omega) (by omega), markByteS 1 (packB s d) (by omega) (by omega), heldByteS 1 (packB s d).length (by omega) (by omega), Bool.not_true, bne_self_eq_false, e1, e2, arrayPackI s d (by omega), h]

end Go.Tv.F
