/- The pure law about these functions. It holds without condition. -/
import Derived.Test.YtbocgpagaacpoaaExactArrayReadF
set_option linter.unusedVariables false
set_option linter.unusedSimpArgs false
set_option linter.unnecessarySimpa false
set_option maxRecDepth 100000
set_option autoImplicit false
namespace Go.Tv.F
open Go Go.Tv
theorem eqIntS (a : List Int) (h : a.length ≤ 9223372036854775807) (R : Bool → Option Res) : laws_eqIntS.g a a R = R true := by
  simp only [laws_eqIntS.e, laws_eqIntS.b, bne_self_eq_false, cond_false]
  refine up0 (N := a.length) (P := fun n i => laws_eqIntS.l0 a a (R true) R n (i : Int) = R true) (by omega) ?_ ?_ 0 (by omega)
  · intro n; simp only [laws_eqIntS.l0, laws_eqIntS.l0s, ixe, cond_false]
  · intro n i hi ih
    simp only [laws_eqIntS.l0, laws_eqIntS.l0s, ixl hi, ix0, Bool.and_self, cond_true, bne_self_eq_false, cond_false, ixw (by omega : i < 9223372036854775807)]
    exact ih
theorem markIntS (y : Int) (a : List Int) (hy : 0 ≤ y ∧ y ≤ 4611686018427387904) (h : a.length ≤ 4611686018427387903) (R : Int → List Int → Option Res) : laws_markIntS.g y a R = R (y + a.length) (cnt (fun x => x) y a.length) := by
  simp only [laws_markIntS.e, laws_markIntS.b]
  have := up0 (N := a.length) (P := fun n i => ∀ l : List Int, l.length = a.length → (∀ j, j < i → l[j]? = (cnt (fun x => x) y a.length)[j]?) → laws_markIntS.l0 R n (y + (i : Int)) (i : Int) l = R (y + a.length) (cnt (fun x => x) y a.length)) (by omega) ?_ ?_ 0 (by omega) a rfl (fun j hj => by omega)
  · simpa using this
  · intro n l hl hp
    have e : decide ((a.length : Int) < (l.length : Int)) = false := by simp; omega
    simp only [laws_markIntS.l0, laws_markIntS.l0s, e, cond_false]
    rw [list_eq (a := l) (by rw [hl, cnt_length]) (fun j hj => hp j (by omega))]
  · intro n i hi ih l hl hp
    have hi2 : decide ((i : Int) < (l.length : Int)) = true := by simp; omega
    have hw : IntKind.i64.wrap (y + (i : Int) + 1) = y + ((i + 1 : Nat) : Int) := by rw [w64 (by omega)]; omega
    simp only [laws_markIntS.l0, laws_markIntS.l0s, ix0, hi2, Bool.and_self, cond_true, ixw (by omega : i < 9223372036854775807), Int.toNat_natCast, hw]
    exact ih _ (by simp [hl]) (set_pre (by rw [hl, cnt_length]) (by rw [cnt_length]; exact hi) (cnt_get _ _ _ _ hi) hp)
def numOk (x : Int) : Bool := decide (-1000000000000 ≤ x) && decide (x ≤ 1000000000000)
theorem within (x a b : Int) (R : Bool → Option Res) : impl_within.g x a b R = R (decide (a ≤ x) && decide (x ≤ b)) := by
  simp only [impl_within.e, impl_within.b]; cases decide (a ≤ x) <;> rfl
theorem l1In (x a b : Int) (R : Bool → Option Res) : spec_l1In.g x a b R = R (decide (a ≤ x) && decide (x ≤ b)) := by
  simp only [spec_l1In.e, spec_l1In.b]; cases decide (a ≤ x) <;> rfl
theorem numOkI (x : Int) (R : Bool → Option Res) : impl_NumOk.g x R = R (numOk x) := by simp only [impl_NumOk.e, impl_NumOk.b, within, numOk]
theorem numOkS (x : Int) (R : Bool → Option Res) : spec_NumOk.g x R = R (numOk x) := by simp only [spec_NumOk.e, spec_NumOk.b, l1In, numOk]

def dimOk (x : Int) : Bool := decide (0 ≤ x) && decide (x ≤ 300)
def prod : List Int → Int := List.foldr (· * ·) 1
def sizeOf (s : List Int) : Int := bif decide (s.length ≤ 3) && s.all dimOk && decide (prod s ≤ 300) then prod s else -1

theorem prod_le (l : List Int) (h : l.all dimOk = true) : 0 ≤ prod l ∧ prod l ≤ 300 ^ l.length := by
  induction l with
  | nil => simp [prod]
  | cons a l ih =>
    simp only [List.all_cons, Bool.and_eq_true, dimOk, decide_eq_true_eq] at h
    obtain ⟨i1, i2⟩ := ih h.2
    simp only [prod, List.foldr_cons, List.length_cons] at i1 i2 ⊢
    refine ⟨Int.mul_nonneg h.1.1 i1, ?_⟩
    rw [Int.pow_succ, Int.mul_comm (300 ^ l.length)]
    exact Int.mul_le_mul h.1.2 i2 i1 (by omega)
theorem prod_cons (a : Int) (l : List Int) : prod (a :: l) = a * prod l := rfl

theorem sizeOfI (s : List Int) (R : Int → Option Res) : impl_SizeOf.g s R = R (sizeOf s) := by
  simp only [impl_SizeOf.e, impl_SizeOf.b]
  by_cases h : (3 : Int) < (s.length : Int)
  · have e : decide (s.length ≤ 3) = false := by simp; omega
    simp only [h, decide_true, cond_true, sizeOf, e, Bool.false_and, cond_false]
  have e : decide (s.length ≤ 3) = true := by simp; omega
  have loop : impl_SizeOf.l0 s (s.length : Int) (fun y7 => bif decide (300 < y7) then R (-1) else R y7) R fuel 1 0 = (bif s.all dimOk then (bif decide (300 < prod s) then R (-1) else R (prod s)) else R (-1)) := by
    have := up0 (N := s.length) (P := fun n i => ∀ acc : Int, 0 ≤ acc → acc ≤ 300 ^ i → impl_SizeOf.l0 s (s.length : Int) (fun y7 => bif decide (300 < y7) then R (-1) else R y7) R n acc (i : Int) = (bif (s.drop i).all dimOk then (bif decide (300 < acc * prod (s.drop i)) then R (-1) else R (acc * prod (s.drop i))) else R (-1))) (by omega) ?_ ?_ 0 (by omega) 1 (by omega) (by omega)
    · simpa using this
    · intro n acc _ _
      simp only [impl_SizeOf.l0, impl_SizeOf.l0s, ixe, cond_false, List.drop_length, List.all_nil, cond_true, prod, List.foldr_nil, Int.mul_one]
    · intro n i hi ih acc h0 h1
      have hb : (300 : Int) ^ i ≤ 300 ^ 2 := by
        have : i = 0 ∨ i = 1 ∨ i = 2 := by omega
        rcases this with rfl | rfl | rfl <;> decide
      simp only [impl_SizeOf.l0, impl_SizeOf.l0s, ixl hi, ix0, Bool.and_self, cond_true, within, ixw (by omega : i < 9223372036854775807), Int.toNat_natCast]
      rw [drop_cons 0 hi]
      generalize s.getD i 0 = d
      rw [List.all_cons, prod_cons]
      by_cases hd : dimOk d = true
      · have hd' := hd
        simp only [dimOk, Bool.and_eq_true, decide_eq_true_eq] at hd'
        have hm : acc * d ≤ 300 ^ 2 * 300 := Int.mul_le_mul (by omega) hd'.2 hd'.1 (by decide)
        have hm0 : 0 ≤ acc * d := Int.mul_nonneg h0 hd'.1
        rw [show (decide (0 ≤ d) && decide (d ≤ 300)) = true from hd, hd, w64 (by omega)]
        simp only [Bool.not_true, cond_false, Bool.true_and]
        rw [ih (acc * d) hm0 (by rw [Int.pow_succ]; exact Int.mul_le_mul h1 hd'.2 hd'.1 (by exact Int.pow_nonneg (by omega))), Int.mul_assoc]
      · have hd : dimOk d = false := by simpa using hd
        rw [show (decide (0 ≤ d) && decide (d ≤ 300)) = false from hd, hd]
        simp
  rw [loop]
  simp only [h, decide_false, cond_false, sizeOf, e, Bool.true_and]
  cases hA : s.all dimOk with
  | false => simp
  | true =>
    by_cases h3 : 300 < prod s
    · have : decide (prod s ≤ 300) = false := by simp; omega
      simp [h3, this]
    · have : decide (prod s ≤ 300) = true := by simp; omega
      simp [h3, this]

theorem sizeOfS (s : List Int) (R : Int → Option Res) : spec_SizeOf.g s R = R (sizeOf s) := by
  simp only [spec_SizeOf.e, spec_SizeOf.b]
  by_cases h : (3 : Int) < (s.length : Int)
  · have e : decide (s.length ≤ 3) = false := by simp; omega
    simp only [h, decide_true, cond_true, sizeOf, e, Bool.false_and, cond_false]
  have e : decide (s.length ≤ 3) = true := by simp; omega
  have loop2 : s.all dimOk = true → ∀ z k, spec_SizeOf.l2 s z k fuel 1 0 = k (prod s) := by
    intro hA z k
    have := up0 (N := s.length) (P := fun n i => ∀ acc : Int, 0 ≤ acc → acc ≤ 300 ^ i → (s.drop i).all dimOk = true → spec_SizeOf.l2 s z k n acc (i : Int) = k (acc * prod (s.drop i))) (by omega) ?_ ?_ 0 (by omega) 1 (by omega) (by omega) (by simpa using hA)
    · simpa using this
    · intro n acc _ _ _
      simp only [spec_SizeOf.l2, spec_SizeOf.l2s, ixe, cond_false, List.drop_length, prod, List.foldr_nil, Int.mul_one]
    · intro n i hi ih acc h0 h1 ha
      have hb : (300 : Int) ^ i ≤ 300 ^ 2 := by
        have : i = 0 ∨ i = 1 ∨ i = 2 := by omega
        rcases this with rfl | rfl | rfl <;> decide
      simp only [spec_SizeOf.l2, spec_SizeOf.l2s, ixl hi, ix0, Bool.and_self, cond_true, ixw (by omega : i < 9223372036854775807), Int.toNat_natCast]
      rw [drop_cons 0 hi] at ha ⊢
      revert ha
      generalize s.getD i 0 = d
      intro ha
      rw [prod_cons]
      simp only [List.all_cons, Bool.and_eq_true, dimOk, decide_eq_true_eq] at ha
      have hm : acc * d ≤ 300 ^ 2 * 300 := Int.mul_le_mul (by omega) ha.1.2 ha.1.1 (by decide)
      have hm0 : 0 ≤ acc * d := Int.mul_nonneg h0 ha.1.1
      rw [w64 (by omega), ih (acc * d) hm0 (by rw [Int.pow_succ]; exact Int.mul_le_mul h1 ha.1.2 ha.1.1 (by exact Int.pow_nonneg (by omega))) (by simpa [dimOk] using ha.2), Int.mul_assoc]
  have loop : ∀ k, spec_SizeOf.l0 s k R fuel false 0 = (bif s.all dimOk then k (s.any (· == 0)) else R (-1)) := by
    intro k
    have := up0 (N := s.length) (P := fun n i => ∀ z : Bool, spec_SizeOf.l0 s k R n z (i : Int) = (bif (s.drop i).all dimOk then k (z || (s.drop i).any (· == 0)) else R (-1))) (by omega) ?_ ?_ 0 (by omega) false
    · simpa using this
    · intro n z
      simp only [spec_SizeOf.l0, spec_SizeOf.l0s, ixe, cond_false, List.drop_length, List.all_nil, cond_true, List.any_nil, Bool.or_false]
    · intro n i hi ih z
      simp only [spec_SizeOf.l0, spec_SizeOf.l0s, ixl hi, ix0, Bool.and_self, cond_true, l1In, ixw (by omega : i < 9223372036854775807), Int.toNat_natCast]
      rw [drop_cons 0 hi]
      generalize s.getD i 0 = d
      rw [List.all_cons, List.any_cons]
      cases hd : dimOk d with
      | true =>
        rw [show (decide (0 ≤ d) && decide (d ≤ 300)) = true from hd]
        cases z with
        | true => simp only [Bool.not_true, cond_false, cond_true, ih, Bool.true_or, Bool.true_and]
        | false => simp only [Bool.not_true, cond_false, ih, Bool.false_or, Bool.true_and]
      | false =>
        rw [show (decide (0 ≤ d) && decide (d ≤ 300)) = false from hd]
        simp
  simp only [h, decide_false, cond_false, loop, sizeOf, e, Bool.true_and]
  cases hA : s.all dimOk with
  | false => simp
  | true =>
    simp only [cond_true, loop2 hA, Bool.true_and]
    by_cases h3 : 300 < prod s
    · have h4 : decide (prod s ≤ 300) = false := by simp; omega
      have hz : s.any (· == 0) = false := by
        cases hz : s.any (· == 0) with
        | false => rfl
        | true =>
          exfalso
          have : ∀ l : List Int, l.any (· == 0) = true → prod l = 0 := by
            intro l
            induction l with
            | nil => intro h; simp at h
            | cons a l ih =>
              intro h
              simp only [List.any_cons, Bool.or_eq_true, beq_iff_eq] at h
              rw [prod_cons]
              rcases h with rfl | h
              · simp
              · rw [ih h]; simp
          rw [this s hz] at h3
          omega
      simp [h3, h4, hz]
    · have : decide (prod s ≤ 300) = true := by simp; omega
      simp [h3, this]

def arrOk (s d : List Int) : Bool := decide ((d.length : Int) = sizeOf s) && d.all numOk
theorem sizeOf_le (s : List Int) : sizeOf s ≤ 300 := by
  simp only [sizeOf]
  cases h : decide (s.length ≤ 3) && s.all dimOk && decide (prod s ≤ 300) with
  | false => simp
  | true => simp only [Bool.and_eq_true, decide_eq_true_eq] at h; simpa using h.2
theorem arrOk_facts {s d : List Int} (h : arrOk s d = true) : s.length ≤ 3 ∧ s.all dimOk = true ∧ d.length ≤ 300 ∧ d.all numOk = true ∧ (d.length : Int) = prod s := by
  simp only [arrOk, Bool.and_eq_true, decide_eq_true_eq] at h
  have h0 := sizeOf_le s
  obtain ⟨h1, h2⟩ := h
  rw [sizeOf] at h1
  cases h3 : decide (s.length ≤ 3) && s.all dimOk && decide (prod s ≤ 300) with
  | false => rw [h3] at h1; simp at h1
  | true =>
    rw [h3] at h1
    simp only [Bool.and_eq_true, decide_eq_true_eq] at h3
    simp only [cond_true] at h1
    exact ⟨h3.1.1, h3.1.2, by omega, h2, h1⟩

/-- the first place from i on at which something holds; -1: none -/
def idx {α : Type} (f : α → Bool) : List α → Int → Int
  | [], _ => -1
  | x :: l, i => bif f x then i else idx f l (i + 1)
theorem idx_any {α : Type} (f : α → Bool) (l : List α) : ∀ i : Int, 0 ≤ i → decide (0 ≤ idx f l i) = l.any f := by
  induction l with
  | nil => intro i _; rfl
  | cons x l ih =>
    intro i hi
    cases hf : f x with
    | true => simp [idx, hf, hi]
    | false => simpa [idx, hf] using ih (i + 1) (by omega)

theorem arrayOkI_1 (x : Int) (R : Bool → Option Res) : impl_ArrayOk_1.g x R = R (!numOk x) := by simp only [impl_ArrayOk_1.e, impl_ArrayOk_1.b, numOkI]
theorem arrayOkI_idx (d : List Int) (h : d.length ≤ 9223372036854775807) (R : Int → Option Res) : slices_IndexFunc_int_int.g d R = R (idx (fun x => !numOk x) d 0) := by
  simp only [slices_IndexFunc_int_int.e, slices_IndexFunc_int_int.b]
  have := up0 (N := d.length) (P := fun n i => slices_IndexFunc_int_int.l0 d (d.length : Int) (R (-1)) R n (i : Int) = R (idx (fun x => !numOk x) (d.drop i) i)) (by omega) ?_ ?_ 0 (by omega)
  · simpa using this
  · intro n; simp only [slices_IndexFunc_int_int.l0, slices_IndexFunc_int_int.l0s, ixe, cond_false, List.drop_length, idx]
  · intro n i hi ih
    simp only [slices_IndexFunc_int_int.l0, slices_IndexFunc_int_int.l0s, ixl hi, ix0, Bool.and_self, cond_true, arrayOkI_1, ixw (by omega : i < 9223372036854775807), Int.toNat_natCast]
    rw [drop_cons 0 hi, idx]
    cases numOk (d.getD i 0) with
    | true => exact ih
    | false => rfl
theorem arrayOkI (s d : List Int) (h : d.length ≤ 9223372036854775807) (R : Bool → Option Res) : impl_ArrayOk.g s d R = R (arrOk s d) := by
  simp only [impl_ArrayOk.e, impl_ArrayOk.b, sizeOfI, slices_ContainsFunc_int_int.e, slices_ContainsFunc_int_int.b, arrayOkI_idx d h, idx_any _ _ _ (Int.le_refl 0), arrOk]
  by_cases h1 : (d.length : Int) = sizeOf s
  · simp only [h1, beq_self_eq_true, cond_true, decide_true, Bool.true_and]
    congr 1
    rw [List.any_eq_not_all_not]; simp
  · have : ((d.length : Int) == sizeOf s) = false := by simpa using h1
    simp only [this, h1, cond_false, decide_false, Bool.false_and]
theorem arrayOkS (s d : List Int) (h : d.length ≤ 9223372036854775807) (R : Bool → Option Res) : spec_ArrayOk.g s d R = R (arrOk s d) := by
  simp only [spec_ArrayOk.e, spec_ArrayOk.b, sizeOfS, arrOk]
  have loop : spec_ArrayOk.l0 s d (R true) R fuel 0 = R (d.all numOk) := by
    have := up0 (N := d.length) (P := fun n i => spec_ArrayOk.l0 s d (R true) R n (i : Int) = R ((d.drop i).all numOk)) (by omega) ?_ ?_ 0 (by omega)
    · simpa using this
    · intro n; simp only [spec_ArrayOk.l0, spec_ArrayOk.l0s, ixe, cond_false, List.drop_length, List.all_nil]
    · intro n i hi ih
      simp only [spec_ArrayOk.l0, spec_ArrayOk.l0s, ixl hi, ix0, Bool.and_self, cond_true, numOkS, ixw (by omega : i < 9223372036854775807), Int.toNat_natCast]
      rw [drop_cons 0 hi, List.all_cons]
      cases numOk (d.getD i 0) with
      | true => exact ih
      | false => rfl
  by_cases h1 : (d.length : Int) = sizeOf s
  · rw [h1]; simp only [bne_self_eq_false, cond_false, loop, decide_true, Bool.true_and]
  · have : (sizeOf s != (d.length : Int)) = true := by simp; omega
    simp only [this, cond_true, h1, decide_false, Bool.false_and]

def byteOk (x : Int) : Prop := 0 ≤ x ∧ x < 256
/-- the lowest first -/
def le : List Int → Int
  | [] => 0
  | b :: l => b + 256 * le l
theorem le_append (a b : List Int) : le (a ++ b) = le a + 256 ^ a.length * le b := by
  induction a with
  | nil => simp [le]
  | cons x a ih => simp only [List.cons_append, le, ih, List.length_cons, Int.pow_succ]; rw [Int.mul_add, ← Int.mul_assoc, Int.mul_comm 256 (256 ^ a.length)]; omega
theorem le_bound (l : List Int) (h : ∀ x ∈ l, byteOk x) : 0 ≤ le l ∧ le l < 256 ^ l.length := by
  induction l with
  | nil => simp [le]
  | cons x l ih =>
    obtain ⟨h1, h2⟩ := ih (fun y hy => h y (List.mem_cons_of_mem _ hy))
    have hx := h x (List.mem_cons_self ..)
    simp only [le, List.length_cons, Int.pow_succ]
    simp only [byteOk] at hx
    omega

theorem or_add64 {x y : Int} {i : Nat} (hi : i ≤ 64) (h0 : 0 ≤ x ∧ x < 2 ^ i) (hy : 0 ≤ y) (hd : (2 : Int) ^ i ∣ y) (hu : y < 18446744073709551616) (hxu : x < 18446744073709551616) : (BitVec.ofInt 64 x ||| BitVec.ofInt 64 y).toNat = (x + y).toNat := by
  obtain ⟨a, rfl⟩ := hd
  obtain ⟨m, rfl⟩ := Int.eq_ofNat_of_zero_le h0.1
  have ha : 0 ≤ a := by
    have h2 : (0 : Int) < 2 ^ i := Int.pow_pos (by decide)
    by_cases hn : a < 0
    · have := Int.mul_neg_of_pos_of_neg h2 hn; omega
    · omega
  obtain ⟨n, rfl⟩ := Int.eq_ofNat_of_zero_le ha
  have e1 : ((2 : Int) ^ i * (n : Int)) = ((2 ^ i * n : Nat) : Int) := by simp
  rw [e1] at hu ⊢
  have hm : m < 2 ^ i := by have := h0.2; have e2 : ((2 : Int) ^ i) = ((2 ^ i : Nat) : Int) := by simp
                            rw [e2] at this; omega
  rw [BitVec.toNat_or, BitVec.toNat_ofInt, BitVec.toNat_ofInt]
  have h64 : ((2 ^ 64 : Nat) : Int) = 18446744073709551616 := by decide
  rw [h64, Int.emod_eq_of_lt (by omega) (by omega), Int.emod_eq_of_lt (by omega) hu]
  have hsum : ((m : Int) + ((2 ^ i * n : Nat) : Int)) = ((m + 2 ^ i * n : Nat) : Int) := by omega
  rw [hsum, Int.toNat_natCast, Int.toNat_natCast, Int.toNat_natCast, Nat.or_comm, ← Nat.two_pow_add_eq_or_of_lt hm, Nat.add_comm]

theorem wrap_u64 {n : Int} (h : 0 ≤ n ∧ n < 18446744073709551616) : IntKind.u64.wrap n = n := by
  have e : IntKind.u64.wrap n = n % 18446744073709551616 := by simp [IntKind.wrap, IntKind.bits, IntKind.signed]
  rw [e]; omega
theorem p256 (i : Nat) : (256 : Int) ^ i = 2 ^ (8 * i) := by rw [Int.pow_mul]; rfl

/-- a round of impl's reading -/
theorem orU {x b : Int} {i : Nat} (hi : i < 8) (hx : 0 ≤ x ∧ x < 256 ^ i) (hb : byteOk b) :
    arith.bits .or .u64 x (IntKind.u64.wrap ((IntKind.u64.wrap b) * 2 ^ (min (8 * i) 64))) = x + b * 256 ^ i := by
  simp only [byteOk] at hb
  have hm : min (8 * i) 64 = 8 * i := by omega
  have hp : (0 : Int) < 2 ^ (8 * i) := Int.pow_pos (by decide)
  have hlt : b * 2 ^ (8 * i) < 18446744073709551616 := by
    have h1 : b * 2 ^ (8 * i) ≤ 255 * 2 ^ (8 * i) := Int.mul_le_mul_of_nonneg_right (by omega) (by omega)
    have h2 : (2 : Int) ^ (8 * i) ≤ 2 ^ 56 := by
      have : (2 : Nat) ^ (8 * i) ≤ 2 ^ 56 := Nat.pow_le_pow_right (by decide) (by omega)
      exact_mod_cast this
    have h3 : (2 : Int) ^ 56 = 72057594037927936 := by decide
    omega
  have h0 : 0 ≤ b * 2 ^ (8 * i) := Int.mul_nonneg (by omega) (by omega)
  have hxl : x < 2 ^ (8 * i) := by rw [← p256]; exact hx.2
  have hxu : x < 18446744073709551616 := by
    have h2 : (2 : Int) ^ (8 * i) ≤ 2 ^ 56 := by
      have : (2 : Nat) ^ (8 * i) ≤ 2 ^ 56 := Nat.pow_le_pow_right (by decide) (by omega)
      exact_mod_cast this
    have h3 : (2 : Int) ^ 56 = 72057594037927936 := by decide
    omega
  rw [hm, wrap_u64 (n := b) (by omega), wrap_u64 ⟨h0, hlt⟩, p256]
  have e : arith.bits .or .u64 x (b * 2 ^ (8 * i)) = IntKind.u64.wrap ((BitVec.ofInt 64 x ||| BitVec.ofInt 64 (b * 2 ^ (8 * i))).toNat : Int) := rfl
  rw [e, or_add64 (i := 8 * i) (by omega) ⟨hx.1, hxl⟩ h0 ⟨b, Int.mul_comm _ _⟩ hlt hxu]
  have hs : x + b * 2 ^ (8 * i) < 18446744073709551616 := by
    have h1 : b * 2 ^ (8 * i) ≤ 255 * 2 ^ (8 * i) := Int.mul_le_mul_of_nonneg_right (by omega) (by omega)
    have h2 : (2 : Int) ^ (8 * i) ≤ 2 ^ 56 := by
      have : (2 : Nat) ^ (8 * i) ≤ 2 ^ 56 := Nat.pow_le_pow_right (by decide) (by omega)
      exact_mod_cast this
    have h3 : (2 : Int) ^ 56 = 72057594037927936 := by decide
    omega
  rw [Int.toNat_of_nonneg (by omega), wrap_u64 (by omega)]

theorem wrapB (b : Int) (hb : byteOk b) : IntKind.i64.wrap b = b := w64 (by simp only [byteOk] at hb; omega)

theorem one_cons (x : Int) (l : List Int) (hx : byteOk x) (hl : l.length ≤ 9223372036854775806) (bad : Bool) (R : Int → List Int → Bool → Option Res) : impl_byteReader_one.g (x :: l) bad R = R x l bad := by
  simp only [impl_byteReader_one.e, impl_byteReader_one.b]
  have e1 : (((x :: l).length : Int) == 0) = false := by simp [beq_eq_false_iff_ne]; omega
  have e2 : decide (0 < ((x :: l).length : Int)) = true := by simp
  have e3 : decide (1 ≤ ((x :: l).length : Int)) = true := by simp; omega
  simp only [e1, e2, e3, cond_true, cond_false, List.getD_cons_zero, wrapB x hx, List.drop_succ_cons, List.drop_zero]
theorem one_nil (bad : Bool) (R : Int → List Int → Bool → Option Res) : impl_byteReader_one.g [] bad R = R 0 [] true := by
  simp [impl_byteReader_one.e, impl_byteReader_one.b]

def bsOk (l : List Int) : Prop := (∀ x ∈ l, byteOk x) ∧ l.length ≤ 1048576
theorem bsOk.tl {x : Int} {l : List Int} (h : bsOk (x :: l)) : byteOk x ∧ bsOk l := ⟨h.1 x (List.mem_cons_self ..), fun y hy => h.1 y (List.mem_cons_of_mem _ hy), by have := h.2; simp at this; omega⟩
theorem bsOk.drop {l : List Int} (h : bsOk l) (n : Nat) : bsOk (l.drop n) := ⟨fun y hy => h.1 y (List.mem_of_mem_drop hy), by have := h.2; simp; omega⟩

def dim2 (x y : Int) : Int := x + 256 * y
theorem two_ok (x y : Int) (l : List Int) (h : bsOk (x :: y :: l)) (bad : Bool) (R : Int → List Int → Bool → Option Res) : impl_byteReader_two.g (x :: y :: l) bad R = R (dim2 x y) l bad := by
  obtain ⟨h1, h2⟩ := h.tl
  obtain ⟨h3, h4⟩ := h2.tl
  have := h4.2
  simp only [impl_byteReader_two.e, impl_byteReader_two.b, one_cons x (y :: l) h1 (by simp; omega), one_cons y l h3 (by omega)]
  simp only [byteOk] at h1 h3
  rw [w64 (n := 256 * y) (by omega), w64 (by omega)]; rfl
theorem two_bad (l : List Int) (h : bsOk l) (hl : l.length < 2) (bad : Bool) : ∃ v, ∀ (R : Int → List Int → Bool → Option Res), impl_byteReader_two.g l bad R = R v [] true := by
  match l, h, hl with
  | [], _, _ => exact ⟨_, fun R => by simp only [impl_byteReader_two.e, impl_byteReader_two.b, one_nil]; rfl⟩
  | [x], h, _ => exact ⟨_, fun R => by simp only [impl_byteReader_two.e, impl_byteReader_two.b, one_cons x [] h.tl.1 (by simp), one_nil]; rfl⟩

/-- eight bytes -/
theorem num_loop (k : Int → List Int → Bool → Option Res) (bad : Bool) : ∀ (m : Nat) (n : Nat) (pre l : List Int), pre.length + m = 8 → m < n → (∀ x ∈ pre, byteOk x) → bsOk l → m ≤ l.length →
    impl_byteReader_num.l0 k n (le pre) (pre.length : Int) l bad = k (le (pre ++ l.take m)) (l.drop m) bad := by
  intro m
  induction m with
  | zero =>
    intro n pre l h1 h2 h3 h4 h5
    obtain ⟨n, rfl⟩ : ∃ n', n = n' + 1 := ⟨n - 1, by omega⟩
    have e : decide ((pre.length : Int) < 8) = false := by simp; omega
    simp only [impl_byteReader_num.l0, impl_byteReader_num.l0s, e, cond_false, List.take_zero, List.append_nil, List.drop_zero]
  | succ m ih =>
    intro n pre l h1 h2 h3 h4 h5
    obtain ⟨n, rfl⟩ : ∃ n', n = n' + 1 := ⟨n - 1, by omega⟩
    cases l with
    | nil => simp at h5
    | cons x l =>
      obtain ⟨hx, hl⟩ := h4.tl
      have e : decide ((pre.length : Int) < 8) = true := by simp; omega
      have hw : IntKind.i64.wrap (8 * (pre.length : Int)) = ((8 * pre.length : Nat) : Int) := by rw [w64 (by omega)]; omega
      have e2 : decide (((8 * pre.length : Nat) : Int) < 0) = false := by simp; omega
      have := hl.2
      simp only [impl_byteReader_num.l0, impl_byteReader_num.l0s, e, cond_true, one_cons x l hx (by omega), hw, e2, cond_false, Int.toNat_natCast]
      rw [orU (by omega) (le_bound pre h3) hx, w64 (by omega)]
      have e3 : le pre + x * 256 ^ pre.length = le (pre ++ [x]) := by rw [le_append]; simp only [le]; rw [Int.mul_zero, Int.add_zero, Int.mul_comm]
      have e4 : ((pre.length : Int) + 1) = ((pre ++ [x]).length : Int) := by simp
      rw [e3, e4, ih n (pre ++ [x]) l (by simp; omega) (by omega) (fun y hy => by
        rcases List.mem_append.1 hy with h | h
        · exact h3 y h
        · simp at h; subst h; exact hx) hl (by simpa using h5)]
      simp
theorem num_ok (l : List Int) (h : bsOk l) (hl : 8 ≤ l.length) (bad : Bool) (R : Int → List Int → Bool → Option Res) :
    impl_byteReader_num.g l bad R = bif decide (2000000000000 < le (l.take 8)) then R 0 (l.drop 8) true else R (le (l.take 8) - 1000000000000) (l.drop 8) bad := by
  simp only [impl_byteReader_num.e, impl_byteReader_num.b]
  have := num_loop (fun y10 y11 y12 => bif decide (2000000000000 < y10) then R 0 y11 true else R (IntKind.i64.wrap ((IntKind.i64.wrap y10) - 1000000000000)) y11 y12) bad 8 fuel [] l rfl (by rw [fuel_eq]; omega) (fun _ h => by cases h) h hl
  simp only [le, List.length_nil, List.nil_append] at this
  refine Eq.trans this ?_
  have hb := le_bound (l.take 8) (fun y hy => h.1 y (List.mem_of_mem_take hy))
  by_cases h2 : 2000000000000 < le (l.take 8)
  · simp [h2]
  · simp only [h2, decide_false, cond_false]
    rw [w64 (n := le (l.take 8)) (by omega), w64 (by omega)]
/-- too few -/
theorem num_short (R : Int → List Int → Bool → Option Res) : ∀ (m : Nat) (i : Nat) (l : List Int) (x : Int) (bad : Bool), i + m = 8 → bsOk l → l.length < m → ∃ v, ∀ (k : Int → List Int → Bool → Option Res) (n : Nat), m < n →
    impl_byteReader_num.l0 k n x (i : Int) l bad = k v [] true := by
  intro m
  induction m with
  | zero => intro i l x bad h1 h2 h3; omega
  | succ m ih =>
    intro i l x bad h1 h2 h3
    have e : decide ((i : Int) < 8) = true := by simp; omega
    have hw : IntKind.i64.wrap (8 * (i : Int)) = ((8 * i : Nat) : Int) := by rw [w64 (by omega)]; omega
    have e2 : decide (((8 * i : Nat) : Int) < 0) = false := by simp; omega
    cases l with
    | nil =>
      by_cases hm : m = 0
      · subst hm
        refine ⟨arith.bits .or .u64 x (IntKind.u64.wrap ((IntKind.u64.wrap 0) * 2 ^ (min (8 * i) 64))), fun k n hn => ?_⟩
        obtain ⟨n, rfl⟩ : ∃ n', n = n' + 2 := ⟨n - 2, by omega⟩
        have e5 : decide (((i + 1 : Nat) : Int) < 8) = false := by simp; omega
        simp only [impl_byteReader_num.l0, impl_byteReader_num.l0s, e, cond_true, one_nil, hw, e2, cond_false, Int.toNat_natCast, ixw (by omega : i < 9223372036854775807), e5]
      · obtain ⟨v, hv⟩ := ih (i + 1) [] (arith.bits .or .u64 x (IntKind.u64.wrap ((IntKind.u64.wrap 0) * 2 ^ (min (8 * i) 64)))) true (by omega) h2 (by simp; omega)
        refine ⟨v, fun k n hn => ?_⟩
        obtain ⟨n, rfl⟩ : ∃ n', n = n' + 1 := ⟨n - 1, by omega⟩
        simp only [impl_byteReader_num.l0, impl_byteReader_num.l0s, e, cond_true, one_nil, hw, e2, cond_false, Int.toNat_natCast, ixw (by omega : i < 9223372036854775807)]
        exact hv k n (by omega)
    | cons b l =>
      obtain ⟨hx, hl⟩ := h2.tl
      obtain ⟨v, hv⟩ := ih (i + 1) l (arith.bits .or .u64 x (IntKind.u64.wrap ((IntKind.u64.wrap b) * 2 ^ (min (8 * i) 64)))) bad (by omega) hl (by simp at h3; omega)
      refine ⟨v, fun k n hn => ?_⟩
      obtain ⟨n, rfl⟩ : ∃ n', n = n' + 1 := ⟨n - 1, by omega⟩
      have := hl.2
      simp only [impl_byteReader_num.l0, impl_byteReader_num.l0s, e, cond_true, one_cons b l hx (by omega), hw, e2, cond_false, Int.toNat_natCast, ixw (by omega : i < 9223372036854775807)]
      exact hv k n (by omega)
theorem num_bad (l : List Int) (h : bsOk l) (hl : l.length < 8) (bad : Bool) : ∃ v, ∀ (R : Int → List Int → Bool → Option Res), impl_byteReader_num.g l bad R = R v [] true := by
  obtain ⟨v, hv⟩ := num_short (fun _ _ _ => none) 8 0 l 0 bad (by omega) h hl
  by_cases h2 : 2000000000000 < v
  · refine ⟨0, fun R => ?_⟩
    simp only [impl_byteReader_num.e, impl_byteReader_num.b]
    refine (hv _ fuel (by rw [fuel_eq]; omega)).trans ?_
    simp [h2]
  · refine ⟨IntKind.i64.wrap ((IntKind.i64.wrap v) - 1000000000000), fun R => ?_⟩
    simp only [impl_byteReader_num.e, impl_byteReader_num.b]
    refine (hv _ fuel (by rw [fuel_eq]; omega)).trans ?_
    simp only [h2, decide_false, cond_false]

def dimsN : Nat → List Int → List Int
  | n + 1, x :: y :: l => dim2 x y :: dimsN n l
  | _, _ => []
def numsN : Nat → List Int → List Int
  | 0, _ => []
  | n + 1, l => (le (l.take 8) - 1000000000000) :: numsN n (l.drop 8)
theorem numsN_length (n : Nat) : ∀ l, (numsN n l).length = n := by
  induction n with
  | zero => intro l; rfl
  | succ n ih => intro l; simp [numsN, ih]
def readFit (s d : List Int) (z : Int) : Option (List Int × List Int) :=
  bif decide ((d.length : Int) = 8 * z) then (bif arrOk s (numsN z.toNat d) then some (s, numsN z.toNat d) else none) else none
def readBody (n : Nat) (t : List Int) : Option (List Int × List Int) :=
  bif decide (2 * n ≤ t.length) then readFit (dimsN n t) (t.drop (2 * n)) (sizeOf (dimsN n t)) else none
def readArr : List Int → Option (List Int × List Int)
  | [] => none
  | r :: t => bif decide (r ≤ 3) then readBody r.toNat t else none
def arrRes (o : Option (List Int × List Int)) (R : List Int → List Int → Bool → Option Res) : Option Res :=
  match o with
  | some (s, d) => R s d true
  | none => R [] [] false

/-- what impl's reader leaves: the shape -/
theorem dims_loop (k : List Int → List Int → Bool → Option Res) (z : List Int) (N : Nat) (hN : N ≤ 3) : ∀ (m n : Nat) (acc l : List Int) (bad : Bool), acc.length + m = N → m < n → bsOk l →
    (2 * m ≤ l.length → impl_ArrayRead.l0 (N : Int) z k n (acc.length : Int) acc l bad = k (acc ++ dimsN m l) (l.drop (2 * m)) bad) ∧
    (l.length < 2 * m → ∃ w, w.length = N ∧ ∀ k, impl_ArrayRead.l0 (N : Int) z k n (acc.length : Int) acc l bad = k w [] true) := by
  intro m
  induction m with
  | zero =>
    intro n acc l bad h1 h2 h3
    obtain ⟨n, rfl⟩ : ∃ n', n = n' + 1 := ⟨n - 1, by omega⟩
    have e : decide ((acc.length : Int) < (N : Int)) = false := by simp; omega
    refine ⟨fun _ => ?_, fun h => by omega⟩
    simp only [impl_ArrayRead.l0, impl_ArrayRead.l0s, e, cond_false, dimsN, List.append_nil, Nat.mul_zero, List.drop_zero]
  | succ m ih =>
    intro n acc l bad h1 h2 h3
    obtain ⟨n, rfl⟩ : ∃ n', n = n' + 1 := ⟨n - 1, by omega⟩
    have e : decide ((acc.length : Int) < (N : Int)) = true := by simp; omega
    have e2 : decide ((acc.length + 1) * 8 ≤ 140737488355328) = true := by simp; omega
    have hw : IntKind.i64.wrap ((acc.length : Int) + 1) = ((acc.length + 1 : Nat) : Int) := by rw [w64 (by omega)]; rfl
    refine ⟨fun hl => ?_, fun hl => ?_⟩
    · match l, h3, hl with
      | x :: y :: l, h3, hl =>
        obtain ⟨i1, _⟩ := ih n (acc ++ [dim2 x y]) l bad (by simp; omega) (by omega) h3.tl.2.tl.2
        simp only [impl_ArrayRead.l0, impl_ArrayRead.l0s, e, cond_true, two_ok x y l h3, e2, hw]
        rw [show ((acc.length + 1 : Nat) : Int) = ((acc ++ [dim2 x y]).length : Int) by simp, i1 (by simp at hl; omega)]
        simp [dimsN, Nat.mul_add]
      | [x], h3, hl => simp at hl; omega
      | [], h3, hl => simp at hl
    · by_cases h4 : l.length < 2
      · obtain ⟨v, hv⟩ := two_bad l h3 h4 bad
        by_cases hm : m = 0
        · subst hm
          obtain ⟨n, rfl⟩ : ∃ n', n = n' + 1 := ⟨n - 1, by omega⟩
          refine ⟨acc ++ [v], by simp; omega, fun k => ?_⟩
          have e5 : decide (((acc.length + 1 : Nat) : Int) < (N : Int)) = false := by simp; omega
          simp only [impl_ArrayRead.l0, impl_ArrayRead.l0s, e, cond_true, hv, e2, hw, e5, cond_false]
        · obtain ⟨_, i2⟩ := ih n (acc ++ [v]) [] true (by simp; omega) (by omega) ⟨fun _ h => (by cases h), by simp⟩
          obtain ⟨w, hw1, hw2⟩ := i2 (by simp; omega)
          refine ⟨w, hw1, fun k => ?_⟩
          simp only [impl_ArrayRead.l0, impl_ArrayRead.l0s, e, cond_true, hv, e2, hw]
          rw [show ((acc.length + 1 : Nat) : Int) = ((acc ++ [v]).length : Int) by simp, hw2]
      · match l, h3, hl, h4 with
        | x :: y :: l, h3, hl, _ =>
          obtain ⟨_, i2⟩ := ih n (acc ++ [dim2 x y]) l bad (by simp; omega) (by omega) h3.tl.2.tl.2
          obtain ⟨w, hw1, hw2⟩ := i2 (by simp at hl; omega)
          refine ⟨w, hw1, fun k => ?_⟩
          simp only [impl_ArrayRead.l0, impl_ArrayRead.l0s, e, cond_true, two_ok x y l h3, e2, hw]
          rw [show ((acc.length + 1 : Nat) : Int) = ((acc ++ [dim2 x y]).length : Int) by simp, hw2]
        | [x], _, _, h => simp at h
        | [], _, _, h => simp at h
/-- .. the numbers -/
theorem nums_loop (z : List Int) : ∀ (m n : Nat) (acc l : List Int), acc.length + m ≤ 300 → m < n → bsOk l →
    ((8 * m ≤ l.length ∧ ∀ x ∈ numsN m l, numOk x = true) → ∀ k, impl_ArrayRead.l2 z k n (m : Int) acc l false = k (acc ++ numsN m l) (l.drop (8 * m)) false) ∧
    (¬ (8 * m ≤ l.length ∧ ∀ x ∈ numsN m l, numOk x = true) → ∃ w v, ∀ k, impl_ArrayRead.l2 z k n (m : Int) acc l false = k w v true) := by
  intro m
  induction m with
  | zero =>
    intro n acc l h1 h2 h3
    obtain ⟨n, rfl⟩ : ∃ n', n = n' + 1 := ⟨n - 1, by omega⟩
    refine ⟨fun _ k => ?_, fun h => absurd ⟨by omega, fun x hx => by simp [numsN] at hx⟩ h⟩
    simp only [impl_ArrayRead.l2, impl_ArrayRead.l2s, show decide ((0 : Int) < ((0 : Nat) : Int)) = false by decide, cond_false, numsN, List.append_nil, Nat.mul_zero, List.drop_zero]
  | succ m ih =>
    intro n acc l h1 h2 h3
    obtain ⟨n, rfl⟩ : ∃ n', n = n' + 1 := ⟨n - 1, by omega⟩
    have e : decide ((0 : Int) < ((m + 1 : Nat) : Int)) = true := by simp
    have e2 : decide ((acc.length + 1) * 8 ≤ 140737488355328) = true := by simp; omega
    have hw : IntKind.i64.wrap (((m + 1 : Nat) : Int) - 1) = (m : Int) := by rw [w64 (by omega)]; omega
    have stop : ∀ k w v, impl_ArrayRead.l2 z k n (m : Int) w v true = k w v true := by
      intro k w v
      obtain ⟨n, rfl⟩ : ∃ n', n = n' + 1 := ⟨n - 1, by omega⟩
      simp only [impl_ArrayRead.l2, impl_ArrayRead.l2s, Bool.not_true, cond_false]
      cases decide (0 < (m : Int)) <;> rfl
    by_cases hl : l.length < 8
    · refine ⟨fun h => by omega, fun _ => ?_⟩
      obtain ⟨v, hv⟩ := num_bad l h3 hl false
      refine ⟨acc ++ [v], [], fun k => ?_⟩
      simp only [impl_ArrayRead.l2, impl_ArrayRead.l2s, e, cond_true, Bool.not_false, hv, e2, hw, stop]
    · have hb := le_bound (l.take 8) (fun y hy => h3.1 y (List.mem_of_mem_take hy))
      by_cases hbig : 2000000000000 < le (l.take 8)
      · have hno : numOk (le (l.take 8) - 1000000000000) = false := by simp [numOk]; omega
        refine ⟨fun h => ?_, fun _ => ?_⟩
        · have := h.2 _ (by rw [numsN]; exact List.mem_cons_self ..); rw [hno] at this; cases this
        · refine ⟨acc ++ [0], l.drop 8, fun k => ?_⟩
          simp only [impl_ArrayRead.l2, impl_ArrayRead.l2s, e, cond_true, Bool.not_false, num_ok l h3 (by omega), hbig, decide_true, e2, hw, stop]
      · have hyes : numOk (le (l.take 8) - 1000000000000) = true := by simp [numOk]; omega
        obtain ⟨i1, i2⟩ := ih n (acc ++ [le (l.take 8) - 1000000000000]) (l.drop 8) (by simp; omega) (by omega) (h3.drop 8)
        have hiff : (8 * (m + 1) ≤ l.length ∧ ∀ x ∈ numsN (m + 1) l, numOk x = true) ↔ (8 * m ≤ (l.drop 8).length ∧ ∀ x ∈ numsN m (l.drop 8), numOk x = true) := by
          simp only [numsN, List.mem_cons, forall_eq_or_imp, hyes, true_and, List.length_drop]
          constructor
          · rintro ⟨a, b⟩; exact ⟨by omega, b⟩
          · rintro ⟨a, b⟩; exact ⟨by omega, b⟩
        rw [hiff]
        refine ⟨fun h k => ?_, fun h => ?_⟩
        · simp only [impl_ArrayRead.l2, impl_ArrayRead.l2s, e, cond_true, Bool.not_false, num_ok l h3 (by omega), hbig, decide_false, cond_false, e2, hw]
          rw [i1 h]
          simp [numsN, Nat.mul_add, Nat.add_comm]
        · obtain ⟨w, v, hwv⟩ := i2 h
          refine ⟨w, v, fun k => ?_⟩
          simp only [impl_ArrayRead.l2, impl_ArrayRead.l2s, e, cond_true, Bool.not_false, num_ok l h3 (by omega), hbig, decide_false, cond_false, e2, hw]
          exact hwv k

theorem sizeOf_ge (s : List Int) : -1 ≤ sizeOf s := by
  simp only [sizeOf]
  cases h : decide (s.length ≤ 3) && s.all dimOk && decide (prod s ≤ 300) with
  | false => simp
  | true =>
    simp only [Bool.and_eq_true, decide_eq_true_eq] at h
    have := (prod_le s h.1.2).1
    simp only [cond_true]; omega
theorem arrayReadI (a : List Int) (h : bsOk a) (R : List Int → List Int → Bool → Option Res) : impl_ArrayRead.g a R = arrRes (readArr a) R := by
  simp only [impl_ArrayRead.e, impl_ArrayRead.b]
  cases a with
  | nil => simp only [one_nil, cond_true]; rfl
  | cons r t =>
    obtain ⟨hr, ht⟩ := h.tl
    have ht2 := ht.2
    simp only [byteOk] at hr
    simp only [one_cons r t hr (by omega), cond_false]
    by_cases h3 : 3 < r
    · have e : decide (r ≤ 3) = false := by simp; omega
      simp only [h3, decide_true, cond_true, readArr, e, cond_false, arrRes]
    · have e : decide (r ≤ 3) = true := by simp; omega
      simp only [h3, decide_false, cond_false, readArr, e, cond_true]
      obtain ⟨N, rfl⟩ := Int.eq_ofNat_of_zero_le hr.1
      obtain ⟨d1, d2⟩ := dims_loop (fun y14 y15 y16 => impl_SizeOf.g y14 fun r17 => impl_ArrayRead.l2 y14 (fun y26 y27 y28 => bif y28 then R ([] : List Int) ([] : List Int) false
        else bif decide (0 < (y27.length : Int)) then R ([] : List Int) ([] : List Int) false
        else (impl_ArrayOk.g y14 y26 fun r29 => bif !r29 then R ([] : List Int) ([] : List Int) false else R y14 y26 true)) fuel r17 ([] : List Int) y15 y16) [] N (by omega) N fuel [] t false (by simp) (by rw [fuel_eq]; omega) ht
      simp only [Int.toNat_natCast, readBody]
      by_cases hs : 2 * N ≤ t.length
      · have e5 : decide (2 * N ≤ t.length) = true := by simpa using hs
        refine (d1 hs).trans ?_
        simp only [List.nil_append, sizeOfI, e5, cond_true]
        have hsz := sizeOf_ge (dimsN N t)
        have hsz2 := sizeOf_le (dimsN N t)
        by_cases hneg : sizeOf (dimsN N t) < 0
        · have e6 : sizeOf (dimsN N t) = -1 := by omega
          obtain ⟨n, hn⟩ : ∃ n, fuel = n + 1 := ⟨fuel - 1, by rw [fuel_eq]⟩
          have e7 : decide (((t.drop (2 * N)).length : Int) = 8 * (-1)) = false := by simp
          rw [e6, hn]
          simp only [readFit]
          simp only [impl_ArrayRead.l2, impl_ArrayRead.l2s, show decide ((0 : Int) < -1) = false by decide, cond_false, e7, arrRes]
          rw [arrayOkI _ _ (by simp)]
          have e8 : arrOk (dimsN N t) [] = false := by simp [arrOk, e6]
          rw [e8]
          cases decide (0 < ((t.drop (2 * N)).length : Int)) <;> rfl
        · obtain ⟨M, hM⟩ := Int.eq_ofNat_of_zero_le (by omega : 0 ≤ sizeOf (dimsN N t))
          rw [hM]
          simp only [readFit]
          obtain ⟨n1, n2⟩ := nums_loop (dimsN N t) M fuel [] (t.drop (2 * N)) (by simp; omega) (by rw [fuel_eq]; omega) (ht.drop _)
          by_cases hok : 8 * M ≤ (t.drop (2 * N)).length ∧ ∀ x ∈ numsN M (t.drop (2 * N)), numOk x = true
          · rw [n1 hok]
            simp only [cond_false, List.nil_append]
            by_cases hfit : (t.drop (2 * N)).length = 8 * M
            · have e9 : decide (((t.drop (2 * N)).length : Int) = 8 * (M : Int)) = true := by rw [hfit]; simp
              have e10 : decide (0 < (((t.drop (2 * N)).drop (8 * M)).length : Int)) = false := by simp only [List.length_drop] at hfit ⊢; simp; omega
              simp only [e9, e10, cond_true, cond_false, Int.toNat_natCast]
              rw [arrayOkI _ _ (by rw [numsN_length]; omega)]
              cases arrOk (dimsN N t) (numsN M (t.drop (2 * N))) <;> rfl
            · have e9 : decide (((t.drop (2 * N)).length : Int) = 8 * (M : Int)) = false := by simp only [decide_eq_false_iff_not]; omega
              have e10 : decide (0 < (((t.drop (2 * N)).drop (8 * M)).length : Int)) = true := by have := hok.1; simp only [List.length_drop] at hfit this ⊢; simp; omega
              simp only [e9, e10, cond_true, cond_false, arrRes]
          · obtain ⟨w, v, hwv⟩ := n2 hok
            rw [hwv]
            simp only [cond_true]
            cases hfit : decide (((t.drop (2 * N)).length : Int) = 8 * (M : Int)) with
            | false => rfl
            | true =>
              simp only [decide_eq_true_eq] at hfit
              simp only [cond_true, Int.toNat_natCast]
              have : arrOk (dimsN N t) (numsN M (t.drop (2 * N))) = false := by
                cases ha : arrOk (dimsN N t) (numsN M (t.drop (2 * N))) with
                | false => rfl
                | true =>
                  exfalso
                  apply hok
                  refine ⟨by omega, fun x hx => ?_⟩
                  have := (arrOk_facts ha).2.2.2.1
                  exact List.all_eq_true.1 this x hx
              rw [this]; rfl
      · have e5 : decide (2 * N ≤ t.length) = false := by simpa using hs
        obtain ⟨w, hw1, hw2⟩ := d2 (by omega)
        refine (hw2 _).trans ?_
        simp only [sizeOfI, e5, cond_false, arrRes]
        obtain ⟨n, hn⟩ : ∃ n, fuel = n + 1 := ⟨fuel - 1, by rw [fuel_eq]⟩
        rw [hn]
        simp only [impl_ArrayRead.l2, impl_ArrayRead.l2s, Bool.not_true, cond_false, cond_true]
        cases decide (0 < sizeOf w) <;> rfl

theorem ofInt_wrap (z : Int) : BitVec.ofInt 64 (IntKind.i64.wrap z) = BitVec.ofInt 64 (z % 18446744073709551616) := by
  apply BitVec.eq_of_toNat_eq
  rw [BitVec.toNat_ofInt, BitVec.toNat_ofInt, IntKind.wrap_i64]
  have h64 : ((2 ^ 64 : Nat) : Int) = 18446744073709551616 := by decide
  rw [h64]
  congr 1
  omega
theorem orI (y b : Int) (hb : byteOk b) : arith.bits .or .i64 (IntKind.i64.wrap (y * 2 ^ 8)) b = IntKind.i64.wrap (b + 256 * y) := by
  simp only [byteOk] at hb
  have e : arith.bits .or .i64 (IntKind.i64.wrap (y * 2 ^ 8)) b = IntKind.i64.wrap ((BitVec.ofInt 64 (IntKind.i64.wrap (y * 2 ^ 8)) ||| BitVec.ofInt 64 b).toNat : Int) := rfl
  have h8 : (2 : Int) ^ 8 = 256 := by decide
  have hd : (256 : Int) ∣ (y * 256) % 18446744073709551616 := by omega
  rw [e, ofInt_wrap, h8, BitVec.or_comm, or_add64 (i := 8) (by omega) (by rw [h8]; omega) (by omega) (by rw [h8]; exact hd) (by omega) (by omega)]
  rw [Int.toNat_of_nonneg (by omega), IntKind.wrap_i64, IntKind.wrap_i64]
  omega
theorem wrap_mul (y b : Int) : IntKind.i64.wrap (b + 256 * IntKind.i64.wrap y) = IntKind.i64.wrap (b + 256 * y) := by
  simp only [IntKind.wrap_i64]; omega

theorem bs_getD {a : List Int} (h : bsOk a) {i : Nat} (hi : i < a.length) : byteOk (a.getD i 0) := by
  rw [List.getD_eq_getElem?_getD, List.getElem?_eq_getElem hi]
  exact h.1 _ (List.getElem_mem hi)
theorem horner (a : List Int) (h : bsOk a) (x18 x19 : Int) (s d : List Int) (at_ : Nat) (hat : at_ + 8 ≤ a.length) (k : Int → Option Res) : ∀ (j n : Nat), j ≤ 8 → j < n →
    spec_ArrayRead.l4 a (at_ : Int) x18 x19 s d k n (IntKind.i64.wrap (le ((a.drop (at_ + j)).take (8 - j)))) ((j : Int) - 1) = k (IntKind.i64.wrap (le ((a.drop at_).take 8))) := by
  have hl := h.2
  intro j
  induction j with
  | zero =>
    intro n _ hn
    obtain ⟨n, rfl⟩ : ∃ n', n = n' + 1 := ⟨n - 1, by omega⟩
    simp only [spec_ArrayRead.l4, spec_ArrayRead.l4s, show decide ((0 : Int) ≤ ((0 : Nat) : Int) - 1) = false by decide, cond_false, Nat.add_zero, Nat.sub_zero]
  | succ j ih =>
    intro n hj hn
    obtain ⟨n, rfl⟩ : ∃ n', n = n' + 1 := ⟨n - 1, by omega⟩
    have e1 : (((j + 1 : Nat) : Int) - 1) = (j : Int) := by omega
    have e2 : IntKind.i64.wrap ((at_ : Int) + (j : Int)) = ((at_ + j : Nat) : Int) := by rw [w64 (by omega)]; omega
    have e3 : decide (0 ≤ ((at_ + j : Nat) : Int)) = true := ix0
    have e4 : decide (((at_ + j : Nat) : Int) < (a.length : Int)) = true := by simp; omega
    have hb := bs_getD h (i := at_ + j) (by omega)
    rw [e1]
    simp only [spec_ArrayRead.l4, spec_ArrayRead.l4s, show decide ((0 : Int) ≤ (j : Int)) = true by simp, e2, e3, e4, Bool.and_self, cond_true, Int.toNat_natCast, wrapB _ hb, orI _ _ hb, wrap_mul]
    rw [w64 (n := (j : Int) - 1) (by omega)]
    have e5 : (a.drop (at_ + j)).take (8 - j) = a.getD (at_ + j) 0 :: (a.drop (at_ + (j + 1))).take (8 - (j + 1)) := by
      rw [drop_cons 0 (by omega : at_ + j < a.length), show 8 - j = (8 - (j + 1)) + 1 by omega, List.take_succ_cons]; rfl
    have := ih n (by omega) (by omega)
    rw [e5] at this
    exact this

theorem dimsN_drop (a : List Int) : ∀ (m i : Nat), i + 2 * (m + 1) ≤ a.length → dimsN (m + 1) (a.drop i) = dim2 (a.getD i 0) (a.getD (i + 1) 0) :: dimsN m (a.drop (i + 2)) := by
  intro m i h
  rw [drop_cons 0 (by omega : i < a.length), drop_cons 0 (by omega : i + 1 < a.length)]
  rfl
theorem dims_loopS (a z : List Int) (h : bsOk a) (N : Nat) (hN : a.getD 0 0 = N) (hN3 : N ≤ 3) (hl : 1 + 2 * N ≤ a.length) (k : Int → List Int → Option Res) : ∀ (m n : Nat) (acc : List Int), acc.length + m = N → m < n →
    spec_ArrayRead.l0 a z k n ((1 + 2 * acc.length : Nat) : Int) (acc.length : Int) acc = k ((1 + 2 * N : Nat) : Int) (acc ++ dimsN m (a.drop (1 + 2 * acc.length))) := by
  intro m
  have h0 : decide (0 < (a.length : Int)) = true := by simp; omega
  have hw0 : IntKind.i64.wrap ((N : Int)) = N := w64 (by omega)
  induction m with
  | zero =>
    intro n acc h1 h2
    obtain ⟨n, rfl⟩ : ∃ n', n = n' + 1 := ⟨n - 1, by omega⟩
    have e : decide ((acc.length : Int) < (N : Int)) = false := by simp; omega
    have e2 : acc.length = N := by omega
    simp only [spec_ArrayRead.l0, spec_ArrayRead.l0s, h0, cond_true, hN, hw0, e, cond_false, dimsN, List.append_nil, e2, ixe]
  | succ m ih =>
    intro n acc h1 h2
    obtain ⟨n, rfl⟩ : ∃ n', n = n' + 1 := ⟨n - 1, by omega⟩
    have e : decide ((acc.length : Int) < (N : Int)) = true := by simp; omega
    have hl2 := h.2
    have e1 : IntKind.i64.wrap (((1 + 2 * acc.length : Nat) : Int) + 1) = ((1 + 2 * acc.length + 1 : Nat) : Int) := by rw [w64 (by omega)]; omega
    have e3 : decide (((1 + 2 * acc.length : Nat) : Int) < (a.length : Int)) = true := by simp; omega
    have e4 : decide (((1 + 2 * acc.length + 1 : Nat) : Int) < (a.length : Int)) = true := by simp; omega
    have e5 : decide ((acc.length + 1) * 8 ≤ 140737488355328) = true := by simp; omega
    have e6 : IntKind.i64.wrap ((acc.length : Int) + 1) = ((acc.length + 1 : Nat) : Int) := by rw [w64 (by omega)]; rfl
    have e7 : IntKind.i64.wrap (((1 + 2 * acc.length : Nat) : Int) + 2) = ((1 + 2 * (acc.length + 1) : Nat) : Int) := by rw [w64 (by omega)]; omega
    have b1 := bs_getD h (i := 1 + 2 * acc.length) (by omega)
    have b2 := bs_getD h (i := 1 + 2 * acc.length + 1) (by omega)
    simp only [spec_ArrayRead.l0, spec_ArrayRead.l0s, h0, cond_true, hN, hw0, e, e1, e3, e4, e5, e6, e7, show ∀ x : Nat, decide (0 ≤ (x : Int)) = true from fun x => by simp, Bool.and_self, Int.toNat_natCast, wrapB _ b1, wrapB _ b2]
    have b1' := b1
    have b2' := b2
    simp only [byteOk] at b1' b2'
    rw [w64 (n := 256 * a.getD (1 + 2 * acc.length + 1) 0) (by omega), w64 (n := a.getD (1 + 2 * acc.length) 0 + _) (by omega)]
    have := ih n (acc ++ [dim2 (a.getD (1 + 2 * acc.length) 0) (a.getD (1 + 2 * acc.length + 1) 0)]) (by simp; omega) (by omega)
    simp only [List.length_append, List.length_singleton] at this
    rw [dimsN_drop a m _ (by omega), show acc ++ dim2 (a.getD (1 + 2 * acc.length) 0) (a.getD (1 + 2 * acc.length + 1) 0) :: dimsN m (a.drop (1 + 2 * acc.length + 2)) = acc ++ [dim2 (a.getD (1 + 2 * acc.length) 0) (a.getD (1 + 2 * acc.length + 1) 0)] ++ dimsN m (a.drop (1 + 2 * acc.length + 2)) by simp]
    exact this

def numW (l : List Int) : Int := IntKind.i64.wrap (IntKind.i64.wrap (le (l.take 8)) - 1000000000000)
def numsW : Nat → List Int → List Int
  | 0, _ => []
  | n + 1, l => numW l :: numsW n (l.drop 8)
theorem nums_loopS (a s : List Int) (h : bsOk a) (N : Nat) (hN : N ≤ 300) (k : List Int → Option Res) : ∀ (m n at_ : Nat) (acc : List Int), acc.length + m = N → m < n → at_ + 8 * m ≤ a.length →
    spec_ArrayRead.l2 a (N : Int) s k n (at_ : Int) (acc.length : Int) acc = k (acc ++ numsW m (a.drop at_)) := by
  have hl2 := h.2
  intro m
  induction m with
  | zero =>
    intro n at_ acc h1 h2 h3
    obtain ⟨n, rfl⟩ : ∃ n', n = n' + 1 := ⟨n - 1, by omega⟩
    have e : decide ((acc.length : Int) < (N : Int)) = false := by simp; omega
    simp only [spec_ArrayRead.l2, spec_ArrayRead.l2s, e, cond_false, numsW, List.append_nil]
  | succ m ih =>
    intro n at_ acc h1 h2 h3
    obtain ⟨n, rfl⟩ : ∃ n', n = n' + 1 := ⟨n - 1, by omega⟩
    have e : decide ((acc.length : Int) < (N : Int)) = true := by simp; omega
    have e5 : decide ((acc.length + 1) * 8 ≤ 140737488355328) = true := by simp; omega
    have e6 : IntKind.i64.wrap ((acc.length : Int) + 1) = ((acc.length + 1 : Nat) : Int) := by rw [w64 (by omega)]; rfl
    have e7 : IntKind.i64.wrap ((at_ : Int) + 8) = ((at_ + 8 : Nat) : Int) := by rw [w64 (by omega)]; rfl
    have hh := fun kk => horner a h (N : Int) (acc.length : Int) s acc at_ (by omega) kk 8 fuel (by omega) (by rw [fuel_eq]; omega)
    have hz : IntKind.i64.wrap (le ((a.drop (at_ + 8)).take (8 - 8))) = 0 := by simp [le]; rfl
    have h7 : (((8 : Nat) : Int) - 1) = 7 := by decide
    simp only [hz, h7] at hh
    simp only [spec_ArrayRead.l2, spec_ArrayRead.l2s, e, cond_true, hh, e5, e6, e7]
    have := ih n (at_ + 8) (acc ++ [numW (a.drop at_)]) (by simp; omega) (by omega) (by omega)
    simp only [List.length_append, List.length_singleton] at this
    simp only [numsW, List.drop_drop]
    rw [show acc ++ numW (a.drop at_) :: numsW m (a.drop (at_ + 8)) = acc ++ [numW (a.drop at_)] ++ numsW m (a.drop (at_ + 8)) by simp]
    exact this
/-- what is not in range is out of range in both ways of reckoning -/
theorem numW_ok (l : List Int) (h : bsOk l) (hl : 8 ≤ l.length) : numOk (numW l) = numOk (le (l.take 8) - 1000000000000) ∧ (numOk (numW l) = true → numW l = le (l.take 8) - 1000000000000) := by
  have hb := le_bound (l.take 8) (fun y hy => h.1 y (List.mem_of_mem_take hy))
  have h8 : (l.take 8).length = 8 := by simp; omega
  rw [h8] at hb
  have h256 : (256 : Int) ^ 8 = 18446744073709551616 := by decide
  rw [h256] at hb
  simp only [numW, numOk, IntKind.wrap_i64]
  generalize le (l.take 8) = v at hb
  refine ⟨?_, ?_⟩
  · rw [Bool.eq_iff_iff]; simp only [Bool.and_eq_true, decide_eq_true_eq]; omega
  · simp only [Bool.and_eq_true, decide_eq_true_eq]; omega
theorem numsW_ok : ∀ (m : Nat) (l : List Int), bsOk l → 8 * m ≤ l.length → (numsW m l).all numOk = (numsN m l).all numOk ∧ ((numsW m l).all numOk = true → numsW m l = numsN m l) := by
  intro m
  induction m with
  | zero => intro l _ _; exact ⟨rfl, fun _ => rfl⟩
  | succ m ih =>
    intro l h hl
    obtain ⟨a1, a2⟩ := numW_ok l h (by omega)
    obtain ⟨b1, b2⟩ := ih (l.drop 8) (h.drop 8) (by simp; omega)
    simp only [numsW, numsN, List.all_cons, a1, b1, true_and]
    intro hh
    rw [Bool.and_eq_true] at hh
    rw [a2 (by rw [a1]; exact hh.1), b2 (by rw [b1]; exact hh.2)]
theorem numsW_length (n : Nat) : ∀ l, (numsW n l).length = n := by
  induction n with
  | zero => intro l; rfl
  | succ n ih => intro l; simp [numsW, ih]

theorem arrayReadS (a : List Int) (h : bsOk a) (R : List Int → List Int → Bool → Option Res) : spec_ArrayRead.g a R = arrRes (readArr a) R := by
  simp only [spec_ArrayRead.e, spec_ArrayRead.b]
  cases a with
  | nil => simp [readArr, arrRes]
  | cons r t =>
    obtain ⟨hr, ht⟩ := h.tl
    have ht2 := ht.2
    have hl2 := h.2
    have e0 : (((r :: t).length : Int) == 0) = false := by simp [beq_eq_false_iff_ne]; omega
    have e1 : decide (0 < ((r :: t).length : Int)) = true := by simp
    simp only [e0, e1, cond_true, cond_false, List.getD_cons_zero, wrapB r hr]
    simp only [byteOk] at hr
    by_cases h3 : 3 < r
    · have e : decide (r ≤ 3) = false := by simp; omega
      simp only [h3, decide_true, cond_true, readArr, e, cond_false, arrRes]
    · have e : decide (r ≤ 3) = true := by simp; omega
      simp only [h3, decide_false, cond_false, readArr, e, cond_true]
      obtain ⟨N, rfl⟩ := Int.eq_ofNat_of_zero_le hr.1
      rw [w64 (n := 2 * (N : Int)) (by omega), w64 (n := (((N : Int) :: t).length : Int) - 1) (by simp; omega)]
      simp only [Int.toNat_natCast, readBody]
      by_cases hs : 2 * N ≤ t.length
      · have e5 : decide (2 * N ≤ t.length) = true := by simpa using hs
        have e6 : decide ((((N : Int) :: t).length : Int) - 1 < 2 * (N : Int)) = false := by simp; omega
        simp only [e5, e6, cond_true, cond_false]
        have hd := dims_loopS ((N : Int) :: t) [] h N rfl (by omega) (by simp; omega) (fun y7 y8 => spec_SizeOf.g y8 fun r9 => bif decide (r9 < 0) then R ([] : List Int) ([] : List Int) false
          else bif (IntKind.i64.wrap ((((N : Int) :: t).length : Int) - y7) != IntKind.i64.wrap (8 * r9)) then R ([] : List Int) ([] : List Int) false
          else (spec_ArrayRead.l2 ((N : Int) :: t) r9 y8 (fun y25 => spec_ArrayOk.g y8 y25 fun r26 => bif !r26 then R ([] : List Int) ([] : List Int) false else R y8 y25 true) fuel y7 0 ([] : List Int))) N fuel [] (by simp) (by rw [fuel_eq]; omega)
        simp only [List.length_nil, Nat.mul_zero, Nat.add_zero, List.nil_append, List.drop_succ_cons, List.drop_zero] at hd
        refine Eq.trans hd ?_
        simp only [sizeOfS]
        have hsz := sizeOf_ge (dimsN N t)
        have hsz2 := sizeOf_le (dimsN N t)
        have hdl : (t.drop (2 * N)).length = t.length - 2 * N := by simp
        by_cases hneg : sizeOf (dimsN N t) < 0
        · have e6 : sizeOf (dimsN N t) = -1 := by omega
          rw [e6]
          have e7 : decide (((t.drop (2 * N)).length : Int) = 8 * (-1)) = false := by simp
          simp only [readFit, show decide ((-1 : Int) < 0) = true by decide, cond_true, e7, cond_false, arrRes]
        · obtain ⟨M, hM⟩ := Int.eq_ofNat_of_zero_le (by omega : 0 ≤ sizeOf (dimsN N t))
          rw [hM]
          have hM3 : M ≤ 300 := by omega
          have e7 : decide ((M : Int) < 0) = false := by simp
          rw [w64 (n := (((N : Int) :: t).length : Int) - _) (by simp; omega), w64 (n := 8 * (M : Int)) (by omega)]
          simp only [readFit, e7, cond_false, Int.toNat_natCast]
          by_cases hfit : (t.drop (2 * N)).length = 8 * M
          · have e8 : ((((N : Int) :: t).length : Int) - ((1 + 2 * N : Nat) : Int) != 8 * (M : Int)) = false := by simp; omega
            have e9 : decide (((t.drop (2 * N)).length : Int) = 8 * (M : Int)) = true := by rw [hfit]; simp
            simp only [e8, e9, cond_false, cond_true]
            have hn := nums_loopS ((N : Int) :: t) (dimsN N t) h M hM3 (fun y25 => spec_ArrayOk.g (dimsN N t) y25 fun r26 => bif !r26 then R ([] : List Int) ([] : List Int) false else R (dimsN N t) y25 true) M fuel (1 + 2 * N) [] (by simp) (by rw [fuel_eq]; omega) (by simp; omega)
            simp only [List.length_nil, List.nil_append] at hn
            refine Eq.trans hn ?_
            have e10 : ((N : Int) :: t).drop (1 + 2 * N) = t.drop (2 * N) := by rw [Nat.add_comm]; rfl
            rw [e10]
            obtain ⟨w1, w2⟩ := numsW_ok M (t.drop (2 * N)) (ht.drop _) (by omega)
            rw [arrayOkS _ _ (by rw [numsW_length]; omega)]
            have ea : arrOk (dimsN N t) (numsW M (t.drop (2 * N))) = arrOk (dimsN N t) (numsN M (t.drop (2 * N))) := by
              simp only [arrOk, numsW_length, numsN_length, w1]
            cases hA : arrOk (dimsN N t) (numsN M (t.drop (2 * N))) with
            | false => rw [ea, hA]; rfl
            | true =>
              rw [ea, hA]
              have : (numsW M (t.drop (2 * N))).all numOk = true := by rw [w1]; exact (arrOk_facts hA).2.2.2.1
              rw [w2 this]; rfl
          · have e8 : ((((N : Int) :: t).length : Int) - ((1 + 2 * N : Nat) : Int) != 8 * (M : Int)) = true := by simp; omega
            have e9 : decide (((t.drop (2 * N)).length : Int) = 8 * (M : Int)) = false := by simp only [decide_eq_false_iff_not]; omega
            simp only [e8, e9, cond_true, cond_false, arrRes]
      · have e5 : decide (2 * N ≤ t.length) = false := by simpa using hs
        have e6 : decide ((((N : Int) :: t).length : Int) - 1 < 2 * (N : Int)) = true := by simp; omega
        simp only [e5, e6, cond_true, cond_false, arrRes]

theorem eqByteS (a : List Int) (h : a.length ≤ 9223372036854775807) (R : Bool → Option Res) : laws_eqByteS.g a a R = R true := by
  simp only [laws_eqByteS.e, laws_eqByteS.b, bne_self_eq_false, cond_false]
  refine up0 (N := a.length) (P := fun n i => laws_eqByteS.l0 a a (R true) R n (i : Int) = R true) (by omega) ?_ ?_ 0 (by omega)
  · intro n; simp only [laws_eqByteS.l0, laws_eqByteS.l0s, ixe, cond_false]
  · intro n i hi ih
    simp only [laws_eqByteS.l0, laws_eqByteS.l0s, ixl hi, ix0, Bool.and_self, cond_true, bne_self_eq_false, cond_false, ixw (by omega : i < 9223372036854775807)]
    exact ih
theorem markByteS (y : Int) (a : List Int) (hy : 0 ≤ y ∧ y ≤ 4611686018427387904) (h : a.length ≤ 4611686018427387903) (R : Int → List Int → Option Res) : laws_markByteS.g y a R = R (y + a.length) (cnt IntKind.u8.wrap y a.length) := by
  simp only [laws_markByteS.e, laws_markByteS.b]
  have := up0 (N := a.length) (P := fun n i => ∀ l : List Int, l.length = a.length → (∀ j, j < i → l[j]? = (cnt IntKind.u8.wrap y a.length)[j]?) → laws_markByteS.l0 R n (y + (i : Int)) (i : Int) l = R (y + a.length) (cnt IntKind.u8.wrap y a.length)) (by omega) ?_ ?_ 0 (by omega) a rfl (fun j hj => by omega)
  · simpa using this
  · intro n l hl hp
    have e : decide ((a.length : Int) < (l.length : Int)) = false := by simp; omega
    simp only [laws_markByteS.l0, laws_markByteS.l0s, e, cond_false]
    rw [list_eq (a := l) (by rw [hl, cnt_length]) (fun j hj => hp j (by omega))]
  · intro n i hi ih l hl hp
    have hi2 : decide ((i : Int) < (l.length : Int)) = true := by simp; omega
    have hw : IntKind.i64.wrap (y + (i : Int) + 1) = y + ((i + 1 : Nat) : Int) := by rw [w64 (by omega)]; omega
    simp only [laws_markByteS.l0, laws_markByteS.l0s, ix0, hi2, Bool.and_self, cond_true, ixw (by omega : i < 9223372036854775807), Int.toNat_natCast, hw]
    exact ih _ (by simp [hl]) (set_pre (by rw [hl, cnt_length]) (by rw [cnt_length]; exact hi) (cnt_get _ _ _ _ hi) hp)
theorem toByteS (a : List Int) (h : a.length ≤ 1048576) (R : List Int → Option Res) : laws_toByteS.g a R = R a := by
  have e1 : decide (0 ≤ (a.length : Int)) = true := by simp
  have e2 : decide ((a.length : Int) * 1 ≤ 140737488355328) = true := by simp; omega
  simp only [laws_toByteS.e, laws_toByteS.b, e1, e2, decide_true, Bool.and_self, cond_true]
  refine up0 (N := a.length) (P := fun n i => ∀ l : List Int, l.length = a.length → (∀ j, j < i → l[j]? = a[j]?) → laws_toByteS.l0 a R n (i : Int) l = R a) (by omega) ?_ ?_ 0 (by omega) _ (by simp) (fun j hj => by omega)
  · intro n l hl hp
    simp only [laws_toByteS.l0, laws_toByteS.l0s, ixe, cond_false]
    rw [list_eq hl (fun j hj => hp j (by omega))]
  · intro n i hi ih l hl hp
    have hi2 : decide ((i : Int) < (l.length : Int)) = true := by simp; omega
    simp only [laws_toByteS.l0, laws_toByteS.l0s, ixl hi, ix0, hi2, Bool.and_self, cond_true, ixw (by omega : i < 9223372036854775807), Int.toNat_natCast]
    exact ih _ (by simp [hl]) (set_pre hl hi (getD_lt 0 hi) hp)

theorem eqArray (a b : List Int) (h : a.length ≤ 9223372036854775807) (h2 : b.length ≤ 9223372036854775807) (R : Bool → Option Res) : laws_eqArray.g a b a b R = R true := by
  simp only [laws_eqArray.e, laws_eqArray.b, eqIntS a h, eqIntS b h2, Bool.not_true, cond_false]

theorem markArray (y : Int) (a b : List Int) (hy : 0 ≤ y ∧ y ≤ 1152921504606846976) (h : a.length ≤ 1152921504606846976) (h2 : b.length ≤ 1152921504606846976) (R : Int → List Int → List Int → Option Res) : laws_markArray.g y a b R = R (y + a.length + b.length) (cnt (fun x => x) y a.length) (cnt (fun x => x) (y + a.length) b.length) := by
  simp only [laws_markArray.e, laws_markArray.b]
  rw [markIntS y a (by omega) (by omega), markIntS _ b (by omega) (by omega)]

theorem heldIntS (y : Int) (m : Nat) (hy : 0 ≤ y ∧ y ≤ 4611686018427387904) (h : m ≤ 4611686018427387903) (R : Int → Option Res) : laws_heldIntS.g (cnt (fun x => x) y m) y R = R (y + m) := by
  simp only [laws_heldIntS.e, laws_heldIntS.b]
  have := up0 (N := m) (P := fun n i => laws_heldIntS.l0 (cnt (fun x => x) y m) R R n (y + (i : Int)) (i : Int) = R (y + m)) (by omega) ?_ ?_ 0 (by omega)
  · simpa using this
  · intro n
    simp only [laws_heldIntS.l0, laws_heldIntS.l0s, cnt_length, ixe, cond_false]
  · intro n i hi ih
    have hw : IntKind.i64.wrap (y + (i : Int) + 1) = y + ((i + 1 : Nat) : Int) := by rw [w64 (by omega)]; omega
    simp only [laws_heldIntS.l0, laws_heldIntS.l0s, cnt_length, ixl hi, ix0, Bool.and_self, cond_true, ixw (by omega : i < 9223372036854775807), Int.toNat_natCast, hw, getD_of (cnt_get (fun x => x) m y i hi), bne_self_eq_false, cond_false]
    exact ih
theorem heldArray (y : Int) (m n : Nat) (hy : 0 ≤ y ∧ y ≤ 1152921504606846976) (h : m ≤ 1152921504606846976) (h2 : n ≤ 1152921504606846976) (R : Int → Option Res) : laws_heldArray.g (cnt (fun x => x) y m) (cnt (fun x => x) (y + m) n) y R = R (y + m + n) := by
  have e1 : decide (y + (m : Int) < 0) = false := by simp; omega
  have e2 : decide (y + (m : Int) + (n : Int) < 0) = false := by simp; omega
  simp only [laws_heldArray.e, laws_heldArray.b]
  rw [heldIntS y m (by omega) (by omega)]
  simp only [e1, cond_false]
  rw [heldIntS _ n (by omega) (by omega)]
  simp only [e2, cond_false]

theorem bytes_ok {a : List Int} (h : wfQ [.int .u8] (.ints a)) : ∀ x ∈ a, byteOk x := by
  intro x hx
  obtain ⟨i, hi, rfl⟩ := List.mem_iff_getElem.1 hx
  obtain ⟨c, h1, h2⟩ := h.2 i 0 (.int .u8) hi rfl
  simp only [Sq.get, List.getElem?_cons_zero, Option.some.injEq] at h1
  subst h1
  rw [List.getD_eq_getElem?_getD, List.getElem?_eq_getElem hi] at h2
  simp only [wfCl, Option.getD_some] at h2
  simp [Lit.wf, IntKind.min, IntKind.max, IntKind.bits, IntKind.signed] at h2
  simp only [byteOk]; omega
theorem readArr_ok {a s d : List Int} (h : readArr a = some (s, d)) : arrOk s d = true := by
  cases a with
  | nil => cases h
  | cons r t =>
    simp only [readArr, readBody, readFit] at h
    cases h1 : decide (r ≤ 3) <;> rw [h1] at h <;> simp only [cond_true, cond_false] at h
    · cases h
    cases h2 : decide (2 * r.toNat ≤ t.length) <;> rw [h2] at h <;> simp only [cond_true, cond_false] at h
    · cases h
    cases h3 : decide (((t.drop (2 * r.toNat)).length : Int) = 8 * sizeOf (dimsN r.toNat t)) <;> rw [h3] at h <;> simp only [cond_true, cond_false] at h
    · cases h
    cases h4 : arrOk (dimsN r.toNat t) (numsN (sizeOf (dimsN r.toNat t)).toNat (t.drop (2 * r.toNat))) <;> rw [h4] at h <;> simp only [cond_true, cond_false] at h
    · cases h
    cases h
    exact h4
theorem arrRes_of {a : List Int} : ∃ s d ok, s.length ≤ 3 ∧ d.length ≤ 300 ∧ ∀ R, arrRes (readArr a) R = R s d ok := by
  cases hr : readArr a with
  | none => exact ⟨[], [], false, by simp, by simp, fun R => rfl⟩
  | some p =>
    obtain ⟨s, d⟩ := p
    obtain ⟨g1, g2, g3, g4, _⟩ := arrOk_facts (readArr_ok hr)
    exact ⟨s, d, true, g1, g3, fun R => rfl⟩
theorem lawFnExactArrayRead (a : List Int) (ha : wfQ [.int .u8] (.ints a)) (R : Bool → Option Res) : laws_FnExactArrayRead.g a R = R true := by
  simp only [laws_FnExactArrayRead.e, laws_FnExactArrayRead.b]
  by_cases h : 1048576 < (a.length : Int)
  · simp [h]
  have hb : bsOk a := ⟨bytes_ok ha, by omega⟩
  obtain ⟨s, d, ok, h1, h2, hk⟩ := arrRes_of (a := a)
  have e1 : decide ((1 : Int) + (a.length : Int) < 0) = false := by simp; omega
  have e2 : decide ((1 : Int) + (s.length : Int) + (d.length : Int) < 0) = false := by simp; omega
  simp only [h, decide_false, cond_false, toByteS a hb.2, arrayReadS a hb, arrayReadI a hb, hk, eqArray s d (by omega) (by omega), Bool.not_true, bne_self_eq_false, eqByteS a (by omega), markByteS 1 a (by omega) (by omega), e1, markArray 1 s d (by omega) (by omega) (by omega), heldArray 1 s.length d.length (by omega) (by omega) (by omega), e2]

end Go.Tv.F
