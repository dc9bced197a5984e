/- The pure law about these functions. It holds without condition. -/
import Derived.Test.YtbocgpagaacpoaaArrayBytesF
set_option linter.unusedVariables false
set_option linter.unusedSimpArgs false
set_option linter.unnecessarySimpa false
set_option maxRecDepth 100000
set_option autoImplicit false
namespace Go.Tv.F
open Go Go.Tv
def numOk (x : Int) : Bool := decide (-1000000000000 ≤ x) && decide (x ≤ 1000000000000)
theorem within (x a b : Int) (R : Bool → Option Res) : impl_within.g x a b R = R (decide (a ≤ x) && decide (x ≤ b)) := by
  simp only [impl_within.e, impl_within.b]; cases decide (a ≤ x) <;> rfl
theorem l1In (x a b : Int) (R : Bool → Option Res) : spec_l1In.g x a b R = R (decide (a ≤ x) && decide (x ≤ b)) := by
  simp only [spec_l1In.e, spec_l1In.b]; cases decide (a ≤ x) <;> rfl
theorem numOkI (x : Int) (R : Bool → Option Res) : impl_NumOk.g x R = R (numOk x) := by simp only [impl_NumOk.e, impl_NumOk.b, within, numOk]
theorem numOkS (x : Int) (R : Bool → Option Res) : spec_NumOk.g x R = R (numOk x) := by simp only [spec_NumOk.e, spec_NumOk.b, l1In, numOk]

def dimOk (x : Int) : Bool := decide (0 ≤ x) && decide (x ≤ 300)
def prod : List Int → Int := List.foldr (· * ·) 1
def sizeOf (s : List Int) : Int := bif decide (s.length ≤ 3) && s.all dimOk && decide (prod s ≤ 300) then prod s else -1

theorem prod_le (l : List Int) (h : l.all dimOk = true) : 0 ≤ prod l ∧ prod l ≤ 300 ^ l.length := by
  induction l with
  | nil => simp [prod]
  | cons a l ih =>
    simp only [List.all_cons, Bool.and_eq_true, dimOk, decide_eq_true_eq] at h
    obtain ⟨i1, i2⟩ := ih h.2
    simp only [prod, List.foldr_cons, List.length_cons] at i1 i2 ⊢
    refine ⟨Int.mul_nonneg h.1.1 i1, ?_⟩
    rw [Int.pow_succ, Int.mul_comm (300 ^ l.length)]
    exact Int.mul_le_mul h.1.2 i2 i1 (by omega)
theorem prod_cons (a : Int) (l : List Int) : prod (a :: l) = a * prod l := rfl

theorem sizeOfI (s : List Int) (R : Int → Option Res) : impl_SizeOf.g s R = R (sizeOf s) := by
  simp only [impl_SizeOf.e, impl_SizeOf.b]
  by_cases h : (3 : Int) < (s.length : Int)
  · have e : decide (s.length ≤ 3) = false := by simp; omega
    simp only [h, decide_true, cond_true, sizeOf, e, Bool.false_and, cond_false]
  have e : decide (s.length ≤ 3) = true := by simp; omega
  have loop : impl_SizeOf.l0 s (s.length : Int) (fun y7 => bif decide (300 < y7) then R (-1) else R y7) R fuel 1 0 = (bif s.all dimOk then (bif decide (300 < prod s) then R (-1) else R (prod s)) else R (-1)) := by
    have := up0 (N := s.length) (P := fun n i => ∀ acc : Int, 0 ≤ acc → acc ≤ 300 ^ i → impl_SizeOf.l0 s (s.length : Int) (fun y7 => bif decide (300 < y7) then R (-1) else R y7) R n acc (i : Int) = (bif (s.drop i).all dimOk then (bif decide (300 < acc * prod (s.drop i)) then R (-1) else R (acc * prod (s.drop i))) else R (-1))) (by omega) ?_ ?_ 0 (by omega) 1 (by omega) (by omega)
    · simpa using this
    · intro n acc _ _
      simp only [impl_SizeOf.l0, impl_SizeOf.l0s, ixe, cond_false, List.drop_length, List.all_nil, cond_true, prod, List.foldr_nil, Int.mul_one]
    · intro n i hi ih acc h0 h1
      have hb : (300 : Int) ^ i ≤ 300 ^ 2 := by
        have : i = 0 ∨ i = 1 ∨ i = 2 := by omega
        rcases this with rfl | rfl | rfl <;> decide
      simp only [impl_SizeOf.l0, impl_SizeOf.l0s, ixl hi, ix0, Bool.and_self, cond_true, within, ixw (by omega : i < 9223372036854775807), Int.toNat_natCast]
      rw [drop_cons 0 hi]
      generalize s.getD i 0 = d
      rw [List.all_cons, prod_cons]
      by_cases hd : dimOk d = true
      · have hd' := hd
        simp only [dimOk, Bool.and_eq_true, decide_eq_true_eq] at hd'
        have hm : acc * d ≤ 300 ^ 2 * 300 := Int.mul_le_mul (by omega) hd'.2 hd'.1 (by decide)
        have hm0 : 0 ≤ acc * d := Int.mul_nonneg h0 hd'.1
        rw [show (decide (0 ≤ d) && decide (d ≤ 300)) = true from hd, hd, w64 (by omega)]
        simp only [Bool.not_true, cond_false, Bool.true_and]
        rw [ih (acc * d) hm0 (by rw [Int.pow_succ]; exact Int.mul_le_mul h1 hd'.2 hd'.1 (by exact Int.pow_nonneg (by omega))), Int.mul_assoc]
      · have hd : dimOk d = false := by simpa using hd
        rw [show (decide (0 ≤ d) && decide (d ≤ 300)) = false from hd, hd]
        simp
  rw [loop]
  simp only [h, decide_false, cond_false, sizeOf, e, Bool.true_and]
  cases hA : s.all dimOk with
  | false => simp
  | true =>
    by_cases h3 : 300 < prod s
    · have : decide (prod s ≤ 300) = false := by simp; omega
      simp [h3, this]
    · have : decide (prod s ≤ 300) = true := by simp; omega
      simp [h3, this]

theorem sizeOfS (s : List Int) (R : Int → Option Res) : spec_SizeOf.g s R = R (sizeOf s) := by
  simp only [spec_SizeOf.e, spec_SizeOf.b]
  by_cases h : (3 : Int) < (s.length : Int)
  · have e : decide (s.length ≤ 3) = false := by simp; omega
    simp only [h, decide_true, cond_true, sizeOf, e, Bool.false_and, cond_false]
  have e : decide (s.length ≤ 3) = true := by simp; omega
  have loop2 : s.all dimOk = true → ∀ z k, spec_SizeOf.l2 s z k fuel 1 0 = k (prod s) := by
    intro hA z k
    have := up0 (N := s.length) (P := fun n i => ∀ acc : Int, 0 ≤ acc → acc ≤ 300 ^ i → (s.drop i).all dimOk = true → spec_SizeOf.l2 s z k n acc (i : Int) = k (acc * prod (s.drop i))) (by omega) ?_ ?_ 0 (by omega) 1 (by omega) (by omega) (by simpa using hA)
    · simpa using this
    · intro n acc _ _ _
      simp only [spec_SizeOf.l2, spec_SizeOf.l2s, ixe, cond_false, List.drop_length, prod, List.foldr_nil, Int.mul_one]
    · intro n i hi ih acc h0 h1 ha
      have hb : (300 : Int) ^ i ≤ 300 ^ 2 := by
        have : i = 0 ∨ i = 1 ∨ i = 2 := by omega
        rcases this with rfl | rfl | rfl <;> decide
      simp only [spec_SizeOf.l2, spec_SizeOf.l2s, ixl hi, ix0, Bool.and_self, cond_true, ixw (by omega : i < 9223372036854775807), Int.toNat_natCast]
      rw [drop_cons 0 hi] at ha ⊢
      revert ha
      generalize s.getD i 0 = d
      intro ha
      rw [prod_cons]
      simp only [List.all_cons, Bool.and_eq_true, dimOk, decide_eq_true_eq] at ha
      have hm : acc * d ≤ 300 ^ 2 * 300 := Int.mul_le_mul (by omega) ha.1.2 ha.1.1 (by decide)
      have hm0 : 0 ≤ acc * d := Int.mul_nonneg h0 ha.1.1
      rw [w64 (by omega), ih (acc * d) hm0 (by rw [Int.pow_succ]; exact Int.mul_le_mul h1 ha.1.2 ha.1.1 (by exact Int.pow_nonneg (by omega))) (by simpa [dimOk] using ha.2), Int.mul_assoc]
  have loop : ∀ k, spec_SizeOf.l0 s k R fuel false 0 = (bif s.all dimOk then k (s.any (· == 0)) else R (-1)) := by
    intro k
    have := up0 (N := s.length) (P := fun n i => ∀ z : Bool, spec_SizeOf.l0 s k R n z (i : Int) = (bif (s.drop i).all dimOk then k (z || (s.drop i).any (· == 0)) else R (-1))) (by omega) ?_ ?_ 0 (by omega) false
    · simpa using this
    · intro n z
      simp only [spec_SizeOf.l0, spec_SizeOf.l0s, ixe, cond_false, List.drop_length, List.all_nil, cond_true, List.any_nil, Bool.or_false]
    · intro n i hi ih z
      simp only [spec_SizeOf.l0, spec_SizeOf.l0s, ixl hi, ix0, Bool.and_self, cond_true, l1In, ixw (by omega : i < 9223372036854775807), Int.toNat_natCast]
      rw [drop_cons 0 hi]
      generalize s.getD i 0 = d
      rw [List.all_cons, List.any_cons]
      cases hd : dimOk d with
      | true =>
        rw [show (decide (0 ≤ d) && decide (d ≤ 300)) = true from hd]
        cases z with
        | true => simp only [Bool.not_true, cond_false, cond_true, ih, Bool.true_or, Bool.true_and]
        | false => simp only [Bool.not_true, cond_false, ih, Bool.false_or, Bool.true_and]
      | false =>
        rw [show (decide (0 ≤ d) && decide (d ≤ 300)) = false from hd]
        simp
  simp only [h, decide_false, cond_false, loop, sizeOf, e, Bool.true_and]
  cases hA : s.all dimOk with
  | false => simp
  | true =>
    simp only [cond_true, loop2 hA, Bool.true_and]
    by_cases h3 : 300 < prod s
    · have h4 : decide (prod s ≤ 300) = false := by simp; omega
      have hz : s.any (· == 0) = false := by
        cases hz : s.any (· == 0) with
        | false => rfl
        | true =>
          exfalso
          have : ∀ l : List Int, l.any (· == 0) = true → prod l = 0 := by
            intro l
            induction l with
            | nil => intro h; simp at h
            | cons a l ih =>
              intro h
              simp only [List.any_cons, Bool.or_eq_true, beq_iff_eq] at h
              rw [prod_cons]
              rcases h with rfl | h
              · simp
              · rw [ih h]; simp
          rw [this s hz] at h3
          omega
      simp [h3, h4, hz]
    · have : decide (prod s ≤ 300) = true := by simp; omega
      simp [h3, this]

def arrOk (s d : List Int) : Bool := decide ((d.length : Int) = sizeOf s) && d.all numOk
theorem sizeOf_le (s : List Int) : sizeOf s ≤ 300 := by
  simp only [sizeOf]
  cases h : decide (s.length ≤ 3) && s.all dimOk && decide (prod s ≤ 300) with
  | false => simp
  | true => simp only [Bool.and_eq_true, decide_eq_true_eq] at h; simpa using h.2
theorem arrOk_facts {s d : List Int} (h : arrOk s d = true) : s.length ≤ 3 ∧ s.all dimOk = true ∧ d.length ≤ 300 ∧ d.all numOk = true ∧ (d.length : Int) = prod s := by
  simp only [arrOk, Bool.and_eq_true, decide_eq_true_eq] at h
  have h0 := sizeOf_le s
  obtain ⟨h1, h2⟩ := h
  rw [sizeOf] at h1
  cases h3 : decide (s.length ≤ 3) && s.all dimOk && decide (prod s ≤ 300) with
  | false => rw [h3] at h1; simp at h1
  | true =>
    rw [h3] at h1
    simp only [Bool.and_eq_true, decide_eq_true_eq] at h3
    simp only [cond_true] at h1
    exact ⟨h3.1.1, h3.1.2, by omega, h2, h1⟩

/-- the first place from i on at which something holds; -1: none -/
def idx {α : Type} (f : α → Bool) : List α → Int → Int
  | [], _ => -1
  | x :: l, i => bif f x then i else idx f l (i + 1)
theorem idx_any {α : Type} (f : α → Bool) (l : List α) : ∀ i : Int, 0 ≤ i → decide (0 ≤ idx f l i) = l.any f := by
  induction l with
  | nil => intro i _; rfl
  | cons x l ih =>
    intro i hi
    cases hf : f x with
    | true => simp [idx, hf, hi]
    | false => simpa [idx, hf] using ih (i + 1) (by omega)

theorem arrayOkI_1 (x : Int) (R : Bool → Option Res) : impl_ArrayOk_1.g x R = R (!numOk x) := by simp only [impl_ArrayOk_1.e, impl_ArrayOk_1.b, numOkI]
theorem arrayOkI_idx (d : List Int) (h : d.length ≤ 9223372036854775807) (R : Int → Option Res) : slices_IndexFunc_int_int.g d R = R (idx (fun x => !numOk x) d 0) := by
  simp only [slices_IndexFunc_int_int.e, slices_IndexFunc_int_int.b]
  have := up0 (N := d.length) (P := fun n i => slices_IndexFunc_int_int.l0 d (d.length : Int) (R (-1)) R n (i : Int) = R (idx (fun x => !numOk x) (d.drop i) i)) (by omega) ?_ ?_ 0 (by omega)
  · simpa using this
  · intro n; simp only [slices_IndexFunc_int_int.l0, slices_IndexFunc_int_int.l0s, ixe, cond_false, List.drop_length, idx]
  · intro n i hi ih
    simp only [slices_IndexFunc_int_int.l0, slices_IndexFunc_int_int.l0s, ixl hi, ix0, Bool.and_self, cond_true, arrayOkI_1, ixw (by omega : i < 9223372036854775807), Int.toNat_natCast]
    rw [drop_cons 0 hi, idx]
    cases numOk (d.getD i 0) with
    | true => exact ih
    | false => rfl
theorem arrayOkI (s d : List Int) (h : d.length ≤ 9223372036854775807) (R : Bool → Option Res) : impl_ArrayOk.g s d R = R (arrOk s d) := by
  simp only [impl_ArrayOk.e, impl_ArrayOk.b, sizeOfI, slices_ContainsFunc_int_int.e, slices_ContainsFunc_int_int.b, arrayOkI_idx d h, idx_any _ _ _ (Int.le_refl 0), arrOk]
  by_cases h1 : (d.length : Int) = sizeOf s
  · simp only [h1, beq_self_eq_true, cond_true, decide_true, Bool.true_and]
    congr 1
    rw [List.any_eq_not_all_not]; simp
  · have : ((d.length : Int) == sizeOf s) = false := by simpa using h1
    simp only [this, h1, cond_false, decide_false, Bool.false_and]
theorem arrayOkS (s d : List Int) (h : d.length ≤ 9223372036854775807) (R : Bool → Option Res) : spec_ArrayOk.g s d R = R (arrOk s d) := by
  simp only [spec_ArrayOk.e, spec_ArrayOk.b, sizeOfS, arrOk]
  have loop : spec_ArrayOk.l0 s d (R true) R fuel 0 = R (d.all numOk) := by
    have := up0 (N := d.length) (P := fun n i => spec_ArrayOk.l0 s d (R true) R n (i : Int) = R ((d.drop i).all numOk)) (by omega) ?_ ?_ 0 (by omega)
    · simpa using this
    · intro n; simp only [spec_ArrayOk.l0, spec_ArrayOk.l0s, ixe, cond_false, List.drop_length, List.all_nil]
    · intro n i hi ih
      simp only [spec_ArrayOk.l0, spec_ArrayOk.l0s, ixl hi, ix0, Bool.and_self, cond_true, numOkS, ixw (by omega : i < 9223372036854775807), Int.toNat_natCast]
      rw [drop_cons 0 hi, List.all_cons]
      cases numOk (d.getD i 0) with
      | true => exact ih
      | false => rfl
  by_cases h1 : (d.length : Int) = sizeOf s
  · rw [h1]; simp only [bne_self_eq_false, cond_false, loop, decide_true, Bool.true_and]
  · have : (sizeOf s != (d.length : Int)) = true := by simp; omega
    simp only [this, cond_true, h1, decide_false, Bool.false_and]

/-- bytes of a number from a place on -/
def b8 (x : Int) (i : Nat) : Nat → List Int
  | 0 => []
  | k + 1 => IntKind.u8.wrap (x.fdiv (2 ^ (8 * i))) :: b8 x (i + 1) k
theorem b8_length (x : Int) (k : Nat) : ∀ i, (b8 x i k).length = k := by
  induction k with
  | zero => intro i; rfl
  | succ k ih => intro i; simp [b8, ih]
def numB (x : Int) : List Int := b8 (IntKind.i64.wrap (x + 1000000000000)) 0 8
def dimB (n : Int) : List Int := [IntKind.u8.wrap n, IntKind.u8.wrap (n.fdiv (2 ^ 8))]
def packB (s d : List Int) : List Int := [IntKind.u8.wrap (s.length : Int)] ++ s.flatMap dimB ++ d.flatMap numB
theorem numB_length (x : Int) : (numB x).length = 8 := b8_length _ _ _
theorem flat_length {α : Type} (f : Int → List α) (c : Nat) (h : ∀ x, (f x).length = c) (l : List Int) : (l.flatMap f).length = c * l.length := by
  induction l with
  | nil => rfl
  | cons a l ih => simp only [List.flatMap_cons, List.length_append, h, ih, List.length_cons]; rw [Nat.mul_add]; omega
theorem packB_length (s d : List Int) : (packB s d).length = 1 + 2 * s.length + 8 * d.length := by
  simp only [packB, List.length_append, List.length_cons, List.length_nil, flat_length dimB 2 (fun _ => rfl), flat_length numB 8 numB_length]

theorem putNum (x : Int) (out : List Int) (h : out.length ≤ 100000000) (R : List Int → Option Res) : impl_putNum.g x out R = R (out ++ numB x) := by
  simp only [impl_putNum.e, impl_putNum.b]
  have := up0 (N := 8) (P := fun n i => ∀ l : List Int, l.length ≤ 100000000 + i → impl_putNum.l0 (IntKind.i64.wrap (x + 1000000000000)) R n (i : Int) l = R (l ++ b8 (IntKind.i64.wrap (x + 1000000000000)) i (8 - i))) (by omega) ?_ ?_ 0 (by omega) out (by omega)
  · exact this
  · intro n l _
    simp only [impl_putNum.l0, impl_putNum.l0s, show decide (((8 : Nat) : Int) < 8) = false by decide, cond_false, Nat.sub_self, b8, List.append_nil]
  · intro n i hi ih l hl
    have e1 : decide ((i : Int) < 8) = true := by simp; omega
    have e2 : decide ((l.length + 1) * 1 ≤ 140737488355328) = true := by simp; omega
    have e3 : IntKind.i64.wrap (8 * (i : Int)) = ((8 * i : Nat) : Int) := by rw [w64 (by omega)]; omega
    have e4 : decide (((8 * i : Nat) : Int) < 0) = false := by simp; omega
    have e5 : min (8 * i) 64 = 8 * i := by omega
    simp only [impl_putNum.l0, impl_putNum.l0s, e1, e2, e3, e4, e5, Int.toNat_natCast, cond_true, cond_false, ixw (by omega : i < 9223372036854775807)]
    rw [ih _ (by simp; omega), show 8 - i = (8 - (i + 1)) + 1 by omega, b8]
    simp
theorem putNumS (x y : Int) (s d out : List Int) (h : out.length ≤ 100000000) (k : List Int → Option Res) : spec_ArrayPack.l4 y (IntKind.i64.wrap (x + 1000000000000)) s d k fuel 0 out = k (out ++ numB x) := by
  have := up0 (N := 8) (P := fun n i => ∀ l : List Int, l.length ≤ 100000000 + i → spec_ArrayPack.l4 y (IntKind.i64.wrap (x + 1000000000000)) s d k n (i : Int) l = k (l ++ b8 (IntKind.i64.wrap (x + 1000000000000)) i (8 - i))) (by omega) ?_ ?_ 0 (by omega) out (by omega)
  · exact this
  · intro n l _
    simp only [spec_ArrayPack.l4, spec_ArrayPack.l4s, show decide (((8 : Nat) : Int) < 8) = false by decide, cond_false, Nat.sub_self, b8, List.append_nil]
  · intro n i hi ih l hl
    have e1 : decide ((i : Int) < 8) = true := by simp; omega
    have e2 : decide ((l.length + 1) * 1 ≤ 140737488355328) = true := by simp; omega
    have e3 : IntKind.i64.wrap (8 * (i : Int)) = ((8 * i : Nat) : Int) := by rw [w64 (by omega)]; omega
    have e4 : decide (((8 * i : Nat) : Int) < 0) = false := by simp; omega
    have e5 : min (8 * i) 64 = 8 * i := by omega
    simp only [spec_ArrayPack.l4, spec_ArrayPack.l4s, e1, e2, e3, e4, e5, Int.toNat_natCast, cond_true, cond_false, ixw (by omega : i < 9223372036854775807)]
    rw [ih _ (by simp; omega), show 8 - i = (8 - (i + 1)) + 1 by omega, b8]
    simp

theorem arrayPackI (s d : List Int) (h : d.length ≤ 9223372036854775807) (R : List Int → Bool → Option Res) : impl_ArrayPack.g s d R = bif arrOk s d then R (packB s d) true else R [] false := by
  simp only [impl_ArrayPack.e, impl_ArrayPack.b, arrayOkI s d h]
  cases ha : arrOk s d with
  | false => rfl
  | true =>
    obtain ⟨h1, h2, h3, h4, _⟩ := arrOk_facts ha
    simp only [Bool.not_true, cond_false, cond_true]
    have hs : ∀ k, impl_ArrayPack.l0 s (s.length : Int) s d k fuel 0 [IntKind.u8.wrap (s.length : Int)] = k ([IntKind.u8.wrap (s.length : Int)] ++ s.flatMap dimB) := by
      intro k
      have := up0 (N := s.length) (P := fun n i => ∀ l : List Int, l.length ≤ 1 + 2 * i → impl_ArrayPack.l0 s (s.length : Int) s d k n (i : Int) l = k (l ++ (s.drop i).flatMap dimB)) (by omega) ?_ ?_ 0 (by omega) [IntKind.u8.wrap (s.length : Int)] (by simp)
      · simpa using this
      · intro n l _; simp only [impl_ArrayPack.l0, impl_ArrayPack.l0s, ixe, cond_false, List.drop_length, List.flatMap_nil, List.append_nil]
      · intro n i hi ih l hl
        have e : decide ((l.length + 2) * 1 ≤ 140737488355328) = true := by simp; omega
        simp only [impl_ArrayPack.l0, impl_ArrayPack.l0s, ixl hi, ix0, Bool.and_self, cond_true, e, ixw (by omega : i < 9223372036854775807), Int.toNat_natCast]
        rw [ih _ (by simp; omega), drop_cons 0 hi, List.flatMap_cons]
        simp [dimB]
    rw [hs]
    have hd : ∀ (k : List Int → Option Res) (o : List Int), o.length ≤ 7 → impl_ArrayPack.l2 d (d.length : Int) k fuel 0 o = k (o ++ d.flatMap numB) := by
      intro k o ho
      have := up0 (N := d.length) (P := fun n i => ∀ l : List Int, l.length ≤ 7 + 8 * i → impl_ArrayPack.l2 d (d.length : Int) k n (i : Int) l = k (l ++ (d.drop i).flatMap numB)) (by omega) ?_ ?_ 0 (by omega) o (by omega)
      · simpa using this
      · intro n l _; simp only [impl_ArrayPack.l2, impl_ArrayPack.l2s, ixe, cond_false, List.drop_length, List.flatMap_nil, List.append_nil]
      · intro n i hi ih l hl
        simp only [impl_ArrayPack.l2, impl_ArrayPack.l2s, ixl hi, ix0, Bool.and_self, cond_true, ixw (by omega : i < 9223372036854775807), Int.toNat_natCast]
        rw [putNum _ _ (by omega), ih _ (by simp [numB_length]; omega), drop_cons 0 hi, List.flatMap_cons, List.append_assoc]
    rw [hd _ _ (by rw [List.length_append, flat_length dimB 2 (fun _ => rfl)]; simp; omega)]
    rfl
theorem arrayPackS (s d : List Int) (h : d.length ≤ 9223372036854775807) (R : List Int → Bool → Option Res) : spec_ArrayPack.g s d R = bif arrOk s d then R (packB s d) true else R [] false := by
  simp only [spec_ArrayPack.e, spec_ArrayPack.b, arrayOkS s d h]
  cases ha : arrOk s d with
  | false => rfl
  | true =>
    obtain ⟨h1, h2, h3, h4, _⟩ := arrOk_facts ha
    simp only [Bool.not_true, cond_false, cond_true]
    have hs : ∀ k, spec_ArrayPack.l0 s d k fuel 0 [IntKind.u8.wrap (s.length : Int)] = k ([IntKind.u8.wrap (s.length : Int)] ++ s.flatMap dimB) := by
      intro k
      have := up0 (N := s.length) (P := fun n i => ∀ l : List Int, l.length ≤ 1 + 2 * i → (s.drop i).all dimOk = true → spec_ArrayPack.l0 s d k n (i : Int) l = k (l ++ (s.drop i).flatMap dimB)) (by omega) ?_ ?_ 0 (by omega) [IntKind.u8.wrap (s.length : Int)] (by simp) (by simpa using h2)
      · simpa using this
      · intro n l _ _; simp only [spec_ArrayPack.l0, spec_ArrayPack.l0s, ixe, cond_false, List.drop_length, List.flatMap_nil, List.append_nil]
      · intro n i hi ih l hl hA
        have e : decide ((l.length + 2) * 1 ≤ 140737488355328) = true := by simp; omega
        simp only [spec_ArrayPack.l0, spec_ArrayPack.l0s, ixl hi, ix0, Bool.and_self, cond_true, e, ixw (by omega : i < 9223372036854775807), Int.toNat_natCast]
        rw [drop_cons 0 hi, List.all_cons, Bool.and_eq_true] at hA
        rw [ih _ (by simp; omega) hA.2, drop_cons 0 hi, List.flatMap_cons]
        have hd := hA.1
        revert hd
        generalize s.getD i 0 = x
        intro hd
        simp only [dimOk, Bool.and_eq_true, decide_eq_true_eq] at hd
        have e1 : IntKind.u8.wrap (x.tmod 256) = IntKind.u8.wrap x := by
          rw [IntKind.wrap_u8, IntKind.wrap_u8, Int.tmod_eq_emod_of_nonneg hd.1]; omega
        have e2 : IntKind.u8.wrap (IntKind.i64.wrap (x.tdiv 256)) = IntKind.u8.wrap (x.fdiv (2 ^ 8)) := by
          rw [Int.tdiv_eq_ediv_of_nonneg hd.1, Int.fdiv_eq_ediv_of_nonneg _ (by decide), w64 (by omega)]; rfl
        simp [dimB, e1, e2]
    rw [hs]
    have hd : ∀ (k : List Int → Option Res) (o : List Int), o.length ≤ 7 → spec_ArrayPack.l2 s d k fuel 0 o = k (o ++ d.flatMap numB) := by
      intro k o ho
      have := up0 (N := d.length) (P := fun n i => ∀ l : List Int, l.length ≤ 7 + 8 * i → spec_ArrayPack.l2 s d k n (i : Int) l = k (l ++ (d.drop i).flatMap numB)) (by omega) ?_ ?_ 0 (by omega) o (by omega)
      · simpa using this
      · intro n l _; simp only [spec_ArrayPack.l2, spec_ArrayPack.l2s, ixe, cond_false, List.drop_length, List.flatMap_nil, List.append_nil]
      · intro n i hi ih l hl
        simp only [spec_ArrayPack.l2, spec_ArrayPack.l2s, ixl hi, ix0, Bool.and_self, cond_true, ixw (by omega : i < 9223372036854775807), Int.toNat_natCast]
        rw [putNumS _ _ _ _ _ (by omega), ih _ (by simp [numB_length]; omega), drop_cons 0 hi, List.flatMap_cons, List.append_assoc]
    rw [hd _ _ (by rw [List.length_append, flat_length dimB 2 (fun _ => rfl)]; simp; omega)]
    rfl


def byteOk (x : Int) : Prop := 0 ≤ x ∧ x < 256
/-- the lowest first -/
def le : List Int → Int
  | [] => 0
  | b :: l => b + 256 * le l
theorem le_append (a b : List Int) : le (a ++ b) = le a + 256 ^ a.length * le b := by
  induction a with
  | nil => simp [le]
  | cons x a ih => simp only [List.cons_append, le, ih, List.length_cons, Int.pow_succ]; rw [Int.mul_add, ← Int.mul_assoc, Int.mul_comm 256 (256 ^ a.length)]; omega
theorem le_bound (l : List Int) (h : ∀ x ∈ l, byteOk x) : 0 ≤ le l ∧ le l < 256 ^ l.length := by
  induction l with
  | nil => simp [le]
  | cons x l ih =>
    obtain ⟨h1, h2⟩ := ih (fun y hy => h y (List.mem_cons_of_mem _ hy))
    have hx := h x (List.mem_cons_self ..)
    simp only [le, List.length_cons, Int.pow_succ]
    simp only [byteOk] at hx
    omega

theorem or_add64 {x y : Int} {i : Nat} (hi : i ≤ 64) (h0 : 0 ≤ x ∧ x < 2 ^ i) (hy : 0 ≤ y) (hd : (2 : Int) ^ i ∣ y) (hu : y < 18446744073709551616) (hxu : x < 18446744073709551616) : (BitVec.ofInt 64 x ||| BitVec.ofInt 64 y).toNat = (x + y).toNat := by
  obtain ⟨a, rfl⟩ := hd
  obtain ⟨m, rfl⟩ := Int.eq_ofNat_of_zero_le h0.1
  have ha : 0 ≤ a := by
    have h2 : (0 : Int) < 2 ^ i := Int.pow_pos (by decide)
    by_cases hn : a < 0
    · have := Int.mul_neg_of_pos_of_neg h2 hn; omega
    · omega
  obtain ⟨n, rfl⟩ := Int.eq_ofNat_of_zero_le ha
  have e1 : ((2 : Int) ^ i * (n : Int)) = ((2 ^ i * n : Nat) : Int) := by simp
  rw [e1] at hu ⊢
  have hm : m < 2 ^ i := by have := h0.2; have e2 : ((2 : Int) ^ i) = ((2 ^ i : Nat) : Int) := by simp
                            rw [e2] at this; omega
  rw [BitVec.toNat_or, BitVec.toNat_ofInt, BitVec.toNat_ofInt]
  have h64 : ((2 ^ 64 : Nat) : Int) = 18446744073709551616 := by decide
  rw [h64, Int.emod_eq_of_lt (by omega) (by omega), Int.emod_eq_of_lt (by omega) hu]
  have hsum : ((m : Int) + ((2 ^ i * n : Nat) : Int)) = ((m + 2 ^ i * n : Nat) : Int) := by omega
  rw [hsum, Int.toNat_natCast, Int.toNat_natCast, Int.toNat_natCast, Nat.or_comm, ← Nat.two_pow_add_eq_or_of_lt hm, Nat.add_comm]

theorem wrap_u64 {n : Int} (h : 0 ≤ n ∧ n < 18446744073709551616) : IntKind.u64.wrap n = n := by
  have e : IntKind.u64.wrap n = n % 18446744073709551616 := by simp [IntKind.wrap, IntKind.bits, IntKind.signed]
  rw [e]; omega
theorem p256 (i : Nat) : (256 : Int) ^ i = 2 ^ (8 * i) := by rw [Int.pow_mul]; rfl

/-- a round of impl's reading -/
theorem orU {x b : Int} {i : Nat} (hi : i < 8) (hx : 0 ≤ x ∧ x < 256 ^ i) (hb : byteOk b) :
    arith.bits .or .u64 x (IntKind.u64.wrap ((IntKind.u64.wrap b) * 2 ^ (min (8 * i) 64))) = x + b * 256 ^ i := by
  simp only [byteOk] at hb
  have hm : min (8 * i) 64 = 8 * i := by omega
  have hp : (0 : Int) < 2 ^ (8 * i) := Int.pow_pos (by decide)
  have hlt : b * 2 ^ (8 * i) < 18446744073709551616 := by
    have h1 : b * 2 ^ (8 * i) ≤ 255 * 2 ^ (8 * i) := Int.mul_le_mul_of_nonneg_right (by omega) (by omega)
    have h2 : (2 : Int) ^ (8 * i) ≤ 2 ^ 56 := by
      have : (2 : Nat) ^ (8 * i) ≤ 2 ^ 56 := Nat.pow_le_pow_right (by decide) (by omega)
      exact_mod_cast this
    have h3 : (2 : Int) ^ 56 = 72057594037927936 := by decide
    omega
  have h0 : 0 ≤ b * 2 ^ (8 * i) := Int.mul_nonneg (by omega) (by omega)
  have hxl : x < 2 ^ (8 * i) := by rw [← p256]; exact hx.2
  have hxu : x < 18446744073709551616 := by
    have h2 : (2 : Int) ^ (8 * i) ≤ 2 ^ 56 := by
      have : (2 : Nat) ^ (8 * i) ≤ 2 ^ 56 := Nat.pow_le_pow_right (by decide) (by omega)
      exact_mod_cast this
    have h3 : (2 : Int) ^ 56 = 72057594037927936 := by decide
    omega
  rw [hm, wrap_u64 (n := b) (by omega), wrap_u64 ⟨h0, hlt⟩, p256]
  have e : arith.bits .or .u64 x (b * 2 ^ (8 * i)) = IntKind.u64.wrap ((BitVec.ofInt 64 x ||| BitVec.ofInt 64 (b * 2 ^ (8 * i))).toNat : Int) := rfl
  rw [e, or_add64 (i := 8 * i) (by omega) ⟨hx.1, hxl⟩ h0 ⟨b, Int.mul_comm _ _⟩ hlt hxu]
  have hs : x + b * 2 ^ (8 * i) < 18446744073709551616 := by
    have h1 : b * 2 ^ (8 * i) ≤ 255 * 2 ^ (8 * i) := Int.mul_le_mul_of_nonneg_right (by omega) (by omega)
    have h2 : (2 : Int) ^ (8 * i) ≤ 2 ^ 56 := by
      have : (2 : Nat) ^ (8 * i) ≤ 2 ^ 56 := Nat.pow_le_pow_right (by decide) (by omega)
      exact_mod_cast this
    have h3 : (2 : Int) ^ 56 = 72057594037927936 := by decide
    omega
  rw [Int.toNat_of_nonneg (by omega), wrap_u64 (by omega)]

theorem wrapB (b : Int) (hb : byteOk b) : IntKind.i64.wrap b = b := w64 (by simp only [byteOk] at hb; omega)

theorem one_cons (x : Int) (l : List Int) (hx : byteOk x) (hl : l.length ≤ 9223372036854775806) (bad : Bool) (R : Int → List Int → Bool → Option Res) : impl_byteReader_one.g (x :: l) bad R = R x l bad := by
  simp only [impl_byteReader_one.e, impl_byteReader_one.b]
  have e1 : (((x :: l).length : Int) == 0) = false := by simp [beq_eq_false_iff_ne]; omega
  have e2 : decide (0 < ((x :: l).length : Int)) = true := by simp
  have e3 : decide (1 ≤ ((x :: l).length : Int)) = true := by simp; omega
  simp only [e1, e2, e3, cond_true, cond_false, List.getD_cons_zero, wrapB x hx, List.drop_succ_cons, List.drop_zero]
theorem one_nil (bad : Bool) (R : Int → List Int → Bool → Option Res) : impl_byteReader_one.g [] bad R = R 0 [] true := by
  simp [impl_byteReader_one.e, impl_byteReader_one.b]

def bsOk (l : List Int) : Prop := (∀ x ∈ l, byteOk x) ∧ l.length ≤ 1048576
theorem bsOk.tl {x : Int} {l : List Int} (h : bsOk (x :: l)) : byteOk x ∧ bsOk l := ⟨h.1 x (List.mem_cons_self ..), fun y hy => h.1 y (List.mem_cons_of_mem _ hy), by have := h.2; simp at this; omega⟩
theorem bsOk.drop {l : List Int} (h : bsOk l) (n : Nat) : bsOk (l.drop n) := ⟨fun y hy => h.1 y (List.mem_of_mem_drop hy), by have := h.2; simp; omega⟩

def dim2 (x y : Int) : Int := x + 256 * y
theorem two_ok (x y : Int) (l : List Int) (h : bsOk (x :: y :: l)) (bad : Bool) (R : Int → List Int → Bool → Option Res) : impl_byteReader_two.g (x :: y :: l) bad R = R (dim2 x y) l bad := by
  obtain ⟨h1, h2⟩ := h.tl
  obtain ⟨h3, h4⟩ := h2.tl
  have := h4.2
  simp only [impl_byteReader_two.e, impl_byteReader_two.b, one_cons x (y :: l) h1 (by simp; omega), one_cons y l h3 (by omega)]
  simp only [byteOk] at h1 h3
  rw [w64 (n := 256 * y) (by omega), w64 (by omega)]; rfl
theorem two_bad (l : List Int) (h : bsOk l) (hl : l.length < 2) (bad : Bool) : ∃ v, ∀ (R : Int → List Int → Bool → Option Res), impl_byteReader_two.g l bad R = R v [] true := by
  match l, h, hl with
  | [], _, _ => exact ⟨_, fun R => by simp only [impl_byteReader_two.e, impl_byteReader_two.b, one_nil]; rfl⟩
  | [x], h, _ => exact ⟨_, fun R => by simp only [impl_byteReader_two.e, impl_byteReader_two.b, one_cons x [] h.tl.1 (by simp), one_nil]; rfl⟩

/-- eight bytes -/
theorem num_loop (k : Int → List Int → Bool → Option Res) (bad : Bool) : ∀ (m : Nat) (n : Nat) (pre l : List Int), pre.length + m = 8 → m < n → (∀ x ∈ pre, byteOk x) → bsOk l → m ≤ l.length →
    impl_byteReader_num.l0 k n (le pre) (pre.length : Int) l bad = k (le (pre ++ l.take m)) (l.drop m) bad := by
  intro m
  induction m with
  | zero =>
    intro n pre l h1 h2 h3 h4 h5
    obtain ⟨n, rfl⟩ : ∃ n', n = n' + 1 := ⟨n - 1, by omega⟩
    have e : decide ((pre.length : Int) < 8) = false := by simp; omega
    simp only [impl_byteReader_num.l0, impl_byteReader_num.l0s, e, cond_false, List.take_zero, List.append_nil, List.drop_zero]
  | succ m ih =>
    intro n pre l h1 h2 h3 h4 h5
    obtain ⟨n, rfl⟩ : ∃ n', n = n' + 1 := ⟨n - 1, by omega⟩
    cases l with
    | nil => simp at h5
    | cons x l =>
      obtain ⟨hx, hl⟩ := h4.tl
      have e : decide ((pre.length : Int) < 8) = true := by simp; omega
      have hw : IntKind.i64.wrap (8 * (pre.length : Int)) = ((8 * pre.length : Nat) : Int) := by rw [w64 (by omega)]; omega
      have e2 : decide (((8 * pre.length : Nat) : Int) < 0) = false := by simp; omega
      have := hl.2
      simp only [impl_byteReader_num.l0, impl_byteReader_num.l0s, e, cond_true, one_cons x l hx (by omega), hw, e2, cond_false, Int.toNat_natCast]
      rw [orU (by omega) (le_bound pre h3) hx, w64 (by omega)]
      have e3 : le pre + x * 256 ^ pre.length = le (pre ++ [x]) := by rw [le_append]; simp only [le]; rw [Int.mul_zero, Int.add_zero, Int.mul_comm]
      have e4 : ((pre.length : Int) + 1) = ((pre ++ [x]).length : Int) := by simp
      rw [e3, e4, ih n (pre ++ [x]) l (by simp; omega) (by omega) (fun y hy => by
        rcases List.mem_append.1 hy with h | h
        · exact h3 y h
        · simp at h; subst h; exact hx) hl (by simpa using h5)]
      simp
theorem num_ok (l : List Int) (h : bsOk l) (hl : 8 ≤ l.length) (bad : Bool) (R : Int → List Int → Bool → Option Res) :
    impl_byteReader_num.g l bad R = bif decide (2000000000000 < le (l.take 8)) then R 0 (l.drop 8) true else R (le (l.take 8) - 1000000000000) (l.drop 8) bad := by
  simp only [impl_byteReader_num.e, impl_byteReader_num.b]
  have := num_loop (fun y10 y11 y12 => bif decide (2000000000000 < y10) then R 0 y11 true else R (IntKind.i64.wrap ((IntKind.i64.wrap y10) - 1000000000000)) y11 y12) bad 8 fuel [] l rfl (by rw [fuel_eq]; omega) (fun _ h => by cases h) h hl
  simp only [le, List.length_nil, List.nil_append] at this
  refine Eq.trans this ?_
  have hb := le_bound (l.take 8) (fun y hy => h.1 y (List.mem_of_mem_take hy))
  by_cases h2 : 2000000000000 < le (l.take 8)
  · simp [h2]
  · simp only [h2, decide_false, cond_false]
    rw [w64 (n := le (l.take 8)) (by omega), w64 (by omega)]
/-- too few -/
theorem num_short (R : Int → List Int → Bool → Option Res) : ∀ (m : Nat) (i : Nat) (l : List Int) (x : Int) (bad : Bool), i + m = 8 → bsOk l → l.length < m → ∃ v, ∀ (k : Int → List Int → Bool → Option Res) (n : Nat), m < n →
    impl_byteReader_num.l0 k n x (i : Int) l bad = k v [] true := by
  intro m
  induction m with
  | zero => intro i l x bad h1 h2 h3; omega
  | succ m ih =>
    intro i l x bad h1 h2 h3
    have e : decide ((i : Int) < 8) = true := by simp; omega
    have hw : IntKind.i64.wrap (8 * (i : Int)) = ((8 * i : Nat) : Int) := by rw [w64 (by omega)]; omega
    have e2 : decide (((8 * i : Nat) : Int) < 0) = false := by simp; omega
    cases l with
    | nil =>
      by_cases hm : m = 0
      · subst hm
        refine ⟨arith.bits .or .u64 x (IntKind.u64.wrap ((IntKind.u64.wrap 0) * 2 ^ (min (8 * i) 64))), fun k n hn => ?_⟩
        obtain ⟨n, rfl⟩ : ∃ n', n = n' + 2 := ⟨n - 2, by omega⟩
        have e5 : decide (((i + 1 : Nat) : Int) < 8) = false := by simp; omega
        simp only [impl_byteReader_num.l0, impl_byteReader_num.l0s, e, cond_true, one_nil, hw, e2, cond_false, Int.toNat_natCast, ixw (by omega : i < 9223372036854775807), e5]
      · obtain ⟨v, hv⟩ := ih (i + 1) [] (arith.bits .or .u64 x (IntKind.u64.wrap ((IntKind.u64.wrap 0) * 2 ^ (min (8 * i) 64)))) true (by omega) h2 (by simp; omega)
        refine ⟨v, fun k n hn => ?_⟩
        obtain ⟨n, rfl⟩ : ∃ n', n = n' + 1 := ⟨n - 1, by omega⟩
        simp only [impl_byteReader_num.l0, impl_byteReader_num.l0s, e, cond_true, one_nil, hw, e2, cond_false, Int.toNat_natCast, ixw (by omega : i < 9223372036854775807)]
        exact hv k n (by omega)
    | cons b l =>
      obtain ⟨hx, hl⟩ := h2.tl
      obtain ⟨v, hv⟩ := ih (i + 1) l (arith.bits .or .u64 x (IntKind.u64.wrap ((IntKind.u64.wrap b) * 2 ^ (min (8 * i) 64)))) bad (by omega) hl (by simp at h3; omega)
      refine ⟨v, fun k n hn => ?_⟩
      obtain ⟨n, rfl⟩ : ∃ n', n = n' + 1 := ⟨n - 1, by omega⟩
      have := hl.2
      simp only [impl_byteReader_num.l0, impl_byteReader_num.l0s, e, cond_true, one_cons b l hx (by omega), hw, e2, cond_false, Int.toNat_natCast, ixw (by omega : i < 9223372036854775807)]
      exact hv k n (by omega)
theorem num_bad (l : List Int) (h : bsOk l) (hl : l.length < 8) (bad : Bool) : ∃ v, ∀ (R : Int → List Int → Bool → Option Res), impl_byteReader_num.g l bad R = R v [] true := by
  obtain ⟨v, hv⟩ := num_short (fun _ _ _ => none) 8 0 l 0 bad (by omega) h hl
  by_cases h2 : 2000000000000 < v
  · refine ⟨0, fun R => ?_⟩
    simp only [impl_byteReader_num.e, impl_byteReader_num.b]
    refine (hv _ fuel (by rw [fuel_eq]; omega)).trans ?_
    simp [h2]
  · refine ⟨IntKind.i64.wrap ((IntKind.i64.wrap v) - 1000000000000), fun R => ?_⟩
    simp only [impl_byteReader_num.e, impl_byteReader_num.b]
    refine (hv _ fuel (by rw [fuel_eq]; omega)).trans ?_
    simp only [h2, decide_false, cond_false]

def dimsN : Nat → List Int → List Int
  | n + 1, x :: y :: l => dim2 x y :: dimsN n l
  | _, _ => []
def numsN : Nat → List Int → List Int
  | 0, _ => []
  | n + 1, l => (le (l.take 8) - 1000000000000) :: numsN n (l.drop 8)
theorem numsN_length (n : Nat) : ∀ l, (numsN n l).length = n := by
  induction n with
  | zero => intro l; rfl
  | succ n ih => intro l; simp [numsN, ih]
theorem dimsN_length (n : Nat) : ∀ l : List Int, 2 * n ≤ l.length → (dimsN n l).length = n := by
  induction n with
  | zero => intro l _; simp [dimsN]
  | succ n ih =>
    intro l h
    match l, h with
    | x :: y :: l, h => simp only [dimsN, List.length_cons, ih l (by simp at h; omega)]
    | [x], h => simp at h; omega
    | [], h => simp at h
def readFit (s d : List Int) (z : Int) : Option (List Int × List Int) :=
  bif decide ((d.length : Int) = 8 * z) then (bif arrOk s (numsN z.toNat d) then some (s, numsN z.toNat d) else none) else none
def readBody (n : Nat) (t : List Int) : Option (List Int × List Int) :=
  bif decide (2 * n ≤ t.length) then readFit (dimsN n t) (t.drop (2 * n)) (sizeOf (dimsN n t)) else none
def readArr : List Int → Option (List Int × List Int)
  | [] => none
  | r :: t => bif decide (r ≤ 3) then readBody r.toNat t else none
def arrRes (o : Option (List Int × List Int)) (R : List Int → List Int → Bool → Option Res) : Option Res :=
  match o with
  | some (s, d) => R s d true
  | none => R [] [] false

/-- what impl's reader leaves: the shape -/
theorem dims_loop (k : List Int → List Int → Bool → Option Res) (z : List Int) (N : Nat) (hN : N ≤ 3) : ∀ (m n : Nat) (acc l : List Int) (bad : Bool), acc.length + m = N → m < n → bsOk l →
    (2 * m ≤ l.length → impl_ArrayRead.l0 (N : Int) z k n (acc.length : Int) acc l bad = k (acc ++ dimsN m l) (l.drop (2 * m)) bad) ∧
    (l.length < 2 * m → ∃ w, w.length = N ∧ ∀ k, impl_ArrayRead.l0 (N : Int) z k n (acc.length : Int) acc l bad = k w [] true) := by
  intro m
  induction m with
  | zero =>
    intro n acc l bad h1 h2 h3
    obtain ⟨n, rfl⟩ : ∃ n', n = n' + 1 := ⟨n - 1, by omega⟩
    have e : decide ((acc.length : Int) < (N : Int)) = false := by simp; omega
    refine ⟨fun _ => ?_, fun h => by omega⟩
    simp only [impl_ArrayRead.l0, impl_ArrayRead.l0s, e, cond_false, dimsN, List.append_nil, Nat.mul_zero, List.drop_zero]
  | succ m ih =>
    intro n acc l bad h1 h2 h3
    obtain ⟨n, rfl⟩ : ∃ n', n = n' + 1 := ⟨n - 1, by omega⟩
    have e : decide ((acc.length : Int) < (N : Int)) = true := by simp; omega
    have e2 : decide ((acc.length + 1) * 8 ≤ 140737488355328) = true := by simp; omega
    have hw : IntKind.i64.wrap ((acc.length : Int) + 1) = ((acc.length + 1 : Nat) : Int) := by rw [w64 (by omega)]; rfl
    refine ⟨fun hl => ?_, fun hl => ?_⟩
    · match l, h3, hl with
      | x :: y :: l, h3, hl =>
        obtain ⟨i1, _⟩ := ih n (acc ++ [dim2 x y]) l bad (by simp; omega) (by omega) h3.tl.2.tl.2
        simp only [impl_ArrayRead.l0, impl_ArrayRead.l0s, e, cond_true, two_ok x y l h3, e2, hw]
        rw [show ((acc.length + 1 : Nat) : Int) = ((acc ++ [dim2 x y]).length : Int) by simp, i1 (by simp at hl; omega)]
        simp [dimsN, Nat.mul_add]
      | [x], h3, hl => simp at hl; omega
      | [], h3, hl => simp at hl
    · by_cases h4 : l.length < 2
      · obtain ⟨v, hv⟩ := two_bad l h3 h4 bad
        by_cases hm : m = 0
        · subst hm
          obtain ⟨n, rfl⟩ : ∃ n', n = n' + 1 := ⟨n - 1, by omega⟩
          refine ⟨acc ++ [v], by simp; omega, fun k => ?_⟩
          have e5 : decide (((acc.length + 1 : Nat) : Int) < (N : Int)) = false := by simp; omega
          simp only [impl_ArrayRead.l0, impl_ArrayRead.l0s, e, cond_true, hv, e2, hw, e5, cond_false]
        · obtain ⟨_, i2⟩ := ih n (acc ++ [v]) [] true (by simp; omega) (by omega) ⟨fun _ h => (by cases h), by simp⟩
          obtain ⟨w, hw1, hw2⟩ := i2 (by simp; omega)
          refine ⟨w, hw1, fun k => ?_⟩
          simp only [impl_ArrayRead.l0, impl_ArrayRead.l0s, e, cond_true, hv, e2, hw]
          rw [show ((acc.length + 1 : Nat) : Int) = ((acc ++ [v]).length : Int) by simp, hw2]
      · match l, h3, hl, h4 with
        | x :: y :: l, h3, hl, _ =>
          obtain ⟨_, i2⟩ := ih n (acc ++ [dim2 x y]) l bad (by simp; omega) (by omega) h3.tl.2.tl.2
          obtain ⟨w, hw1, hw2⟩ := i2 (by simp at hl; omega)
          refine ⟨w, hw1, fun k => ?_⟩
          simp only [impl_ArrayRead.l0, impl_ArrayRead.l0s, e, cond_true, two_ok x y l h3, e2, hw]
          rw [show ((acc.length + 1 : Nat) : Int) = ((acc ++ [dim2 x y]).length : Int) by simp, hw2]
        | [x], _, _, h => simp at h
        | [], _, _, h => simp at h
/-- .. the numbers -/
theorem nums_loop (z : List Int) : ∀ (m n : Nat) (acc l : List Int), acc.length + m ≤ 300 → m < n → bsOk l →
    ((8 * m ≤ l.length ∧ ∀ x ∈ numsN m l, numOk x = true) → ∀ k, impl_ArrayRead.l2 z k n (m : Int) acc l false = k (acc ++ numsN m l) (l.drop (8 * m)) false) ∧
    (¬ (8 * m ≤ l.length ∧ ∀ x ∈ numsN m l, numOk x = true) → ∃ w v, ∀ k, impl_ArrayRead.l2 z k n (m : Int) acc l false = k w v true) := by
  intro m
  induction m with
  | zero =>
    intro n acc l h1 h2 h3
    obtain ⟨n, rfl⟩ : ∃ n', n = n' + 1 := ⟨n - 1, by omega⟩
    refine ⟨fun _ k => ?_, fun h => absurd ⟨by omega, fun x hx => by simp [numsN] at hx⟩ h⟩
    simp only [impl_ArrayRead.l2, impl_ArrayRead.l2s, show decide ((0 : Int) < ((0 : Nat) : Int)) = false by decide, cond_false, numsN, List.append_nil, Nat.mul_zero, List.drop_zero]
  | succ m ih =>
    intro n acc l h1 h2 h3
    obtain ⟨n, rfl⟩ : ∃ n', n = n' + 1 := ⟨n - 1, by omega⟩
    have e : decide ((0 : Int) < ((m + 1 : Nat) : Int)) = true := by simp
    have e2 : decide ((acc.length + 1) * 8 ≤ 140737488355328) = true := by simp; omega
    have hw : IntKind.i64.wrap (((m + 1 : Nat) : Int) - 1) = (m : Int) := by rw [w64 (by omega)]; omega
    have stop : ∀ k w v, impl_ArrayRead.l2 z k n (m : Int) w v true = k w v true := by
      intro k w v
      obtain ⟨n, rfl⟩ : ∃ n', n = n' + 1 := ⟨n - 1, by omega⟩
      simp only [impl_ArrayRead.l2, impl_ArrayRead.l2s, Bool.not_true, cond_false]
      cases decide (0 < (m : Int)) <;> rfl
    by_cases hl : l.length < 8
    · refine ⟨fun h => by omega, fun _ => ?_⟩
      obtain ⟨v, hv⟩ := num_bad l h3 hl false
      refine ⟨acc ++ [v], [], fun k => ?_⟩
      simp only [impl_ArrayRead.l2, impl_ArrayRead.l2s, e, cond_true, Bool.not_false, hv, e2, hw, stop]
    · have hb := le_bound (l.take 8) (fun y hy => h3.1 y (List.mem_of_mem_take hy))
      by_cases hbig : 2000000000000 < le (l.take 8)
      · have hno : numOk (le (l.take 8) - 1000000000000) = false := by simp [numOk]; omega
        refine ⟨fun h => ?_, fun _ => ?_⟩
        · have := h.2 _ (by rw [numsN]; exact List.mem_cons_self ..); rw [hno] at this; cases this
        · refine ⟨acc ++ [0], l.drop 8, fun k => ?_⟩
          simp only [impl_ArrayRead.l2, impl_ArrayRead.l2s, e, cond_true, Bool.not_false, num_ok l h3 (by omega), hbig, decide_true, e2, hw, stop]
      · have hyes : numOk (le (l.take 8) - 1000000000000) = true := by simp [numOk]; omega
        obtain ⟨i1, i2⟩ := ih n (acc ++ [le (l.take 8) - 1000000000000]) (l.drop 8) (by simp; omega) (by omega) (h3.drop 8)
        have hiff : (8 * (m + 1) ≤ l.length ∧ ∀ x ∈ numsN (m + 1) l, numOk x = true) ↔ (8 * m ≤ (l.drop 8).length ∧ ∀ x ∈ numsN m (l.drop 8), numOk x = true) := by
          simp only [numsN, List.mem_cons, forall_eq_or_imp, hyes, true_and, List.length_drop]
          constructor
          · rintro ⟨a, b⟩; exact ⟨by omega, b⟩
          · rintro ⟨a, b⟩; exact ⟨by omega, b⟩
        rw [hiff]
        refine ⟨fun h k => ?_, fun h => ?_⟩
        · simp only [impl_ArrayRead.l2, impl_ArrayRead.l2s, e, cond_true, Bool.not_false, num_ok l h3 (by omega), hbig, decide_false, cond_false, e2, hw]
          rw [i1 h]
          simp [numsN, Nat.mul_add, Nat.add_comm]
        · obtain ⟨w, v, hwv⟩ := i2 h
          refine ⟨w, v, fun k => ?_⟩
          simp only [impl_ArrayRead.l2, impl_ArrayRead.l2s, e, cond_true, Bool.not_false, num_ok l h3 (by omega), hbig, decide_false, cond_false, e2, hw]
          exact hwv k

theorem sizeOf_ge (s : List Int) : -1 ≤ sizeOf s := by
  simp only [sizeOf]
  cases h : decide (s.length ≤ 3) && s.all dimOk && decide (prod s ≤ 300) with
  | false => simp
  | true =>
    simp only [Bool.and_eq_true, decide_eq_true_eq] at h
    have := (prod_le s h.1.2).1
    simp only [cond_true]; omega
theorem arrOk_len {s d : List Int} (h : arrOk s d = true) : (d.length : Int) = sizeOf s := by
  simp only [arrOk, Bool.and_eq_true, decide_eq_true_eq] at h; exact h.1

theorem arrayReadI (a : List Int) (h : bsOk a) (R : List Int → List Int → Bool → Option Res) : impl_ArrayRead.g a R = arrRes (readArr a) R := by
  simp only [impl_ArrayRead.e, impl_ArrayRead.b]
  cases a with
  | nil => simp only [one_nil, cond_true]; rfl
  | cons r t =>
    obtain ⟨hr, ht⟩ := h.tl
    have ht2 := ht.2
    simp only [byteOk] at hr
    simp only [one_cons r t hr (by omega), cond_false]
    by_cases h3 : 3 < r
    · have e : decide (r ≤ 3) = false := by simp; omega
      simp only [h3, decide_true, cond_true, readArr, e, cond_false, arrRes]
    · have e : decide (r ≤ 3) = true := by simp; omega
      simp only [h3, decide_false, cond_false, readArr, e, cond_true]
      obtain ⟨N, rfl⟩ := Int.eq_ofNat_of_zero_le hr.1
      obtain ⟨d1, d2⟩ := dims_loop (fun y14 y15 y16 => impl_SizeOf.g y14 fun r17 => impl_ArrayRead.l2 y14 (fun y26 y27 y28 => bif y28 then R ([] : List Int) ([] : List Int) false
        else bif decide (0 < (y27.length : Int)) then R ([] : List Int) ([] : List Int) false
        else (impl_ArrayOk.g y14 y26 fun r29 => bif !r29 then R ([] : List Int) ([] : List Int) false else R y14 y26 true)) fuel r17 ([] : List Int) y15 y16) [] N (by omega) N fuel [] t false (by simp) (by rw [fuel_eq]; omega) ht
      simp only [Int.toNat_natCast, readBody]
      by_cases hs : 2 * N ≤ t.length
      · have e5 : decide (2 * N ≤ t.length) = true := by simpa using hs
        refine (d1 hs).trans ?_
        simp only [List.nil_append, sizeOfI, e5, cond_true]
        have hsz := sizeOf_ge (dimsN N t)
        have hsz2 := sizeOf_le (dimsN N t)
        by_cases hneg : sizeOf (dimsN N t) < 0
        · have e6 : sizeOf (dimsN N t) = -1 := by omega
          obtain ⟨n, hn⟩ : ∃ n, fuel = n + 1 := ⟨fuel - 1, by rw [fuel_eq]⟩
          have e7 : decide (((t.drop (2 * N)).length : Int) = 8 * (-1)) = false := by simp
          rw [e6, hn]
          simp only [readFit]
          simp only [impl_ArrayRead.l2, impl_ArrayRead.l2s, show decide ((0 : Int) < -1) = false by decide, cond_false, e7, arrRes]
          rw [arrayOkI _ _ (by simp)]
          have e8 : arrOk (dimsN N t) [] = false := by simp [arrOk, e6]
          rw [e8]
          cases decide (0 < ((t.drop (2 * N)).length : Int)) <;> rfl
        · obtain ⟨M, hM⟩ := Int.eq_ofNat_of_zero_le (by omega : 0 ≤ sizeOf (dimsN N t))
          rw [hM]
          simp only [readFit]
          obtain ⟨n1, n2⟩ := nums_loop (dimsN N t) M fuel [] (t.drop (2 * N)) (by simp; omega) (by rw [fuel_eq]; omega) (ht.drop _)
          by_cases hok : 8 * M ≤ (t.drop (2 * N)).length ∧ ∀ x ∈ numsN M (t.drop (2 * N)), numOk x = true
          · rw [n1 hok]
            simp only [cond_false, List.nil_append]
            by_cases hfit : (t.drop (2 * N)).length = 8 * M
            · have e9 : decide (((t.drop (2 * N)).length : Int) = 8 * (M : Int)) = true := by rw [hfit]; simp
              have e10 : decide (0 < (((t.drop (2 * N)).drop (8 * M)).length : Int)) = false := by simp only [List.length_drop] at hfit ⊢; simp; omega
              simp only [e9, e10, cond_true, cond_false, Int.toNat_natCast]
              rw [arrayOkI _ _ (by rw [numsN_length]; omega)]
              cases arrOk (dimsN N t) (numsN M (t.drop (2 * N))) <;> rfl
            · have e9 : decide (((t.drop (2 * N)).length : Int) = 8 * (M : Int)) = false := by simp only [decide_eq_false_iff_not]; omega
              have e10 : decide (0 < (((t.drop (2 * N)).drop (8 * M)).length : Int)) = true := by have := hok.1; simp only [List.length_drop] at hfit this ⊢; simp; omega
              simp only [e9, e10, cond_true, cond_false, arrRes]
          · obtain ⟨w, v, hwv⟩ := n2 hok
            rw [hwv]
            simp only [cond_true]
            cases hfit : decide (((t.drop (2 * N)).length : Int) = 8 * (M : Int)) with
            | false => rfl
            | true =>
              simp only [decide_eq_true_eq] at hfit
              simp only [cond_true, Int.toNat_natCast]
              have : arrOk (dimsN N t) (numsN M (t.drop (2 * N))) = false := by
                cases ha : arrOk (dimsN N t) (numsN M (t.drop (2 * N))) with
                | false => rfl
                | true =>
                  exfalso
                  apply hok
                  refine ⟨by omega, fun x hx => ?_⟩
                  have := (arrOk_facts ha).2.2.2.1
                  exact List.all_eq_true.1 this x hx
              rw [this]; rfl
      · have e5 : decide (2 * N ≤ t.length) = false := by simpa using hs
        obtain ⟨w, hw1, hw2⟩ := d2 (by omega)
        refine (hw2 _).trans ?_
        simp only [sizeOfI, e5, cond_false, arrRes]
        obtain ⟨n, hn⟩ : ∃ n, fuel = n + 1 := ⟨fuel - 1, by rw [fuel_eq]⟩
        rw [hn]
        simp only [impl_ArrayRead.l2, impl_ArrayRead.l2s, Bool.not_true, cond_false, cond_true]
        cases decide (0 < sizeOf w) <;> rfl

theorem ofInt_wrap (z : Int) : BitVec.ofInt 64 (IntKind.i64.wrap z) = BitVec.ofInt 64 (z % 18446744073709551616) := by
  apply BitVec.eq_of_toNat_eq
  rw [BitVec.toNat_ofInt, BitVec.toNat_ofInt, IntKind.wrap_i64]
  have h64 : ((2 ^ 64 : Nat) : Int) = 18446744073709551616 := by decide
  rw [h64]
  congr 1
  omega
theorem orI (y b : Int) (hb : byteOk b) : arith.bits .or .i64 (IntKind.i64.wrap (y * 2 ^ 8)) b = IntKind.i64.wrap (b + 256 * y) := by
  simp only [byteOk] at hb
  have e : arith.bits .or .i64 (IntKind.i64.wrap (y * 2 ^ 8)) b = IntKind.i64.wrap ((BitVec.ofInt 64 (IntKind.i64.wrap (y * 2 ^ 8)) ||| BitVec.ofInt 64 b).toNat : Int) := rfl
  have h8 : (2 : Int) ^ 8 = 256 := by decide
  have hd : (256 : Int) ∣ (y * 256) % 18446744073709551616 := by omega
  rw [e, ofInt_wrap, h8, BitVec.or_comm, or_add64 (i := 8) (by omega) (by rw [h8]; omega) (by omega) (by rw [h8]; exact hd) (by omega) (by omega)]
  rw [Int.toNat_of_nonneg (by omega), IntKind.wrap_i64, IntKind.wrap_i64]
  omega
theorem wrap_mul (y b : Int) : IntKind.i64.wrap (b + 256 * IntKind.i64.wrap y) = IntKind.i64.wrap (b + 256 * y) := by
  simp only [IntKind.wrap_i64]; omega

theorem bs_getD {a : List Int} (h : bsOk a) {i : Nat} (hi : i < a.length) : byteOk (a.getD i 0) := by
  rw [List.getD_eq_getElem?_getD, List.getElem?_eq_getElem hi]
  exact h.1 _ (List.getElem_mem hi)
theorem horner (a : List Int) (h : bsOk a) (x18 x19 : Int) (s d : List Int) (at_ : Nat) (hat : at_ + 8 ≤ a.length) (k : Int → Option Res) : ∀ (j n : Nat), j ≤ 8 → j < n →
    spec_ArrayRead.l4 a (at_ : Int) x18 x19 s d k n (IntKind.i64.wrap (le ((a.drop (at_ + j)).take (8 - j)))) ((j : Int) - 1) = k (IntKind.i64.wrap (le ((a.drop at_).take 8))) := by
  have hl := h.2
  intro j
  induction j with
  | zero =>
    intro n _ hn
    obtain ⟨n, rfl⟩ : ∃ n', n = n' + 1 := ⟨n - 1, by omega⟩
    simp only [spec_ArrayRead.l4, spec_ArrayRead.l4s, show decide ((0 : Int) ≤ ((0 : Nat) : Int) - 1) = false by decide, cond_false, Nat.add_zero, Nat.sub_zero]
  | succ j ih =>
    intro n hj hn
    obtain ⟨n, rfl⟩ : ∃ n', n = n' + 1 := ⟨n - 1, by omega⟩
    have e1 : (((j + 1 : Nat) : Int) - 1) = (j : Int) := by omega
    have e2 : IntKind.i64.wrap ((at_ : Int) + (j : Int)) = ((at_ + j : Nat) : Int) := by rw [w64 (by omega)]; omega
    have e3 : decide (0 ≤ ((at_ + j : Nat) : Int)) = true := ix0
    have e4 : decide (((at_ + j : Nat) : Int) < (a.length : Int)) = true := by simp; omega
    have hb := bs_getD h (i := at_ + j) (by omega)
    rw [e1]
    simp only [spec_ArrayRead.l4, spec_ArrayRead.l4s, show decide ((0 : Int) ≤ (j : Int)) = true by simp, e2, e3, e4, Bool.and_self, cond_true, Int.toNat_natCast, wrapB _ hb, orI _ _ hb, wrap_mul]
    rw [w64 (n := (j : Int) - 1) (by omega)]
    have e5 : (a.drop (at_ + j)).take (8 - j) = a.getD (at_ + j) 0 :: (a.drop (at_ + (j + 1))).take (8 - (j + 1)) := by
      rw [drop_cons 0 (by omega : at_ + j < a.length), show 8 - j = (8 - (j + 1)) + 1 by omega, List.take_succ_cons]; rfl
    have := ih n (by omega) (by omega)
    rw [e5] at this
    exact this

theorem dimsN_drop (a : List Int) : ∀ (m i : Nat), i + 2 * (m + 1) ≤ a.length → dimsN (m + 1) (a.drop i) = dim2 (a.getD i 0) (a.getD (i + 1) 0) :: dimsN m (a.drop (i + 2)) := by
  intro m i h
  rw [drop_cons 0 (by omega : i < a.length), drop_cons 0 (by omega : i + 1 < a.length)]
  rfl
theorem dims_loopS (a z : List Int) (h : bsOk a) (N : Nat) (hN : a.getD 0 0 = N) (hN3 : N ≤ 3) (hl : 1 + 2 * N ≤ a.length) (k : Int → List Int → Option Res) : ∀ (m n : Nat) (acc : List Int), acc.length + m = N → m < n →
    spec_ArrayRead.l0 a z k n ((1 + 2 * acc.length : Nat) : Int) (acc.length : Int) acc = k ((1 + 2 * N : Nat) : Int) (acc ++ dimsN m (a.drop (1 + 2 * acc.length))) := by
  intro m
  have h0 : decide (0 < (a.length : Int)) = true := by simp; omega
  have hw0 : IntKind.i64.wrap ((N : Int)) = N := w64 (by omega)
  induction m with
  | zero =>
    intro n acc h1 h2
    obtain ⟨n, rfl⟩ : ∃ n', n = n' + 1 := ⟨n - 1, by omega⟩
    have e : decide ((acc.length : Int) < (N : Int)) = false := by simp; omega
    have e2 : acc.length = N := by omega
    simp only [spec_ArrayRead.l0, spec_ArrayRead.l0s, h0, cond_true, hN, hw0, e, cond_false, dimsN, List.append_nil, e2, ixe]
  | succ m ih =>
    intro n acc h1 h2
    obtain ⟨n, rfl⟩ : ∃ n', n = n' + 1 := ⟨n - 1, by omega⟩
    have e : decide ((acc.length : Int) < (N : Int)) = true := by simp; omega
    have hl2 := h.2
    have e1 : IntKind.i64.wrap (((1 + 2 * acc.length : Nat) : Int) + 1) = ((1 + 2 * acc.length + 1 : Nat) : Int) := by rw [w64 (by omega)]; omega
    have e3 : decide (((1 + 2 * acc.length : Nat) : Int) < (a.length : Int)) = true := by simp; omega
    have e4 : decide (((1 + 2 * acc.length + 1 : Nat) : Int) < (a.length : Int)) = true := by simp; omega
    have e5 : decide ((acc.length + 1) * 8 ≤ 140737488355328) = true := by simp; omega
    have e6 : IntKind.i64.wrap ((acc.length : Int) + 1) = ((acc.length + 1 : Nat) : Int) := by rw [w64 (by omega)]; rfl
    have e7 : IntKind.i64.wrap (((1 + 2 * acc.length : Nat) : Int) + 2) = ((1 + 2 * (acc.length + 1) : Nat) : Int) := by rw [w64 (by omega)]; omega
    have b1 := bs_getD h (i := 1 + 2 * acc.length) (by omega)
    have b2 := bs_getD h (i := 1 + 2 * acc.length + 1) (by omega)
    simp only [spec_ArrayRead.l0, spec_ArrayRead.l0s, h0, cond_true, hN, hw0, e, e1, e3, e4, e5, e6, e7, show ∀ x : Nat, decide (0 ≤ (x : Int)) = true from fun x => by simp, Bool.and_self, Int.toNat_natCast, wrapB _ b1, wrapB _ b2]
    have b1' := b1
    have b2' := b2
    simp only [byteOk] at b1' b2'
    rw [w64 (n := 256 * a.getD (1 + 2 * acc.length + 1) 0) (by omega), w64 (n := a.getD (1 + 2 * acc.length) 0 + _) (by omega)]
    have := ih n (acc ++ [dim2 (a.getD (1 + 2 * acc.length) 0) (a.getD (1 + 2 * acc.length + 1) 0)]) (by simp; omega) (by omega)
    simp only [List.length_append, List.length_singleton] at this
    rw [dimsN_drop a m _ (by omega), show acc ++ dim2 (a.getD (1 + 2 * acc.length) 0) (a.getD (1 + 2 * acc.length + 1) 0) :: dimsN m (a.drop (1 + 2 * acc.length + 2)) = acc ++ [dim2 (a.getD (1 + 2 * acc.length) 0) (a.getD (1 + 2 * acc.length + 1) 0)] ++ dimsN m (a.drop (1 + 2 * acc.length + 2)) by simp]
    exact this

def numW (l : List Int) : Int := IntKind.i64.wrap (IntKind.i64.wrap (le (l.take 8)) - 1000000000000)
def numsW : Nat → List Int → List Int
  | 0, _ => []
  | n + 1, l => numW l :: numsW n (l.drop 8)
theorem nums_loopS (a s : List Int) (h : bsOk a) (N : Nat) (hN : N ≤ 300) (k : List Int → Option Res) : ∀ (m n at_ : Nat) (acc : List Int), acc.length + m = N → m < n → at_ + 8 * m ≤ a.length →
    spec_ArrayRead.l2 a (N : Int) s k n (at_ : Int) (acc.length : Int) acc = k (acc ++ numsW m (a.drop at_)) := by
  have hl2 := h.2
  intro m
  induction m with
  | zero =>
    intro n at_ acc h1 h2 h3
    obtain ⟨n, rfl⟩ : ∃ n', n = n' + 1 := ⟨n - 1, by omega⟩
    have e : decide ((acc.length : Int) < (N : Int)) = false := by simp; omega
    simp only [spec_ArrayRead.l2, spec_ArrayRead.l2s, e, cond_false, numsW, List.append_nil]
  | succ m ih =>
    intro n at_ acc h1 h2 h3
    obtain ⟨n, rfl⟩ : ∃ n', n = n' + 1 := ⟨n - 1, by omega⟩
    have e : decide ((acc.length : Int) < (N : Int)) = true := by simp; omega
    have e5 : decide ((acc.length + 1) * 8 ≤ 140737488355328) = true := by simp; omega
    have e6 : IntKind.i64.wrap ((acc.length : Int) + 1) = ((acc.length + 1 : Nat) : Int) := by rw [w64 (by omega)]; rfl
    have e7 : IntKind.i64.wrap ((at_ : Int) + 8) = ((at_ + 8 : Nat) : Int) := by rw [w64 (by omega)]; rfl
    have hh := fun kk => horner a h (N : Int) (acc.length : Int) s acc at_ (by omega) kk 8 fuel (by omega) (by rw [fuel_eq]; omega)
    have hz : IntKind.i64.wrap (le ((a.drop (at_ + 8)).take (8 - 8))) = 0 := by simp [le]; rfl
    have h7 : (((8 : Nat) : Int) - 1) = 7 := by decide
    simp only [hz, h7] at hh
    simp only [spec_ArrayRead.l2, spec_ArrayRead.l2s, e, cond_true, hh, e5, e6, e7]
    have := ih n (at_ + 8) (acc ++ [numW (a.drop at_)]) (by simp; omega) (by omega) (by omega)
    simp only [List.length_append, List.length_singleton] at this
    simp only [numsW, List.drop_drop]
    rw [show acc ++ numW (a.drop at_) :: numsW m (a.drop (at_ + 8)) = acc ++ [numW (a.drop at_)] ++ numsW m (a.drop (at_ + 8)) by simp]
    exact this
/-- what is not in range is out of range in both ways of reckoning -/
theorem numW_ok (l : List Int) (h : bsOk l) (hl : 8 ≤ l.length) : numOk (numW l) = numOk (le (l.take 8) - 1000000000000) ∧ (numOk (numW l) = true → numW l = le (l.take 8) - 1000000000000) := by
  have hb := le_bound (l.take 8) (fun y hy => h.1 y (List.mem_of_mem_take hy))
  have h8 : (l.take 8).length = 8 := by simp; omega
  rw [h8] at hb
  have h256 : (256 : Int) ^ 8 = 18446744073709551616 := by decide
  rw [h256] at hb
  simp only [numW, numOk, IntKind.wrap_i64]
  generalize le (l.take 8) = v at hb
  refine ⟨?_, ?_⟩
  · rw [Bool.eq_iff_iff]; simp only [Bool.and_eq_true, decide_eq_true_eq]; omega
  · simp only [Bool.and_eq_true, decide_eq_true_eq]; omega
theorem numsW_ok : ∀ (m : Nat) (l : List Int), bsOk l → 8 * m ≤ l.length → (numsW m l).all numOk = (numsN m l).all numOk ∧ ((numsW m l).all numOk = true → numsW m l = numsN m l) := by
  intro m
  induction m with
  | zero => intro l _ _; exact ⟨rfl, fun _ => rfl⟩
  | succ m ih =>
    intro l h hl
    obtain ⟨a1, a2⟩ := numW_ok l h (by omega)
    obtain ⟨b1, b2⟩ := ih (l.drop 8) (h.drop 8) (by simp; omega)
    simp only [numsW, numsN, List.all_cons, a1, b1, true_and]
    intro hh
    rw [Bool.and_eq_true] at hh
    rw [a2 (by rw [a1]; exact hh.1), b2 (by rw [b1]; exact hh.2)]
theorem numsW_length (n : Nat) : ∀ l, (numsW n l).length = n := by
  induction n with
  | zero => intro l; rfl
  | succ n ih => intro l; simp [numsW, ih]

theorem arrayReadS (a : List Int) (h : bsOk a) (R : List Int → List Int → Bool → Option Res) : spec_ArrayRead.g a R = arrRes (readArr a) R := by
  simp only [spec_ArrayRead.e, spec_ArrayRead.b]
  cases a with
  | nil => simp [readArr, arrRes]
  | cons r t =>
    obtain ⟨hr, ht⟩ := h.tl
    have ht2 := ht.2
    have hl2 := h.2
    have e0 : (((r :: t).length : Int) == 0) = false := by simp [beq_eq_false_iff_ne]; omega
    have e1 : decide (0 < ((r :: t).length : Int)) = true := by simp
    simp only [e0, e1, cond_true, cond_false, List.getD_cons_zero, wrapB r hr]
    simp only [byteOk] at hr
    by_cases h3 : 3 < r
    · have e : decide (r ≤ 3) = false := by simp; omega
      simp only [h3, decide_true, cond_true, readArr, e, cond_false, arrRes]
    · have e : decide (r ≤ 3) = true := by simp; omega
      simp only [h3, decide_false, cond_false, readArr, e, cond_true]
      obtain ⟨N, rfl⟩ := Int.eq_ofNat_of_zero_le hr.1
      rw [w64 (n := 2 * (N : Int)) (by omega), w64 (n := (((N : Int) :: t).length : Int) - 1) (by simp; omega)]
      simp only [Int.toNat_natCast, readBody]
      by_cases hs : 2 * N ≤ t.length
      · have e5 : decide (2 * N ≤ t.length) = true := by simpa using hs
        have e6 : decide ((((N : Int) :: t).length : Int) - 1 < 2 * (N : Int)) = false := by simp; omega
        simp only [e5, e6, cond_true, cond_false]
        have hd := dims_loopS ((N : Int) :: t) [] h N rfl (by omega) (by simp; omega) (fun y7 y8 => spec_SizeOf.g y8 fun r9 => bif decide (r9 < 0) then R ([] : List Int) ([] : List Int) false
          else bif (IntKind.i64.wrap ((((N : Int) :: t).length : Int) - y7) != IntKind.i64.wrap (8 * r9)) then R ([] : List Int) ([] : List Int) false
          else (spec_ArrayRead.l2 ((N : Int) :: t) r9 y8 (fun y25 => spec_ArrayOk.g y8 y25 fun r26 => bif !r26 then R ([] : List Int) ([] : List Int) false else R y8 y25 true) fuel y7 0 ([] : List Int))) N fuel [] (by simp) (by rw [fuel_eq]; omega)
        simp only [List.length_nil, Nat.mul_zero, Nat.add_zero, List.nil_append, List.drop_succ_cons, List.drop_zero] at hd
        refine Eq.trans hd ?_
        simp only [sizeOfS]
        have hsz := sizeOf_ge (dimsN N t)
        have hsz2 := sizeOf_le (dimsN N t)
        have hdl : (t.drop (2 * N)).length = t.length - 2 * N := by simp
        by_cases hneg : sizeOf (dimsN N t) < 0
        · have e6 : sizeOf (dimsN N t) = -1 := by omega
          rw [e6]
          have e7 : decide (((t.drop (2 * N)).length : Int) = 8 * (-1)) = false := by simp
          simp only [readFit, show decide ((-1 : Int) < 0) = true by decide, cond_true, e7, cond_false, arrRes]
        · obtain ⟨M, hM⟩ := Int.eq_ofNat_of_zero_le (by omega : 0 ≤ sizeOf (dimsN N t))
          rw [hM]
          have hM3 : M ≤ 300 := by omega
          have e7 : decide ((M : Int) < 0) = false := by simp
          rw [w64 (n := (((N : Int) :: t).length : Int) - _) (by simp; omega), w64 (n := 8 * (M : Int)) (by omega)]
          simp only [readFit, e7, cond_false, Int.toNat_natCast]
          by_cases hfit : (t.drop (2 * N)).length = 8 * M
          · have e8 : ((((N : Int) :: t).length : Int) - ((1 + 2 * N : Nat) : Int) != 8 * (M : Int)) = false := by simp; omega
            have e9 : decide (((t.drop (2 * N)).length : Int) = 8 * (M : Int)) = true := by rw [hfit]; simp
            simp only [e8, e9, cond_false, cond_true]
            have hn := nums_loopS ((N : Int) :: t) (dimsN N t) h M hM3 (fun y25 => spec_ArrayOk.g (dimsN N t) y25 fun r26 => bif !r26 then R ([] : List Int) ([] : List Int) false else R (dimsN N t) y25 true) M fuel (1 + 2 * N) [] (by simp) (by rw [fuel_eq]; omega) (by simp; omega)
            simp only [List.length_nil, List.nil_append] at hn
            refine Eq.trans hn ?_
            have e10 : ((N : Int) :: t).drop (1 + 2 * N) = t.drop (2 * N) := by rw [Nat.add_comm]; rfl
            rw [e10]
            obtain ⟨w1, w2⟩ := numsW_ok M (t.drop (2 * N)) (ht.drop _) (by omega)
            rw [arrayOkS _ _ (by rw [numsW_length]; omega)]
            have ea : arrOk (dimsN N t) (numsW M (t.drop (2 * N))) = arrOk (dimsN N t) (numsN M (t.drop (2 * N))) := by
              simp only [arrOk, numsW_length, numsN_length, w1]
            cases hA : arrOk (dimsN N t) (numsN M (t.drop (2 * N))) with
            | false => rw [ea, hA]; rfl
            | true =>
              rw [ea, hA]
              have : (numsW M (t.drop (2 * N))).all numOk = true := by rw [w1]; exact (arrOk_facts hA).2.2.2.1
              rw [w2 this]; rfl
          · have e8 : ((((N : Int) :: t).length : Int) - ((1 + 2 * N : Nat) : Int) != 8 * (M : Int)) = true := by simp; omega
            have e9 : decide (((t.drop (2 * N)).length : Int) = 8 * (M : Int)) = false := by simp only [decide_eq_false_iff_not]; omega
            simp only [e8, e9, cond_true, cond_false, arrRes]
      · have e5 : decide (2 * N ≤ t.length) = false := by simpa using hs
        have e6 : decide ((((N : Int) :: t).length : Int) - 1 < 2 * (N : Int)) = true := by simp; omega
        simp only [e5, e6, cond_true, cond_false, arrRes]

/-- a cursor's place -/
def Cu (a : List Int) (i : Int) : Prop := 0 ≤ i ∧ i ≤ (a.length : Int) ∧ a.length ≤ 1048576
def i64 (x : Int) : Prop := -9223372036854775808 ≤ x ∧ x ≤ 9223372036854775807

theorem dNew (a : List Int) (h : a.length ≤ 1048576) : ∃ s : Int, (∀ R, spec_l1New.g a R = R a 0 s) ∧ Cu a 0 := by
  have loop : ∀ (n : Nat) (m : Nat), 4000 - m < n → m ≤ 4000 → ∀ x : Int, ∃ y, ∀ k, spec_l1New.l0 a k n x (m : Int) = k y := by
    intro n
    induction n with
    | zero => intro m h; omega
    | succ n ih =>
      intro m hm hm2 x
      simp only [spec_l1New.l0, spec_l1New.l0s]
      by_cases h1 : (m : Int) < (a.length : Int)
      · by_cases h2 : (m : Int) < 4000
        · obtain ⟨y, hy⟩ := ih (m + 1) (by omega) (by omega) (arith.bits .and .i64 (IntKind.i64.wrap ((IntKind.i64.wrap ((IntKind.i64.wrap (x * 131)) + (IntKind.i64.wrap (a.getD (m : Int).toNat 0)))) + 7)) 1073741823)
          refine ⟨y, fun k => ?_⟩
          simp only [h1, h2, decide_true, cond_true, Bool.and_true, show (0 : Int) ≤ m by omega]
          rw [w64 (n := (m : Int) + 1) (by omega)]
          exact hy k
        · exact ⟨x, fun k => by simp [h1, h2]⟩
      · exact ⟨x, fun k => by simp [h1]⟩
  obtain ⟨y, hy⟩ := loop fuel 0 (by rw [fuel_eq]; omega) (by omega) (IntKind.i64.wrap (18218 + (a.length : Int)))
  exact ⟨y, fun R => by simp only [spec_l1New.e, spec_l1New.b]; exact hy _, by simp [Cu]; omega⟩

theorem dByte (a : List Int) (i s : Int) (hi : Cu a i) : ∃ r i' s' : Int, (∀ R, spec_l1Byte.g a i s R = R r i' s') ∧ Cu a i' ∧ (0 ≤ r ∧ r ≤ 255) := by
  let s1 := IntKind.i64.wrap (IntKind.i64.wrap (s * 6364136223846793005) + 1442695040888963407)
  let b := arith.bits .and .i64 (arith.bits .xor .i64 (s1.fdiv (2 ^ 33)) (s1.fdiv (2 ^ 45))) 255
  have hi' := hi
  simp only [Cu] at hi
  by_cases h : i < (a.length : Int)
  · refine ⟨arith.bits .and .i64 (IntKind.i64.wrap (b + IntKind.i64.wrap (a.getD i.toNat 0))) 255, i + 1, s1, fun R => ?_, by simp only [Cu]; omega, and_le _ 255 (by omega)⟩
    simp only [spec_l1Byte.e, spec_l1Byte.b, h, decide_true, cond_true, Bool.and_true, hi.1]
    rw [w64 (n := i + 1) (by omega)]
  · refine ⟨b, i, s1, fun R => ?_, hi', and_le _ 255 (by omega)⟩
    simp only [spec_l1Byte.e, spec_l1Byte.b, h, decide_false, cond_false, b, s1]

theorem tmod_lt {x n : Int} (h0 : 0 ≤ x) (hn : 0 < n) : 0 ≤ x.tmod n ∧ x.tmod n < n := by
  rw [Int.tmod_eq_emod_of_nonneg h0]
  exact ⟨Int.emod_nonneg _ (by omega), Int.emod_lt_of_pos _ hn⟩

theorem dBelow (n : Int) (hn : 0 < n) (a : List Int) (i s : Int) (hi : Cu a i) : ∃ r i' s' : Int, (∀ R, spec_l1Below.g n a i s R = R r i' s') ∧ Cu a i' ∧ (0 ≤ r ∧ r < n) := by
  have h1 : ¬ n ≤ 0 := by omega
  have h2 : ¬ n = 0 := by omega
  by_cases h : n ≤ 256
  · obtain ⟨r, i', s', hR, hi', hr⟩ := dByte a i s hi
    refine ⟨r.tmod n, i', s', fun R => ?_, hi', tmod_lt hr.1 hn⟩
    simp only [spec_l1Below.e, spec_l1Below.b, h1, h, h2, decide_true, decide_false, cond_true, cond_false, hR]
  · obtain ⟨r, i1, s1, hR, hi1, hr⟩ := dByte a i s hi
    obtain ⟨r2, i2, s2, hR2, hi2, hr2⟩ := dByte a i1 s1 hi1
    obtain ⟨r3, i3, s3, hR3, hi3, hr3⟩ := dByte a i2 s2 hi2
    obtain ⟨r4, i4, s4, hR4, hi4, hr4⟩ := dByte a i3 s3 hi3
    refine ⟨(r * 16777216 + r2 * 65536 + r3 * 256 + r4).tmod n, i4, s4, fun R => ?_, hi4, tmod_lt (by omega) hn⟩
    simp only [spec_l1Below.e, spec_l1Below.b, h1, h, h2, decide_false, cond_false, hR, hR2, hR3, hR4]
    rw [w64 (n := r * 16777216) (by omega), w64 (n := r2 * 65536) (by omega), w64 (n := r * 16777216 + r2 * 65536) (by omega), w64 (n := r3 * 256) (by omega), w64 (n := r * 16777216 + r2 * 65536 + r3 * 256) (by omega), w64 (n := _ + r4) (by omega)]
theorem dOnce (n : Int) (hn : 0 < n) (a : List Int) (i s : Int) (hi : Cu a i) : ∃ (r : Bool) (i' s' : Int), (∀ R, spec_l1Once.g n a i s R = R r i' s') ∧ Cu a i' := by
  obtain ⟨r, i', s', hR, hi', _⟩ := dBelow n hn a i s hi
  exact ⟨r == 0, i', s', fun R => by simp only [spec_l1Once.e, spec_l1Once.b, hR], hi'⟩
theorem dPickInt (l : List Int) (hl : 0 < l.length) (a : List Int) (i s : Int) (hi : Cu a i) : ∃ r i' s' : Int, (∀ R, spec_l1PickInt.g l a i s R = R r i' s') ∧ Cu a i' ∧ r ∈ l := by
  obtain ⟨r, i', s', hR, hi', hr⟩ := dBelow (l.length : Int) (by omega) a i s hi
  obtain ⟨k, rfl⟩ := Int.eq_ofNat_of_zero_le hr.1
  have hk : k < l.length := by omega
  refine ⟨l.getD k 0, i', s', fun R => ?_, hi', ?_⟩
  · simp only [spec_l1PickInt.e, spec_l1PickInt.b, hR, ix0, ixl hk, Bool.and_self, cond_true, Int.toNat_natCast]
  · rw [List.getD_eq_getElem?_getD, List.getElem?_eq_getElem hk]; exact List.getElem_mem hk
theorem dNum (a : List Int) (i s : Int) (hi : Cu a i) : ∃ r i' s' : Int, (∀ R, spec_l1DrawNum.g a i s R = R r i' s') ∧ Cu a i' ∧ numOk r = true := by
  obtain ⟨b, i1, s1, h1, c1⟩ := dOnce 12 (by omega) a i s hi
  cases b with
  | true =>
    obtain ⟨r, i2, s2, h2, c2, hr⟩ := dPickInt [1000000000000, (-1000000000000), 999999999999, 1000000, (-1000000), 1000001, 999999999999] (by simp) a i1 s1 c1
    refine ⟨r, i2, s2, fun R => by simp only [spec_l1DrawNum.e, spec_l1DrawNum.b, h1, cond_true, h2], c2, ?_⟩
    simp only [List.mem_cons, List.not_mem_nil, or_false] at hr
    rcases hr with rfl | rfl | rfl | rfl | rfl | rfl | rfl <;> decide
  | false =>
    obtain ⟨r, i2, s2, h2, c2, hr⟩ := dBelow 20 (by omega) a i1 s1 c1
    refine ⟨r - 6, i2, s2, fun R => ?_, c2, ?_⟩
    · simp only [spec_l1DrawNum.e, spec_l1DrawNum.b, h1, cond_false, h2]
      rw [w64 (n := r - 6) (by omega)]
    · simp only [numOk, Bool.and_eq_true, decide_eq_true_eq]; omega
theorem numOk_i64 {x : Int} (h : numOk x = true) : i64 x := by
  simp only [numOk, Bool.and_eq_true, decide_eq_true_eq] at h
  simp only [i64]; omega
theorem dRaw (a : List Int) (i s : Int) (hi : Cu a i) : ∃ r i' s' : Int, (∀ R, spec_l1DrawRaw.g a i s R = R r i' s') ∧ Cu a i' ∧ i64 r := by
  obtain ⟨b, i1, s1, h1, c1⟩ := dOnce 15 (by omega) a i s hi
  cases b with
  | true =>
    obtain ⟨r, i2, s2, h2, c2, hr⟩ := dPickInt [1000000000001, (-1000000000001), 9223372036854775807, (-9223372036854775808)] (by simp) a i1 s1 c1
    refine ⟨r, i2, s2, fun R => by simp only [spec_l1DrawRaw.e, spec_l1DrawRaw.b, h1, cond_true, h2], c2, ?_⟩
    simp only [List.mem_cons, List.not_mem_nil, or_false] at hr
    rcases hr with rfl | rfl | rfl | rfl <;> simp [i64]
  | false =>
    obtain ⟨r, i2, s2, h2, c2, hr⟩ := dNum a i1 s1 c1
    exact ⟨r, i2, s2, fun R => by simp only [spec_l1DrawRaw.e, spec_l1DrawRaw.b, h1, cond_false, h2], c2, numOk_i64 hr⟩

/-- a shape that is right -/
def shOk (s : List Int) : Prop := s.length ≤ 3 ∧ s.all dimOk = true ∧ prod s ≤ 300
theorem shOk_size {s : List Int} (h : shOk s) : sizeOf s = prod s ∧ 0 ≤ prod s := by
  obtain ⟨h1, h2, h3⟩ := h
  refine ⟨?_, (prod_le s h2).1⟩
  simp [sizeOf, h1, h2, h3]
theorem dRight2 (a : List Int) (i s : Int) (hi : Cu a i) : ∃ (r : List Int) (i' s' : Int), (∀ R, spec_l2DrawRight.g a i s R = R r i' s') ∧ Cu a i' ∧ shOk r := by
  obtain ⟨k, i1, s1, h1, c1, hk⟩ := dBelow 5 (by omega) a i s hi
  have hks : k = 0 ∨ k = 1 ∨ k = 2 ∨ k = 3 ∨ k = 4 := by omega
  rcases hks with rfl | rfl | rfl | rfl | rfl
  · exact ⟨[], i1, s1, fun R => by simp only [spec_l2DrawRight.e, spec_l2DrawRight.b, h1]; rfl, c1, by simp [shOk, prod]⟩
  · obtain ⟨r, i2, s2, h2, c2, hr⟩ := dBelow 6 (by omega) a i1 s1 c1
    exact ⟨[r], i2, s2, fun R => by simp only [spec_l2DrawRight.e, spec_l2DrawRight.b, h1, h2]; rfl, c2, by simp [shOk, prod, dimOk]; omega⟩
  · obtain ⟨r, i2, s2, h2, c2, hr⟩ := dBelow 6 (by omega) a i1 s1 c1
    exact ⟨[r], i2, s2, fun R => by simp only [spec_l2DrawRight.e, spec_l2DrawRight.b, h1, h2]; rfl, c2, by simp [shOk, prod, dimOk]; omega⟩
  · obtain ⟨r, i2, s2, h2, c2, hr⟩ := dBelow 4 (by omega) a i1 s1 c1
    obtain ⟨q, i3, s3, h3, c3, hq⟩ := dBelow 3 (by omega) a i2 s2 c2
    refine ⟨[r, 1 + q], i3, s3, fun R => ?_, c3, ?_⟩
    · simp only [spec_l2DrawRight.e, spec_l2DrawRight.b, h1, h2, h3]; rw [w64 (n := 1 + q) (by omega)]; rfl
    · have hr' : r = 0 ∨ r = 1 ∨ r = 2 ∨ r = 3 := by omega
      have hq' : q = 0 ∨ q = 1 ∨ q = 2 := by omega
      rcases hr' with rfl | rfl | rfl | rfl <;> rcases hq' with rfl | rfl | rfl <;> simp [shOk, prod, dimOk]
  · obtain ⟨r, i2, s2, h2, c2, hr⟩ := dBelow 3 (by omega) a i1 s1 c1
    obtain ⟨q, i3, s3, h3, c3, hq⟩ := dBelow 2 (by omega) a i2 s2 c2
    obtain ⟨p, i4, s4, h4, c4, hp⟩ := dBelow 4 (by omega) a i3 s3 c3
    refine ⟨[1 + r, 1 + q, p], i4, s4, fun R => ?_, c4, ?_⟩
    · simp only [spec_l2DrawRight.e, spec_l2DrawRight.b, h1, h2, h3, h4]; rw [w64 (n := 1 + q) (by omega), w64 (n := 1 + r) (by omega)]; rfl
    · have hr' : r = 0 ∨ r = 1 ∨ r = 2 := by omega
      have hq' : q = 0 ∨ q = 1 := by omega
      have hp' : p = 0 ∨ p = 1 ∨ p = 2 ∨ p = 3 := by omega
      rcases hr' with rfl | rfl | rfl <;> rcases hq' with rfl | rfl <;> rcases hp' with rfl | rfl | rfl | rfl <;> simp [shOk, prod, dimOk]
def i64s (l : List Int) : Prop := ∀ x ∈ l, i64 x
theorem dimOk_i64 {l : List Int} (h : l.all dimOk = true) : i64s l := fun x hx => by
  have := List.all_eq_true.1 h x hx
  simp only [dimOk, Bool.and_eq_true, decide_eq_true_eq] at this
  simp only [i64]; omega
theorem dShape (a : List Int) (i s : Int) (hi : Cu a i) : ∃ (r : List Int) (i' s' : Int), (∀ R, spec_l2Draw.g a i s R = R r i' s') ∧ Cu a i' ∧ r.length ≤ 4 ∧ i64s r := by
  obtain ⟨r, i1, s1, h1, c1, hr⟩ := dRight2 a i s hi
  obtain ⟨k, i2, s2, h2, c2, hk⟩ := dBelow 20 (by omega) a i1 s1 c1
  have hrl := hr.1
  by_cases k0 : k = 0
  · subst k0
    obtain ⟨x, i3, s3, h3, c3, hx⟩ := dPickInt [(-1), 0, 300, 301] (by simp) a i2 s2 c2
    refine ⟨r ++ [x], i3, s3, fun R => ?_, c3, by simp; omega, fun y hy => ?_⟩
    · have e : decide ((r.length + 1) * 8 ≤ 140737488355328) = true := by simp; omega
      simp only [spec_l2Draw.e, spec_l2Draw.b, h1, h2, h3, e]; rfl
    · rcases List.mem_append.1 hy with hy | hy
      · exact dimOk_i64 hr.2.1 y hy
      · simp only [List.mem_cons, List.not_mem_nil, or_false] at hy hx
        subst hy
        rcases hx with rfl | rfl | rfl | rfl <;> simp [i64]
  by_cases k1 : k = 1
  · subst k1
    exact ⟨[1, 1, 1, 1], i2, s2, fun R => by simp only [spec_l2Draw.e, spec_l2Draw.b, h1, h2]; rfl, c2, by simp, by simp [i64s, i64]⟩
  by_cases k2 : k = 2
  · subst k2
    obtain ⟨x, i3, s3, h3, c3, hx⟩ := dPickInt [17, 20, 15, 300] (by simp) a i2 s2 c2
    obtain ⟨z, i4, s4, h4, c4, hz⟩ := dPickInt [15, 20, 16, 0] (by simp) a i3 s3 c3
    refine ⟨[x, z], i4, s4, fun R => by simp only [spec_l2Draw.e, spec_l2Draw.b, h1, h2, h3, h4]; rfl, c4, by simp, ?_⟩
    simp only [List.mem_cons, List.not_mem_nil, or_false] at hx hz
    intro y hy
    simp only [List.mem_cons, List.not_mem_nil, or_false] at hy
    rcases hy with rfl | rfl
    · rcases hx with rfl | rfl | rfl | rfl <;> simp [i64]
    · rcases hz with rfl | rfl | rfl | rfl <;> simp [i64]
  · have e0 : (k == 0) = false := by simpa using k0
    have e1 : (k == 1) = false := by simpa using k1
    have e2 : (k == 2) = false := by simpa using k2
    exact ⟨r, i2, s2, fun R => by simp only [spec_l2Draw.e, spec_l2Draw.b, h1, h2, e0, e1, e2, cond_false], c2, by omega, dimOk_i64 hr.2.1⟩
theorem dFill (sh a : List Int) (hs : shOk sh) (i s : Int) (hi : Cu a i) : ∃ (d : List Int) (i' s' : Int), (∀ R, spec_l3Fill.g sh a i s R = R sh d a i' s') ∧ Cu a i' ∧ arrOk sh d = true := by
  obtain ⟨h1, h2⟩ := shOk_size hs
  obtain ⟨N, hN⟩ := Int.eq_ofNat_of_zero_le h2
  have hN3 : N ≤ 300 := by have := hs.2.2; omega
  have loop : ∀ (m n : Nat) (acc : List Int) (i s : Int), acc.length + m = N → m < n → Cu a i → acc.all numOk = true → ∃ (d : List Int) (i' s' : Int), (∀ k, spec_l3Fill.l0 sh sh a k n (acc.length : Int) acc i s = k d i' s') ∧ Cu a i' ∧ d.length = N ∧ d.all numOk = true := by
    intro m
    induction m with
    | zero =>
      intro n acc i s e1 e2 hc ha
      obtain ⟨n, rfl⟩ : ∃ n', n = n' + 1 := ⟨n - 1, by omega⟩
      have e : decide ((acc.length : Int) < (N : Int)) = false := by simp; omega
      exact ⟨acc, i, s, fun k => by simp only [spec_l3Fill.l0, spec_l3Fill.l0s, sizeOfS, h1, hN, e, cond_false], hc, by omega, ha⟩
    | succ m ih =>
      intro n acc i s e1 e2 hc ha
      obtain ⟨n, rfl⟩ : ∃ n', n = n' + 1 := ⟨n - 1, by omega⟩
      have e : decide ((acc.length : Int) < (N : Int)) = true := by simp; omega
      have e3 : decide ((acc.length + 1) * 8 ≤ 140737488355328) = true := by simp; omega
      obtain ⟨r, i1, s1, g1, c1, hr⟩ := dNum a i s hc
      obtain ⟨d, i2, s2, g2, c2, hd⟩ := ih n (acc ++ [r]) i1 s1 (by simp; omega) (by omega) c1 (by simp [List.all_append, ha, hr])
      refine ⟨d, i2, s2, fun k => ?_, c2, hd⟩
      simp only [spec_l3Fill.l0, spec_l3Fill.l0s, sizeOfS, h1, hN, e, cond_true, g1, e3, ixw (by omega : acc.length < 9223372036854775807)]
      have := g2 k
      simpa using this
  obtain ⟨d, i', s', g, c, hd⟩ := loop N fuel [] i s (by simp) (by rw [fuel_eq]; omega) hi rfl
  refine ⟨d, i', s', fun R => ?_, c, ?_⟩
  · have e : decide ((0 + sh.length) * 8 ≤ 140737488355328) = true := by have := hs.1; simp; omega
    simp only [spec_l3Fill.e, spec_l3Fill.b, e, cond_true, List.nil_append]
    exact g (fun y16 y17 y18 => R sh y16 a y17 y18)
  · simp only [arrOk, hd.2, h1, hN, hd.1]; simp
theorem dArr (a : List Int) (i s : Int) (hi : Cu a i) : ∃ (sh d : List Int) (i' s' : Int), (∀ R, spec_l3DrawRight.g a i s R = R sh d a i' s') ∧ Cu a i' ∧ arrOk sh d = true ∧ shOk sh := by
  obtain ⟨sh, i1, s1, h1, c1, hs⟩ := dRight2 a i s hi
  obtain ⟨d, i2, s2, h2, c2, hd⟩ := dFill sh a hs i1 s1 c1
  exact ⟨sh, d, i2, s2, fun R => by simp only [spec_l3DrawRight.e, spec_l3DrawRight.b, h1, h2], c2, hd, hs⟩
theorem arrOk_i64 {s d : List Int} (h : arrOk s d = true) : i64s s ∧ i64s d := by
  obtain ⟨_, h2, _, h4, _⟩ := arrOk_facts h
  exact ⟨dimOk_i64 h2, fun x hx => numOk_i64 (List.all_eq_true.1 h4 x hx)⟩
theorem mem_set {α : Type} {l : List α} {i : Nat} {x y : α} (h : y ∈ l.set i x) : y ∈ l ∨ y = x := by
  obtain ⟨j, hj, rfl⟩ := List.mem_iff_getElem.1 h
  rw [List.getElem_set]
  split
  · exact .inr rfl
  · exact .inl (List.getElem_mem _)
/-- an array, right or not -/
def anyArr (sh d : List Int) : Prop := sh.length ≤ 4 ∧ i64s sh ∧ d.length ≤ 301 ∧ i64s d
theorem dAny (a : List Int) (i s : Int) (hi : Cu a i) : ∃ (sh d : List Int) (i' s' : Int), (∀ R, spec_l3Draw.g a i s R = R sh d a i' s') ∧ Cu a i' ∧ anyArr sh d := by
  obtain ⟨sh, d, i1, s1, h1, c1, hd, hs⟩ := dArr a i s hi
  obtain ⟨k, i2, s2, h2, c2, hk⟩ := dBelow 20 (by omega) a i1 s1 c1
  obtain ⟨g1, g2, g3, g4, _⟩ := arrOk_facts hd
  obtain ⟨w1, w2⟩ := arrOk_i64 hd
  by_cases k0 : k = 0
  · subst k0
    refine ⟨sh, d ++ [1], i2, s2, fun R => ?_, c2, by omega, w1, by simp; omega, fun y hy => ?_⟩
    · have e : decide ((d.length + 1) * 8 ≤ 140737488355328) = true := by simp; omega
      simp only [spec_l3Draw.e, spec_l3Draw.b, h1, h2, e]; rfl
    · rcases List.mem_append.1 hy with hy | hy
      · exact w2 y hy
      · simp at hy; subst hy; simp [i64]
  have e0 : (k == 0) = false := by simpa using k0
  by_cases k1 : k = 1
  · subst k1
    obtain ⟨sh2, i3, s3, h3, c3, hl, hw⟩ := dShape a i2 s2 c2
    exact ⟨sh2, d, i3, s3, fun R => by simp only [spec_l3Draw.e, spec_l3Draw.b, h1, h2, h3]; rfl, c3, hl, hw, by omega, w2⟩
  have e1 : (k == 1) = false := by simpa using k1
  by_cases k2 : k = 2
  · subst k2
    by_cases hd0 : 0 < d.length
    · obtain ⟨j, i3, s3, h3, c3, hj⟩ := dBelow (d.length : Int) (by omega) a i2 s2 c2
      obtain ⟨x, i4, s4, h4, c4, hx⟩ := dRaw a i3 s3 c3
      obtain ⟨m, rfl⟩ := Int.eq_ofNat_of_zero_le hj.1
      have hm : m < d.length := by omega
      refine ⟨sh, d.set m x, i4, s4, fun R => ?_, c4, by omega, w1, by simp; omega, fun y hy => ?_⟩
      · have e : decide (0 < (d.length : Int)) = true := by simp; omega
        simp only [spec_l3Draw.e, spec_l3Draw.b, h1, h2, e, h3, h4, ix0, ixl hm, Bool.and_self, cond_true, Int.toNat_natCast]; rfl
      · rcases mem_set hy with hy | rfl
        · exact w2 y hy
        · exact hx
    · refine ⟨sh, d, i2, s2, fun R => ?_, c2, by omega, w1, by omega, w2⟩
      have e : decide (0 < (d.length : Int)) = false := by simp only [decide_eq_false_iff_not]; omega
      simp only [spec_l3Draw.e, spec_l3Draw.b, h1, h2, e, cond_false]; rfl
  have e2 : (k == 2) = false := by simpa using k2
  by_cases k3 : k = 3
  · subst k3
    obtain ⟨j, i3, s3, h3, c3, hj⟩ := dBelow 2 (by omega) a i2 s2 c2
    refine ⟨[300], List.replicate (300 + j).toNat 0, i3, s3, fun R => ?_, c3, by simp, by simp [i64s, i64], by simp; omega, fun y hy => ?_⟩
    · have e : decide (0 ≤ 300 + j) = true := by simp; omega
      have e' : decide ((300 + j) * 8 ≤ 140737488355328) = true := by simp; omega
      simp only [spec_l3Draw.e, spec_l3Draw.b, h1, h2, h3]
      rw [w64 (n := 300 + j) (by omega)]
      simp only [e, e', decide_true, Bool.and_self]; rfl
    · rw [(List.mem_replicate.1 hy).2]; simp [i64]
  have e3 : (k == 3) = false := by simpa using k3
  exact ⟨sh, d, i2, s2, fun R => by simp only [spec_l3Draw.e, spec_l3Draw.b, h1, h2, e0, e1, e2, e3, cond_false], c2, by omega, w1, by omega, w2⟩

theorem sameInts (a : List Int) (h : a.length ≤ 1048576) (R : Bool → Option Res) : laws_sameInts.g a a R = R true := by
  simp only [laws_sameInts.e, laws_sameInts.b, bne_self_eq_false, cond_false]
  refine up0 (N := a.length) (P := fun n i => laws_sameInts.l0 a a (R true) R n (i : Int) = R true) (by omega) ?_ ?_ 0 (by omega)
  · intro n; simp only [laws_sameInts.l0, laws_sameInts.l0s, ixe, cond_false]
  · intro n i hi ih
    simp only [laws_sameInts.l0, laws_sameInts.l0s, ixl hi, ix0, Bool.and_self, cond_true, bne_self_eq_false, cond_false, ixw (by omega : i < 9223372036854775807)]
    exact ih
theorem sameArray (s d : List Int) (h : s.length ≤ 1048576) (h2 : d.length ≤ 1048576) (R : Bool → Option Res) : laws_sameArray.g s d s d R = R true := by
  simp only [laws_sameArray.e, laws_sameArray.b, sameInts s h, sameInts d h2, cond_true]

theorem u8_of (n : Int) : IntKind.u8.wrap n = n % 256 := by rw [IntKind.wrap_u8]
theorem len8 {l : List Int} (h : l.length = 8) : ∃ a b c d e f g k, l = [a, b, c, d, e, f, g, k] := by
  match l, h with
  | [a, b, c, d, e, f, g, k], _ => exact ⟨a, b, c, d, e, f, g, k, rfl⟩
theorem numB_eq (x : Int) (h : numOk x = true) : numB x = [(x + 1000000000000) % 256, (x + 1000000000000) / 256 % 256, (x + 1000000000000) / 65536 % 256, (x + 1000000000000) / 16777216 % 256, (x + 1000000000000) / 4294967296 % 256,
    (x + 1000000000000) / 1099511627776 % 256, (x + 1000000000000) / 281474976710656 % 256, (x + 1000000000000) / 72057594037927936 % 256] := by
  simp only [numOk, Bool.and_eq_true, decide_eq_true_eq] at h
  simp only [numB, b8, u8_of, w64 (n := x + 1000000000000) (by omega)]
  simp only [Int.fdiv_eq_ediv_of_nonneg _ (show (0 : Int) ≤ 2 ^ (8 * 0) by decide), Int.fdiv_eq_ediv_of_nonneg _ (show (0 : Int) ≤ 2 ^ (8 * (0 + 1)) by decide), Int.fdiv_eq_ediv_of_nonneg _ (show (0 : Int) ≤ 2 ^ (8 * (0 + 1 + 1)) by decide),
    Int.fdiv_eq_ediv_of_nonneg _ (show (0 : Int) ≤ 2 ^ (8 * (0 + 1 + 1 + 1)) by decide), Int.fdiv_eq_ediv_of_nonneg _ (show (0 : Int) ≤ 2 ^ (8 * (0 + 1 + 1 + 1 + 1)) by decide), Int.fdiv_eq_ediv_of_nonneg _ (show (0 : Int) ≤ 2 ^ (8 * (0 + 1 + 1 + 1 + 1 + 1)) by decide),
    Int.fdiv_eq_ediv_of_nonneg _ (show (0 : Int) ≤ 2 ^ (8 * (0 + 1 + 1 + 1 + 1 + 1 + 1)) by decide), Int.fdiv_eq_ediv_of_nonneg _ (show (0 : Int) ≤ 2 ^ (8 * (0 + 1 + 1 + 1 + 1 + 1 + 1 + 1)) by decide)]
  simp
theorem le_numB (x : Int) (h : numOk x = true) : le (numB x) = x + 1000000000000 ∧ ∀ b ∈ numB x, byteOk b := by
  rw [numB_eq x h]
  simp only [numOk, Bool.and_eq_true, decide_eq_true_eq] at h
  refine ⟨by simp only [le]; omega, fun b hb => ?_⟩
  simp only [List.mem_cons, List.not_mem_nil, or_false] at hb
  simp only [byteOk]
  omega
theorem numB_le (l : List Int) (hl : l.length = 8) (h : ∀ x ∈ l, byteOk x) (hn : numOk (le l - 1000000000000) = true) : numB (le l - 1000000000000) = l := by
  rw [numB_eq _ hn]
  obtain ⟨a, b, c, d, e, f, g, k, rfl⟩ := len8 hl
  simp only [List.mem_cons, List.not_mem_nil, or_false, byteOk, forall_eq_or_imp, forall_eq] at h
  obtain ⟨ha, hb, hc, hd, he, hf, hg, hk⟩ := h
  simp only [le, Int.sub_add_cancel]
  simp only [List.cons.injEq, and_true]
  refine ⟨?_, ?_, ?_, ?_, ?_, ?_, ?_, ?_⟩ <;> omega
theorem dimB_ok (x : Int) (h : dimOk x = true) : ∃ a b, dimB x = [a, b] ∧ byteOk a ∧ byteOk b ∧ dim2 a b = x := by
  simp only [dimOk, Bool.and_eq_true, decide_eq_true_eq] at h
  refine ⟨x % 256, x / 256 % 256, ?_, by simp only [byteOk]; omega, by simp only [byteOk]; omega, by simp only [dim2]; omega⟩
  simp only [dimB, u8_of, Int.fdiv_eq_ediv_of_nonneg _ (show (0 : Int) ≤ 2 ^ 8 by decide)]; rfl
theorem dimB_dim2 (x y : Int) (hx : byteOk x) (hy : byteOk y) : dimB (dim2 x y) = [x, y] := by
  simp only [byteOk] at hx hy
  simp only [dimB, dim2, u8_of, Int.fdiv_eq_ediv_of_nonneg _ (show (0 : Int) ≤ 2 ^ 8 by decide)]
  have h8 : (2 : Int) ^ 8 = 256 := by decide
  rw [h8]
  simp only [List.cons.injEq, and_true]
  constructor <;> omega
theorem dims_back (s : List Int) (h : s.all dimOk = true) (r : List Int) : dimsN s.length (s.flatMap dimB ++ r) = s ∧ (s.flatMap dimB ++ r).drop (2 * s.length) = r ∧ ∀ b ∈ s.flatMap dimB, byteOk b := by
  induction s with
  | nil => simp [dimsN]
  | cons x s ih =>
    simp only [List.all_cons, Bool.and_eq_true] at h
    obtain ⟨i1, i2, i3⟩ := ih h.2
    obtain ⟨a, b, e, ha, hb, hd⟩ := dimB_ok x h.1
    simp only [List.flatMap_cons, e, List.cons_append, List.nil_append, List.length_cons, dimsN, hd, i1, true_and]
    refine ⟨?_, fun c hc => ?_⟩
    · rw [Nat.mul_add, show 2 * s.length + 2 * 1 = (2 * s.length + 1) + 1 by omega, List.drop_succ_cons, List.drop_succ_cons]; exact i2
    · rcases List.mem_cons.1 hc with rfl | hc
      · exact ha
      · rcases List.mem_cons.1 hc with rfl | hc
        · exact hb
        · exact i3 c hc
theorem nums_back (d : List Int) (h : d.all numOk = true) : numsN d.length (d.flatMap numB) = d ∧ (∀ b ∈ d.flatMap numB, byteOk b) := by
  induction d with
  | nil => simp [numsN]
  | cons x d ih =>
    simp only [List.all_cons, Bool.and_eq_true] at h
    obtain ⟨i1, i2⟩ := ih h.2
    obtain ⟨e1, e2⟩ := le_numB x h.1
    have hl := numB_length x
    simp only [List.flatMap_cons, List.length_cons, numsN]
    rw [show (numB x ++ d.flatMap numB).take 8 = numB x by rw [← hl]; exact List.take_left, show (numB x ++ d.flatMap numB).drop 8 = d.flatMap numB by rw [← hl]; exact List.drop_left, e1, i1]
    refine ⟨by congr 1; omega, fun b hb => ?_⟩
    rcases List.mem_append.1 hb with hb | hb
    · exact e2 b hb
    · exact i2 b hb
/-- what is packed is read -/
theorem read_pack {s d : List Int} (h : arrOk s d = true) : readArr (packB s d) = some (s, d) ∧ bsOk (packB s d) := by
  obtain ⟨h1, h2, h3, h4, _⟩ := arrOk_facts h
  have hlen := arrOk_len h
  have hu : IntKind.u8.wrap (s.length : Int) = (s.length : Int) := by rw [u8_of]; omega
  obtain ⟨a1, a2, a3⟩ := dims_back s h2 (d.flatMap numB)
  obtain ⟨b1, b2⟩ := nums_back d h4
  have hpl := packB_length s d
  have ed : (s.flatMap dimB).length = 2 * s.length := flat_length dimB 2 (fun _ => rfl) s
  have en : (d.flatMap numB).length = 8 * d.length := flat_length numB 8 numB_length d
  refine ⟨?_, fun x hx => ?_, by omega⟩
  · have e1 : decide ((s.length : Int) ≤ 3) = true := by simp; omega
    have e2 : decide (2 * s.length ≤ (s.flatMap dimB ++ d.flatMap numB).length) = true := by simp only [decide_eq_true_eq, List.length_append]; omega
    have e3 : decide (((d.flatMap numB).length : Int) = 8 * (d.length : Int)) = true := by rw [en]; simp
    simp only [packB, hu, List.cons_append, List.nil_append, readArr, e1, cond_true, Int.toNat_natCast, readBody, e2, a1, a2]
    rw [← hlen]
    simp only [readFit, e3, cond_true, Int.toNat_natCast, b1, h]
  · simp only [packB, hu, List.cons_append, List.nil_append] at hx
    rcases List.mem_cons.1 hx with rfl | hx
    · simp only [byteOk]; omega
    · rcases List.mem_append.1 hx with hx | hx
      · exact a3 x hx
      · exact b2 x hx
theorem dims_flat : ∀ (n : Nat) (t : List Int), 2 * n ≤ t.length → (∀ x ∈ t, byteOk x) → (dimsN n t).flatMap dimB = t.take (2 * n) := by
  intro n
  induction n with
  | zero => intro t _ _; simp [dimsN]
  | succ n ih =>
    intro t h hb
    match t, h, hb with
    | x :: y :: t, h, hb =>
      simp only [dimsN, List.flatMap_cons, dimB_dim2 x y (hb x (by simp)) (hb y (by simp)), ih t (by simp at h; omega) (fun z hz => hb z (by simp [hz]))]
      rw [Nat.mul_add, show 2 * n + 2 * 1 = (2 * n + 1) + 1 by omega, List.take_succ_cons, List.take_succ_cons]; rfl
    | [x], h, _ => simp at h; omega
    | [], h, _ => simp at h
theorem nums_flat : ∀ (n : Nat) (l : List Int), l.length = 8 * n → (∀ x ∈ l, byteOk x) → (numsN n l).all numOk = true → (numsN n l).flatMap numB = l := by
  intro n
  induction n with
  | zero => intro l h _ _; simp at h; subst h; rfl
  | succ n ih =>
    intro l h hb ha
    simp only [numsN, List.all_cons, Bool.and_eq_true] at ha
    simp only [numsN, List.flatMap_cons]
    rw [numB_le (l.take 8) (by simp; omega) (fun x hx => hb x (List.mem_of_mem_take hx)) ha.1, ih (l.drop 8) (by simp; omega) (fun x hx => hb x (List.mem_of_mem_drop hx)) ha.2, List.take_append_drop]
/-- what is read is packed -/
theorem pack_read {b s d : List Int} (hb : bsOk b) (h : readArr b = some (s, d)) : packB s d = b ∧ arrOk s d = true := by
  cases b with
  | nil => cases h
  | cons r t =>
    obtain ⟨hr, ht⟩ := hb.tl
    simp only [byteOk] at hr
    simp only [readArr, readBody, readFit] at h
    cases h1 : decide (r ≤ 3) <;> rw [h1] at h <;> simp only [cond_true, cond_false] at h
    · cases h
    cases h2 : decide (2 * r.toNat ≤ t.length) <;> rw [h2] at h <;> simp only [cond_true, cond_false] at h
    · cases h
    cases h3 : decide (((t.drop (2 * r.toNat)).length : Int) = 8 * sizeOf (dimsN r.toNat t)) <;> rw [h3] at h <;> simp only [cond_true, cond_false] at h
    · cases h
    cases h4 : arrOk (dimsN r.toNat t) (numsN (sizeOf (dimsN r.toNat t)).toNat (t.drop (2 * r.toNat))) <;> rw [h4] at h <;> simp only [cond_true, cond_false] at h
    · cases h
    cases h
    refine ⟨?_, h4⟩
    simp only [decide_eq_true_eq] at h1 h2 h3
    have hsz := sizeOf_ge (dimsN r.toNat t)
    simp only [packB, dimsN_length _ _ h2, dims_flat _ t h2 ht.1]
    rw [nums_flat _ _ (by omega) (fun x hx => ht.1 x (List.mem_of_mem_drop hx)) (arrOk_facts h4).2.2.2.1, u8_of]
    simp only [List.cons_append, List.nil_append, List.take_append_drop]
    congr 1
    omega
theorem dBytes (a : List Int) (h : a.length ≤ 1048576) : ∃ b, (∀ R, spec_DrawArrayRead.g a R = R b) ∧ bsOk b := by
  obtain ⟨s0, h0, c0⟩ := dNew a h
  obtain ⟨sh, d, i1, s1, h1, c1, hd, _⟩ := dArr a 0 s0 c0
  obtain ⟨g1, g2, g3, g4, _⟩ := arrOk_facts hd
  obtain ⟨_, hb⟩ := read_pack hd
  have hpl := packB_length sh d
  have hp : ∀ R, spec_ArrayPack.g sh d R = R (packB sh d) true := fun R => by rw [arrayPackS sh d (by omega), hd]; rfl
  have e0 : (((packB sh d).length : Int) == 0) = false := by rw [beq_eq_false_iff_ne]; omega
  obtain ⟨k, i2, s2, h2, c2, hk⟩ := dBelow 5 (by omega) a i1 s1 c1
  have start : ∀ R, spec_DrawArrayRead.g a R = (bif (k == 0) then (spec_l1Below.g ((packB sh d).length : Int) a i2 s2 fun r15 r16 r17 =>
    spec_l1PickInt.g ([0, 1, 2, 3, 4, 255] : List Int) a r16 r17 fun r18 r19 r20 =>
    bif decide (0 ≤ r15) && decide (r15 < ((packB sh d).length : Int)) then R ((packB sh d).set r15.toNat (IntKind.u8.wrap r18))
    else none)
  else bif (k == 1) then (spec_l1Below.g (IntKind.i64.wrap (((packB sh d).length : Int) + 1)) a i2 s2 fun r21 r22 r23 =>
    bif decide (0 ≤ r21) && decide (r21 ≤ ((packB sh d).length : Int)) then R ((packB sh d).take r21.toNat)
    else none)
  else bif (k == 2) then (bif decide (((packB sh d).length + 1) * 1 ≤ 140737488355328) then R (packB sh d ++ ([0] : List Int))
    else none)
  else R (packB sh d)) := fun R => by
    simp only [spec_DrawArrayRead.e, spec_DrawArrayRead.b, h0, h1, hp, e0, cond_false, h2]
  by_cases k0 : k = 0
  · subst k0
    obtain ⟨j, i3, s3, h3, c3, hj⟩ := dBelow ((packB sh d).length : Int) (by omega) a i2 s2 c2
    obtain ⟨x, i4, s4, h4, c4, hx⟩ := dPickInt [0, 1, 2, 3, 4, 255] (by simp) a i3 s3 c3
    obtain ⟨m, rfl⟩ := Int.eq_ofNat_of_zero_le hj.1
    have hm : m < (packB sh d).length := by omega
    refine ⟨(packB sh d).set m (IntKind.u8.wrap x), fun R => ?_, fun y hy => ?_, by simp; omega⟩
    · rw [start]; simp only [beq_self_eq_true, cond_true, h3, h4, ix0, ixl hm, Bool.and_self, Int.toNat_natCast]
    · rcases mem_set hy with hy | rfl
      · exact hb.1 y hy
      · rw [u8_of]; simp only [byteOk]; omega
  have e1 : (k == 0) = false := by simpa using k0
  by_cases k1 : k = 1
  · subst k1
    have hw : IntKind.i64.wrap (((packB sh d).length : Int) + 1) = ((packB sh d).length : Int) + 1 := w64 (by omega)
    obtain ⟨j, i3, s3, h3, c3, hj⟩ := dBelow (((packB sh d).length : Int) + 1) (by omega) a i2 s2 c2
    have ej : decide (0 ≤ j) = true := by simp; omega
    have ej' : decide (j ≤ ((packB sh d).length : Int)) = true := by simp; omega
    refine ⟨(packB sh d).take j.toNat, fun R => ?_, fun y hy => hb.1 y (List.mem_of_mem_take hy), by simp; omega⟩
    rw [start, hw]; simp only [e1, cond_false, beq_self_eq_true, cond_true, h3, ej, ej', Bool.and_self]
  have e2 : (k == 1) = false := by simpa using k1
  by_cases k2 : k = 2
  · subst k2
    refine ⟨packB sh d ++ [0], fun R => ?_, fun y hy => ?_, by simp; omega⟩
    · have e3 : decide (((packB sh d).length + 1) * 1 ≤ 140737488355328) = true := by simp; omega
      rw [start]; simp only [e1, e2, e3, cond_false, beq_self_eq_true, cond_true]
    · rcases List.mem_append.1 hy with hy | hy
      · exact hb.1 y hy
      · simp at hy; subst hy; simp [byteOk]
  have e3 : (k == 2) = false := by simpa using k2
  exact ⟨packB sh d, fun R => by rw [start]; simp only [e1, e2, e3, cond_false], hb⟩
theorem lawFnArrayBytes (a : List Int) (ha : wfQ [.int .u8] (.ints a)) (R : Bool → Option Res) : laws_FnArrayBytes.g a R = R true := by
  simp only [laws_FnArrayBytes.e, laws_FnArrayBytes.b, laws_big.e, laws_big.b]
  by_cases h : 1048576 < (a.length : Int)
  · simp [h]
  have hl : a.length ≤ 1048576 := by omega
  obtain ⟨s0, h0, c0⟩ := dNew a hl
  obtain ⟨sh, d, i1, s1, h1, c1, hy1, hy2, hy3, hy4⟩ := dAny a 0 s0 c0
  obtain ⟨b, hb, hbs⟩ := dBytes a hl
  have tail : ∀ R : Bool → Option Res, (spec_DrawArrayRead.g a fun r13 => impl_ArrayRead.g r13 fun r14 r15 r16 => spec_ArrayRead.g r13 fun r17 r18 r19 =>
    bif (r16 != r19) then R false
    else (impl_ArrayPack.g r14 r15 fun r20 r21 =>
    bif !r16 then (bif ((r15.length : Int) == 0) then R true
      else bif r16 then (bif r21 then R ((strOf r20).toList == (strOf r13).toList)
        else R false)
      else R false)
    else bif r16 then (bif r21 then R ((strOf r20).toList == (strOf r13).toList)
      else R false)
    else R false)) = R true := by
    intro R
    simp only [hb, arrayReadI b hbs, arrayReadS b hbs]
    cases hr : readArr b with
    | none =>
      simp only [arrRes, bne_self_eq_false, cond_false, arrayPackI [] [] (by simp)]
      cases arrOk [] [] <;> rfl
    | some p =>
      obtain ⟨s', d'⟩ := p
      obtain ⟨hp, hok⟩ := pack_read hbs hr
      have := (arrOk_facts hok).2.2.1
      simp only [arrRes, bne_self_eq_false, cond_false, arrayPackI s' d' (by omega), hok, cond_true, Bool.not_true, hp, beq_self_eq_true]
  simp only [h, decide_false, cond_false, spec_DrawArrayPack.e, spec_DrawArrayPack.b, h0, h1, arrayPackI sh d (by omega), arrayOkS sh d (by omega), arrayOkI sh d (by omega)]
  cases hok : arrOk sh d with
  | false =>
    simp only [cond_false, bne_self_eq_false]
    exact tail R
  | true =>
    obtain ⟨g1, g2, g3, g4, _⟩ := arrOk_facts hok
    obtain ⟨p1, p2⟩ := read_pack hok
    simp only [cond_true, bne_self_eq_false, cond_false, arrayReadI _ p2, p1, arrRes, Bool.not_true, sameArray sh d (by omega) (by omega)]
    exact tail R

end Go.Tv.F
