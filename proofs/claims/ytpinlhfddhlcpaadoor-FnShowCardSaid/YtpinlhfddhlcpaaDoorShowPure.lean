/- The pure law about these functions. It holds without condition. -/
import Derived.Test.YtpinlhfddhlcpaaDoorShowF
set_option linter.unusedVariables false
set_option linter.unusedSectionVars false
set_option linter.unusedSimpArgs false
set_option linter.unnecessarySimpa false
set_option maxRecDepth 100000
set_option autoImplicit false
namespace Go.Tv.F
open Go Go.Tv
theorem toIntS (a : List Int) (h : a.length ≤ 1048576) (R : List Int → Option Res) : laws_toIntS.g a R = R a := by
 have e1 : decide (0 ≤ (a.length : Int)) = true := by simp
 have e2 : decide ((a.length : Int) * 8 ≤ 140737488355328) = true := by simp; omega
 simp only [laws_toIntS.e, laws_toIntS.b, e1, e2, decide_true, Bool.and_self, cond_true]
 refine up0 (N := a.length) (P := fun n i => ∀ l : List Int, l.length = a.length → (∀ j, j < i → l[j]? = a[j]?) → laws_toIntS.l0 a R n (i : Int) l = R a) (by omega) ?_ ?_ 0 (by omega) _ (by simp) (fun j hj => by omega)
 ·intro n l hl hp
  simp only [laws_toIntS.l0, laws_toIntS.l0s, ixe, cond_false]
  rw [list_eq hl (fun j hj => hp j (by omega))]
 ·intro n i hi ih l hl hp
  have hi2 : decide ((i : Int) < (l.length : Int)) = true := by simp; omega
  simp only [laws_toIntS.l0, laws_toIntS.l0s, ixl hi, ix0, hi2, Bool.and_self, cond_true, ixw (by omega : i < 9223372036854775807), Int.toNat_natCast]
  exact ih _ (by simp [hl]) (set_pre hl hi (getD_lt 0 hi) hp)
def numOk (x : Int) : Bool := decide (-1000000000000 ≤ x) && decide (x ≤ 1000000000000)
theorem within (x a b : Int) (R : Bool → Option Res) : impl_within.g x a b R = R (decide (a ≤ x) && decide (x ≤ b)) := by
 simp only [impl_within.e, impl_within.b]; cases decide (a ≤ x) <;> rfl
theorem l1In (x a b : Int) (R : Bool → Option Res) : spec_l1In.g x a b R = R (decide (a ≤ x) && decide (x ≤ b)) := by
 simp only [spec_l1In.e, spec_l1In.b]; cases decide (a ≤ x) <;> rfl
theorem numOkI (x : Int) (R : Bool → Option Res) : impl_NumOk.g x R = R (numOk x) := by simp only [impl_NumOk.e, impl_NumOk.b, within, numOk]
theorem numOkS (x : Int) (R : Bool → Option Res) : spec_NumOk.g x R = R (numOk x) := by simp only [spec_NumOk.e, spec_NumOk.b, l1In, numOk]
def dimOk (x : Int) : Bool := decide (0 ≤ x) && decide (x ≤ 300)
def prod : List Int → Int := List.foldr (· * ·) 1
def sizeOf (s : List Int) : Int := bif decide (s.length ≤ 3) && s.all dimOk && decide (prod s ≤ 300) then prod s else -1
theorem prod_le (l : List Int) (h : l.all dimOk = true) : 0 ≤ prod l ∧ prod l ≤ 300 ^ l.length := by
 induction l with
 | nil => simp [prod]
 | cons a l ih =>
  simp only [List.all_cons, Bool.and_eq_true, dimOk, decide_eq_true_eq] at h
  obtain ⟨i1, i2⟩ := ih h.2
  simp only [prod, List.foldr_cons, List.length_cons] at i1 i2 ⊢
  refine ⟨Int.mul_nonneg h.1.1 i1, ?_⟩
  rw [Int.pow_succ, Int.mul_comm (300 ^ l.length)]
  exact Int.mul_le_mul h.1.2 i2 i1 (by omega)
theorem prod_cons (a : Int) (l : List Int) : prod (a :: l) = a * prod l := rfl
theorem sizeOfI (s : List Int) (R : Int → Option Res) : impl_SizeOf.g s R = R (sizeOf s) := by
 simp only [impl_SizeOf.e, impl_SizeOf.b]
 by_cases h : (3 : Int) < (s.length : Int)
 ·have e : decide (s.length ≤ 3) = false := by simp; omega
  simp only [h, decide_true, cond_true, sizeOf, e, Bool.false_and, cond_false]
 have e : decide (s.length ≤ 3) = true := by simp; omega
 have loop : impl_SizeOf.l0 s (s.length : Int) (fun y7 => bif decide (300 < y7) then R (-1) else R y7) R fuel 1 0 = (bif s.all dimOk then (bif decide (300 < prod s) then R (-1) else R (prod s)) else R (-1)) := by
  have := up0 (N := s.length) (P := fun n i => ∀ acc : Int, 0 ≤ acc → acc ≤ 300 ^ i → impl_SizeOf.l0 s (s.length : Int) (fun y7 => bif decide (300 < y7) then R (-1) else R y7) R n acc (i : Int) = (bif (s.drop i).all dimOk then (bif decide (300 < acc * prod (s.drop i)) then R (-1) else R (acc * prod (s.drop i))) else R (-1))) (by omega) ?_ ?_ 0 (by omega) 1 (by omega) (by omega)
  ·simpa using this
  ·intro n acc _ _
   simp only [impl_SizeOf.l0, impl_SizeOf.l0s, ixe, cond_false, List.drop_length, List.all_nil, cond_true, prod, List.foldr_nil, Int.mul_one]
  ·intro n i hi ih acc h0 h1
   have hb : (300 : Int) ^ i ≤ 300 ^ 2 := by
    have : i = 0 ∨ i = 1 ∨ i = 2 := by omega
    rcases this with rfl | rfl | rfl <;> decide
   simp only [impl_SizeOf.l0, impl_SizeOf.l0s, ixl hi, ix0, Bool.and_self, cond_true, within, ixw (by omega : i < 9223372036854775807), Int.toNat_natCast]
   rw [drop_cons 0 hi]
   generalize s.getD i 0 = d
   rw [List.all_cons, prod_cons]
   by_cases hd : dimOk d = true
   ·have hd' := hd
    simp only [dimOk, Bool.and_eq_true, decide_eq_true_eq] at hd'
    have hm : acc * d ≤ 300 ^ 2 * 300 := Int.mul_le_mul (by omega) hd'.2 hd'.1 (by decide)
    have hm0 : 0 ≤ acc * d := Int.mul_nonneg h0 hd'.1
    rw [show (decide (0 ≤ d) && decide (d ≤ 300)) = true from hd, hd, w64 (by omega)]
    simp only [Bool.not_true, cond_false, Bool.true_and]
    rw [ih (acc * d) hm0 (by rw [Int.pow_succ]; exact Int.mul_le_mul h1 hd'.2 hd'.1 (by exact Int.pow_nonneg (by omega))), Int.mul_assoc]
   ·have hd : dimOk d = false := by simpa using hd
    rw [show (decide (0 ≤ d) && decide (d ≤ 300)) = false from hd, hd]
    simp
 rw [loop]
 simp only [h, decide_false, cond_false, sizeOf, e, Bool.true_and]
 cases hA : s.all dimOk with
 | false => simp
 | true =>
  by_cases h3 : 300 < prod s
  ·have : decide (prod s ≤ 300) = false := by simp; omega
   simp [h3, this]
  ·have : decide (prod s ≤ 300) = true := by simp; omega
   simp [h3, this]
theorem sizeOfS (s : List Int) (R : Int → Option Res) : spec_SizeOf.g s R = R (sizeOf s) := by
 simp only [spec_SizeOf.e, spec_SizeOf.b]
 by_cases h : (3 : Int) < (s.length : Int)
 ·have e : decide (s.length ≤ 3) = false := by simp; omega
  simp only [h, decide_true, cond_true, sizeOf, e, Bool.false_and, cond_false]
 have e : decide (s.length ≤ 3) = true := by simp; omega
 have loop2 : s.all dimOk = true → ∀ z k, spec_SizeOf.l2 s z k fuel 1 0 = k (prod s) := by
  intro hA z k
  have := up0 (N := s.length) (P := fun n i => ∀ acc : Int, 0 ≤ acc → acc ≤ 300 ^ i → (s.drop i).all dimOk = true → spec_SizeOf.l2 s z k n acc (i : Int) = k (acc * prod (s.drop i))) (by omega) ?_ ?_ 0 (by omega) 1 (by omega) (by omega) (by simpa using hA)
  ·simpa using this
  ·intro n acc _ _ _
   simp only [spec_SizeOf.l2, spec_SizeOf.l2s, ixe, cond_false, List.drop_length, prod, List.foldr_nil, Int.mul_one]
  ·intro n i hi ih acc h0 h1 ha
   have hb : (300 : Int) ^ i ≤ 300 ^ 2 := by
    have : i = 0 ∨ i = 1 ∨ i = 2 := by omega
    rcases this with rfl | rfl | rfl <;> decide
   simp only [spec_SizeOf.l2, spec_SizeOf.l2s, ixl hi, ix0, Bool.and_self, cond_true, ixw (by omega : i < 9223372036854775807), Int.toNat_natCast]
   rw [drop_cons 0 hi] at ha ⊢
   revert ha
   generalize s.getD i 0 = d
   intro ha
   rw [prod_cons]
   simp only [List.all_cons, Bool.and_eq_true, dimOk, decide_eq_true_eq] at ha
   have hm : acc * d ≤ 300 ^ 2 * 300 := Int.mul_le_mul (by omega) ha.1.2 ha.1.1 (by decide)
   have hm0 : 0 ≤ acc * d := Int.mul_nonneg h0 ha.1.1
   rw [w64 (by omega), ih (acc * d) hm0 (by rw [Int.pow_succ]; exact Int.mul_le_mul h1 ha.1.2 ha.1.1 (by exact Int.pow_nonneg (by omega))) (by simpa [dimOk] using ha.2), Int.mul_assoc]
 have loop : ∀ k, spec_SizeOf.l0 s k R fuel false 0 = (bif s.all dimOk then k (s.any (· == 0)) else R (-1)) := by
  intro k
  have := up0 (N := s.length) (P := fun n i => ∀ z : Bool, spec_SizeOf.l0 s k R n z (i : Int) = (bif (s.drop i).all dimOk then k (z || (s.drop i).any (· == 0)) else R (-1))) (by omega) ?_ ?_ 0 (by omega) false
  ·simpa using this
  ·intro n z
   simp only [spec_SizeOf.l0, spec_SizeOf.l0s, ixe, cond_false, List.drop_length, List.all_nil, cond_true, List.any_nil, Bool.or_false]
  ·intro n i hi ih z
   simp only [spec_SizeOf.l0, spec_SizeOf.l0s, ixl hi, ix0, Bool.and_self, cond_true, l1In, ixw (by omega : i < 9223372036854775807), Int.toNat_natCast]
   rw [drop_cons 0 hi]
   generalize s.getD i 0 = d
   rw [List.all_cons, List.any_cons]
   cases hd : dimOk d with
   | true =>
    rw [show (decide (0 ≤ d) && decide (d ≤ 300)) = true from hd]
    cases z with
    | true => simp only [Bool.not_true, cond_false, cond_true, ih, Bool.true_or, Bool.true_and]
    | false => simp only [Bool.not_true, cond_false, ih, Bool.false_or, Bool.true_and]
   | false =>
    rw [show (decide (0 ≤ d) && decide (d ≤ 300)) = false from hd]
    simp
 simp only [h, decide_false, cond_false, loop, sizeOf, e, Bool.true_and]
 cases hA : s.all dimOk with
 | false => simp
 | true =>
  simp only [cond_true, loop2 hA, Bool.true_and]
  by_cases h3 : 300 < prod s
  ·have h4 : decide (prod s ≤ 300) = false := by simp; omega
   have hz : s.any (· == 0) = false := by
    cases hz : s.any (· == 0) with
    | false => rfl
    | true =>
     exfalso
     have : ∀ l : List Int, l.any (· == 0) = true → prod l = 0 := by
      intro l
      induction l with
      | nil => intro h; simp at h
      | cons a l ih =>
       intro h
       simp only [List.any_cons, Bool.or_eq_true, beq_iff_eq] at h
       rw [prod_cons]
       rcases h with rfl | h
       ·simp
       ·rw [ih h]; simp
     rw [this s hz] at h3
     omega
   simp [h3, h4, hz]
  ·have : decide (prod s ≤ 300) = true := by simp; omega
   simp [h3, this]
def arrOk (s d : List Int) : Bool := decide ((d.length : Int) = sizeOf s) && d.all numOk
theorem sizeOf_le (s : List Int) : sizeOf s ≤ 300 := by
 simp only [sizeOf]
 cases h : decide (s.length ≤ 3) && s.all dimOk && decide (prod s ≤ 300) with
 | false => simp
 | true => simp only [Bool.and_eq_true, decide_eq_true_eq] at h; simpa using h.2
theorem arrOk_facts {s d : List Int} (h : arrOk s d = true) : s.length ≤ 3 ∧ s.all dimOk = true ∧ d.length ≤ 300 ∧ d.all numOk = true ∧ (d.length : Int) = prod s := by
 simp only [arrOk, Bool.and_eq_true, decide_eq_true_eq] at h
 have h0 := sizeOf_le s
 obtain ⟨h1, h2⟩ := h
 rw [sizeOf] at h1
 cases h3 : decide (s.length ≤ 3) && s.all dimOk && decide (prod s ≤ 300) with
 | false => rw [h3] at h1; simp at h1
 | true =>
  rw [h3] at h1
  simp only [Bool.and_eq_true, decide_eq_true_eq] at h3
  simp only [cond_true] at h1
  exact ⟨h3.1.1, h3.1.2, by omega, h2, h1⟩
/-- the first place from i on at which something holds; -1: none -/
def idx {α : Type} (f : α → Bool) : List α → Int → Int
 | [], _ => -1
 | x :: l, i => bif f x then i else idx f l (i + 1)
theorem idx_any {α : Type} (f : α → Bool) (l : List α) : ∀ i : Int, 0 ≤ i → decide (0 ≤ idx f l i) = l.any f := by
 induction l with
 | nil => intro i _; rfl
 | cons x l ih =>
  intro i hi
  cases hf : f x with
  | true => simp [idx, hf, hi]
  | false => simpa [idx, hf] using ih (i + 1) (by omega)
theorem arrayOkI_1 (x : Int) (R : Bool → Option Res) : impl_ArrayOk_1.g x R = R (!numOk x) := by simp only [impl_ArrayOk_1.e, impl_ArrayOk_1.b, numOkI]
theorem arrayOkI_idx (d : List Int) (h : d.length ≤ 9223372036854775807) (R : Int → Option Res) : slices_IndexFunc_int_int.g d R = R (idx (fun x => !numOk x) d 0) := by
 simp only [slices_IndexFunc_int_int.e, slices_IndexFunc_int_int.b]
 have := up0 (N := d.length) (P := fun n i => slices_IndexFunc_int_int.l0 d (d.length : Int) (R (-1)) R n (i : Int) = R (idx (fun x => !numOk x) (d.drop i) i)) (by omega) ?_ ?_ 0 (by omega)
 ·simpa using this
 ·intro n; simp only [slices_IndexFunc_int_int.l0, slices_IndexFunc_int_int.l0s, ixe, cond_false, List.drop_length, idx]
 ·intro n i hi ih
  simp only [slices_IndexFunc_int_int.l0, slices_IndexFunc_int_int.l0s, ixl hi, ix0, Bool.and_self, cond_true, arrayOkI_1, ixw (by omega : i < 9223372036854775807), Int.toNat_natCast]
  rw [drop_cons 0 hi, idx]
  cases numOk (d.getD i 0) with
  | true => exact ih
  | false => rfl
theorem arrayOkI (s d : List Int) (h : d.length ≤ 9223372036854775807) (R : Bool → Option Res) : impl_ArrayOk.g s d R = R (arrOk s d) := by
 simp only [impl_ArrayOk.e, impl_ArrayOk.b, sizeOfI, slices_ContainsFunc_int_int.e, slices_ContainsFunc_int_int.b, arrayOkI_idx d h, idx_any _ _ _ (Int.le_refl 0), arrOk]
 by_cases h1 : (d.length : Int) = sizeOf s
 ·simp only [h1, beq_self_eq_true, cond_true, decide_true, Bool.true_and]
  congr 1
  rw [List.any_eq_not_all_not]; simp
 ·have : ((d.length : Int) == sizeOf s) = false := by simpa using h1
  simp only [this, h1, cond_false, decide_false, Bool.false_and]
theorem arrayOkS (s d : List Int) (h : d.length ≤ 9223372036854775807) (R : Bool → Option Res) : spec_ArrayOk.g s d R = R (arrOk s d) := by
 simp only [spec_ArrayOk.e, spec_ArrayOk.b, sizeOfS, arrOk]
 have loop : spec_ArrayOk.l0 s d (R true) R fuel 0 = R (d.all numOk) := by
  have := up0 (N := d.length) (P := fun n i => spec_ArrayOk.l0 s d (R true) R n (i : Int) = R ((d.drop i).all numOk)) (by omega) ?_ ?_ 0 (by omega)
  ·simpa using this
  ·intro n; simp only [spec_ArrayOk.l0, spec_ArrayOk.l0s, ixe, cond_false, List.drop_length, List.all_nil]
  ·intro n i hi ih
   simp only [spec_ArrayOk.l0, spec_ArrayOk.l0s, ixl hi, ix0, Bool.and_self, cond_true, numOkS, ixw (by omega : i < 9223372036854775807), Int.toNat_natCast]
   rw [drop_cons 0 hi, List.all_cons]
   cases numOk (d.getD i 0) with
   | true => exact ih
   | false => rfl
 by_cases h1 : (d.length : Int) = sizeOf s
 ·rw [h1]; simp only [bne_self_eq_false, cond_false, loop, decide_true, Bool.true_and]
 ·have : (sizeOf s != (d.length : Int)) = true := by simp; omega
  simp only [this, cond_true, h1, decide_false, Bool.false_and]
/-- a string of bytes -/
def bz (l : List UInt8) : ByteArray := ⟨l.toArray⟩
theorem bz_app (a b : List UInt8) : bz a ++ bz b = bz (a ++ b) := by
 apply ByteArray.ext
 simp [bz, ByteArray.data_append]
theorem bz_size (a : List UInt8) : (bz a).size = a.length := by simp [bz, ByteArray.size]
theorem bz_list (a : List UInt8) : (bz a).data.toList = a := by simp [bz]
/-- a number's text -/
def numL (x : Int) : List UInt8 := if x < 0 then 95 :: Lib.decDigits x.natAbs else Lib.decDigits x.toNat
theorem decLen : ∀ (k n : Nat), n < 10 ^ (k + 1) → (Lib.decDigits n).length ≤ k + 1
 | 0, n, h => by rw [Lib.decDigits, dif_pos (by omega)]; simp
 | k + 1, n, h => by
  rw [Lib.decDigits]
  split
  ·simp
  ·rw [List.length_append]
   have := decLen k (n / 10) (by rw [Nat.div_lt_iff_lt_mul (by omega)]; rw [Nat.pow_succ] at h; omega)
   simp; omega
theorem decPos (n : Nat) : 1 ≤ (Lib.decDigits n).length := by
 rw [Lib.decDigits]; split <;> simp
theorem numOk_b {x : Int} (h : numOk x = true) : -1000000000000 ≤ x ∧ x ≤ 1000000000000 := by
 simp only [numOk, Bool.and_eq_true, decide_eq_true_eq] at h
 omega
theorem numLen {x : Int} (h : numOk x = true) : 1 ≤ (numL x).length ∧ (numL x).length ≤ 14 := by
 have := numOk_b h
 unfold numL
 split
 ·have := decLen 12 x.natAbs (by omega)
  have := decPos x.natAbs
  simp; omega
 ·have := decLen 12 x.toNat (by omega)
  have := decPos x.toNat
  omega
theorem digB (m : Nat) : strOf ([IntKind.u8.wrap (IntKind.i64.wrap (48 + ((m : Int).tmod 10)))] : List Int) = bz [UInt8.ofNat (48 + m % 10)] := by
 rw [Int.tmod_eq_emod_of_nonneg (by omega), w64 (by omega), IntKind.wrap_u8]
 have : ((48 + (m : Int) % 10) % 256) = ((48 + m % 10 : Nat) : Int) := by omega
 rw [this]; rfl
theorem digLoop (k : ByteArray → Option Res) : ∀ (n m : Nat) (acc : List UInt8), m < n → m ≤ 10000000000000 → acc.length + m ≤ 4000000000000000000 →
 spec_l8Digits.l0 k n (m : Int) (bz acc) = k (bz ((if m = 0 then [] else Lib.decDigits m) ++ acc))
 | 0, m, acc, h, _, _ => by omega
 | n + 1, m, acc, h, hm, ha => by
  simp only [spec_l8Digits.l0, spec_l8Digits.l0s]
  by_cases h0 : m = 0
  ·subst h0
   rw [cd_f (by simp), if_pos rfl]; rfl
  ·rw [cd_t (by simp; omega), digB, bz_size, bz_size, cd_t (by simp; omega), bz_app, Int.tdiv_eq_ediv_of_nonneg (by omega), w64 (by omega)]
   have e : ((m : Int) / 10) = ((m / 10 : Nat) : Int) := by omega
   rw [e, digLoop k n (m / 10) _ (by omega) (by omega) (by simp; omega), if_neg h0]
   congr 2
   by_cases h1 : m < 10
   ·rw [if_pos (by omega), Lib.decDigits, dif_pos h1]
    rw [Nat.mod_eq_of_lt h1]; rfl
   ·rw [if_neg (by omega)]
    conv => rhs; rw [Lib.decDigits, dif_neg h1]
    simp
theorem digG (n : Nat) (x : Int) (h : numOk x = true) (R : ByteArray → Option Res) : spec_l8Digits.gn (n + 2) x R = R (bz (numL x)) := by
 have hb := numOk_b h
 have pos : ∀ (n : Nat) (m : Nat), m ≤ 10000000000000 → ∀ R : ByteArray → Option Res, spec_l8Digits.gn (n + 1) (m : Int) R = R (bz (Lib.decDigits m)) := by
  intro n m hm R
  rw [spec_l8Digits.gn_succ]
  unfold spec_l8Digits.g
  rw [cd_f (by simp)]
  by_cases h0 : m = 0
  ·subst h0
   rw [cd_t (by simp)]
   have : Lib.decDigits 0 = [48] := by rw [Lib.decDigits, dif_pos (by omega)]; rfl
   rw [this]; rfl
  ·rw [cd_f (by simp; omega)]
   have := digLoop R fuel m [] (by rw [fuel_eq]; omega) hm (by simp; omega)
   rw [if_neg h0, List.append_nil] at this
   exact this
 unfold numL
 by_cases hx : x < 0
 ·rw [if_pos hx, spec_l8Digits.gn_succ]
  unfold spec_l8Digits.g
  rw [cd_t (by simpa using hx), w64 (by omega)]
  have e : (0 - x) = (x.natAbs : Int) := by omega
  show spec_l8Digits.gn (n + 1) (0 - x) _ = _
  rw [e, pos n _ (by omega), bz_size, cd_t (by have := decLen 12 x.natAbs (by omega); simp; omega)]
  have : (⟨#[95]⟩ : ByteArray) = bz [95] := rfl
  rw [this, bz_app]; rfl
 ·rw [if_neg hx]
  obtain ⟨m, rfl⟩ : ∃ m : Nat, x = m := ⟨x.toNat, by omega⟩
  rw [pos (n + 1) m (by omega)]; rfl
theorem digS (x : Int) (h : numOk x = true) (R : ByteArray → Option Res) : spec_l8Digits.G x R = R (bz (numL x)) := by
 obtain ⟨m, hm, _⟩ := fuel_split 2 (by decide)
 rw [spec_l8Digits.Ge, hm, digG m x h]
/-- what is shown -/
def showN (x : Int) : List UInt8 := if numOk x then numL x else []
theorem itoaNeg {x : Int} (h : x < 0) : Lib.itoa (0 - x) = Lib.decDigits x.natAbs := by
 unfold Lib.itoa; rw [if_neg (by omega)]; congr 1; omega
theorem itoaPos {x : Int} (h : ¬ x < 0) : Lib.itoa x = Lib.decDigits x.toNat := by
 unfold Lib.itoa; rw [if_neg h]
theorem itoaR (x : Int) (h : -9223372036854775808 ≤ x ∧ x ≤ 9223372036854775807) (R : ByteArray → Option Res) : strconv_Itoa.g x R = R (bz (Lib.itoa x)) := by
 unfold strconv_Itoa.g itoaG
 rw [cd_t (by simp; omega)]; rfl
theorem showNumI (x : Int) (R : ByteArray → Option Res) : impl_ShowNum.g x R = R (bz (showN x)) := by
 simp only [impl_ShowNum.e, impl_ShowNum.b, numOkI, showN]
 cases h : numOk x with
 | false => rfl
 | true =>
  have hb := numOk_b h
  simp only [Bool.not_true, cond_false, if_true]
  unfold numL
  by_cases hx : x < 0
  ·rw [cd_t (by simpa using hx), w64 (by omega), itoaR _ (by omega), itoaNeg hx, if_pos hx, bz_size, cd_t (by have := decLen 12 x.natAbs (by omega); simp; omega)]
   have : (⟨#[95]⟩ : ByteArray) = bz [95] := rfl
   rw [this, bz_app]; rfl
  ·rw [cd_f (by simpa using hx), itoaR _ (by omega), itoaPos hx, if_neg hx]
theorem beqL (s : ByteArray) : (s.toList == s.toList) = true := beq_self_eq_true _
theorem allRight_idx (d : List Int) (h : d.length ≤ 9223372036854775807) (R : Int → Option Res) : slices_IndexFunc_int_int_i2.g d R = R (idx (fun x => !numOk x) d 0) := by
 simp only [slices_IndexFunc_int_int_i2.e, slices_IndexFunc_int_int_i2.b]
 have := up0 (N := d.length) (P := fun n i => slices_IndexFunc_int_int_i2.l0 d (d.length : Int) (R (-1)) R n (i : Int) = R (idx (fun x => !numOk x) (d.drop i) i)) (by omega) ?_ ?_ 0 (by omega)
 ·simpa using this
 ·intro n; simp only [slices_IndexFunc_int_int_i2.l0, slices_IndexFunc_int_int_i2.l0s, ixe, cond_false, List.drop_length, idx]
 ·intro n i hi ih
  simp only [slices_IndexFunc_int_int_i2.l0, slices_IndexFunc_int_int_i2.l0s, ixl hi, ix0, Bool.and_self, cond_true, impl_allRight_1.e, impl_allRight_1.b, numOkI, ixw (by omega : i < 9223372036854775807), Int.toNat_natCast]
  rw [drop_cons 0 hi, idx]
  cases numOk (d.getD i 0) with
  | true => exact ih
  | false => rfl
theorem allRightI (d : List Int) (h : d.length ≤ 9223372036854775807) (R : Bool → Option Res) : impl_allRight.g d R = R (d.all numOk) := by
 simp only [impl_allRight.e, impl_allRight.b, slices_ContainsFunc_int_int_i2.e, slices_ContainsFunc_int_int_i2.b, allRight_idx d h, idx_any _ _ _ (Int.le_refl 0)]
 congr 1
 rw [List.any_eq_not_all_not]; simp
theorem numsS (d : List Int) (h : d.length ≤ 9223372036854775807) (R : Bool → Option Res) : spec_l16Nums.g d R = R (d.all numOk) := by
 simp only [spec_l16Nums.e, spec_l16Nums.b]
 have := up0 (N := d.length) (P := fun n i => spec_l16Nums.l0 d (R true) R n (i : Int) = R ((d.drop i).all numOk)) (by omega) ?_ ?_ 0 (by omega)
 ·simpa using this
 ·intro n; simp only [spec_l16Nums.l0, spec_l16Nums.l0s, ixe, cond_false, List.drop_length, List.all_nil]
 ·intro n i hi ih
  simp only [spec_l16Nums.l0, spec_l16Nums.l0s, ixl hi, ix0, Bool.and_self, cond_true, numOkS, ixw (by omega : i < 9223372036854775807), Int.toNat_natCast]
  rw [drop_cons 0 hi, List.all_cons]
  cases numOk (d.getD i 0) with
  | true => exact ih
  | false => rfl
/-- how wide the widest is -/
def wideN : List Int → Nat → Nat
 | [], n => n
 | x :: l, n => wideN l (max n (numL x).length)
theorem all_at {d : List Int} (h : d.all numOk = true) {i : Nat} (hi : i < d.length) : numOk (d.getD i 0) = true := by
 rw [List.getD_eq_getElem?_getD, List.getElem?_eq_getElem hi]
 exact List.all_eq_true.1 h _ (List.getElem_mem hi)
theorem showN_ok {x : Int} (h : numOk x = true) : showN x = numL x := by unfold showN; rw [if_pos h]
theorem wideI (d : List Int) (h : d.length ≤ 9223372036854775807) (R : Int → Option Res) : impl_ShowWide.g d R = R (if d.all numOk then (wideN d 0 : Int) else -1) := by
 simp only [impl_ShowWide.e, impl_ShowWide.b, allRightI d h]
 cases ha : d.all numOk with
 | false => rfl
 | true =>
  simp only [Bool.not_true, cond_false, if_true]
  have := up0 (N := d.length) (P := fun n i => ∀ m : Nat, impl_ShowWide.l0 d (d.length : Int) R n (m : Int) (i : Int) = R (wideN (d.drop i) m : Int)) (by omega) ?_ ?_ 0 (by omega) 0
  ·simpa using this
  ·intro n m; simp only [impl_ShowWide.l0, impl_ShowWide.l0s, ixe, cond_false, List.drop_length, wideN]
  ·intro n i hi ih m
   simp only [impl_ShowWide.l0, impl_ShowWide.l0s, ixl hi, ix0, Bool.and_self, cond_true, showNumI, bz_size, showN_ok (all_at ha hi), ixw (by omega : i < 9223372036854775807), Int.toNat_natCast]
   rw [drop_cons 0 hi, wideN, ← ih]
   congr 1
   simp only [minmax]
   generalize (numL (d.getD i 0)).length = q
   rcases Nat.le_total m q with h | h
   ·rw [Nat.max_eq_right h]; simp; omega
   ·rw [Nat.max_eq_left h]; simp; omega
/-- what stands behind a row's first number -/
def rowT : List Int → List UInt8
 | [] => []
 | x :: l => 32 :: (numL x ++ rowT l)
def rowL : List Int → List UInt8
 | [] => []
 | x :: l => numL x ++ rowT l
theorem rowT_len : ∀ d : List Int, d.all numOk = true → (rowT d).length ≤ 15 * d.length
 | [], _ => by simp [rowT]
 | x :: l, h => by
  rw [List.all_cons, Bool.and_eq_true] at h
  have := rowT_len l h.2
  have := numLen h.1
  simp [rowT]; omega
theorem rowL_len (d : List Int) (h : d.all numOk = true) : (rowL d).length ≤ 15 * d.length := by
 cases d with
 | nil => simp [rowL]
 | cons x l =>
  rw [List.all_cons, Bool.and_eq_true] at h
  have := rowT_len l h.2
  have := numLen h.1
  simp [rowL]; omega
theorem row_join : ∀ d : List Int, Lib.join (d.map numL) [32] = rowL d
 | [] => rfl
 | x :: l => by
  have t : ∀ l : List Int, Lib.joinTail [32] (l.map numL) = rowT l := by
   intro l; induction l with
   | nil => rfl
   | cons y l ih => simp only [Lib.joinTail, List.map_cons, List.flatten_cons, rowT] at ih ⊢; rw [ih]; rfl
  rw [List.map_cons, Lib.join_cons, t]; rfl
theorem joinR (xs : List (List UInt8)) (sep : List UInt8) (h : xs.length ≤ 140737488355328) (h2 : (Lib.join xs sep).length ≤ 140737488355328) (R : ByteArray → Option Res) :
 strings_Join.g (xs.map bz) (bz sep) R = R (bz (Lib.join xs sep)) := by
 have e : joinL (xs.map bz) (bz sep) = Lib.join xs sep := by
  unfold joinL
  rw [List.map_map, bz_list]
  congr 1
  rw [show ((fun x : ByteArray => x.data.toList) ∘ bz) = id from funext fun x => bz_list x, List.map_id]
 unfold strings_Join.g joinG
 rw [e, cd_t (by simp [h, h2])]
 unfold joinB; rw [e]; rfl
theorem map_snoc {α β : Type} (f : α → β) (d : List α) (z : α) {i : Nat} (hi : i < d.length) : (d.take i).map f ++ [f (d.getD i z)] = (d.take (i + 1)).map f := by
 rw [List.take_succ_eq_append_getElem hi, List.map_append, List.getD_eq_getElem?_getD, List.getElem?_eq_getElem hi]; rfl
theorem rowI (d : List Int) (h : d.length ≤ 1048576) (R : ByteArray → Option Res) : impl_ShowRow.g d R = R (bz (if d.all numOk then rowL d else [])) := by
 simp only [impl_ShowRow.e, impl_ShowRow.b, allRightI d (by omega)]
 cases ha : d.all numOk with
 | false => rfl
 | true =>
  simp only [Bool.not_true, cond_false, if_true]
  have := up0 (N := d.length) (P := fun n i => ∀ k : List ByteArray → Option Res, impl_ShowRow.l0 d (d.length : Int) k n (i : Int) ((d.take i).map fun x => bz (numL x)) = k (d.map fun x => bz (numL x))) (by omega) ?_ ?_ 0 (by omega)
  ·have e := this (fun y8 => strings_Join.g y8 (⟨#[32]⟩ : ByteArray) fun r9 => R r9)
   have e2 : (⟨#[32]⟩ : ByteArray) = bz [32] := rfl
   rw [e2] at e ⊢
   have e3 : (d.map fun x => bz (numL x)) = (d.map numL).map bz := by rw [List.map_map]; rfl
   rw [e3, joinR _ _ (by simp; omega) (by rw [row_join]; have := rowL_len d ha; omega), row_join] at e
   exact e
  ·intro n k; simp only [impl_ShowRow.l0, impl_ShowRow.l0s, ixe, cond_false, List.take_length]
  ·intro n i hi ih k
   have hl : decide ((((d.take i).map fun x => bz (numL x)).length + 1) * 16 ≤ 140737488355328) = true := by simp; omega
   simp only [impl_ShowRow.l0, impl_ShowRow.l0s, ixl hi, ix0, Bool.and_self, cond_true, showNumI, showN_ok (all_at ha hi), ixw (by omega : i < 9223372036854775807), Int.toNat_natCast, hl]
   rw [map_snoc (fun x => bz (numL x)) d 0 hi]
   exact ih k
theorem rowS (d : List Int) (h : d.length ≤ 1048576) (R : ByteArray → Option Res) : spec_ShowRow.g d R = R (bz (if d.all numOk then rowL d else [])) := by
 simp only [spec_ShowRow.e, spec_ShowRow.b]
 cases ha : d.all numOk with
 | false =>
  obtain ⟨m, hm, _⟩ := fuel_split 1 (by decide)
  rw [hm]
  simp only [spec_ShowRow.l0, spec_ShowRow.l0s]
  cases d with
  | nil => cases ha
  | cons x l => rw [cd_t (by simp), numsS _ (by omega), ha]; rfl
 | true =>
  have key := up (N := d.length) (P := fun n i => 0 < i → ∀ acc : List UInt8, acc.length + 15 * (d.length - i) ≤ 1000000000 → spec_ShowRow.l0 d R n (bz acc) (i : Int) = R (bz (acc ++ rowT (d.drop i)))) ?_ ?_
  ·obtain ⟨m, hm, hm2⟩ := fuel_split 1 (by decide)
   cases d with
   | nil => rw [hm]; rfl
   | cons x l =>
    have h0 : numOk x = true := by rw [List.all_cons, Bool.and_eq_true] at ha; exact ha.1
    have hn := numLen h0
    have hn0 := numLen h0
    rw [hm]
    simp only [spec_ShowRow.l0, spec_ShowRow.l0s]
    have e0 : decide ((0 : Int) < ((x :: l).length : Int)) = true := by simp
    have eb : (⟨#[]⟩ : ByteArray) = bz [] := rfl
    have h2 : decide ((bz []).size + (bz (numL x)).size ≤ 9223372036854775807) = true := by rw [bz_size, bz_size]; simp only [decide_eq_true_eq, List.length_nil]; omega
    rw [eb]
    simp only [e0, cond_true, numsS (x :: l) (by omega), ha, show decide ((0 : Int) < 0) = false from rfl, cond_false, show decide ((0 : Int) ≤ 0) = true from rfl, Bool.and_self, Int.toNat_zero, List.getD_cons_zero, digS x h0, h2, bz_app, List.nil_append]
    rw [show IntKind.i64.wrap (0 + 1) = ((1 : Nat) : Int) from by rw [w64 (by omega)]; rfl]
    simp only [List.length_cons] at key h
    rw [key m 1 (by omega) (by omega) (by omega) (numL x) (by omega)]
    rfl
  ·intro n _ acc _; simp only [spec_ShowRow.l0, spec_ShowRow.l0s, ixe, cond_false, List.drop_length, rowT, List.append_nil]
  ·intro n i hi ih h0 acc hacc
   have hx := all_at ha hi
   have hn := numLen hx
   have hd : decide ((0 : Int) < (i : Int)) = true := by simp; omega
   have hb : bz acc ++ (⟨#[32]⟩ : ByteArray) = bz (acc ++ [32]) := bz_app acc [32]
   have h1 : decide ((bz acc).size + 1 ≤ 9223372036854775807) = true := by rw [bz_size]; simp; omega
   have h2 : decide ((bz (acc ++ [32])).size + (bz (numL (d.getD i 0))).size ≤ 9223372036854775807) = true := by rw [bz_size, bz_size, List.length_append]; simp only [decide_eq_true_eq, List.length_singleton]; omega
   simp only [spec_ShowRow.l0, spec_ShowRow.l0s, ixl hi, ix0, Bool.and_self, cond_true, numsS d (by omega), ha, hd, h1, hb, digS _ hx, h2, ixw (by omega : i < 9223372036854775807), Int.toNat_natCast, bz_app]
   rw [ih (by omega) _ (by simp only [List.length_append, List.length_singleton]; omega), drop_cons 0 hi, rowT]
   simp
theorem join_snoc {L : List (List UInt8)} (h : L ≠ []) (x sep : List UInt8) : Lib.join (L ++ [x]) sep = Lib.join L sep ++ (sep ++ x) := by
 cases L with
 | nil => exact absurd rfl h
 | cons y r => rw [List.cons_append, Lib.join_cons, Lib.join_cons]; simp [Lib.joinTail]
theorem join_take {L : List (List UInt8)} {i : Nat} (h0 : 0 < i) (hi : i < L.length) (sep : List UInt8) : Lib.join (L.take (i + 1)) sep = Lib.join (L.take i) sep ++ (sep ++ L.getD i []) := by
 rw [List.take_succ_eq_append_getElem hi, join_snoc (by intro e; have := congrArg List.length e; rw [List.length_take, List.length_nil] at this; omega), List.getD_eq_getElem?_getD, List.getElem?_eq_getElem hi]; rfl
theorem join_one0 {L : List (List UInt8)} (hi : 0 < L.length) (sep : List UInt8) : Lib.join (L.take (0 + 1)) sep = L.getD 0 [] := by
 cases L with
 | nil => simp at hi
 | cons x L => exact Lib.join_one _ _
theorem tailB (sep : List UInt8) (B : Nat) : ∀ L : List (List UInt8), (∀ x ∈ L, x.length ≤ B) → (Lib.joinTail sep L).length ≤ (B + sep.length) * L.length
 | [], _ => by simp [Lib.joinTail]
 | x :: L, h => by
  have h1 := tailB sep B L fun u hu => h u (List.mem_cons_of_mem _ hu)
  have h2 := h x (List.mem_cons_self ..)
  simp only [Lib.joinTail, List.map_cons, List.flatten_cons, List.length_append, List.length_cons, Nat.mul_succ] at h1 ⊢
  omega
theorem joinB_len (sep : List UInt8) (B : Nat) (L : List (List UInt8)) (h : ∀ x ∈ L, x.length ≤ B) : (Lib.join L sep).length ≤ (B + sep.length) * L.length := by
 cases L with
 | nil => simp [Lib.join_nil]
 | cons x L =>
  rw [Lib.join_cons, List.length_append, List.length_cons, Nat.mul_succ]
  have := tailB sep B L fun u hu => h u (List.mem_cons_of_mem _ hu)
  have := h x (List.mem_cons_self ..)
  omega
theorem joinT_len (sep : List UInt8) (B i : Nat) (L : List (List UInt8)) (h : ∀ x ∈ L, x.length ≤ B) : (Lib.join (L.take i) sep).length ≤ (B + sep.length) * L.length :=
 Nat.le_trans (joinB_len sep B _ fun x hx => h x (List.mem_of_mem_take hx)) (Nat.mul_le_mul_left _ (by rw [List.length_take]; omega))
def chunk (q : Nat) (d : List Int) (i : Nat) : List Int := (d.drop (i * q)).take q
def rowsL (n q : Nat) (t d : List Int) : List (List Cl) := (List.range n).map fun i => [.l t, .l (chunk q d i)]
theorem rowsL_len (n q : Nat) (t d : List Int) : (rowsL n q t d).length = n := by simp [rowsL]
theorem rowsL_succ (n q : Nat) (t d : List Int) : rowsL n q t d ++ [[.l t, .l (chunk q d n)]] = rowsL (n + 1) q t d := by simp [rowsL, List.range_succ]
theorem rowsL_at {n i : Nat} (q : Nat) (t d : List Int) (h : i < n) : (rowsL n q t d).getD i [] = [.l t, .l (chunk q d i)] := by
 rw [List.getD_eq_getElem?_getD, rowsL, List.getElem?_map, List.getElem?_range h]; rfl
theorem arr_split {n : Int} {t d : List Int} (h : arrOk (n :: t) d = true) : 0 ≤ n ∧ n ≤ 300 ∧ t.length ≤ 2 ∧ t.all dimOk = true ∧ d.all numOk = true ∧ d.length ≤ 300 ∧ (d.length : Int) = n * prod t ∧ 0 ≤ prod t := by
 obtain ⟨h1, h2, h3, h4, h5⟩ := arrOk_facts h
 rw [List.all_cons, Bool.and_eq_true] at h2
 have := prod_le t h2.2
 have hd : dimOk n = true := h2.1
 simp only [dimOk, Bool.and_eq_true, decide_eq_true_eq] at hd
 simp only [List.length_cons] at h1
 exact ⟨hd.1, hd.2, by omega, h2.2, h4, h3, h5, this.1⟩
theorem arr_rows {n : Nat} {t d : List Int} (h : arrOk ((n : Int) :: t) d = true) (h0 : 0 < n) : ∃ q : Nat, sizeOf t = (q : Int) ∧ q ≤ 300 ∧ d.length = n * q := by
 obtain ⟨_, _, h3, h4, _, h6, h7, h8⟩ := arr_split h
 obtain ⟨q, hq⟩ : ∃ q : Nat, prod t = (q : Int) := ⟨(prod t).toNat, by omega⟩
 rw [hq] at h7
 have h7 : d.length = n * q := by exact_mod_cast h7
 have hq3 : q ≤ 300 := by
  have : 1 * q ≤ n * q := Nat.mul_le_mul_right q h0
  omega
 refine ⟨q, ?_, hq3, h7⟩
 unfold sizeOf
 rw [cd_t (by simp only [h4, hq, Bool.and_eq_true, decide_eq_true_eq, and_true]; omega), hq]
theorem chunk_len {n q i : Nat} {d : List Int} (h : d.length = n * q) (hi : i < n) : (chunk q d i).length = q := by
 have : (i + 1) * q ≤ n * q := Nat.mul_le_mul_right q hi
 rw [Nat.succ_mul] at this
 rw [chunk, List.length_take, List.length_drop]; omega
theorem chunk_mem {q i : Nat} {d : List Int} {x : Int} (h : x ∈ chunk q d i) : x ∈ d := List.mem_of_mem_drop (List.mem_of_mem_take h)
theorem chunk_ok {n q i : Nat} {t d : List Int} (h : arrOk ((n : Int) :: t) d = true) (hq : sizeOf t = (q : Int)) (hd : d.length = n * q) (hi : i < n) : arrOk t (chunk q d i) = true := by
 obtain ⟨_, _, _, _, h5, _⟩ := arr_split h
 rw [arrOk, Bool.and_eq_true, decide_eq_true_eq, hq, chunk_len hd hi]
 exact ⟨rfl, List.all_eq_true.2 fun x hx => List.all_eq_true.1 h5 x (chunk_mem hx)⟩
theorem copyArr (a b : List Int) (ha : a.length ≤ 1000000) (hb : b.length ≤ 1000000) (R : Option Res) : impl_copyArray.g a b R = R := by
 simp only [impl_copyArray.e, impl_copyArray.b]
 rw [cd_t (by simp; omega), cd_t (by simp; omega)]
theorem rowsI (n : Nat) (t d : List Int) (h : arrOk ((n : Int) :: t) d = true) (R : List (List Cl) → Option Res) : impl_Rows.g ((n : Int) :: t) d R = R (rowsL n (sizeOf t).toNat t d) := by
 obtain ⟨h1, h2, h3, h4, h5, h6, h7, h8⟩ := arr_split h
 simp only [impl_Rows.e, impl_Rows.b, arrayOkI _ d (by omega : d.length ≤ 9223372036854775807), h, Bool.not_true, cond_false]
 rw [cd_f (by simp; omega), cd_t (by simp <;> omega), List.drop_succ_cons, List.drop_zero, sizeOfI]
 by_cases h0 : n = 0
 ·subst h0
  obtain ⟨m, hm, _⟩ := fuel_split 1 (by decide)
  rw [hm]
  simp only [impl_Rows.l0, impl_Rows.l0s]
  rw [cd_t (by simp <;> omega), cd_f (by simp)]; rfl
 ·obtain ⟨q, hq, hq3, hd⟩ := arr_rows h (by omega)
  rw [hq, Int.toNat_natCast]
  have := up0 (N := n) (P := fun m i => impl_Rows.l0 (q : Int) ((n : Int) :: t) d R m (i : Int) (rowsL i q t d) = R (rowsL n q t d)) (by omega) ?_ ?_ 0 (by omega)
  ·exact this
  ·intro m
   simp only [impl_Rows.l0, impl_Rows.l0s]
   rw [cd_t (by simp <;> omega), cd_f (by simp)]
  ·intro m i hi ih
   have e1 : (i + 1) * q ≤ n * q := Nat.mul_le_mul_right q hi
   rw [Nat.succ_mul] at e1
   have m1 : ((i : Int) * (q : Int)) = ((i * q : Nat) : Int) := (Int.natCast_mul i q).symm
   have m2 : (((i + 1 : Nat) : Int) * (q : Int)) = ((i * q + q : Nat) : Int) := by rw [← Nat.succ_mul]; exact (Int.natCast_mul (i + 1) q).symm
   simp only [impl_Rows.l0, impl_Rows.l0s, ixw (by omega : i < 9223372036854775807), m1, m2]
   rw [cd_t (by simp <;> omega), cd_t (by simp; omega), cd_t (by simp <;> omega), w64 (n := ((i * q : Nat) : Int)) (by omega), w64 (n := ((i * q + q : Nat) : Int)) (by omega)]
   simp only [Int.toNat_natCast, List.drop_succ_cons, List.drop_zero, Nat.add_sub_cancel_left]
   rw [cd_t (by simp; omega), copyArr _ _ (by omega) (by rw [List.length_take, List.length_drop]; omega), rowsL_len, cd_t (by simp; omega)]
   have := rowsL_succ i q t d
   rw [chunk] at this
   rw [this]
   exact ih
theorem rowsS (n : Nat) (t d : List Int) (h : arrOk ((n : Int) :: t) d = true) (R : List (List Cl) → Option Res) : spec_l3Rows.g ((n : Int) :: t) d R = R (rowsL n (sizeOf t).toNat t d) := by
 obtain ⟨h1, h2, h3, h4, h5, h6, h7, h8⟩ := arr_split h
 simp only [spec_l3Rows.e, spec_l3Rows.b]
 rw [cd_t (by simp <;> omega), List.drop_succ_cons, List.drop_zero, sizeOfS]
 by_cases h0 : n = 0
 ·subst h0
  obtain ⟨m, hm, _⟩ := fuel_split 1 (by decide)
  rw [hm]
  simp only [spec_l3Rows.l0, spec_l3Rows.l0s]
  rw [cd_t (by simp <;> omega), cd_f (by simp)]; rfl
 ·obtain ⟨q, hq, hq3, hd⟩ := arr_rows h (by omega)
  rw [hq, Int.toNat_natCast]
  have := up0 (N := n) (P := fun m i => spec_l3Rows.l0 (q : Int) ((n : Int) :: t) d R m (i : Int) (rowsL i q t d) = R (rowsL n q t d)) (by omega) ?_ ?_ 0 (by omega)
  ·exact this
  ·intro m
   simp only [spec_l3Rows.l0, spec_l3Rows.l0s]
   rw [cd_t (by simp <;> omega), cd_f (by simp)]
  ·intro m i hi ih
   have e1 : (i + 1) * q ≤ n * q := Nat.mul_le_mul_right q hi
   rw [Nat.succ_mul] at e1
   have m1 : ((i : Int) * (q : Int)) = ((i * q : Nat) : Int) := (Int.natCast_mul i q).symm
   simp only [spec_l3Rows.l0, spec_l3Rows.l0s, ixw (by omega : i < 9223372036854775807), m1]
   rw [cd_t (by simp <;> omega), cd_t (by simp; omega), cd_t (by simp <;> omega), w64 (n := ((i * q : Nat) : Int)) (by omega), show ((i * q : Nat) : Int) + (q : Int) = ((i * q + q : Nat) : Int) from rfl, w64 (n := ((i * q + q : Nat) : Int)) (by omega)]
   simp only [Int.toNat_natCast, List.drop_succ_cons, List.drop_zero, Nat.add_sub_cancel_left, List.nil_append]
   rw [cd_t (by simp; omega), cd_t (by simp; omega), cd_t (by rw [List.length_take, List.length_drop]; simp; omega), rowsL_len, cd_t (by simp; omega)]
   have := rowsL_succ i q t d
   rw [chunk] at this
   rw [this]
   exact ih
def padL (w : Nat) (x : Int) : List UInt8 := List.replicate (w - (numL x).length) 32 ++ numL x
def lineL (w : Nat) (c : List Int) : List UInt8 := Lib.join (c.map (padL w)) [32]
def fitW (w : Nat) (c : List Int) : Prop := w ≤ 1000 ∧ ∀ x ∈ c, numOk x = true ∧ (numL x).length ≤ w
theorem fitW.at {w : Nat} {c : List Int} (h : fitW w c) {i : Nat} (hi : i < c.length) : numOk (c.getD i 0) = true ∧ (numL (c.getD i 0)).length ≤ w := by
 rw [List.getD_eq_getElem?_getD, List.getElem?_eq_getElem hi]
 exact h.2 _ (List.getElem_mem hi)
theorem fitW.chunk {w q i : Nat} {d : List Int} (h : fitW w d) : fitW w (chunk q d i) := ⟨h.1, fun x hx => h.2 x (chunk_mem hx)⟩
theorem padL_len {w : Nat} {x : Int} (h : (numL x).length ≤ w) : (padL w x).length = w := by simp [padL]; omega
theorem lineL_len {w : Nat} {c : List Int} (h : fitW w c) (hl : c.length ≤ 300) : (lineL w c).length ≤ 300300 := by
 have := joinB_len [32] w (c.map (padL w)) (by
  intro x hx
  obtain ⟨y, hy, rfl⟩ := List.mem_map.1 hx
  rw [padL_len (h.2 y hy).2]; omega)
 rw [List.length_map] at this
 have h1 := h.1
 have : (w + 1) * c.length ≤ 1001 * 300 := Nat.mul_le_mul (by omega) hl
 simp only [lineL, List.length_singleton] at *
 omega
def lines2 (w n q : Nat) (d : List Int) : List UInt8 := Lib.join ((List.range n).map fun i => lineL w (chunk q d i)) [10]
theorem lines2_len {w n q : Nat} {d : List Int} (h : fitW w d) (hn : n ≤ 300) (hq : q ≤ 300) : (lines2 w n q d).length ≤ 100000000 := by
 have := joinB_len [10] 300300 ((List.range n).map fun i => lineL w (chunk q d i)) (by
  intro x hx
  obtain ⟨i, _, rfl⟩ := List.mem_map.1 hx
  exact lineL_len h.chunk (by rw [chunk, List.length_take]; omega))
 simp only [List.length_map, List.length_range, List.length_singleton] at this
 have : (300300 + 1) * n ≤ (300300 + 1) * 300 := Nat.mul_le_mul_left _ hn
 unfold lines2
 omega
theorem rep32 : ∀ n : Nat, Lib.repeatL [32] n = List.replicate n 32
 | 0 => rfl
 | n + 1 => by rw [Lib.repeatL, rep32 n, List.replicate_succ]; rfl
theorem repR (w k : Nat) (hk : k ≤ w) (hw : w ≤ 1000) (R : ByteArray → Option Res) : strings_Repeat.g (⟨#[32]⟩ : ByteArray) (IntKind.i64.wrap ((w : Int) - (k : Int))) R = R (bz (List.replicate (w - k) 32)) := by
 rw [w64 (by omega), show (w : Int) - (k : Int) = ((w - k : Nat) : Int) from by omega]
 unfold strings_Repeat.g repG
 rw [show (⟨#[32]⟩ : ByteArray) = bz [32] from rfl, bz_size, Int.toNat_natCast]
 rw [cd_t (by simp; omega)]
 unfold repB
 rw [bz_list, Int.toNat_natCast, rep32]; rfl
theorem padI (w : Nat) (x : Int) (h : (numL x).length ≤ w) : bz (List.replicate (w - (numL x).length) 32) ++ bz (numL x) = bz (padL w x) := bz_app _ _
theorem lineI (w : Nat) (c : List Int) (x6 x7 : Int) (x8 : List (List Cl)) (x9 : List ByteArray) (h : fitW w c) (hl : c.length ≤ 300) (k : List ByteArray → Option Res) :
 impl_lines.l2 (w : Int) x6 x7 c (c.length : Int) x8 x9 k fuel 0 [] = k (c.map fun x => bz (padL w x)) := by
 have h1 := h.1
 have := up0 (N := c.length) (P := fun n i => impl_lines.l2 (w : Int) x6 x7 c (c.length : Int) x8 x9 k n (i : Int) ((c.take i).map fun x => bz (padL w x)) = k (c.map fun x => bz (padL w x))) (by omega) ?_ ?_ 0 (by omega)
 ·exact this
 ·intro n; simp only [impl_lines.l2, impl_lines.l2s, ixe, cond_false, List.take_length]
 ·intro n i hi ih
  obtain ⟨a1, a2⟩ := h.at hi
  simp only [impl_lines.l2, impl_lines.l2s, ixl hi, ix0, Bool.and_self, cond_true, Int.toNat_natCast, showNumI, showN_ok a1, bz_size, ixw (by omega : i < 9223372036854775807)]
  rw [repR w _ a2 h1, bz_size, List.length_replicate, cd_t (by simp only [decide_eq_true_eq]; omega), List.length_map, cd_t (by simp; omega), padI w _ a2, map_snoc (fun x => bz (padL w x)) c 0 hi]
  exact ih
theorem linesI (w n : Nat) (t d : List Int) (h : arrOk ((n : Int) :: t) d = true) (hf : fitW w d) (R : ByteArray → Option Res) :
 impl_lines.g ((n : Int) :: t) d (w : Int) R = R (bz (lines2 w n (sizeOf t).toNat d)) := by
 obtain ⟨h1, h2, h3, h4, h5, h6, h7, h8⟩ := arr_split h
 simp only [impl_lines.e, impl_lines.b, rowsI n t d h, rowsL_len]
 generalize hq : (sizeOf t).toNat = q
 have hq3 : q ≤ 300 := by have := sizeOf_le t; omega
 have := up0 (N := n) (P := fun m i => ∀ k : List ByteArray → Option Res, impl_lines.l0 (w : Int) (n : Int) (rowsL n q t d) k m (i : Int) ((List.range i).map fun j => bz (lineL w (chunk q d j))) = k ((List.range n).map fun j => bz (lineL w (chunk q d j)))) (by omega) ?_ ?_ 0 (by omega)
 ·have e := this (fun y8 => strings_Join.g y8 (⟨#[10]⟩ : ByteArray) fun r9 => R r9)
  have e2 : (⟨#[10]⟩ : ByteArray) = bz [10] := rfl
  rw [e2] at e ⊢
  have e3 : ((List.range n).map fun j => bz (lineL w (chunk q d j))) = ((List.range n).map fun j => lineL w (chunk q d j)).map bz := by rw [List.map_map]; rfl
  rw [e3, joinR _ _ (by simp; omega) (by have := lines2_len (q := q) hf (by omega : n ≤ 300) hq3; unfold lines2 at this; omega)] at e
  exact e
 ·intro m k; simp only [impl_lines.l0, impl_lines.l0s, ixe, cond_false]
 ·intro m i hi ih k
  have hc : (chunk q d i).length ≤ 300 := by rw [chunk, List.length_take]; omega
  simp only [impl_lines.l0, impl_lines.l0s, ixl hi, rowsL_len, ix0, Bool.and_self, cond_true, Int.toNat_natCast, rowsL_at q t d hi, ixw (by omega : i < 9223372036854775807)]
  show impl_lines.l2 (w : Int) (n : Int) (i : Int) (chunk q d i) ((chunk q d i).length : Int) _ _ _ fuel 0 [] = _
  rw [lineI w _ _ _ _ _ hf.chunk hc, show (⟨#[32]⟩ : ByteArray) = bz [32] from rfl]
  have e3 : ((chunk q d i).map fun x => bz (padL w x)) = ((chunk q d i).map (padL w)).map bz := by rw [List.map_map]; rfl
  have := lineL_len hf.chunk hc
  rw [e3, joinR _ _ (by simp; omega) (by unfold lineL at this; omega), List.length_map, List.length_range, cd_t (by simp; omega)]
  have := ih k
  rw [List.range_succ, List.map_append] at this
  exact this
theorem l1MaxS (a b : Int) (R : Int → Option Res) : spec_l1Max.g a b R = R (if b < a then a else b) := by
 simp only [spec_l1Max.e, spec_l1Max.b]
 by_cases h : b < a <;> simp [h]
theorem wideS (d : List Int) (h : d.length ≤ 9223372036854775807) (R : Int → Option Res) : spec_ShowWide.g d R = R (if d.all numOk then (wideN d 0 : Int) else -1) := by
 simp only [spec_ShowWide.e, spec_ShowWide.b, numsS d h]
 cases ha : d.all numOk with
 | false => rfl
 | true =>
  simp only [Bool.not_true, cond_false, if_true]
  have := up0 (N := d.length) (P := fun n i => ∀ m : Nat, spec_ShowWide.l0 d R n (m : Int) (i : Int) = R (wideN (d.drop i) m : Int)) (by omega) ?_ ?_ 0 (by omega) 0
  ·simpa using this
  ·intro n m; simp only [spec_ShowWide.l0, spec_ShowWide.l0s, ixe, cond_false, List.drop_length, wideN]
  ·intro n i hi ih m
   simp only [spec_ShowWide.l0, spec_ShowWide.l0s, ixl hi, ix0, Bool.and_self, cond_true, digS _ (all_at ha hi), l1MaxS, bz_size, ixw (by omega : i < 9223372036854775807), Int.toNat_natCast]
   rw [drop_cons 0 hi, wideN, ← ih]
   congr 1
   generalize (numL (d.getD i 0)).length = q
   rcases Nat.le_total m q with h | h
   ·rw [Nat.max_eq_right h]; split <;> omega
   ·rw [Nat.max_eq_left h]; split <;> omega
theorem padS (w : Nat) (s : List UInt8) (x8 : List Int) (x10 : ByteArray) (x11 : Int) (hw : w ≤ 1000) (hs : s.length ≤ 1000) (k : ByteArray → Option Res) :
 spec_l16Line.l2 x8 (w : Int) x10 x11 k fuel (bz s) = k (bz (List.replicate (w - s.length) 32 ++ s)) := by
 have := up0 (N := w - s.length) (P := fun n i => spec_l16Line.l2 x8 (w : Int) x10 x11 k n (bz (List.replicate i 32 ++ s)) = k (bz (List.replicate (w - s.length) 32 ++ s))) (by omega) ?_ ?_ 0 (by omega)
 ·exact this
 ·intro n
  simp only [spec_l16Line.l2, spec_l16Line.l2s]
  rw [bz_size, List.length_append, List.length_replicate, cd_f (by simp only [decide_eq_false_iff_not]; omega)]
 ·intro n i hi ih
  simp only [spec_l16Line.l2, spec_l16Line.l2s]
  rw [bz_size, List.length_append, List.length_replicate, cd_t (by simp only [decide_eq_true_eq]; omega), cd_t (by simp only [decide_eq_true_eq]; omega), show (⟨#[32]⟩ : ByteArray) = bz [32] from rfl, bz_app]
  rw [List.replicate_succ] at ih
  exact ih
theorem lineS (w : Nat) (c : List Int) (h : fitW w c) (hl : c.length ≤ 300) (R : ByteArray → Option Res) : spec_l16Line.g c (w : Int) R = R (bz (lineL w c)) := by
 have h1 := h.1
 simp only [spec_l16Line.e, spec_l16Line.b]
 have hB : ∀ x ∈ c.map (padL w), x.length ≤ w := by
  intro x hx
  obtain ⟨y, hy, rfl⟩ := List.mem_map.1 hx
  rw [padL_len (h.2 y hy).2]; omega
 have bnd : ∀ i, (Lib.join ((c.map (padL w)).take i) [32]).length ≤ 301000 := fun i => by
  have := joinT_len [32] w i _ hB
  rw [List.length_map, List.length_singleton] at this
  have : (w + 1) * c.length ≤ 1001 * 300 := Nat.mul_le_mul (by omega) hl
  omega
 have := up0 (N := c.length) (P := fun n i => spec_l16Line.l0 c (w : Int) R n (bz (Lib.join ((c.map (padL w)).take i) [32])) (i : Int) = R (bz (lineL w c))) (by omega) ?_ ?_ 0 (by omega)
 ·exact this
 ·intro n; simp only [spec_l16Line.l0, spec_l16Line.l0s, ixe, cond_false]
  rw [List.take_of_length_le (by rw [List.length_map]; omega)]; rfl
 ·intro n i hi ih
  obtain ⟨a1, a2⟩ := h.at hi
  have hn := numLen a1
  have hb := bnd i
  have hg : (c.map (padL w)).getD i [] = padL w (c.getD i 0) := by
   rw [List.getD_eq_getElem?_getD, List.getD_eq_getElem?_getD, List.getElem?_map, List.getElem?_eq_getElem hi]; rfl
  simp only [spec_l16Line.l0, spec_l16Line.l0s, ixl hi, ix0, Bool.and_self, cond_true, Int.toNat_natCast, digS _ a1, ixw (by omega : i < 9223372036854775807)]
  rw [padS w _ _ _ _ h1 (by omega)]
  show (bif decide ((0 : Int) < (i : Int)) then _ else _) = _
  have hp := padL_len a2
  unfold padL at hp
  by_cases h0 : i = 0
  ·subst h0
   rw [cd_f (by simp), bz_size, bz_size, hp, cd_t (by simp only [decide_eq_true_eq]; omega), bz_app]
   rw [join_one0 (by rw [List.length_map]; exact hi), hg] at ih
   exact ih
  ·rw [cd_t (by simp only [decide_eq_true_eq]; omega), bz_size, cd_t (by simp only [decide_eq_true_eq]; omega), show (⟨#[32]⟩ : ByteArray) = bz [32] from rfl, bz_app, bz_size, bz_size, hp, List.length_append, List.length_singleton, cd_t (by simp only [decide_eq_true_eq]; omega), bz_app]
   rw [join_take (by omega) (by rw [List.length_map]; exact hi), hg] at ih
   rw [List.append_assoc]
   exact ih
theorem parts2S (w n m : Nat) (p : Int) (d : List Int) (h : arrOk [(n : Int), p] d = true) (hf : fitW w d) (R : ByteArray → Option Res) :
 spec_l16Parts.gn (m + 1) [(n : Int), p] d (w : Int) R = R (bz (lines2 w n (sizeOf [p]).toNat d)) := by
 obtain ⟨h1, h2, h3, h4, h5, h6, h7, h8⟩ := arr_split h
 rw [spec_l16Parts.gn_succ]
 unfold spec_l16Parts.g
 rw [rowsS n [p] d h]
 generalize hq : (sizeOf [p]).toNat = q
 have hq3 : q ≤ 300 := by have := sizeOf_le [p]; omega
 have hc : ∀ i, (chunk q d i).length ≤ 300 := fun i => by rw [chunk, List.length_take]; omega
 let L := (List.range n).map fun i => lineL w (chunk q d i)
 have hL : L.length = n := by simp [L]
 have hB : ∀ x ∈ L, x.length ≤ 300300 := by
  intro x hx
  obtain ⟨i, _, rfl⟩ := List.mem_map.1 hx
  exact lineL_len hf.chunk (hc i)
 have bnd : ∀ i, (Lib.join (L.take i) [10]).length ≤ 100000000 := fun i => by
  have := joinT_len [10] 300300 i _ hB
  rw [hL, List.length_singleton] at this
  have : (300300 + 1) * n ≤ (300300 + 1) * 300 := Nat.mul_le_mul_left _ (by omega)
  omega
 generalize hz : spec_l16Parts.gn m = z
 have := up0 (N := n) (P := fun k i => spec_l16Parts.l0 z (w : Int) (rowsL n q [p] d) [(n : Int), p] d R k (bz (Lib.join (L.take i) [10])) (i : Int) = R (bz (lines2 w n q d))) (by omega) ?_ ?_ 0 (by omega)
 ·subst hz; exact this
 ·intro k; simp only [spec_l16Parts.l0, spec_l16Parts.l0s, rowsL_len, ixe, cond_false]
  rw [List.take_of_length_le (by omega)]; rfl
 ·intro k i hi ih
  have hb := bnd i
  have hl := lineL_len hf.chunk (hc i)
  have hg : L.getD i [] = lineL w (chunk q d i) := by
   rw [List.getD_eq_getElem?_getD]; simp only [L]; rw [List.getElem?_map, List.getElem?_range hi]; rfl
  have e2 : ((([(n : Int), p] : List Int).length : Int) == 2) = true := rfl
  simp only [spec_l16Parts.l0, spec_l16Parts.l0s, rowsL_len, ixl hi, ix0, Bool.and_self, cond_true, Int.toNat_natCast, rowsL_at q [p] d hi, e2, ixw (by omega : i < 9223372036854775807)]
  have el : ∀ R, spec_l16Line.g (Cl.toL (([.l [p], .l (chunk q d i)] : List Cl).getD 1 (.i 0))) (w : Int) R = R (bz (lineL w (chunk q d i))) := fun R => lineS w (chunk q d i) hf.chunk (hc i) R
  simp only [el]
  by_cases h0 : i = 0
  ·subst h0
   rw [cd_f (by simp), bz_size, bz_size, cd_t (by simp only [decide_eq_true_eq]; omega), bz_app]
   rw [join_one0 (by rw [hL]; exact hi), hg] at ih
   exact ih
  ·rw [cd_t (by simp only [decide_eq_true_eq]; omega), bz_size, cd_t (by simp only [decide_eq_true_eq]; omega), show (⟨#[10]⟩ : ByteArray) = bz [10] from rfl, bz_app, bz_size, bz_size, List.length_append, List.length_singleton, cd_t (by simp only [decide_eq_true_eq]; omega), bz_app]
   rw [join_take (by omega) (by rw [hL]; exact hi), hg] at ih
   rw [List.append_assoc]
   exact ih
def lines3 (w n q : Nat) (t d : List Int) : List UInt8 := Lib.join ((List.range n).map fun i => lines2 w (t.headD 0).toNat (sizeOf t.tail).toNat (chunk q d i)) [10, 10]
theorem lines3_len {w n q : Nat} {t d : List Int} (h : fitW w d) (hn : n ≤ 300) (ht : t.headD 0 ≤ 300) : ∀ i, (Lib.join (((List.range n).map fun i => lines2 w (t.headD 0).toNat (sizeOf t.tail).toNat (chunk q d i)).take i) [10, 10]).length ≤ 100000000000 := fun i => by
 have := joinT_len [10, 10] 100000000 i ((List.range n).map fun i => lines2 w (t.headD 0).toNat (sizeOf t.tail).toNat (chunk q d i)) (by
  intro x hx
  obtain ⟨i, _, rfl⟩ := List.mem_map.1 hx
  exact lines2_len h.chunk (by omega) (by have := sizeOf_le t.tail; omega))
 simp only [List.length_map, List.length_range, List.length_cons, List.length_nil] at this
 have : (100000000 + (0 + 1 + 1)) * n ≤ (100000000 + (0 + 1 + 1)) * 300 := Nat.mul_le_mul_left _ hn
 omega
theorem parts3S (w n m : Nat) (p r : Int) (d : List Int) (h : arrOk [(n : Int), p, r] d = true) (hf : fitW w d) (R : ByteArray → Option Res) :
 spec_l16Parts.gn (m + 2) [(n : Int), p, r] d (w : Int) R = R (bz (lines3 w n (sizeOf [p, r]).toNat [p, r] d)) := by
 obtain ⟨h1, h2, h3, h4, h5, h6, h7, h8⟩ := arr_split h
 have hp0 : 0 ≤ p ∧ p ≤ 300 := by
  simp only [List.all_cons, Bool.and_eq_true, dimOk, decide_eq_true_eq] at h4
  exact h4.1
 rw [spec_l16Parts.gn_succ]
 unfold spec_l16Parts.g
 rw [rowsS n [p, r] d h]
 have hchk : ∀ i, i < n → arrOk [p, r] (chunk (sizeOf [p, r]).toNat d i) = true := fun i hi => by
  obtain ⟨q, e1, e2, e3⟩ := arr_rows h (by omega)
  rw [e1, Int.toNat_natCast]
  exact chunk_ok h e1 e3 hi
 obtain ⟨pn, rfl⟩ : ∃ pn : Nat, p = pn := ⟨p.toNat, by omega⟩
 generalize hq : (sizeOf [(pn : Int), r]).toNat = q at hchk ⊢
 let L := (List.range n).map fun i => lines2 w pn (sizeOf [r]).toNat (chunk q d i)
 have hL : L.length = n := by simp [L]
 have hlen := fun i => lines3_len (w := w) (n := n) (q := q) (t := [(pn : Int), r]) hf (by omega) hp0.2 i
 have bnd : ∀ i, (Lib.join (L.take i) [10, 10]).length ≤ 100000000000 := fun i => hlen i
 generalize hz : spec_l16Parts.gn (m + 1) = z
 have hz' : ∀ i, i < n → ∀ R, z [(pn : Int), r] (chunk q d i) (w : Int) R = R (bz (lines2 w pn (sizeOf [r]).toNat (chunk q d i))) := fun i hi R => by
  rw [← hz]; exact parts2S w pn m r (chunk q d i) (hchk i hi) hf.chunk R
 have := up0 (N := n) (P := fun k i => spec_l16Parts.l0 z (w : Int) (rowsL n q [(pn : Int), r] d) [(n : Int), (pn : Int), r] d R k (bz (Lib.join (L.take i) [10, 10])) (i : Int) = R (bz (lines3 w n q [(pn : Int), r] d))) (by omega) ?_ ?_ 0 (by omega)
 ·subst hz; exact this
 ·intro k; simp only [spec_l16Parts.l0, spec_l16Parts.l0s, rowsL_len, ixe, cond_false]
  rw [List.take_of_length_le (by omega)]; rfl
 ·intro k i hi ih
  have hb := bnd i
  have hl := lines2_len (w := w) (n := pn) (q := (sizeOf [r]).toNat) (d := chunk q d i) hf.chunk (by omega) (by have := sizeOf_le [r]; omega)
  have hg : L.getD i [] = lines2 w pn (sizeOf [r]).toNat (chunk q d i) := by
   rw [List.getD_eq_getElem?_getD]; simp only [L]; rw [List.getElem?_map, List.getElem?_range hi]; rfl
  have e2 : ((([(n : Int), (pn : Int), r] : List Int).length : Int) == 2) = false := rfl
  simp only [spec_l16Parts.l0, spec_l16Parts.l0s, rowsL_len, ixl hi, ix0, Bool.and_self, cond_true, cond_false, Int.toNat_natCast, rowsL_at q [(pn : Int), r] d hi, e2, ixw (by omega : i < 9223372036854775807)]
  have el : ∀ R, z (Cl.toL (([.l [(pn : Int), r], .l (chunk q d i)] : List Cl).getD 0 (.i 0))) (Cl.toL (([.l [(pn : Int), r], .l (chunk q d i)] : List Cl).getD 1 (.i 0))) (w : Int) R = R (bz (lines2 w pn (sizeOf [r]).toNat (chunk q d i))) := fun R => hz' i hi R
  simp only [el]
  by_cases h0 : i = 0
  ·subst h0
   rw [cd_f (by simp), cd_f (by simp), bz_size, bz_size, cd_t (by simp only [decide_eq_true_eq]; omega), bz_app]
   rw [join_one0 (by rw [hL]; exact hi), hg] at ih
   exact ih
  ·rw [cd_t (by simp only [decide_eq_true_eq]; omega), bz_size, cd_t (by simp only [decide_eq_true_eq]; omega), show (⟨#[10]⟩ : ByteArray) = bz [10] from rfl, cd_t (by simp only [decide_eq_true_eq]; omega), bz_app, bz_size, List.length_append, List.length_singleton, cd_t (by simp only [decide_eq_true_eq]; omega), bz_app, bz_size, bz_size]
   rw [List.length_append, List.length_append, List.length_singleton, cd_t (by simp only [decide_eq_true_eq]; omega), bz_app]
   rw [join_take (by omega) (by rw [hL]; exact hi), hg] at ih
   rw [List.append_assoc, List.append_assoc]
   exact ih
theorem wide_ge : ∀ (d : List Int) (m : Nat), m ≤ wideN d m ∧ ∀ x ∈ d, (numL x).length ≤ wideN d m
 | [], m => ⟨Nat.le_refl _, fun x hx => by cases hx⟩
 | y :: l, m => by
  obtain ⟨h1, h2⟩ := wide_ge l (max m (numL y).length)
  rw [wideN]
  refine ⟨by omega, fun x hx => ?_⟩
  rcases List.mem_cons.1 hx with rfl | hx
  ·omega
  ·exact h2 x hx
theorem wide_le : ∀ (d : List Int) (m : Nat), d.all numOk = true → m ≤ 14 → wideN d m ≤ 14
 | [], m, _, h => h
 | y :: l, m, ha, h => by
  rw [List.all_cons, Bool.and_eq_true] at ha
  have := numLen ha.1
  rw [wideN]
  exact wide_le l _ ha.2 (by omega)
theorem wide_fit (d : List Int) (h : d.all numOk = true) : fitW (wideN d 0) d := by
 have := wide_le d 0 h (by omega)
 exact ⟨by omega, fun x hx => ⟨List.all_eq_true.1 h x hx, (wide_ge d 0).2 x hx⟩⟩
/-- what is shown of an array -/
def showL : List Int → List Int → List UInt8
 | [n, p], d => lines2 (wideN d 0) n.toNat (sizeOf [p]).toNat d
 | [n, p, r], d => lines3 (wideN d 0) n.toNat (sizeOf [p, r]).toNat [p, r] d
 | _, d => rowL d
theorem dim0 {n : Int} {t d : List Int} (h : arrOk (n :: t) d = true) : ∃ m : Nat, n = m ∧ m ≤ 300 := by
 obtain ⟨h1, h2, _⟩ := arr_split h
 exact ⟨n.toNat, by omega, by omega⟩
theorem showS (s d : List Int) (hd : d.length ≤ 1048576) (R : ByteArray → Option Res) : spec_Show.g s d R = R (bz (if arrOk s d then showL s d else [])) := by
 simp only [spec_Show.e, spec_Show.b, arrayOkS s d (by omega : d.length ≤ 9223372036854775807)]
 cases h : arrOk s d with
 | false => rfl
 | true =>
  obtain ⟨f1, f2, f3, f4, f5⟩ := arrOk_facts h
  simp only [Bool.not_true, cond_false, if_true]
  match s, f1, h with
  | [], _, h => rw [cd_t (by simp), rowS d (by omega), if_pos f4]; rfl
  | [n], _, h => rw [cd_t (by simp), rowS d (by omega), if_pos f4]; rfl
  | [n, p], _, h =>
   obtain ⟨m, rfl, hm⟩ := dim0 h
   rw [cd_f (by simp), wideS d (by omega), if_pos f4, spec_l16Parts.Ge]
   obtain ⟨k, hk, _⟩ := fuel_split 1 (by decide)
   rw [hk, parts2S _ m k p d h (wide_fit d f4)]; rfl
  | [n, p, r], _, h =>
   obtain ⟨m, rfl, hm⟩ := dim0 h
   rw [cd_f (by simp), wideS d (by omega), if_pos f4, spec_l16Parts.Ge]
   obtain ⟨k, hk, _⟩ := fuel_split 2 (by decide)
   rw [hk, parts3S _ m k p r d h (wide_fit d f4)]; rfl
  | _ :: _ :: _ :: _ :: _, f1, _ => simp at f1
theorem showI (s d : List Int) (hd : d.length ≤ 1048576) (R : ByteArray → Option Res) : impl_Show.g s d R = R (bz (if arrOk s d then showL s d else [])) := by
 simp only [impl_Show.e, impl_Show.b, arrayOkI s d (by omega : d.length ≤ 9223372036854775807)]
 cases h : arrOk s d with
 | false => rfl
 | true =>
  obtain ⟨f1, f2, f3, f4, f5⟩ := arrOk_facts h
  simp only [Bool.not_true, cond_false, if_true, wideI d (by omega : d.length ≤ 9223372036854775807), if_pos f4]
  match s, f1, h with
  | [], _, h => rw [cd_f (by simp), cd_f (by simp), rowI d (by omega), if_pos f4]; rfl
  | [n], _, h => rw [cd_f (by simp), cd_f (by simp), rowI d (by omega), if_pos f4]; rfl
  | [n, p], _, h =>
   obtain ⟨m, rfl, hm⟩ := dim0 h
   rw [cd_t (by simp), linesI _ m [p] d h (wide_fit d f4)]; rfl
  | [n, p, r], _, h =>
   obtain ⟨m, rfl, hm⟩ := dim0 h
   rw [cd_f (by simp), cd_t (by simp), rowsI m [p, r] d h, rowsL_len]
   have hf := wide_fit d f4
   obtain ⟨g1, g2, g3, g4, g5, g6, g7, g8⟩ := arr_split h
   have hp0 : 0 ≤ p ∧ p ≤ 300 := by
    simp only [List.all_cons, Bool.and_eq_true, dimOk, decide_eq_true_eq] at g4
    exact g4.1
   have hchk : ∀ i, i < m → arrOk [p, r] (chunk (sizeOf [p, r]).toNat d i) = true := fun i hi => by
    obtain ⟨q, e1, e2, e3⟩ := arr_rows h (by omega)
    rw [e1, Int.toNat_natCast]
    exact chunk_ok h e1 e3 hi
   obtain ⟨pn, rfl⟩ : ∃ pn : Nat, p = pn := ⟨p.toNat, by omega⟩
   show impl_Show.l1 _ _ _ _ fuel 0 [] = R (bz (lines3 (wideN d 0) m (sizeOf [(pn : Int), r]).toNat [(pn : Int), r] d))
   generalize hq : (sizeOf [(pn : Int), r]).toNat = q at hchk ⊢
   generalize hw : wideN d 0 = w at hf ⊢
   have hlen := lines3_len (w := w) (n := m) (q := q) (t := [(pn : Int), r]) hf (by omega) hp0.2 m
   rw [List.take_of_length_le (by simp)] at hlen
   have := up0 (N := m) (P := fun k i => ∀ K : List ByteArray → Option Res, impl_Show.l1 (w : Int) (m : Int) (rowsL m q [(pn : Int), r] d) K k (i : Int) ((List.range i).map fun j => bz (lines2 w pn (sizeOf [r]).toNat (chunk q d j))) = K ((List.range m).map fun j => bz (lines2 w pn (sizeOf [r]).toNat (chunk q d j)))) (by omega) ?_ ?_ 0 (by omega)
   ·have e := this (fun y8 => strings_Join.g y8 (⟨#[10, 10]⟩ : ByteArray) fun r9 => R r9)
    have e2 : (⟨#[10, 10]⟩ : ByteArray) = bz [10, 10] := rfl
    rw [e2] at e ⊢
    have e3 : ((List.range m).map fun j => bz (lines2 w pn (sizeOf [r]).toNat (chunk q d j))) = ((List.range m).map fun j => lines2 w pn (sizeOf [r]).toNat (chunk q d j)).map bz := by rw [List.map_map]; rfl
    rw [e3, joinR _ _ (by simp; omega) (by exact Nat.le_trans hlen (by omega))] at e
    exact e
   ·intro k K; simp only [impl_Show.l1, impl_Show.l1s, ixe, cond_false]
   ·intro k i hi ih K
    simp only [impl_Show.l1, impl_Show.l1s, ixl hi, rowsL_len, ix0, Bool.and_self, cond_true, Int.toNat_natCast, rowsL_at q [(pn : Int), r] d hi, ixw (by omega : i < 9223372036854775807)]
    show impl_lines.g [(pn : Int), r] (chunk q d i) (w : Int) _ = _
    rw [linesI w pn [r] _ (hchk i hi) hf.chunk, List.length_map, List.length_range, cd_t (by simp only [decide_eq_true_eq]; omega)]
    have := ih K
    rw [List.range_succ, List.map_append] at this
    exact this
  | _ :: _ :: _ :: _ :: _, f1, _ => simp at f1
theorem toArray (a b : List Int) (ha : a.length ≤ 1048576) (hb : b.length ≤ 1048576) (R : List Int → List Int → Option Res) : laws_toArray.g a b R = R a b := by
 simp only [laws_toArray.e, laws_toArray.b, toIntS a ha, toIntS b hb]
/-- a cursor's place -/
def Cu (a : List Int) (i : Int) : Prop := 0 ≤ i ∧ i ≤ (a.length : Int) ∧ a.length ≤ 1048576
def i64 (x : Int) : Prop := -9223372036854775808 ≤ x ∧ x ≤ 9223372036854775807
theorem dNew (a : List Int) (h : a.length ≤ 1048576) : ∃ s : Int, (∀ R, spec_l1New.g a R = R a 0 s) ∧ Cu a 0 := by
 have loop : ∀ (n : Nat) (m : Nat), 4000 - m < n → m ≤ 4000 → ∀ x : Int, ∃ y, ∀ k, spec_l1New.l0 a k n x (m : Int) = k y := by
  intro n
  induction n with
  | zero => intro m h; omega
  | succ n ih =>
   intro m hm hm2 x
   simp only [spec_l1New.l0, spec_l1New.l0s]
   by_cases h1 : (m : Int) < (a.length : Int)
   ·by_cases h2 : (m : Int) < 4000
    ·obtain ⟨y, hy⟩ := ih (m + 1) (by omega) (by omega) (arith.bits .and .i64 (IntKind.i64.wrap ((IntKind.i64.wrap ((IntKind.i64.wrap (x * 131)) + (IntKind.i64.wrap (a.getD (m : Int).toNat 0)))) + 7)) 1073741823)
     refine ⟨y, fun k => ?_⟩
     simp only [h1, h2, decide_true, cond_true, Bool.and_true, show (0 : Int) ≤ m by omega]
     rw [w64 (n := (m : Int) + 1) (by omega)]
     exact hy k
    ·exact ⟨x, fun k => by simp [h1, h2]⟩
   ·exact ⟨x, fun k => by simp [h1]⟩
 obtain ⟨y, hy⟩ := loop fuel 0 (by rw [fuel_eq]; omega) (by omega) (IntKind.i64.wrap (18218 + (a.length : Int)))
 exact ⟨y, fun R => by simp only [spec_l1New.e, spec_l1New.b]; exact hy _, by simp [Cu]; omega⟩
theorem dByte (a : List Int) (i s : Int) (hi : Cu a i) : ∃ r i' s' : Int, (∀ R, spec_l1Byte.g a i s R = R r i' s') ∧ Cu a i' ∧ (0 ≤ r ∧ r ≤ 255) := by
 let s1 := IntKind.i64.wrap (IntKind.i64.wrap (s * 6364136223846793005) + 1442695040888963407)
 let b := arith.bits .and .i64 (arith.bits .xor .i64 (s1.fdiv (2 ^ 33)) (s1.fdiv (2 ^ 45))) 255
 have hi' := hi
 simp only [Cu] at hi
 by_cases h : i < (a.length : Int)
 ·refine ⟨arith.bits .and .i64 (IntKind.i64.wrap (b + IntKind.i64.wrap (a.getD i.toNat 0))) 255, i + 1, s1, fun R => ?_, by simp only [Cu]; omega, and_le _ 255 (by omega)⟩
  simp only [spec_l1Byte.e, spec_l1Byte.b, h, decide_true, cond_true, Bool.and_true, hi.1]
  rw [w64 (n := i + 1) (by omega)]
 ·refine ⟨b, i, s1, fun R => ?_, hi', and_le _ 255 (by omega)⟩
  simp only [spec_l1Byte.e, spec_l1Byte.b, h, decide_false, cond_false, b, s1]
theorem tmod_lt {x n : Int} (h0 : 0 ≤ x) (hn : 0 < n) : 0 ≤ x.tmod n ∧ x.tmod n < n := by
 rw [Int.tmod_eq_emod_of_nonneg h0]
 exact ⟨Int.emod_nonneg _ (by omega), Int.emod_lt_of_pos _ hn⟩
theorem dBelow (n : Int) (hn : 0 < n) (a : List Int) (i s : Int) (hi : Cu a i) : ∃ r i' s' : Int, (∀ R, spec_l1Below.g n a i s R = R r i' s') ∧ Cu a i' ∧ (0 ≤ r ∧ r < n) := by
 have h1 : ¬ n ≤ 0 := by omega
 have h2 : ¬ n = 0 := by omega
 by_cases h : n ≤ 256
 ·obtain ⟨r, i', s', hR, hi', hr⟩ := dByte a i s hi
  refine ⟨r.tmod n, i', s', fun R => ?_, hi', tmod_lt hr.1 hn⟩
  simp only [spec_l1Below.e, spec_l1Below.b, h1, h, h2, decide_true, decide_false, cond_true, cond_false, hR]
 ·obtain ⟨r, i1, s1, hR, hi1, hr⟩ := dByte a i s hi
  obtain ⟨r2, i2, s2, hR2, hi2, hr2⟩ := dByte a i1 s1 hi1
  obtain ⟨r3, i3, s3, hR3, hi3, hr3⟩ := dByte a i2 s2 hi2
  obtain ⟨r4, i4, s4, hR4, hi4, hr4⟩ := dByte a i3 s3 hi3
  refine ⟨(r * 16777216 + r2 * 65536 + r3 * 256 + r4).tmod n, i4, s4, fun R => ?_, hi4, tmod_lt (by omega) hn⟩
  simp only [spec_l1Below.e, spec_l1Below.b, h1, h, h2, decide_false, cond_false, hR, hR2, hR3, hR4]
  rw [w64 (n := r * 16777216) (by omega), w64 (n := r2 * 65536) (by omega), w64 (n := r * 16777216 + r2 * 65536) (by omega), w64 (n := r3 * 256) (by omega), w64 (n := r * 16777216 + r2 * 65536 + r3 * 256) (by omega), w64 (n := _ + r4) (by omega)]
theorem dOnce (n : Int) (hn : 0 < n) (a : List Int) (i s : Int) (hi : Cu a i) : ∃ (r : Bool) (i' s' : Int), (∀ R, spec_l1Once.g n a i s R = R r i' s') ∧ Cu a i' := by
 obtain ⟨r, i', s', hR, hi', _⟩ := dBelow n hn a i s hi
 exact ⟨r == 0, i', s', fun R => by simp only [spec_l1Once.e, spec_l1Once.b, hR], hi'⟩
theorem dPickInt (l : List Int) (hl : 0 < l.length) (a : List Int) (i s : Int) (hi : Cu a i) : ∃ r i' s' : Int, (∀ R, spec_l1PickInt.g l a i s R = R r i' s') ∧ Cu a i' ∧ r ∈ l := by
 obtain ⟨r, i', s', hR, hi', hr⟩ := dBelow (l.length : Int) (by omega) a i s hi
 obtain ⟨k, rfl⟩ := Int.eq_ofNat_of_zero_le hr.1
 have hk : k < l.length := by omega
 refine ⟨l.getD k 0, i', s', fun R => ?_, hi', ?_⟩
 ·simp only [spec_l1PickInt.e, spec_l1PickInt.b, hR, ix0, ixl hk, Bool.and_self, cond_true, Int.toNat_natCast]
 ·rw [List.getD_eq_getElem?_getD, List.getElem?_eq_getElem hk]; exact List.getElem_mem hk
theorem dNum (a : List Int) (i s : Int) (hi : Cu a i) : ∃ r i' s' : Int, (∀ R, spec_l1DrawNum.g a i s R = R r i' s') ∧ Cu a i' ∧ numOk r = true := by
 obtain ⟨b, i1, s1, h1, c1⟩ := dOnce 12 (by omega) a i s hi
 cases b with
 | true =>
  obtain ⟨r, i2, s2, h2, c2, hr⟩ := dPickInt [1000000000000, (-1000000000000), 999999999999, 1000000, (-1000000), 1000001, 999999999999] (by simp) a i1 s1 c1
  refine ⟨r, i2, s2, fun R => by simp only [spec_l1DrawNum.e, spec_l1DrawNum.b, h1, cond_true, h2], c2, ?_⟩
  simp only [List.mem_cons, List.not_mem_nil, or_false] at hr
  rcases hr with rfl | rfl | rfl | rfl | rfl | rfl | rfl <;> decide
 | false =>
  obtain ⟨r, i2, s2, h2, c2, hr⟩ := dBelow 20 (by omega) a i1 s1 c1
  refine ⟨r - 6, i2, s2, fun R => ?_, c2, ?_⟩
  ·simp only [spec_l1DrawNum.e, spec_l1DrawNum.b, h1, cond_false, h2]
   rw [w64 (n := r - 6) (by omega)]
  ·simp only [numOk, Bool.and_eq_true, decide_eq_true_eq]; omega
theorem numOk_i64 {x : Int} (h : numOk x = true) : i64 x := by
 simp only [numOk, Bool.and_eq_true, decide_eq_true_eq] at h
 simp only [i64]; omega
theorem dRaw (a : List Int) (i s : Int) (hi : Cu a i) : ∃ r i' s' : Int, (∀ R, spec_l1DrawRaw.g a i s R = R r i' s') ∧ Cu a i' ∧ i64 r := by
 obtain ⟨b, i1, s1, h1, c1⟩ := dOnce 15 (by omega) a i s hi
 cases b with
 | true =>
  obtain ⟨r, i2, s2, h2, c2, hr⟩ := dPickInt [1000000000001, (-1000000000001), 9223372036854775807, (-9223372036854775808)] (by simp) a i1 s1 c1
  refine ⟨r, i2, s2, fun R => by simp only [spec_l1DrawRaw.e, spec_l1DrawRaw.b, h1, cond_true, h2], c2, ?_⟩
  simp only [List.mem_cons, List.not_mem_nil, or_false] at hr
  rcases hr with rfl | rfl | rfl | rfl <;> simp [i64]
 | false =>
  obtain ⟨r, i2, s2, h2, c2, hr⟩ := dNum a i1 s1 c1
  exact ⟨r, i2, s2, fun R => by simp only [spec_l1DrawRaw.e, spec_l1DrawRaw.b, h1, cond_false, h2], c2, numOk_i64 hr⟩
/-- a shape that is right -/
def shOk (s : List Int) : Prop := s.length ≤ 3 ∧ s.all dimOk = true ∧ prod s ≤ 300
theorem shOk_size {s : List Int} (h : shOk s) : sizeOf s = prod s ∧ 0 ≤ prod s := by
 obtain ⟨h1, h2, h3⟩ := h
 refine ⟨?_, (prod_le s h2).1⟩
 simp [sizeOf, h1, h2, h3]
theorem dRight2 (a : List Int) (i s : Int) (hi : Cu a i) : ∃ (r : List Int) (i' s' : Int), (∀ R, spec_l2DrawRight.g a i s R = R r i' s') ∧ Cu a i' ∧ shOk r := by
 obtain ⟨k, i1, s1, h1, c1, hk⟩ := dBelow 5 (by omega) a i s hi
 have hks : k = 0 ∨ k = 1 ∨ k = 2 ∨ k = 3 ∨ k = 4 := by omega
 rcases hks with rfl | rfl | rfl | rfl | rfl
 ·exact ⟨[], i1, s1, fun R => by simp only [spec_l2DrawRight.e, spec_l2DrawRight.b, h1]; rfl, c1, by simp [shOk, prod]⟩
 ·obtain ⟨r, i2, s2, h2, c2, hr⟩ := dBelow 6 (by omega) a i1 s1 c1
  exact ⟨[r], i2, s2, fun R => by simp only [spec_l2DrawRight.e, spec_l2DrawRight.b, h1, h2]; rfl, c2, by simp [shOk, prod, dimOk]; omega⟩
 ·obtain ⟨r, i2, s2, h2, c2, hr⟩ := dBelow 6 (by omega) a i1 s1 c1
  exact ⟨[r], i2, s2, fun R => by simp only [spec_l2DrawRight.e, spec_l2DrawRight.b, h1, h2]; rfl, c2, by simp [shOk, prod, dimOk]; omega⟩
 ·obtain ⟨r, i2, s2, h2, c2, hr⟩ := dBelow 4 (by omega) a i1 s1 c1
  obtain ⟨q, i3, s3, h3, c3, hq⟩ := dBelow 3 (by omega) a i2 s2 c2
  refine ⟨[r, 1 + q], i3, s3, fun R => ?_, c3, ?_⟩
  ·simp only [spec_l2DrawRight.e, spec_l2DrawRight.b, h1, h2, h3]; rw [w64 (n := 1 + q) (by omega)]; rfl
  ·have hr' : r = 0 ∨ r = 1 ∨ r = 2 ∨ r = 3 := by omega
   have hq' : q = 0 ∨ q = 1 ∨ q = 2 := by omega
   rcases hr' with rfl | rfl | rfl | rfl <;> rcases hq' with rfl | rfl | rfl <;> simp [shOk, prod, dimOk]
 ·obtain ⟨r, i2, s2, h2, c2, hr⟩ := dBelow 3 (by omega) a i1 s1 c1
  obtain ⟨q, i3, s3, h3, c3, hq⟩ := dBelow 2 (by omega) a i2 s2 c2
  obtain ⟨p, i4, s4, h4, c4, hp⟩ := dBelow 4 (by omega) a i3 s3 c3
  refine ⟨[1 + r, 1 + q, p], i4, s4, fun R => ?_, c4, ?_⟩
  ·simp only [spec_l2DrawRight.e, spec_l2DrawRight.b, h1, h2, h3, h4]; rw [w64 (n := 1 + q) (by omega), w64 (n := 1 + r) (by omega)]; rfl
  ·have hr' : r = 0 ∨ r = 1 ∨ r = 2 := by omega
   have hq' : q = 0 ∨ q = 1 := by omega
   have hp' : p = 0 ∨ p = 1 ∨ p = 2 ∨ p = 3 := by omega
   rcases hr' with rfl | rfl | rfl <;> rcases hq' with rfl | rfl <;> rcases hp' with rfl | rfl | rfl | rfl <;> simp [shOk, prod, dimOk]
def i64s (l : List Int) : Prop := ∀ x ∈ l, i64 x
theorem dimOk_i64 {l : List Int} (h : l.all dimOk = true) : i64s l := fun x hx => by
 have := List.all_eq_true.1 h x hx
 simp only [dimOk, Bool.and_eq_true, decide_eq_true_eq] at this
 simp only [i64]; omega
theorem dShape (a : List Int) (i s : Int) (hi : Cu a i) : ∃ (r : List Int) (i' s' : Int), (∀ R, spec_l2Draw.g a i s R = R r i' s') ∧ Cu a i' ∧ r.length ≤ 4 ∧ i64s r := by
 obtain ⟨r, i1, s1, h1, c1, hr⟩ := dRight2 a i s hi
 obtain ⟨k, i2, s2, h2, c2, hk⟩ := dBelow 20 (by omega) a i1 s1 c1
 have hrl := hr.1
 by_cases k0 : k = 0
 ·subst k0
  obtain ⟨x, i3, s3, h3, c3, hx⟩ := dPickInt [(-1), 0, 300, 301] (by simp) a i2 s2 c2
  refine ⟨r ++ [x], i3, s3, fun R => ?_, c3, by simp; omega, fun y hy => ?_⟩
  ·have e : decide ((r.length + 1) * 8 ≤ 140737488355328) = true := by simp; omega
   simp only [spec_l2Draw.e, spec_l2Draw.b, h1, h2, h3, e]; rfl
  ·rcases List.mem_append.1 hy with hy | hy
   ·exact dimOk_i64 hr.2.1 y hy
   ·simp only [List.mem_cons, List.not_mem_nil, or_false] at hy hx
    subst hy
    rcases hx with rfl | rfl | rfl | rfl <;> simp [i64]
 by_cases k1 : k = 1
 ·subst k1
  exact ⟨[1, 1, 1, 1], i2, s2, fun R => by simp only [spec_l2Draw.e, spec_l2Draw.b, h1, h2]; rfl, c2, by simp, by simp [i64s, i64]⟩
 by_cases k2 : k = 2
 ·subst k2
  obtain ⟨x, i3, s3, h3, c3, hx⟩ := dPickInt [17, 20, 15, 300] (by simp) a i2 s2 c2
  obtain ⟨z, i4, s4, h4, c4, hz⟩ := dPickInt [15, 20, 16, 0] (by simp) a i3 s3 c3
  refine ⟨[x, z], i4, s4, fun R => by simp only [spec_l2Draw.e, spec_l2Draw.b, h1, h2, h3, h4]; rfl, c4, by simp, ?_⟩
  simp only [List.mem_cons, List.not_mem_nil, or_false] at hx hz
  intro y hy
  simp only [List.mem_cons, List.not_mem_nil, or_false] at hy
  rcases hy with rfl | rfl
  ·rcases hx with rfl | rfl | rfl | rfl <;> simp [i64]
  ·rcases hz with rfl | rfl | rfl | rfl <;> simp [i64]
 ·have e0 : (k == 0) = false := by simpa using k0
  have e1 : (k == 1) = false := by simpa using k1
  have e2 : (k == 2) = false := by simpa using k2
  exact ⟨r, i2, s2, fun R => by simp only [spec_l2Draw.e, spec_l2Draw.b, h1, h2, e0, e1, e2, cond_false], c2, by omega, dimOk_i64 hr.2.1⟩
theorem dFill (sh a : List Int) (hs : shOk sh) (i s : Int) (hi : Cu a i) : ∃ (d : List Int) (i' s' : Int), (∀ R, spec_l3Fill.g sh a i s R = R sh d a i' s') ∧ Cu a i' ∧ arrOk sh d = true := by
 obtain ⟨h1, h2⟩ := shOk_size hs
 obtain ⟨N, hN⟩ := Int.eq_ofNat_of_zero_le h2
 have hN3 : N ≤ 300 := by have := hs.2.2; omega
 have loop : ∀ (m n : Nat) (acc : List Int) (i s : Int), acc.length + m = N → m < n → Cu a i → acc.all numOk = true → ∃ (d : List Int) (i' s' : Int), (∀ k, spec_l3Fill.l0 sh sh a k n (acc.length : Int) acc i s = k d i' s') ∧ Cu a i' ∧ d.length = N ∧ d.all numOk = true := by
  intro m
  induction m with
  | zero =>
   intro n acc i s e1 e2 hc ha
   obtain ⟨n, rfl⟩ : ∃ n', n = n' + 1 := ⟨n - 1, by omega⟩
   have e : decide ((acc.length : Int) < (N : Int)) = false := by simp; omega
   exact ⟨acc, i, s, fun k => by simp only [spec_l3Fill.l0, spec_l3Fill.l0s, sizeOfS, h1, hN, e, cond_false], hc, by omega, ha⟩
  | succ m ih =>
   intro n acc i s e1 e2 hc ha
   obtain ⟨n, rfl⟩ : ∃ n', n = n' + 1 := ⟨n - 1, by omega⟩
   have e : decide ((acc.length : Int) < (N : Int)) = true := by simp; omega
   have e3 : decide ((acc.length + 1) * 8 ≤ 140737488355328) = true := by simp; omega
   obtain ⟨r, i1, s1, g1, c1, hr⟩ := dNum a i s hc
   obtain ⟨d, i2, s2, g2, c2, hd⟩ := ih n (acc ++ [r]) i1 s1 (by simp; omega) (by omega) c1 (by simp [List.all_append, ha, hr])
   refine ⟨d, i2, s2, fun k => ?_, c2, hd⟩
   simp only [spec_l3Fill.l0, spec_l3Fill.l0s, sizeOfS, h1, hN, e, cond_true, g1, e3, ixw (by omega : acc.length < 9223372036854775807)]
   have := g2 k
   simpa using this
 obtain ⟨d, i', s', g, c, hd⟩ := loop N fuel [] i s (by simp) (by rw [fuel_eq]; omega) hi rfl
 refine ⟨d, i', s', fun R => ?_, c, ?_⟩
 ·have e : decide ((0 + sh.length) * 8 ≤ 140737488355328) = true := by have := hs.1; simp; omega
  simp only [spec_l3Fill.e, spec_l3Fill.b, e, cond_true, List.nil_append]
  exact g (fun y16 y17 y18 => R sh y16 a y17 y18)
 ·simp only [arrOk, hd.2, h1, hN, hd.1]; simp
theorem dArr (a : List Int) (i s : Int) (hi : Cu a i) : ∃ (sh d : List Int) (i' s' : Int), (∀ R, spec_l3DrawRight.g a i s R = R sh d a i' s') ∧ Cu a i' ∧ arrOk sh d = true ∧ shOk sh := by
 obtain ⟨sh, i1, s1, h1, c1, hs⟩ := dRight2 a i s hi
 obtain ⟨d, i2, s2, h2, c2, hd⟩ := dFill sh a hs i1 s1 c1
 exact ⟨sh, d, i2, s2, fun R => by simp only [spec_l3DrawRight.e, spec_l3DrawRight.b, h1, h2], c2, hd, hs⟩
theorem arrOk_i64 {s d : List Int} (h : arrOk s d = true) : i64s s ∧ i64s d := by
 obtain ⟨_, h2, _, h4, _⟩ := arrOk_facts h
 exact ⟨dimOk_i64 h2, fun x hx => numOk_i64 (List.all_eq_true.1 h4 x hx)⟩
theorem mem_set {α : Type} {l : List α} {i : Nat} {x y : α} (h : y ∈ l.set i x) : y ∈ l ∨ y = x := by
 obtain ⟨j, hj, rfl⟩ := List.mem_iff_getElem.1 h
 rw [List.getElem_set]
 split
 ·exact .inr rfl
 ·exact .inl (List.getElem_mem _)
/-- an array, right or not -/
def anyArr (sh d : List Int) : Prop := sh.length ≤ 4 ∧ i64s sh ∧ d.length ≤ 301 ∧ i64s d
theorem dAny (a : List Int) (i s : Int) (hi : Cu a i) : ∃ (sh d : List Int) (i' s' : Int), (∀ R, spec_l3Draw.g a i s R = R sh d a i' s') ∧ Cu a i' ∧ anyArr sh d := by
 obtain ⟨sh, d, i1, s1, h1, c1, hd, hs⟩ := dArr a i s hi
 obtain ⟨k, i2, s2, h2, c2, hk⟩ := dBelow 20 (by omega) a i1 s1 c1
 obtain ⟨g1, g2, g3, g4, _⟩ := arrOk_facts hd
 obtain ⟨w1, w2⟩ := arrOk_i64 hd
 by_cases k0 : k = 0
 ·subst k0
  refine ⟨sh, d ++ [1], i2, s2, fun R => ?_, c2, by omega, w1, by simp; omega, fun y hy => ?_⟩
  ·have e : decide ((d.length + 1) * 8 ≤ 140737488355328) = true := by simp; omega
   simp only [spec_l3Draw.e, spec_l3Draw.b, h1, h2, e]; rfl
  ·rcases List.mem_append.1 hy with hy | hy
   ·exact w2 y hy
   ·simp at hy; subst hy; simp [i64]
 have e0 : (k == 0) = false := by simpa using k0
 by_cases k1 : k = 1
 ·subst k1
  obtain ⟨sh2, i3, s3, h3, c3, hl, hw⟩ := dShape a i2 s2 c2
  exact ⟨sh2, d, i3, s3, fun R => by simp only [spec_l3Draw.e, spec_l3Draw.b, h1, h2, h3]; rfl, c3, hl, hw, by omega, w2⟩
 have e1 : (k == 1) = false := by simpa using k1
 by_cases k2 : k = 2
 ·subst k2
  by_cases hd0 : 0 < d.length
  ·obtain ⟨j, i3, s3, h3, c3, hj⟩ := dBelow (d.length : Int) (by omega) a i2 s2 c2
   obtain ⟨x, i4, s4, h4, c4, hx⟩ := dRaw a i3 s3 c3
   obtain ⟨m, rfl⟩ := Int.eq_ofNat_of_zero_le hj.1
   have hm : m < d.length := by omega
   refine ⟨sh, d.set m x, i4, s4, fun R => ?_, c4, by omega, w1, by simp; omega, fun y hy => ?_⟩
   ·have e : decide (0 < (d.length : Int)) = true := by simp; omega
    simp only [spec_l3Draw.e, spec_l3Draw.b, h1, h2, e, h3, h4, ix0, ixl hm, Bool.and_self, cond_true, Int.toNat_natCast]; rfl
   ·rcases mem_set hy with hy | rfl
    ·exact w2 y hy
    ·exact hx
  ·refine ⟨sh, d, i2, s2, fun R => ?_, c2, by omega, w1, by omega, w2⟩
   have e : decide (0 < (d.length : Int)) = false := by simp only [decide_eq_false_iff_not]; omega
   simp only [spec_l3Draw.e, spec_l3Draw.b, h1, h2, e, cond_false]; rfl
 have e2 : (k == 2) = false := by simpa using k2
 by_cases k3 : k = 3
 ·subst k3
  obtain ⟨j, i3, s3, h3, c3, hj⟩ := dBelow 2 (by omega) a i2 s2 c2
  refine ⟨[300], List.replicate (300 + j).toNat 0, i3, s3, fun R => ?_, c3, by simp, by simp [i64s, i64], by simp; omega, fun y hy => ?_⟩
  ·have e : decide (0 ≤ 300 + j) = true := by simp; omega
   have e' : decide ((300 + j) * 8 ≤ 140737488355328) = true := by simp; omega
   simp only [spec_l3Draw.e, spec_l3Draw.b, h1, h2, h3]
   rw [w64 (n := 300 + j) (by omega)]
   simp only [e, e', decide_true, Bool.and_self]; rfl
  ·rw [(List.mem_replicate.1 hy).2]; simp [i64]
 have e3 : (k == 3) = false := by simpa using k3
 exact ⟨sh, d, i2, s2, fun R => by simp only [spec_l3Draw.e, spec_l3Draw.b, h1, h2, e0, e1, e2, e3, cond_false], c2, by omega, w1, by omega, w2⟩
/-- what the law's loop counts: lines, the last line's length, whether all are as long -/
def scanL : List UInt8 → Int → Int → Int → Bool → Int × Bool
 | [], a, b, c, e => (a, e && (decide (b < 0) || c == b))
 | x :: l, a, b, c, e => if x = 10 then scanL l (a + 1) c 0 (e && (decide (b < 0) || c == b)) else scanL l a b (c + 1) e
def nl (l : List UInt8) : Nat := l.countP (· == 10)
theorem scan_lines : ∀ (l : List UInt8) (a b c : Int) (e : Bool), (scanL l a b c e).1 = a + nl l
 | [], a, b, c, e => by simp [scanL, nl]
 | x :: l, a, b, c, e => by
  unfold scanL
  by_cases hx : x = 10
  ·rw [if_pos hx, scan_lines l]; simp [nl, hx]; omega
  ·rw [if_neg hx, scan_lines l]; simp [nl, hx]
theorem scan_word : ∀ (x rest : List UInt8) (a b c : Int) (e : Bool), (∀ y ∈ x, y ≠ 10) → scanL (x ++ rest) a b c e = scanL rest a b (c + x.length) e
 | [], rest, a, b, c, e, _ => by simp
 | y :: x, rest, a, b, c, e, h => by
  rw [List.cons_append, scanL, if_neg (h y (List.mem_cons_self ..)), scan_word x rest _ _ _ _ fun z hz => h z (List.mem_cons_of_mem _ hz)]
  congr 1
  simp only [List.length_cons]; omega
theorem scan_even (W : Nat) : ∀ (r : List (List UInt8)) (a : Int), (∀ x ∈ r, x.length = W ∧ ∀ y ∈ x, y ≠ 10) → (scanL (Lib.joinTail [10] r) a W W true).2 = true
 | [], a, _ => by simp [Lib.joinTail, scanL]
 | x :: r, a, h => by
  obtain ⟨h1, h2⟩ := h x (List.mem_cons_self ..)
  have ih := scan_even W r (a + 1) fun u hu => h u (List.mem_cons_of_mem _ hu)
  simp only [Lib.joinTail, List.map_cons, List.flatten_cons, List.append_assoc] at ih ⊢
  show (scanL (10 :: (x ++ _)) a W W true).2 = true
  rw [scanL, if_pos rfl, scan_word x _ _ _ _ _ h2, h1]
  simpa using ih
theorem nl_tail (sep : List UInt8) : ∀ r : List (List UInt8), nl (Lib.joinTail sep r) = (r.map nl).sum + nl sep * r.length
 | [] => by simp [Lib.joinTail, nl]
 | x :: r => by
  have ih := nl_tail sep r
  simp only [Lib.joinTail, List.map_cons, List.flatten_cons, nl, List.countP_append, List.sum_cons, List.length_cons, Nat.mul_succ] at ih ⊢
  omega
theorem nl_join (sep : List UInt8) (L : List (List UInt8)) : nl (Lib.join L sep) = (L.map nl).sum + nl sep * (L.length - 1) := by
 cases L with
 | nil => simp [Lib.join_nil, nl]
 | cons x r =>
  have := nl_tail sep r
  simp only [Lib.join_cons, nl, List.countP_append, List.map_cons, List.sum_cons, List.length_cons, Nat.add_sub_cancel] at this ⊢
  omega
theorem nl_none {l : List UInt8} (h : ∀ y ∈ l, y ≠ 10) : nl l = 0 := by
 rw [nl, List.countP_eq_zero]
 intro y hy; simpa using h y hy
theorem dec_no : ∀ (k n : Nat), n < k → ∀ y ∈ Lib.decDigits n, y ≠ 10
 | 0, n, h => by omega
 | k + 1, n, h => by
  intro y hy
  have dig : ∀ m : Nat, m < 10 → UInt8.ofNat (48 + m) ≠ 10 := by decide
  rw [Lib.decDigits] at hy
  split at hy
  ·rw [List.mem_singleton] at hy; subst hy; exact dig n (by omega)
  ·rcases List.mem_append.1 hy with hy | hy
   ·exact dec_no k (n / 10) (by omega) y hy
   ·rw [List.mem_singleton] at hy; subst hy; exact dig _ (by omega)
theorem num_no (x : Int) : ∀ y ∈ numL x, y ≠ 10 := by
 intro y hy
 unfold numL at hy
 split at hy
 ·rcases List.mem_cons.1 hy with rfl | hy
  ·decide
  ·exact dec_no _ _ (Nat.lt_succ_self _) y hy
 ·exact dec_no _ _ (Nat.lt_succ_self _) y hy
theorem pad_no (w : Nat) (x : Int) : ∀ y ∈ padL w x, y ≠ 10 := by
 intro y hy
 rcases List.mem_append.1 hy with hy | hy
 ·rw [List.mem_replicate] at hy; rw [hy.2]; decide
 ·exact num_no x y hy
theorem tail_no {sep : List UInt8} (hs : ∀ y ∈ sep, y ≠ 10) : ∀ {L : List (List UInt8)}, (∀ x ∈ L, ∀ y ∈ x, y ≠ 10) → ∀ y ∈ Lib.joinTail sep L, y ≠ 10
 | [], _, y, hy => by simp [Lib.joinTail] at hy
 | x :: L, h, y, hy => by
  simp only [Lib.joinTail, List.map_cons, List.flatten_cons, List.append_assoc, List.mem_append] at hy
  rcases hy with hy | hy | hy
  ·exact hs y hy
  ·exact h x (List.mem_cons_self ..) y hy
  ·exact tail_no hs (fun u hu => h u (List.mem_cons_of_mem _ hu)) y hy
theorem join_no {sep : List UInt8} (hs : ∀ y ∈ sep, y ≠ 10) {L : List (List UInt8)} (h : ∀ x ∈ L, ∀ y ∈ x, y ≠ 10) : ∀ y ∈ Lib.join L sep, y ≠ 10 := by
 intro y hy
 cases L with
 | nil => simp [Lib.join_nil] at hy
 | cons x L =>
  rw [Lib.join_cons, List.mem_append] at hy
  rcases hy with hy | hy
  ·exact h x (List.mem_cons_self ..) y hy
  ·exact tail_no hs (fun u hu => h u (List.mem_cons_of_mem _ hu)) y hy
theorem line_no (w : Nat) (c : List Int) : ∀ y ∈ lineL w c, y ≠ 10 := join_no (by decide) fun x hx => by
 obtain ⟨z, _, rfl⟩ := List.mem_map.1 hx
 exact pad_no w z
theorem row_no (d : List Int) : ∀ y ∈ rowL d, y ≠ 10 := by
 rw [← row_join]
 exact join_no (by decide) fun x hx => by
  obtain ⟨z, _, rfl⟩ := List.mem_map.1 hx
  exact num_no z
theorem line_len_eq {w q : Nat} {c : List Int} (h : fitW w c) (hq : c.length = q) : (lineL w c).length = w * q + (q - 1) := by
 have key : ∀ L : List (List UInt8), (∀ x ∈ L, x.length = w) → (Lib.joinTail [32] L).length = (w + 1) * L.length := by
  intro L; induction L with
  | nil => intro _; simp [Lib.joinTail]
  | cons x L ih =>
   intro hL
   have h1 := ih fun u hu => hL u (List.mem_cons_of_mem _ hu)
   have h2 := hL x (List.mem_cons_self ..)
   simp only [Lib.joinTail, List.map_cons, List.flatten_cons, List.length_append, List.length_cons, List.length_nil, Nat.mul_succ] at h1 ⊢
   omega
 subst hq
 cases c with
 | nil => simp [lineL, Lib.join_nil]
 | cons x c =>
  have := key (c.map (padL w)) fun u hu => by
   obtain ⟨z, hz, rfl⟩ := List.mem_map.1 hu
   exact padL_len (h.2 z (List.mem_cons_of_mem _ hz)).2
  rw [lineL, List.map_cons, Lib.join_cons, List.length_append, this, padL_len (h.2 x (List.mem_cons_self ..)).2, List.length_map, List.length_cons, Nat.mul_succ, Nat.add_mul]
  omega
theorem lines2_scan {w n q : Nat} {d : List Int} (h : fitW w d) (hd : d.length = n * q) : (scanL (lines2 w n q d) 1 (-1) 0 true).2 = true ∧ nl (lines2 w n q d) = n - 1 := by
 have hL : ∀ x ∈ (List.range n).map fun i => lineL w (chunk q d i), x.length = w * q + (q - 1) ∧ ∀ y ∈ x, y ≠ 10 := by
  intro x hx
  obtain ⟨i, hi, rfl⟩ := List.mem_map.1 hx
  rw [List.mem_range] at hi
  exact ⟨line_len_eq h.chunk (chunk_len hd hi), line_no _ _⟩
 constructor
 ·unfold lines2
  cases hl : (List.range n).map fun i => lineL w (chunk q d i) with
  | nil => rfl
  | cons x r =>
   rw [hl] at hL
   obtain ⟨h1, h2⟩ := hL x (List.mem_cons_self ..)
   rw [Lib.join_cons, scan_word _ _ _ _ _ _ h2, h1]
   cases r with
   | nil => simp [Lib.joinTail, scanL]
   | cons y r =>
    obtain ⟨h3, h4⟩ := hL y (by simp)
    have := scan_even (w * q + (q - 1)) r (1 + 1) fun u hu => hL u (by simp [hu])
    simp only [Lib.joinTail, List.map_cons, List.flatten_cons, List.append_assoc] at this ⊢
    show (scanL (10 :: (y ++ _)) 1 (-1) _ true).2 = true
    rw [scanL, if_pos rfl, scan_word y _ _ _ _ _ h4, h3]
    simpa using this
 ·unfold lines2
  rw [nl_join]
  have : (((List.range n).map fun i => lineL w (chunk q d i)).map nl).sum = 0 := by
   have z : ∀ M : List (List UInt8), (∀ x ∈ M, nl x = 0) → (M.map nl).sum = 0 := by
    intro M; induction M with
    | nil => intro _; rfl
    | cons x M ih => intro h; rw [List.map_cons, List.sum_cons, h x (List.mem_cons_self ..), ih fun u hu => h u (List.mem_cons_of_mem _ hu)]
   exact z _ fun x hx => nl_none (hL x hx).2
  rw [this]
  simp [nl]
theorem byte_at (l : List UInt8) {i : Nat} (hi : i < l.length) : (bytesOf (bz l)).getD i 0 = ((l.getD i 0).toNat : Int) := by
 rw [bytesOf, bz_list, List.getD_eq_getElem?_getD, List.getD_eq_getElem?_getD, List.getElem?_map, List.getElem?_eq_getElem hi]; rfl
theorem scanLoop (l : List UInt8) (x14 x15 : List Int) (k : Int → Bool → Option Res) (hl : l.length ≤ 1000000000000) : laws_FnShow.l0 (bz l) x14 x15 k fuel 1 (-1) 0 true 0 = k (scanL l 1 (-1) 0 true).1 (scanL l 1 (-1) 0 true).2 := by
 have := up0 (N := l.length + 1) (P := fun n i => ∀ (a b c : Int) (e : Bool), 0 ≤ a → 0 ≤ c → a + ((l.length - i : Nat) : Int) ≤ 2000000000000 → c + ((l.length - i : Nat) : Int) ≤ 2000000000000 →
  laws_FnShow.l0 (bz l) x14 x15 k n a b c e (i : Int) = if i ≤ l.length then k (scanL (l.drop i) a b c e).1 (scanL (l.drop i) a b c e).2 else k a e) (by omega) ?_ ?_ 0 (by omega) 1 (-1) 0 true (by omega) (by omega) (by omega) (by omega)
 ·rw [if_pos (by omega), List.drop_zero] at this; exact this
 ·intro n a b c e _ _ _ _
  simp only [laws_FnShow.l0, laws_FnShow.l0s]
  rw [bz_size, cd_f (by simp only [decide_eq_false_iff_not]; omega), if_neg (by omega)]
 ·intro n i hi ih a b c e h1 h2 h3 h4
  rw [if_pos (by omega)]
  simp only [laws_FnShow.l0, laws_FnShow.l0s, bz_size]
  rw [cd_t (by simp only [decide_eq_true_eq]; omega), ixw (by omega)]
  by_cases hlt : i < l.length
  ·rw [cd_t (ixl hlt), cd_t (by rw [ix0, ixl hlt]; rfl), Int.toNat_natCast, byte_at l hlt, cd_t (ixl hlt), drop_cons 0 hlt, scanL]
   by_cases hx : l.getD i 0 = 10
   ·rw [hx, if_pos rfl, cd_f (by decide), w64 (n := a + 1) (by omega)]
    have key : ∀ e', laws_FnShow.l0 (bz l) x14 x15 k n (a + 1) c 0 e' ((i + 1 : Nat) : Int) = k (scanL (l.drop (i + 1)) (a + 1) c 0 e').1 (scanL (l.drop (i + 1)) (a + 1) c 0 e').2 := fun e' => by
     rw [ih (a + 1) c 0 e' (by omega) (by omega) (by omega) (by omega), if_pos (by omega)]
    cases e with
    | false => rw [cond_false, key]; rfl
    | true =>
     rw [cond_true]
     by_cases hb : b < 0
     ·rw [cd_t (by simpa using hb), key]
      simp [hb]
     ·rw [cd_f (by simpa using hb), key]
      simp [hb]
   ·rw [if_neg hx, cd_t (by
     simp only [bne_iff_ne, ne_eq]
     intro hc
     apply hx
     have : (l.getD i 0).toNat = 10 := by omega
     exact UInt8.toNat_inj.1 this), w64 (n := c + 1) (by omega), ih a b (c + 1) e (by omega) (by omega) (by omega) (by omega), if_pos (by omega)]
  ·obtain rfl : i = l.length := by omega
   rw [cd_f (by simp), cd_f (by simp), List.drop_length, scanL]
   have key : ∀ e', laws_FnShow.l0 (bz l) x14 x15 k n a c 0 e' ((l.length + 1 : Nat) : Int) = k a e' := fun e' => by
    rw [ih a c 0 e' (by omega) (by omega) (by omega) (by omega), if_neg (by omega)]
   cases e with
   | false => rw [cond_false, key]; rfl
   | true =>
    rw [cond_true]
    by_cases hb : b < 0
    ·rw [cd_t (by simpa using hb), key]; simp [hb]
    ·rw [cd_f (by simpa using hb), key]; simp [hb]
theorem lines3_nl {w n : Nat} {p : Nat} {r : Int} {d : List Int} (h : arrOk [(n : Int), (p : Int), r] d = true) (hf : fitW w d) (h0 : 0 < d.length) :
 n * p ≤ 1 + nl (lines3 w n (sizeOf [(p : Int), r]).toNat [(p : Int), r] d) := by
 have hn : 0 < n := by
  obtain ⟨_, _, _, _, _, _, h7, _⟩ := arr_split h
  rcases Nat.eq_zero_or_pos n with hz | hz
  ·rw [hz, show ((0 : Nat) : Int) = 0 from rfl, Int.zero_mul] at h7; omega
  ·exact hz
 obtain ⟨q, e1, e2, e3⟩ := arr_rows h hn
 rw [e1, Int.toNat_natCast]
 have hq : 0 < q := by
  rcases Nat.eq_zero_or_pos q with hz | hz
  ·rw [hz, Nat.mul_zero] at e3; omega
  ·exact hz
 have hc : ∀ i, i < n → nl (lines2 w p (sizeOf [r]).toNat (chunk q d i)) = p - 1 ∧ 0 < p := fun i hi => by
  have ho := chunk_ok h e1 e3 hi
  have hl := chunk_len e3 hi
  have hp : 0 < p := by
   obtain ⟨_, _, _, _, _, _, h7, _⟩ := arr_split ho
   rcases Nat.eq_zero_or_pos p with hz | hz
   ·rw [hl, hz, show ((0 : Nat) : Int) = 0 from rfl, Int.zero_mul] at h7; omega
   ·exact hz
  obtain ⟨q2, g1, g2, g3⟩ := arr_rows ho hp
  rw [g1, Int.toNat_natCast]
  exact ⟨(lines2_scan hf.chunk g3).2, hp⟩
 have hp := (hc 0 hn).2
 unfold lines3
 rw [nl_join, List.map_map, List.length_map, List.length_range]
 have hs : ∀ m, m ≤ n → ((List.range m).map (nl ∘ fun i => lines2 w ([(p : Int), r].headD 0).toNat (sizeOf [(p : Int), r].tail).toNat (chunk q d i))).sum = m * (p - 1) := by
  intro m; induction m with
  | zero => intro _; simp
  | succ m ih =>
   intro hm
   have := (hc m (by omega)).1
   rw [List.range_succ, List.map_append, List.sum_append, ih (by omega), Nat.succ_mul]
   simp only [List.map_cons, List.map_nil, List.sum_cons, List.sum_nil, Nat.add_zero, Function.comp_apply]
   exact congrArg (m * (p - 1) + ·) this
 rw [hs n (Nat.le_refl n)]
 have e10 : nl [10, 10] = 2 := rfl
 rw [e10]
 obtain ⟨p', rfl⟩ : ∃ p', p = p' + 1 := ⟨p - 1, by omega⟩
 rw [Nat.mul_succ, Nat.add_sub_cancel]
 omega
theorem lawFnShow (a : List Int) (ha : wfQ [.int .u8] (.ints a)) (R : Bool → Option Res) : laws_FnShow.g a R = R true := by
 simp only [laws_FnShow.e, laws_FnShow.b, laws_big.e, laws_big.b]
 by_cases h : 1048576 < (a.length : Int)
 ·simp [h]
 obtain ⟨s0, hN, c0⟩ := dNew a (by omega)
 obtain ⟨s, d, i1, s1, hA, c1, hany⟩ := dAny a 0 s0 c0
 have hD : ∀ R, spec_DrawShow.g a R = R s d := fun R => by simp only [spec_DrawShow.e, spec_DrawShow.b, hN, hA]
 obtain ⟨l1, l2, l3, l4⟩ := hany
 simp only [h, decide_false, cond_false, hD, showI s d (by omega), showS s d (by omega), beqL, Bool.not_true, arrayOkS s d (by omega : d.length ≤ 9223372036854775807)]
 cases hok : arrOk s d with
 | false =>
  simp only [Bool.false_eq_true, if_false, Bool.not_false, cond_true]
  exact congrArg R (beqL (bz []))
 | true =>
  obtain ⟨f1, f2, f3, f4, f5⟩ := arrOk_facts hok
  have hf := wide_fit d f4
  simp only [if_true, Bool.not_true, cond_false]
  have row0 : ∀ (hs : showL s d = rowL d), (scanL (showL s d) 1 (-1) 0 true).1 = 1 ∧ (showL s d).length ≤ 1000000000000 := fun hs => by
   rw [hs, scan_lines, nl_none (row_no d)]
   have := rowL_len d f4
   exact ⟨rfl, by omega⟩
  match s, f1, hok, row0 with
  | [], _, hok, row0 =>
   obtain ⟨r1, r2⟩ := row0 rfl
   rw [scanLoop _ _ _ _ r2, r1, cd_t (by simp), cd_t (by simp), rowI d (by omega), if_pos f4]
   exact congrArg R (beqL _)
  | [n], _, hok, row0 =>
   obtain ⟨r1, r2⟩ := row0 rfl
   rw [scanLoop _ _ _ _ r2, r1, cd_f (by simp), cd_t (by simp), cd_t (by simp), rowI d (by omega), if_pos f4]
   exact congrArg R (beqL _)
  | [n, p], _, hok, _ =>
   obtain ⟨m, rfl, hm⟩ := dim0 hok
   show laws_FnShow.l0 (bz (lines2 (wideN d 0) m (sizeOf [p]).toNat d)) _ _ _ fuel 1 (-1) 0 true 0 = _
   have hq3 : (sizeOf [p]).toNat ≤ 300 := by have := sizeOf_le [p]; omega
   have hlen := lines2_len (n := m) (q := (sizeOf [p]).toNat) hf hm hq3
   rw [scanLoop _ _ _ _ (by omega), cd_f (by simp), cd_f (by simp), cd_t (by simp)]
   by_cases h0 : m = 0
   ·subst h0
    have e : lines2 (wideN d 0) 0 (sizeOf [p]).toNat d = [] := rfl
    rw [e, cd_t (by rfl), cd_t (by simp), cd_t (by simp), cd_t (by exact beqL (bz []))]
   ·obtain ⟨q, e1, e2, e3⟩ := arr_rows hok (by omega)
    rw [e1, Int.toNat_natCast] at *
    obtain ⟨g1, g2⟩ := lines2_scan hf e3
    rw [g1, cond_true, cd_t (by simp), cd_f (by simp; omega), cd_t (by simp), scan_lines, g2]
    congr 1
    simp; omega
  | [n, p, r], _, hok, _ =>
   obtain ⟨m, rfl, hm⟩ := dim0 hok
   obtain ⟨g1, g2, g3, g4, g5, g6, g7, g8⟩ := arr_split hok
   have hp0 : 0 ≤ p ∧ p ≤ 300 := by
    simp only [List.all_cons, Bool.and_eq_true, dimOk, decide_eq_true_eq] at g4
    exact g4.1
   obtain ⟨pn, rfl⟩ : ∃ pn : Nat, p = pn := ⟨p.toNat, by omega⟩
   show laws_FnShow.l0 (bz (lines3 (wideN d 0) m (sizeOf [(pn : Int), r]).toNat [(pn : Int), r] d)) _ _ _ fuel 1 (-1) 0 true 0 = _
   have hlen := lines3_len (w := wideN d 0) (n := m) (q := (sizeOf [(pn : Int), r]).toNat) (t := [(pn : Int), r]) hf hm hp0.2 m
   rw [List.take_of_length_le (by simp)] at hlen
   rw [scanLoop _ _ _ _ (by unfold lines3; omega), cd_f (by simp), cd_f (by simp), cd_f (by simp)]
   by_cases h0 : d.length = 0
   ·rw [cd_t (by simp [h0])]
   ·rw [cd_f (by simpa using h0), cd_t (by simp), cd_t (by simp), scan_lines]
    have := lines3_nl hok hf (by omega)
    congr 1
    have e : ((([(m : Int), (pn : Int), r] : List Int).getD 0 0) * (([(m : Int), (pn : Int), r] : List Int).getD 1 0)) = ((m * pn : Nat) : Int) := (Int.natCast_mul m pn).symm
    have hmp : m * pn ≤ 300 * 300 := Nat.mul_le_mul hm (by omega)
    rw [e, w64 (by omega)]
    simp; omega
  | _ :: _ :: _ :: _ :: _, f1, _, _ => simp at f1
end Go.Tv.F
