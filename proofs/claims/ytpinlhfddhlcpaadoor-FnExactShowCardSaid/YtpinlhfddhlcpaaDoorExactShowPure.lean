/- The pure law about these functions. It holds without condition. -/
import Derived.Test.YtpinlhfddhlcpaaDoorExactShowF
set_option linter.unusedVariables false
set_option linter.unusedSectionVars false
set_option linter.unusedSimpArgs false
set_option linter.unnecessarySimpa false
set_option maxRecDepth 100000
set_option autoImplicit false
namespace Go.Tv.F
open Go Go.Tv
theorem toIntS (a : List Int) (h : a.length ≤ 1048576) (R : List Int → Option Res) : laws_toIntS.g a R = R a := by
 have e1 : decide (0 ≤ (a.length : Int)) = true := by simp
 have e2 : decide ((a.length : Int) * 8 ≤ 140737488355328) = true := by simp; omega
 simp only [laws_toIntS.e, laws_toIntS.b, e1, e2, decide_true, Bool.and_self, cond_true]
 refine up0 (N := a.length) (P := fun n i => ∀ l : List Int, l.length = a.length → (∀ j, j < i → l[j]? = a[j]?) → laws_toIntS.l0 a R n (i : Int) l = R a) (by omega) ?_ ?_ 0 (by omega) _ (by simp) (fun j hj => by omega)
 ·intro n l hl hp
  simp only [laws_toIntS.l0, laws_toIntS.l0s, ixe, cond_false]
  rw [list_eq hl (fun j hj => hp j (by omega))]
 ·intro n i hi ih l hl hp
  have hi2 : decide ((i : Int) < (l.length : Int)) = true := by simp; omega
  simp only [laws_toIntS.l0, laws_toIntS.l0s, ixl hi, ix0, hi2, Bool.and_self, cond_true, ixw (by omega : i < 9223372036854775807), Int.toNat_natCast]
  exact ih _ (by simp [hl]) (set_pre hl hi (getD_lt 0 hi) hp)
theorem eqIntS (a : List Int) (h : a.length ≤ 9223372036854775807) (R : Bool → Option Res) : laws_eqIntS.g a a R = R true := by
 simp only [laws_eqIntS.e, laws_eqIntS.b, bne_self_eq_false, cond_false]
 refine up0 (N := a.length) (P := fun n i => laws_eqIntS.l0 a a (R true) R n (i : Int) = R true) (by omega) ?_ ?_ 0 (by omega)
 ·intro n; simp only [laws_eqIntS.l0, laws_eqIntS.l0s, ixe, cond_false]
 ·intro n i hi ih
  simp only [laws_eqIntS.l0, laws_eqIntS.l0s, ixl hi, ix0, Bool.and_self, cond_true, bne_self_eq_false, cond_false, ixw (by omega : i < 9223372036854775807)]
  exact ih
def numOk (x : Int) : Bool := decide (-1000000000000 ≤ x) && decide (x ≤ 1000000000000)
theorem within (x a b : Int) (R : Bool → Option Res) : impl_within.g x a b R = R (decide (a ≤ x) && decide (x ≤ b)) := by
 simp only [impl_within.e, impl_within.b]; cases decide (a ≤ x) <;> rfl
theorem l1In (x a b : Int) (R : Bool → Option Res) : spec_l1In.g x a b R = R (decide (a ≤ x) && decide (x ≤ b)) := by
 simp only [spec_l1In.e, spec_l1In.b]; cases decide (a ≤ x) <;> rfl
theorem numOkI (x : Int) (R : Bool → Option Res) : impl_NumOk.g x R = R (numOk x) := by simp only [impl_NumOk.e, impl_NumOk.b, within, numOk]
theorem numOkS (x : Int) (R : Bool → Option Res) : spec_NumOk.g x R = R (numOk x) := by simp only [spec_NumOk.e, spec_NumOk.b, l1In, numOk]
def dimOk (x : Int) : Bool := decide (0 ≤ x) && decide (x ≤ 300)
def prod : List Int → Int := List.foldr (· * ·) 1
def sizeOf (s : List Int) : Int := bif decide (s.length ≤ 3) && s.all dimOk && decide (prod s ≤ 300) then prod s else -1
theorem prod_le (l : List Int) (h : l.all dimOk = true) : 0 ≤ prod l ∧ prod l ≤ 300 ^ l.length := by
 induction l with
 | nil => simp [prod]
 | cons a l ih =>
  simp only [List.all_cons, Bool.and_eq_true, dimOk, decide_eq_true_eq] at h
  obtain ⟨i1, i2⟩ := ih h.2
  simp only [prod, List.foldr_cons, List.length_cons] at i1 i2 ⊢
  refine ⟨Int.mul_nonneg h.1.1 i1, ?_⟩
  rw [Int.pow_succ, Int.mul_comm (300 ^ l.length)]
  exact Int.mul_le_mul h.1.2 i2 i1 (by omega)
theorem prod_cons (a : Int) (l : List Int) : prod (a :: l) = a * prod l := rfl
theorem sizeOfI (s : List Int) (R : Int → Option Res) : impl_SizeOf.g s R = R (sizeOf s) := by
 simp only [impl_SizeOf.e, impl_SizeOf.b]
 by_cases h : (3 : Int) < (s.length : Int)
 ·have e : decide (s.length ≤ 3) = false := by simp; omega
  simp only [h, decide_true, cond_true, sizeOf, e, Bool.false_and, cond_false]
 have e : decide (s.length ≤ 3) = true := by simp; omega
 have loop : impl_SizeOf.l0 s (s.length : Int) (fun y7 => bif decide (300 < y7) then R (-1) else R y7) R fuel 1 0 = (bif s.all dimOk then (bif decide (300 < prod s) then R (-1) else R (prod s)) else R (-1)) := by
  have := up0 (N := s.length) (P := fun n i => ∀ acc : Int, 0 ≤ acc → acc ≤ 300 ^ i → impl_SizeOf.l0 s (s.length : Int) (fun y7 => bif decide (300 < y7) then R (-1) else R y7) R n acc (i : Int) = (bif (s.drop i).all dimOk then (bif decide (300 < acc * prod (s.drop i)) then R (-1) else R (acc * prod (s.drop i))) else R (-1))) (by omega) ?_ ?_ 0 (by omega) 1 (by omega) (by omega)
  ·simpa using this
  ·intro n acc _ _
   simp only [impl_SizeOf.l0, impl_SizeOf.l0s, ixe, cond_false, List.drop_length, List.all_nil, cond_true, prod, List.foldr_nil, Int.mul_one]
  ·intro n i hi ih acc h0 h1
   have hb : (300 : Int) ^ i ≤ 300 ^ 2 := by
    have : i = 0 ∨ i = 1 ∨ i = 2 := by omega
    rcases this with rfl | rfl | rfl <;> decide
   simp only [impl_SizeOf.l0, impl_SizeOf.l0s, ixl hi, ix0, Bool.and_self, cond_true, within, ixw (by omega : i < 9223372036854775807), Int.toNat_natCast]
   rw [drop_cons 0 hi]
   generalize s.getD i 0 = d
   rw [List.all_cons, prod_cons]
   by_cases hd : dimOk d = true
   ·have hd' := hd
    simp only [dimOk, Bool.and_eq_true, decide_eq_true_eq] at hd'
    have hm : acc * d ≤ 300 ^ 2 * 300 := Int.mul_le_mul (by omega) hd'.2 hd'.1 (by decide)
    have hm0 : 0 ≤ acc * d := Int.mul_nonneg h0 hd'.1
    rw [show (decide (0 ≤ d) && decide (d ≤ 300)) = true from hd, hd, w64 (by omega)]
    simp only [Bool.not_true, cond_false, Bool.true_and]
    rw [ih (acc * d) hm0 (by rw [Int.pow_succ]; exact Int.mul_le_mul h1 hd'.2 hd'.1 (by exact Int.pow_nonneg (by omega))), Int.mul_assoc]
   ·have hd : dimOk d = false := by simpa using hd
    rw [show (decide (0 ≤ d) && decide (d ≤ 300)) = false from hd, hd]
    simp
 rw [loop]
 simp only [h, decide_false, cond_false, sizeOf, e, Bool.true_and]
 cases hA : s.all dimOk with
 | false => simp
 | true =>
  by_cases h3 : 300 < prod s
  ·have : decide (prod s ≤ 300) = false := by simp; omega
   simp [h3, this]
  ·have : decide (prod s ≤ 300) = true := by simp; omega
   simp [h3, this]
theorem sizeOfS (s : List Int) (R : Int → Option Res) : spec_SizeOf.g s R = R (sizeOf s) := by
 simp only [spec_SizeOf.e, spec_SizeOf.b]
 by_cases h : (3 : Int) < (s.length : Int)
 ·have e : decide (s.length ≤ 3) = false := by simp; omega
  simp only [h, decide_true, cond_true, sizeOf, e, Bool.false_and, cond_false]
 have e : decide (s.length ≤ 3) = true := by simp; omega
 have loop2 : s.all dimOk = true → ∀ z k, spec_SizeOf.l2 s z k fuel 1 0 = k (prod s) := by
  intro hA z k
  have := up0 (N := s.length) (P := fun n i => ∀ acc : Int, 0 ≤ acc → acc ≤ 300 ^ i → (s.drop i).all dimOk = true → spec_SizeOf.l2 s z k n acc (i : Int) = k (acc * prod (s.drop i))) (by omega) ?_ ?_ 0 (by omega) 1 (by omega) (by omega) (by simpa using hA)
  ·simpa using this
  ·intro n acc _ _ _
   simp only [spec_SizeOf.l2, spec_SizeOf.l2s, ixe, cond_false, List.drop_length, prod, List.foldr_nil, Int.mul_one]
  ·intro n i hi ih acc h0 h1 ha
   have hb : (300 : Int) ^ i ≤ 300 ^ 2 := by
    have : i = 0 ∨ i = 1 ∨ i = 2 := by omega
    rcases this with rfl | rfl | rfl <;> decide
   simp only [spec_SizeOf.l2, spec_SizeOf.l2s, ixl hi, ix0, Bool.and_self, cond_true, ixw (by omega : i < 9223372036854775807), Int.toNat_natCast]
   rw [drop_cons 0 hi] at ha ⊢
   revert ha
   generalize s.getD i 0 = d
   intro ha
   rw [prod_cons]
   simp only [List.all_cons, Bool.and_eq_true, dimOk, decide_eq_true_eq] at ha
   have hm : acc * d ≤ 300 ^ 2 * 300 := Int.mul_le_mul (by omega) ha.1.2 ha.1.1 (by decide)
   have hm0 : 0 ≤ acc * d := Int.mul_nonneg h0 ha.1.1
   rw [w64 (by omega), ih (acc * d) hm0 (by rw [Int.pow_succ]; exact Int.mul_le_mul h1 ha.1.2 ha.1.1 (by exact Int.pow_nonneg (by omega))) (by simpa [dimOk] using ha.2), Int.mul_assoc]
 have loop : ∀ k, spec_SizeOf.l0 s k R fuel false 0 = (bif s.all dimOk then k (s.any (· == 0)) else R (-1)) := by
  intro k
  have := up0 (N := s.length) (P := fun n i => ∀ z : Bool, spec_SizeOf.l0 s k R n z (i : Int) = (bif (s.drop i).all dimOk then k (z || (s.drop i).any (· == 0)) else R (-1))) (by omega) ?_ ?_ 0 (by omega) false
  ·simpa using this
  ·intro n z
   simp only [spec_SizeOf.l0, spec_SizeOf.l0s, ixe, cond_false, List.drop_length, List.all_nil, cond_true, List.any_nil, Bool.or_false]
  ·intro n i hi ih z
   simp only [spec_SizeOf.l0, spec_SizeOf.l0s, ixl hi, ix0, Bool.and_self, cond_true, l1In, ixw (by omega : i < 9223372036854775807), Int.toNat_natCast]
   rw [drop_cons 0 hi]
   generalize s.getD i 0 = d
   rw [List.all_cons, List.any_cons]
   cases hd : dimOk d with
   | true =>
    rw [show (decide (0 ≤ d) && decide (d ≤ 300)) = true from hd]
    cases z with
    | true => simp only [Bool.not_true, cond_false, cond_true, ih, Bool.true_or, Bool.true_and]
    | false => simp only [Bool.not_true, cond_false, ih, Bool.false_or, Bool.true_and]
   | false =>
    rw [show (decide (0 ≤ d) && decide (d ≤ 300)) = false from hd]
    simp
 simp only [h, decide_false, cond_false, loop, sizeOf, e, Bool.true_and]
 cases hA : s.all dimOk with
 | false => simp
 | true =>
  simp only [cond_true, loop2 hA, Bool.true_and]
  by_cases h3 : 300 < prod s
  ·have h4 : decide (prod s ≤ 300) = false := by simp; omega
   have hz : s.any (· == 0) = false := by
    cases hz : s.any (· == 0) with
    | false => rfl
    | true =>
     exfalso
     have : ∀ l : List Int, l.any (· == 0) = true → prod l = 0 := by
      intro l
      induction l with
      | nil => intro h; simp at h
      | cons a l ih =>
       intro h
       simp only [List.any_cons, Bool.or_eq_true, beq_iff_eq] at h
       rw [prod_cons]
       rcases h with rfl | h
       ·simp
       ·rw [ih h]; simp
     rw [this s hz] at h3
     omega
   simp [h3, h4, hz]
  ·have : decide (prod s ≤ 300) = true := by simp; omega
   simp [h3, this]
def arrOk (s d : List Int) : Bool := decide ((d.length : Int) = sizeOf s) && d.all numOk
theorem sizeOf_le (s : List Int) : sizeOf s ≤ 300 := by
 simp only [sizeOf]
 cases h : decide (s.length ≤ 3) && s.all dimOk && decide (prod s ≤ 300) with
 | false => simp
 | true => simp only [Bool.and_eq_true, decide_eq_true_eq] at h; simpa using h.2
theorem arrOk_facts {s d : List Int} (h : arrOk s d = true) : s.length ≤ 3 ∧ s.all dimOk = true ∧ d.length ≤ 300 ∧ d.all numOk = true ∧ (d.length : Int) = prod s := by
 simp only [arrOk, Bool.and_eq_true, decide_eq_true_eq] at h
 have h0 := sizeOf_le s
 obtain ⟨h1, h2⟩ := h
 rw [sizeOf] at h1
 cases h3 : decide (s.length ≤ 3) && s.all dimOk && decide (prod s ≤ 300) with
 | false => rw [h3] at h1; simp at h1
 | true =>
  rw [h3] at h1
  simp only [Bool.and_eq_true, decide_eq_true_eq] at h3
  simp only [cond_true] at h1
  exact ⟨h3.1.1, h3.1.2, by omega, h2, h1⟩
/-- the first place from i on at which something holds; -1: none -/
def idx {α : Type} (f : α → Bool) : List α → Int → Int
 | [], _ => -1
 | x :: l, i => bif f x then i else idx f l (i + 1)
theorem idx_any {α : Type} (f : α → Bool) (l : List α) : ∀ i : Int, 0 ≤ i → decide (0 ≤ idx f l i) = l.any f := by
 induction l with
 | nil => intro i _; rfl
 | cons x l ih =>
  intro i hi
  cases hf : f x with
  | true => simp [idx, hf, hi]
  | false => simpa [idx, hf] using ih (i + 1) (by omega)
theorem arrayOkI_1 (x : Int) (R : Bool → Option Res) : impl_ArrayOk_1.g x R = R (!numOk x) := by simp only [impl_ArrayOk_1.e, impl_ArrayOk_1.b, numOkI]
theorem arrayOkI_idx (d : List Int) (h : d.length ≤ 9223372036854775807) (R : Int → Option Res) : slices_IndexFunc_int_int.g d R = R (idx (fun x => !numOk x) d 0) := by
 simp only [slices_IndexFunc_int_int.e, slices_IndexFunc_int_int.b]
 have := up0 (N := d.length) (P := fun n i => slices_IndexFunc_int_int.l0 d (d.length : Int) (R (-1)) R n (i : Int) = R (idx (fun x => !numOk x) (d.drop i) i)) (by omega) ?_ ?_ 0 (by omega)
 ·simpa using this
 ·intro n; simp only [slices_IndexFunc_int_int.l0, slices_IndexFunc_int_int.l0s, ixe, cond_false, List.drop_length, idx]
 ·intro n i hi ih
  simp only [slices_IndexFunc_int_int.l0, slices_IndexFunc_int_int.l0s, ixl hi, ix0, Bool.and_self, cond_true, arrayOkI_1, ixw (by omega : i < 9223372036854775807), Int.toNat_natCast]
  rw [drop_cons 0 hi, idx]
  cases numOk (d.getD i 0) with
  | true => exact ih
  | false => rfl
theorem arrayOkI (s d : List Int) (h : d.length ≤ 9223372036854775807) (R : Bool → Option Res) : impl_ArrayOk.g s d R = R (arrOk s d) := by
 simp only [impl_ArrayOk.e, impl_ArrayOk.b, sizeOfI, slices_ContainsFunc_int_int.e, slices_ContainsFunc_int_int.b, arrayOkI_idx d h, idx_any _ _ _ (Int.le_refl 0), arrOk]
 by_cases h1 : (d.length : Int) = sizeOf s
 ·simp only [h1, beq_self_eq_true, cond_true, decide_true, Bool.true_and]
  congr 1
  rw [List.any_eq_not_all_not]; simp
 ·have : ((d.length : Int) == sizeOf s) = false := by simpa using h1
  simp only [this, h1, cond_false, decide_false, Bool.false_and]
theorem arrayOkS (s d : List Int) (h : d.length ≤ 9223372036854775807) (R : Bool → Option Res) : spec_ArrayOk.g s d R = R (arrOk s d) := by
 simp only [spec_ArrayOk.e, spec_ArrayOk.b, sizeOfS, arrOk]
 have loop : spec_ArrayOk.l0 s d (R true) R fuel 0 = R (d.all numOk) := by
  have := up0 (N := d.length) (P := fun n i => spec_ArrayOk.l0 s d (R true) R n (i : Int) = R ((d.drop i).all numOk)) (by omega) ?_ ?_ 0 (by omega)
  ·simpa using this
  ·intro n; simp only [spec_ArrayOk.l0, spec_ArrayOk.l0s, ixe, cond_false, List.drop_length, List.all_nil]
  ·intro n i hi ih
   simp only [spec_ArrayOk.l0, spec_ArrayOk.l0s, ixl hi, ix0, Bool.and_self, cond_true, numOkS, ixw (by omega : i < 9223372036854775807), Int.toNat_natCast]
   rw [drop_cons 0 hi, List.all_cons]
   cases numOk (d.getD i 0) with
   | true => exact ih
   | false => rfl
 by_cases h1 : (d.length : Int) = sizeOf s
 ·rw [h1]; simp only [bne_self_eq_false, cond_false, loop, decide_true, Bool.true_and]
 ·have : (sizeOf s != (d.length : Int)) = true := by simp; omega
  simp only [this, cond_true, h1, decide_false, Bool.false_and]
/-- a string of bytes -/
def bz (l : List UInt8) : ByteArray := ⟨l.toArray⟩
theorem bz_app (a b : List UInt8) : bz a ++ bz b = bz (a ++ b) := by
 apply ByteArray.ext
 simp [bz, ByteArray.data_append]
theorem bz_size (a : List UInt8) : (bz a).size = a.length := by simp [bz, ByteArray.size]
theorem bz_list (a : List UInt8) : (bz a).data.toList = a := by simp [bz]
/-- a number's text -/
def numL (x : Int) : List UInt8 := if x < 0 then 95 :: Lib.decDigits x.natAbs else Lib.decDigits x.toNat
theorem decLen : ∀ (k n : Nat), n < 10 ^ (k + 1) → (Lib.decDigits n).length ≤ k + 1
 | 0, n, h => by rw [Lib.decDigits, dif_pos (by omega)]; simp
 | k + 1, n, h => by
  rw [Lib.decDigits]
  split
  ·simp
  ·rw [List.length_append]
   have := decLen k (n / 10) (by rw [Nat.div_lt_iff_lt_mul (by omega)]; rw [Nat.pow_succ] at h; omega)
   simp; omega
theorem decPos (n : Nat) : 1 ≤ (Lib.decDigits n).length := by
 rw [Lib.decDigits]; split <;> simp
theorem numOk_b {x : Int} (h : numOk x = true) : -1000000000000 ≤ x ∧ x ≤ 1000000000000 := by
 simp only [numOk, Bool.and_eq_true, decide_eq_true_eq] at h
 omega
theorem numLen {x : Int} (h : numOk x = true) : 1 ≤ (numL x).length ∧ (numL x).length ≤ 14 := by
 have := numOk_b h
 unfold numL
 split
 ·have := decLen 12 x.natAbs (by omega)
  have := decPos x.natAbs
  simp; omega
 ·have := decLen 12 x.toNat (by omega)
  have := decPos x.toNat
  omega
theorem digB (m : Nat) : strOf ([IntKind.u8.wrap (IntKind.i64.wrap (48 + ((m : Int).tmod 10)))] : List Int) = bz [UInt8.ofNat (48 + m % 10)] := by
 rw [Int.tmod_eq_emod_of_nonneg (by omega), w64 (by omega), IntKind.wrap_u8]
 have : ((48 + (m : Int) % 10) % 256) = ((48 + m % 10 : Nat) : Int) := by omega
 rw [this]; rfl
theorem digLoop (k : ByteArray → Option Res) : ∀ (n m : Nat) (acc : List UInt8), m < n → m ≤ 10000000000000 → acc.length + m ≤ 4000000000000000000 →
 spec_l8Digits.l0 k n (m : Int) (bz acc) = k (bz ((if m = 0 then [] else Lib.decDigits m) ++ acc))
 | 0, m, acc, h, _, _ => by omega
 | n + 1, m, acc, h, hm, ha => by
  simp only [spec_l8Digits.l0, spec_l8Digits.l0s]
  by_cases h0 : m = 0
  ·subst h0
   rw [cd_f (by simp), if_pos rfl]; rfl
  ·rw [cd_t (by simp; omega), digB, bz_size, bz_size, cd_t (by simp; omega), bz_app, Int.tdiv_eq_ediv_of_nonneg (by omega), w64 (by omega)]
   have e : ((m : Int) / 10) = ((m / 10 : Nat) : Int) := by omega
   rw [e, digLoop k n (m / 10) _ (by omega) (by omega) (by simp; omega), if_neg h0]
   congr 2
   by_cases h1 : m < 10
   ·rw [if_pos (by omega), Lib.decDigits, dif_pos h1]
    rw [Nat.mod_eq_of_lt h1]; rfl
   ·rw [if_neg (by omega)]
    conv => rhs; rw [Lib.decDigits, dif_neg h1]
    simp
theorem digG (n : Nat) (x : Int) (h : numOk x = true) (R : ByteArray → Option Res) : spec_l8Digits.gn (n + 2) x R = R (bz (numL x)) := by
 have hb := numOk_b h
 have pos : ∀ (n : Nat) (m : Nat), m ≤ 10000000000000 → ∀ R : ByteArray → Option Res, spec_l8Digits.gn (n + 1) (m : Int) R = R (bz (Lib.decDigits m)) := by
  intro n m hm R
  rw [spec_l8Digits.gn_succ]
  unfold spec_l8Digits.g
  rw [cd_f (by simp)]
  by_cases h0 : m = 0
  ·subst h0
   rw [cd_t (by simp)]
   have : Lib.decDigits 0 = [48] := by rw [Lib.decDigits, dif_pos (by omega)]; rfl
   rw [this]; rfl
  ·rw [cd_f (by simp; omega)]
   have := digLoop R fuel m [] (by rw [fuel_eq]; omega) hm (by simp; omega)
   rw [if_neg h0, List.append_nil] at this
   exact this
 unfold numL
 by_cases hx : x < 0
 ·rw [if_pos hx, spec_l8Digits.gn_succ]
  unfold spec_l8Digits.g
  rw [cd_t (by simpa using hx), w64 (by omega)]
  have e : (0 - x) = (x.natAbs : Int) := by omega
  show spec_l8Digits.gn (n + 1) (0 - x) _ = _
  rw [e, pos n _ (by omega), bz_size, cd_t (by have := decLen 12 x.natAbs (by omega); simp; omega)]
  have : (⟨#[95]⟩ : ByteArray) = bz [95] := rfl
  rw [this, bz_app]; rfl
 ·rw [if_neg hx]
  obtain ⟨m, rfl⟩ : ∃ m : Nat, x = m := ⟨x.toNat, by omega⟩
  rw [pos (n + 1) m (by omega)]; rfl
theorem digS (x : Int) (h : numOk x = true) (R : ByteArray → Option Res) : spec_l8Digits.G x R = R (bz (numL x)) := by
 obtain ⟨m, hm, _⟩ := fuel_split 2 (by decide)
 rw [spec_l8Digits.Ge, hm, digG m x h]
/-- what is shown -/
def showN (x : Int) : List UInt8 := if numOk x then numL x else []
theorem itoaNeg {x : Int} (h : x < 0) : Lib.itoa (0 - x) = Lib.decDigits x.natAbs := by
 unfold Lib.itoa; rw [if_neg (by omega)]; congr 1; omega
theorem itoaPos {x : Int} (h : ¬ x < 0) : Lib.itoa x = Lib.decDigits x.toNat := by
 unfold Lib.itoa; rw [if_neg h]
theorem itoaR (x : Int) (h : -9223372036854775808 ≤ x ∧ x ≤ 9223372036854775807) (R : ByteArray → Option Res) : strconv_Itoa.g x R = R (bz (Lib.itoa x)) := by
 unfold strconv_Itoa.g itoaG
 rw [cd_t (by simp; omega)]; rfl
theorem showNumI (x : Int) (R : ByteArray → Option Res) : impl_ShowNum.g x R = R (bz (showN x)) := by
 simp only [impl_ShowNum.e, impl_ShowNum.b, numOkI, showN]
 cases h : numOk x with
 | false => rfl
 | true =>
  have hb := numOk_b h
  simp only [Bool.not_true, cond_false, if_true]
  unfold numL
  by_cases hx : x < 0
  ·rw [cd_t (by simpa using hx), w64 (by omega), itoaR _ (by omega), itoaNeg hx, if_pos hx, bz_size, cd_t (by have := decLen 12 x.natAbs (by omega); simp; omega)]
   have : (⟨#[95]⟩ : ByteArray) = bz [95] := rfl
   rw [this, bz_app]; rfl
  ·rw [cd_f (by simpa using hx), itoaR _ (by omega), itoaPos hx, if_neg hx]
theorem beqL (s : ByteArray) : (s.toList == s.toList) = true := beq_self_eq_true _
theorem allRight_idx (d : List Int) (h : d.length ≤ 9223372036854775807) (R : Int → Option Res) : slices_IndexFunc_int_int_i2.g d R = R (idx (fun x => !numOk x) d 0) := by
 simp only [slices_IndexFunc_int_int_i2.e, slices_IndexFunc_int_int_i2.b]
 have := up0 (N := d.length) (P := fun n i => slices_IndexFunc_int_int_i2.l0 d (d.length : Int) (R (-1)) R n (i : Int) = R (idx (fun x => !numOk x) (d.drop i) i)) (by omega) ?_ ?_ 0 (by omega)
 ·simpa using this
 ·intro n; simp only [slices_IndexFunc_int_int_i2.l0, slices_IndexFunc_int_int_i2.l0s, ixe, cond_false, List.drop_length, idx]
 ·intro n i hi ih
  simp only [slices_IndexFunc_int_int_i2.l0, slices_IndexFunc_int_int_i2.l0s, ixl hi, ix0, Bool.and_self, cond_true, impl_allRight_1.e, impl_allRight_1.b, numOkI, ixw (by omega : i < 9223372036854775807), Int.toNat_natCast]
  rw [drop_cons 0 hi, idx]
  cases numOk (d.getD i 0) with
  | true => exact ih
  | false => rfl
theorem allRightI (d : List Int) (h : d.length ≤ 9223372036854775807) (R : Bool → Option Res) : impl_allRight.g d R = R (d.all numOk) := by
 simp only [impl_allRight.e, impl_allRight.b, slices_ContainsFunc_int_int_i2.e, slices_ContainsFunc_int_int_i2.b, allRight_idx d h, idx_any _ _ _ (Int.le_refl 0)]
 congr 1
 rw [List.any_eq_not_all_not]; simp
theorem numsS (d : List Int) (h : d.length ≤ 9223372036854775807) (R : Bool → Option Res) : spec_l16Nums.g d R = R (d.all numOk) := by
 simp only [spec_l16Nums.e, spec_l16Nums.b]
 have := up0 (N := d.length) (P := fun n i => spec_l16Nums.l0 d (R true) R n (i : Int) = R ((d.drop i).all numOk)) (by omega) ?_ ?_ 0 (by omega)
 ·simpa using this
 ·intro n; simp only [spec_l16Nums.l0, spec_l16Nums.l0s, ixe, cond_false, List.drop_length, List.all_nil]
 ·intro n i hi ih
  simp only [spec_l16Nums.l0, spec_l16Nums.l0s, ixl hi, ix0, Bool.and_self, cond_true, numOkS, ixw (by omega : i < 9223372036854775807), Int.toNat_natCast]
  rw [drop_cons 0 hi, List.all_cons]
  cases numOk (d.getD i 0) with
  | true => exact ih
  | false => rfl
/-- how wide the widest is -/
def wideN : List Int → Nat → Nat
 | [], n => n
 | x :: l, n => wideN l (max n (numL x).length)
theorem all_at {d : List Int} (h : d.all numOk = true) {i : Nat} (hi : i < d.length) : numOk (d.getD i 0) = true := by
 rw [List.getD_eq_getElem?_getD, List.getElem?_eq_getElem hi]
 exact List.all_eq_true.1 h _ (List.getElem_mem hi)
theorem showN_ok {x : Int} (h : numOk x = true) : showN x = numL x := by unfold showN; rw [if_pos h]
theorem wideI (d : List Int) (h : d.length ≤ 9223372036854775807) (R : Int → Option Res) : impl_ShowWide.g d R = R (if d.all numOk then (wideN d 0 : Int) else -1) := by
 simp only [impl_ShowWide.e, impl_ShowWide.b, allRightI d h]
 cases ha : d.all numOk with
 | false => rfl
 | true =>
  simp only [Bool.not_true, cond_false, if_true]
  have := up0 (N := d.length) (P := fun n i => ∀ m : Nat, impl_ShowWide.l0 d (d.length : Int) R n (m : Int) (i : Int) = R (wideN (d.drop i) m : Int)) (by omega) ?_ ?_ 0 (by omega) 0
  ·simpa using this
  ·intro n m; simp only [impl_ShowWide.l0, impl_ShowWide.l0s, ixe, cond_false, List.drop_length, wideN]
  ·intro n i hi ih m
   simp only [impl_ShowWide.l0, impl_ShowWide.l0s, ixl hi, ix0, Bool.and_self, cond_true, showNumI, bz_size, showN_ok (all_at ha hi), ixw (by omega : i < 9223372036854775807), Int.toNat_natCast]
   rw [drop_cons 0 hi, wideN, ← ih]
   congr 1
   simp only [minmax]
   generalize (numL (d.getD i 0)).length = q
   rcases Nat.le_total m q with h | h
   ·rw [Nat.max_eq_right h]; simp; omega
   ·rw [Nat.max_eq_left h]; simp; omega
/-- what stands behind a row's first number -/
def rowT : List Int → List UInt8
 | [] => []
 | x :: l => 32 :: (numL x ++ rowT l)
def rowL : List Int → List UInt8
 | [] => []
 | x :: l => numL x ++ rowT l
theorem rowT_len : ∀ d : List Int, d.all numOk = true → (rowT d).length ≤ 15 * d.length
 | [], _ => by simp [rowT]
 | x :: l, h => by
  rw [List.all_cons, Bool.and_eq_true] at h
  have := rowT_len l h.2
  have := numLen h.1
  simp [rowT]; omega
theorem rowL_len (d : List Int) (h : d.all numOk = true) : (rowL d).length ≤ 15 * d.length := by
 cases d with
 | nil => simp [rowL]
 | cons x l =>
  rw [List.all_cons, Bool.and_eq_true] at h
  have := rowT_len l h.2
  have := numLen h.1
  simp [rowL]; omega
theorem row_join : ∀ d : List Int, Lib.join (d.map numL) [32] = rowL d
 | [] => rfl
 | x :: l => by
  have t : ∀ l : List Int, Lib.joinTail [32] (l.map numL) = rowT l := by
   intro l; induction l with
   | nil => rfl
   | cons y l ih => simp only [Lib.joinTail, List.map_cons, List.flatten_cons, rowT] at ih ⊢; rw [ih]; rfl
  rw [List.map_cons, Lib.join_cons, t]; rfl
theorem joinR (xs : List (List UInt8)) (sep : List UInt8) (h : xs.length ≤ 140737488355328) (h2 : (Lib.join xs sep).length ≤ 140737488355328) (R : ByteArray → Option Res) :
 strings_Join.g (xs.map bz) (bz sep) R = R (bz (Lib.join xs sep)) := by
 have e : joinL (xs.map bz) (bz sep) = Lib.join xs sep := by
  unfold joinL
  rw [List.map_map, bz_list]
  congr 1
  rw [show ((fun x : ByteArray => x.data.toList) ∘ bz) = id from funext fun x => bz_list x, List.map_id]
 unfold strings_Join.g joinG
 rw [e, cd_t (by simp [h, h2])]
 unfold joinB; rw [e]; rfl
theorem map_snoc {α β : Type} (f : α → β) (d : List α) (z : α) {i : Nat} (hi : i < d.length) : (d.take i).map f ++ [f (d.getD i z)] = (d.take (i + 1)).map f := by
 rw [List.take_succ_eq_append_getElem hi, List.map_append, List.getD_eq_getElem?_getD, List.getElem?_eq_getElem hi]; rfl
theorem rowI (d : List Int) (h : d.length ≤ 1048576) (R : ByteArray → Option Res) : impl_ShowRow.g d R = R (bz (if d.all numOk then rowL d else [])) := by
 simp only [impl_ShowRow.e, impl_ShowRow.b, allRightI d (by omega)]
 cases ha : d.all numOk with
 | false => rfl
 | true =>
  simp only [Bool.not_true, cond_false, if_true]
  have := up0 (N := d.length) (P := fun n i => ∀ k : List ByteArray → Option Res, impl_ShowRow.l0 d (d.length : Int) k n (i : Int) ((d.take i).map fun x => bz (numL x)) = k (d.map fun x => bz (numL x))) (by omega) ?_ ?_ 0 (by omega)
  ·have e := this (fun y8 => strings_Join.g y8 (⟨#[32]⟩ : ByteArray) fun r9 => R r9)
   have e2 : (⟨#[32]⟩ : ByteArray) = bz [32] := rfl
   rw [e2] at e ⊢
   have e3 : (d.map fun x => bz (numL x)) = (d.map numL).map bz := by rw [List.map_map]; rfl
   rw [e3, joinR _ _ (by simp; omega) (by rw [row_join]; have := rowL_len d ha; omega), row_join] at e
   exact e
  ·intro n k; simp only [impl_ShowRow.l0, impl_ShowRow.l0s, ixe, cond_false, List.take_length]
  ·intro n i hi ih k
   have hl : decide ((((d.take i).map fun x => bz (numL x)).length + 1) * 16 ≤ 140737488355328) = true := by simp; omega
   simp only [impl_ShowRow.l0, impl_ShowRow.l0s, ixl hi, ix0, Bool.and_self, cond_true, showNumI, showN_ok (all_at ha hi), ixw (by omega : i < 9223372036854775807), Int.toNat_natCast, hl]
   rw [map_snoc (fun x => bz (numL x)) d 0 hi]
   exact ih k
theorem rowS (d : List Int) (h : d.length ≤ 1048576) (R : ByteArray → Option Res) : spec_ShowRow.g d R = R (bz (if d.all numOk then rowL d else [])) := by
 simp only [spec_ShowRow.e, spec_ShowRow.b]
 cases ha : d.all numOk with
 | false =>
  obtain ⟨m, hm, _⟩ := fuel_split 1 (by decide)
  rw [hm]
  simp only [spec_ShowRow.l0, spec_ShowRow.l0s]
  cases d with
  | nil => cases ha
  | cons x l => rw [cd_t (by simp), numsS _ (by omega), ha]; rfl
 | true =>
  have key := up (N := d.length) (P := fun n i => 0 < i → ∀ acc : List UInt8, acc.length + 15 * (d.length - i) ≤ 1000000000 → spec_ShowRow.l0 d R n (bz acc) (i : Int) = R (bz (acc ++ rowT (d.drop i)))) ?_ ?_
  ·obtain ⟨m, hm, hm2⟩ := fuel_split 1 (by decide)
   cases d with
   | nil => rw [hm]; rfl
   | cons x l =>
    have h0 : numOk x = true := by rw [List.all_cons, Bool.and_eq_true] at ha; exact ha.1
    have hn := numLen h0
    have hn0 := numLen h0
    rw [hm]
    simp only [spec_ShowRow.l0, spec_ShowRow.l0s]
    have e0 : decide ((0 : Int) < ((x :: l).length : Int)) = true := by simp
    have eb : (⟨#[]⟩ : ByteArray) = bz [] := rfl
    have h2 : decide ((bz []).size + (bz (numL x)).size ≤ 9223372036854775807) = true := by rw [bz_size, bz_size]; simp only [decide_eq_true_eq, List.length_nil]; omega
    rw [eb]
    simp only [e0, cond_true, numsS (x :: l) (by omega), ha, show decide ((0 : Int) < 0) = false from rfl, cond_false, show decide ((0 : Int) ≤ 0) = true from rfl, Bool.and_self, Int.toNat_zero, List.getD_cons_zero, digS x h0, h2, bz_app, List.nil_append]
    rw [show IntKind.i64.wrap (0 + 1) = ((1 : Nat) : Int) from by rw [w64 (by omega)]; rfl]
    simp only [List.length_cons] at key h
    rw [key m 1 (by omega) (by omega) (by omega) (numL x) (by omega)]
    rfl
  ·intro n _ acc _; simp only [spec_ShowRow.l0, spec_ShowRow.l0s, ixe, cond_false, List.drop_length, rowT, List.append_nil]
  ·intro n i hi ih h0 acc hacc
   have hx := all_at ha hi
   have hn := numLen hx
   have hd : decide ((0 : Int) < (i : Int)) = true := by simp; omega
   have hb : bz acc ++ (⟨#[32]⟩ : ByteArray) = bz (acc ++ [32]) := bz_app acc [32]
   have h1 : decide ((bz acc).size + 1 ≤ 9223372036854775807) = true := by rw [bz_size]; simp; omega
   have h2 : decide ((bz (acc ++ [32])).size + (bz (numL (d.getD i 0))).size ≤ 9223372036854775807) = true := by rw [bz_size, bz_size, List.length_append]; simp only [decide_eq_true_eq, List.length_singleton]; omega
   simp only [spec_ShowRow.l0, spec_ShowRow.l0s, ixl hi, ix0, Bool.and_self, cond_true, numsS d (by omega), ha, hd, h1, hb, digS _ hx, h2, ixw (by omega : i < 9223372036854775807), Int.toNat_natCast, bz_app]
   rw [ih (by omega) _ (by simp only [List.length_append, List.length_singleton]; omega), drop_cons 0 hi, rowT]
   simp
theorem join_snoc {L : List (List UInt8)} (h : L ≠ []) (x sep : List UInt8) : Lib.join (L ++ [x]) sep = Lib.join L sep ++ (sep ++ x) := by
 cases L with
 | nil => exact absurd rfl h
 | cons y r => rw [List.cons_append, Lib.join_cons, Lib.join_cons]; simp [Lib.joinTail]
theorem join_take {L : List (List UInt8)} {i : Nat} (h0 : 0 < i) (hi : i < L.length) (sep : List UInt8) : Lib.join (L.take (i + 1)) sep = Lib.join (L.take i) sep ++ (sep ++ L.getD i []) := by
 rw [List.take_succ_eq_append_getElem hi, join_snoc (by intro e; have := congrArg List.length e; rw [List.length_take, List.length_nil] at this; omega), List.getD_eq_getElem?_getD, List.getElem?_eq_getElem hi]; rfl
theorem join_one0 {L : List (List UInt8)} (hi : 0 < L.length) (sep : List UInt8) : Lib.join (L.take (0 + 1)) sep = L.getD 0 [] := by
 cases L with
 | nil => simp at hi
 | cons x L => exact Lib.join_one _ _
theorem tailB (sep : List UInt8) (B : Nat) : ∀ L : List (List UInt8), (∀ x ∈ L, x.length ≤ B) → (Lib.joinTail sep L).length ≤ (B + sep.length) * L.length
 | [], _ => by simp [Lib.joinTail]
 | x :: L, h => by
  have h1 := tailB sep B L fun u hu => h u (List.mem_cons_of_mem _ hu)
  have h2 := h x (List.mem_cons_self ..)
  simp only [Lib.joinTail, List.map_cons, List.flatten_cons, List.length_append, List.length_cons, Nat.mul_succ] at h1 ⊢
  omega
theorem joinB_len (sep : List UInt8) (B : Nat) (L : List (List UInt8)) (h : ∀ x ∈ L, x.length ≤ B) : (Lib.join L sep).length ≤ (B + sep.length) * L.length := by
 cases L with
 | nil => simp [Lib.join_nil]
 | cons x L =>
  rw [Lib.join_cons, List.length_append, List.length_cons, Nat.mul_succ]
  have := tailB sep B L fun u hu => h u (List.mem_cons_of_mem _ hu)
  have := h x (List.mem_cons_self ..)
  omega
theorem joinT_len (sep : List UInt8) (B i : Nat) (L : List (List UInt8)) (h : ∀ x ∈ L, x.length ≤ B) : (Lib.join (L.take i) sep).length ≤ (B + sep.length) * L.length :=
 Nat.le_trans (joinB_len sep B _ fun x hx => h x (List.mem_of_mem_take hx)) (Nat.mul_le_mul_left _ (by rw [List.length_take]; omega))
def chunk (q : Nat) (d : List Int) (i : Nat) : List Int := (d.drop (i * q)).take q
def rowsL (n q : Nat) (t d : List Int) : List (List Cl) := (List.range n).map fun i => [.l t, .l (chunk q d i)]
theorem rowsL_len (n q : Nat) (t d : List Int) : (rowsL n q t d).length = n := by simp [rowsL]
theorem rowsL_succ (n q : Nat) (t d : List Int) : rowsL n q t d ++ [[.l t, .l (chunk q d n)]] = rowsL (n + 1) q t d := by simp [rowsL, List.range_succ]
theorem rowsL_at {n i : Nat} (q : Nat) (t d : List Int) (h : i < n) : (rowsL n q t d).getD i [] = [.l t, .l (chunk q d i)] := by
 rw [List.getD_eq_getElem?_getD, rowsL, List.getElem?_map, List.getElem?_range h]; rfl
theorem arr_split {n : Int} {t d : List Int} (h : arrOk (n :: t) d = true) : 0 ≤ n ∧ n ≤ 300 ∧ t.length ≤ 2 ∧ t.all dimOk = true ∧ d.all numOk = true ∧ d.length ≤ 300 ∧ (d.length : Int) = n * prod t ∧ 0 ≤ prod t := by
 obtain ⟨h1, h2, h3, h4, h5⟩ := arrOk_facts h
 rw [List.all_cons, Bool.and_eq_true] at h2
 have := prod_le t h2.2
 have hd : dimOk n = true := h2.1
 simp only [dimOk, Bool.and_eq_true, decide_eq_true_eq] at hd
 simp only [List.length_cons] at h1
 exact ⟨hd.1, hd.2, by omega, h2.2, h4, h3, h5, this.1⟩
theorem arr_rows {n : Nat} {t d : List Int} (h : arrOk ((n : Int) :: t) d = true) (h0 : 0 < n) : ∃ q : Nat, sizeOf t = (q : Int) ∧ q ≤ 300 ∧ d.length = n * q := by
 obtain ⟨_, _, h3, h4, _, h6, h7, h8⟩ := arr_split h
 obtain ⟨q, hq⟩ : ∃ q : Nat, prod t = (q : Int) := ⟨(prod t).toNat, by omega⟩
 rw [hq] at h7
 have h7 : d.length = n * q := by exact_mod_cast h7
 have hq3 : q ≤ 300 := by
  have : 1 * q ≤ n * q := Nat.mul_le_mul_right q h0
  omega
 refine ⟨q, ?_, hq3, h7⟩
 unfold sizeOf
 rw [cd_t (by simp only [h4, hq, Bool.and_eq_true, decide_eq_true_eq, and_true]; omega), hq]
theorem chunk_len {n q i : Nat} {d : List Int} (h : d.length = n * q) (hi : i < n) : (chunk q d i).length = q := by
 have : (i + 1) * q ≤ n * q := Nat.mul_le_mul_right q hi
 rw [Nat.succ_mul] at this
 rw [chunk, List.length_take, List.length_drop]; omega
theorem chunk_mem {q i : Nat} {d : List Int} {x : Int} (h : x ∈ chunk q d i) : x ∈ d := List.mem_of_mem_drop (List.mem_of_mem_take h)
theorem chunk_ok {n q i : Nat} {t d : List Int} (h : arrOk ((n : Int) :: t) d = true) (hq : sizeOf t = (q : Int)) (hd : d.length = n * q) (hi : i < n) : arrOk t (chunk q d i) = true := by
 obtain ⟨_, _, _, _, h5, _⟩ := arr_split h
 rw [arrOk, Bool.and_eq_true, decide_eq_true_eq, hq, chunk_len hd hi]
 exact ⟨rfl, List.all_eq_true.2 fun x hx => List.all_eq_true.1 h5 x (chunk_mem hx)⟩
theorem copyArr (a b : List Int) (ha : a.length ≤ 1000000) (hb : b.length ≤ 1000000) (R : Option Res) : impl_copyArray.g a b R = R := by
 simp only [impl_copyArray.e, impl_copyArray.b]
 rw [cd_t (by simp; omega), cd_t (by simp; omega)]
theorem rowsI (n : Nat) (t d : List Int) (h : arrOk ((n : Int) :: t) d = true) (R : List (List Cl) → Option Res) : impl_Rows.g ((n : Int) :: t) d R = R (rowsL n (sizeOf t).toNat t d) := by
 obtain ⟨h1, h2, h3, h4, h5, h6, h7, h8⟩ := arr_split h
 simp only [impl_Rows.e, impl_Rows.b, arrayOkI _ d (by omega : d.length ≤ 9223372036854775807), h, Bool.not_true, cond_false]
 rw [cd_f (by simp; omega), cd_t (by simp <;> omega), List.drop_succ_cons, List.drop_zero, sizeOfI]
 by_cases h0 : n = 0
 ·subst h0
  obtain ⟨m, hm, _⟩ := fuel_split 1 (by decide)
  rw [hm]
  simp only [impl_Rows.l0, impl_Rows.l0s]
  rw [cd_t (by simp <;> omega), cd_f (by simp)]; rfl
 ·obtain ⟨q, hq, hq3, hd⟩ := arr_rows h (by omega)
  rw [hq, Int.toNat_natCast]
  have := up0 (N := n) (P := fun m i => impl_Rows.l0 (q : Int) ((n : Int) :: t) d R m (i : Int) (rowsL i q t d) = R (rowsL n q t d)) (by omega) ?_ ?_ 0 (by omega)
  ·exact this
  ·intro m
   simp only [impl_Rows.l0, impl_Rows.l0s]
   rw [cd_t (by simp <;> omega), cd_f (by simp)]
  ·intro m i hi ih
   have e1 : (i + 1) * q ≤ n * q := Nat.mul_le_mul_right q hi
   rw [Nat.succ_mul] at e1
   have m1 : ((i : Int) * (q : Int)) = ((i * q : Nat) : Int) := (Int.natCast_mul i q).symm
   have m2 : (((i + 1 : Nat) : Int) * (q : Int)) = ((i * q + q : Nat) : Int) := by rw [← Nat.succ_mul]; exact (Int.natCast_mul (i + 1) q).symm
   simp only [impl_Rows.l0, impl_Rows.l0s, ixw (by omega : i < 9223372036854775807), m1, m2]
   rw [cd_t (by simp <;> omega), cd_t (by simp; omega), cd_t (by simp <;> omega), w64 (n := ((i * q : Nat) : Int)) (by omega), w64 (n := ((i * q + q : Nat) : Int)) (by omega)]
   simp only [Int.toNat_natCast, List.drop_succ_cons, List.drop_zero, Nat.add_sub_cancel_left]
   rw [cd_t (by simp; omega), copyArr _ _ (by omega) (by rw [List.length_take, List.length_drop]; omega), rowsL_len, cd_t (by simp; omega)]
   have := rowsL_succ i q t d
   rw [chunk] at this
   rw [this]
   exact ih
theorem rowsS (n : Nat) (t d : List Int) (h : arrOk ((n : Int) :: t) d = true) (R : List (List Cl) → Option Res) : spec_l3Rows.g ((n : Int) :: t) d R = R (rowsL n (sizeOf t).toNat t d) := by
 obtain ⟨h1, h2, h3, h4, h5, h6, h7, h8⟩ := arr_split h
 simp only [spec_l3Rows.e, spec_l3Rows.b]
 rw [cd_t (by simp <;> omega), List.drop_succ_cons, List.drop_zero, sizeOfS]
 by_cases h0 : n = 0
 ·subst h0
  obtain ⟨m, hm, _⟩ := fuel_split 1 (by decide)
  rw [hm]
  simp only [spec_l3Rows.l0, spec_l3Rows.l0s]
  rw [cd_t (by simp <;> omega), cd_f (by simp)]; rfl
 ·obtain ⟨q, hq, hq3, hd⟩ := arr_rows h (by omega)
  rw [hq, Int.toNat_natCast]
  have := up0 (N := n) (P := fun m i => spec_l3Rows.l0 (q : Int) ((n : Int) :: t) d R m (i : Int) (rowsL i q t d) = R (rowsL n q t d)) (by omega) ?_ ?_ 0 (by omega)
  ·exact this
  ·intro m
   simp only [spec_l3Rows.l0, spec_l3Rows.l0s]
   rw [cd_t (by simp <;> omega), cd_f (by simp)]
  ·intro m i hi ih
   have e1 : (i + 1) * q ≤ n * q := Nat.mul_le_mul_right q hi
   rw [Nat.succ_mul] at e1
   have m1 : ((i : Int) * (q : Int)) = ((i * q : Nat) : Int) := (Int.natCast_mul i q).symm
   simp only [spec_l3Rows.l0, spec_l3Rows.l0s, ixw (by omega : i < 9223372036854775807), m1]
   rw [cd_t (by simp <;> omega), cd_t (by simp; omega), cd_t (by simp <;> omega), w64 (n := ((i * q : Nat) : Int)) (by omega), show ((i * q : Nat) : Int) + (q : Int) = ((i * q + q : Nat) : Int) from rfl, w64 (n := ((i * q + q : Nat) : Int)) (by omega)]
   simp only [Int.toNat_natCast, List.drop_succ_cons, List.drop_zero, Nat.add_sub_cancel_left, List.nil_append]
   rw [cd_t (by simp; omega), cd_t (by simp; omega), cd_t (by rw [List.length_take, List.length_drop]; simp; omega), rowsL_len, cd_t (by simp; omega)]
   have := rowsL_succ i q t d
   rw [chunk] at this
   rw [this]
   exact ih
def padL (w : Nat) (x : Int) : List UInt8 := List.replicate (w - (numL x).length) 32 ++ numL x
def lineL (w : Nat) (c : List Int) : List UInt8 := Lib.join (c.map (padL w)) [32]
def fitW (w : Nat) (c : List Int) : Prop := w ≤ 1000 ∧ ∀ x ∈ c, numOk x = true ∧ (numL x).length ≤ w
theorem fitW.at {w : Nat} {c : List Int} (h : fitW w c) {i : Nat} (hi : i < c.length) : numOk (c.getD i 0) = true ∧ (numL (c.getD i 0)).length ≤ w := by
 rw [List.getD_eq_getElem?_getD, List.getElem?_eq_getElem hi]
 exact h.2 _ (List.getElem_mem hi)
theorem fitW.chunk {w q i : Nat} {d : List Int} (h : fitW w d) : fitW w (chunk q d i) := ⟨h.1, fun x hx => h.2 x (chunk_mem hx)⟩
theorem padL_len {w : Nat} {x : Int} (h : (numL x).length ≤ w) : (padL w x).length = w := by simp [padL]; omega
theorem lineL_len {w : Nat} {c : List Int} (h : fitW w c) (hl : c.length ≤ 300) : (lineL w c).length ≤ 300300 := by
 have := joinB_len [32] w (c.map (padL w)) (by
  intro x hx
  obtain ⟨y, hy, rfl⟩ := List.mem_map.1 hx
  rw [padL_len (h.2 y hy).2]; omega)
 rw [List.length_map] at this
 have h1 := h.1
 have : (w + 1) * c.length ≤ 1001 * 300 := Nat.mul_le_mul (by omega) hl
 simp only [lineL, List.length_singleton] at *
 omega
def lines2 (w n q : Nat) (d : List Int) : List UInt8 := Lib.join ((List.range n).map fun i => lineL w (chunk q d i)) [10]
theorem lines2_len {w n q : Nat} {d : List Int} (h : fitW w d) (hn : n ≤ 300) (hq : q ≤ 300) : (lines2 w n q d).length ≤ 100000000 := by
 have := joinB_len [10] 300300 ((List.range n).map fun i => lineL w (chunk q d i)) (by
  intro x hx
  obtain ⟨i, _, rfl⟩ := List.mem_map.1 hx
  exact lineL_len h.chunk (by rw [chunk, List.length_take]; omega))
 simp only [List.length_map, List.length_range, List.length_singleton] at this
 have : (300300 + 1) * n ≤ (300300 + 1) * 300 := Nat.mul_le_mul_left _ hn
 unfold lines2
 omega
theorem rep32 : ∀ n : Nat, Lib.repeatL [32] n = List.replicate n 32
 | 0 => rfl
 | n + 1 => by rw [Lib.repeatL, rep32 n, List.replicate_succ]; rfl
theorem repR (w k : Nat) (hk : k ≤ w) (hw : w ≤ 1000) (R : ByteArray → Option Res) : strings_Repeat.g (⟨#[32]⟩ : ByteArray) (IntKind.i64.wrap ((w : Int) - (k : Int))) R = R (bz (List.replicate (w - k) 32)) := by
 rw [w64 (by omega), show (w : Int) - (k : Int) = ((w - k : Nat) : Int) from by omega]
 unfold strings_Repeat.g repG
 rw [show (⟨#[32]⟩ : ByteArray) = bz [32] from rfl, bz_size, Int.toNat_natCast]
 rw [cd_t (by simp; omega)]
 unfold repB
 rw [bz_list, Int.toNat_natCast, rep32]; rfl
theorem padI (w : Nat) (x : Int) (h : (numL x).length ≤ w) : bz (List.replicate (w - (numL x).length) 32) ++ bz (numL x) = bz (padL w x) := bz_app _ _
theorem lineI (w : Nat) (c : List Int) (x6 x7 : Int) (x8 : List (List Cl)) (x9 : List ByteArray) (h : fitW w c) (hl : c.length ≤ 300) (k : List ByteArray → Option Res) :
 impl_lines.l2 (w : Int) x6 x7 c (c.length : Int) x8 x9 k fuel 0 [] = k (c.map fun x => bz (padL w x)) := by
 have h1 := h.1
 have := up0 (N := c.length) (P := fun n i => impl_lines.l2 (w : Int) x6 x7 c (c.length : Int) x8 x9 k n (i : Int) ((c.take i).map fun x => bz (padL w x)) = k (c.map fun x => bz (padL w x))) (by omega) ?_ ?_ 0 (by omega)
 ·exact this
 ·intro n; simp only [impl_lines.l2, impl_lines.l2s, ixe, cond_false, List.take_length]
 ·intro n i hi ih
  obtain ⟨a1, a2⟩ := h.at hi
  simp only [impl_lines.l2, impl_lines.l2s, ixl hi, ix0, Bool.and_self, cond_true, Int.toNat_natCast, showNumI, showN_ok a1, bz_size, ixw (by omega : i < 9223372036854775807)]
  rw [repR w _ a2 h1, bz_size, List.length_replicate, cd_t (by simp only [decide_eq_true_eq]; omega), List.length_map, cd_t (by simp; omega), padI w _ a2, map_snoc (fun x => bz (padL w x)) c 0 hi]
  exact ih
theorem linesI (w n : Nat) (t d : List Int) (h : arrOk ((n : Int) :: t) d = true) (hf : fitW w d) (R : ByteArray → Option Res) :
 impl_lines.g ((n : Int) :: t) d (w : Int) R = R (bz (lines2 w n (sizeOf t).toNat d)) := by
 obtain ⟨h1, h2, h3, h4, h5, h6, h7, h8⟩ := arr_split h
 simp only [impl_lines.e, impl_lines.b, rowsI n t d h, rowsL_len]
 generalize hq : (sizeOf t).toNat = q
 have hq3 : q ≤ 300 := by have := sizeOf_le t; omega
 have := up0 (N := n) (P := fun m i => ∀ k : List ByteArray → Option Res, impl_lines.l0 (w : Int) (n : Int) (rowsL n q t d) k m (i : Int) ((List.range i).map fun j => bz (lineL w (chunk q d j))) = k ((List.range n).map fun j => bz (lineL w (chunk q d j)))) (by omega) ?_ ?_ 0 (by omega)
 ·have e := this (fun y8 => strings_Join.g y8 (⟨#[10]⟩ : ByteArray) fun r9 => R r9)
  have e2 : (⟨#[10]⟩ : ByteArray) = bz [10] := rfl
  rw [e2] at e ⊢
  have e3 : ((List.range n).map fun j => bz (lineL w (chunk q d j))) = ((List.range n).map fun j => lineL w (chunk q d j)).map bz := by rw [List.map_map]; rfl
  rw [e3, joinR _ _ (by simp; omega) (by have := lines2_len (q := q) hf (by omega : n ≤ 300) hq3; unfold lines2 at this; omega)] at e
  exact e
 ·intro m k; simp only [impl_lines.l0, impl_lines.l0s, ixe, cond_false]
 ·intro m i hi ih k
  have hc : (chunk q d i).length ≤ 300 := by rw [chunk, List.length_take]; omega
  simp only [impl_lines.l0, impl_lines.l0s, ixl hi, rowsL_len, ix0, Bool.and_self, cond_true, Int.toNat_natCast, rowsL_at q t d hi, ixw (by omega : i < 9223372036854775807)]
  show impl_lines.l2 (w : Int) (n : Int) (i : Int) (chunk q d i) ((chunk q d i).length : Int) _ _ _ fuel 0 [] = _
  rw [lineI w _ _ _ _ _ hf.chunk hc, show (⟨#[32]⟩ : ByteArray) = bz [32] from rfl]
  have e3 : ((chunk q d i).map fun x => bz (padL w x)) = ((chunk q d i).map (padL w)).map bz := by rw [List.map_map]; rfl
  have := lineL_len hf.chunk hc
  rw [e3, joinR _ _ (by simp; omega) (by unfold lineL at this; omega), List.length_map, List.length_range, cd_t (by simp; omega)]
  have := ih k
  rw [List.range_succ, List.map_append] at this
  exact this
theorem l1MaxS (a b : Int) (R : Int → Option Res) : spec_l1Max.g a b R = R (if b < a then a else b) := by
 simp only [spec_l1Max.e, spec_l1Max.b]
 by_cases h : b < a <;> simp [h]
theorem wideS (d : List Int) (h : d.length ≤ 9223372036854775807) (R : Int → Option Res) : spec_ShowWide.g d R = R (if d.all numOk then (wideN d 0 : Int) else -1) := by
 simp only [spec_ShowWide.e, spec_ShowWide.b, numsS d h]
 cases ha : d.all numOk with
 | false => rfl
 | true =>
  simp only [Bool.not_true, cond_false, if_true]
  have := up0 (N := d.length) (P := fun n i => ∀ m : Nat, spec_ShowWide.l0 d R n (m : Int) (i : Int) = R (wideN (d.drop i) m : Int)) (by omega) ?_ ?_ 0 (by omega) 0
  ·simpa using this
  ·intro n m; simp only [spec_ShowWide.l0, spec_ShowWide.l0s, ixe, cond_false, List.drop_length, wideN]
  ·intro n i hi ih m
   simp only [spec_ShowWide.l0, spec_ShowWide.l0s, ixl hi, ix0, Bool.and_self, cond_true, digS _ (all_at ha hi), l1MaxS, bz_size, ixw (by omega : i < 9223372036854775807), Int.toNat_natCast]
   rw [drop_cons 0 hi, wideN, ← ih]
   congr 1
   generalize (numL (d.getD i 0)).length = q
   rcases Nat.le_total m q with h | h
   ·rw [Nat.max_eq_right h]; split <;> omega
   ·rw [Nat.max_eq_left h]; split <;> omega
theorem padS (w : Nat) (s : List UInt8) (x8 : List Int) (x10 : ByteArray) (x11 : Int) (hw : w ≤ 1000) (hs : s.length ≤ 1000) (k : ByteArray → Option Res) :
 spec_l16Line.l2 x8 (w : Int) x10 x11 k fuel (bz s) = k (bz (List.replicate (w - s.length) 32 ++ s)) := by
 have := up0 (N := w - s.length) (P := fun n i => spec_l16Line.l2 x8 (w : Int) x10 x11 k n (bz (List.replicate i 32 ++ s)) = k (bz (List.replicate (w - s.length) 32 ++ s))) (by omega) ?_ ?_ 0 (by omega)
 ·exact this
 ·intro n
  simp only [spec_l16Line.l2, spec_l16Line.l2s]
  rw [bz_size, List.length_append, List.length_replicate, cd_f (by simp only [decide_eq_false_iff_not]; omega)]
 ·intro n i hi ih
  simp only [spec_l16Line.l2, spec_l16Line.l2s]
  rw [bz_size, List.length_append, List.length_replicate, cd_t (by simp only [decide_eq_true_eq]; omega), cd_t (by simp only [decide_eq_true_eq]; omega), show (⟨#[32]⟩ : ByteArray) = bz [32] from rfl, bz_app]
  rw [List.replicate_succ] at ih
  exact ih
theorem lineS (w : Nat) (c : List Int) (h : fitW w c) (hl : c.length ≤ 300) (R : ByteArray → Option Res) : spec_l16Line.g c (w : Int) R = R (bz (lineL w c)) := by
 have h1 := h.1
 simp only [spec_l16Line.e, spec_l16Line.b]
 have hB : ∀ x ∈ c.map (padL w), x.length ≤ w := by
  intro x hx
  obtain ⟨y, hy, rfl⟩ := List.mem_map.1 hx
  rw [padL_len (h.2 y hy).2]; omega
 have bnd : ∀ i, (Lib.join ((c.map (padL w)).take i) [32]).length ≤ 301000 := fun i => by
  have := joinT_len [32] w i _ hB
  rw [List.length_map, List.length_singleton] at this
  have : (w + 1) * c.length ≤ 1001 * 300 := Nat.mul_le_mul (by omega) hl
  omega
 have := up0 (N := c.length) (P := fun n i => spec_l16Line.l0 c (w : Int) R n (bz (Lib.join ((c.map (padL w)).take i) [32])) (i : Int) = R (bz (lineL w c))) (by omega) ?_ ?_ 0 (by omega)
 ·exact this
 ·intro n; simp only [spec_l16Line.l0, spec_l16Line.l0s, ixe, cond_false]
  rw [List.take_of_length_le (by rw [List.length_map]; omega)]; rfl
 ·intro n i hi ih
  obtain ⟨a1, a2⟩ := h.at hi
  have hn := numLen a1
  have hb := bnd i
  have hg : (c.map (padL w)).getD i [] = padL w (c.getD i 0) := by
   rw [List.getD_eq_getElem?_getD, List.getD_eq_getElem?_getD, List.getElem?_map, List.getElem?_eq_getElem hi]; rfl
  simp only [spec_l16Line.l0, spec_l16Line.l0s, ixl hi, ix0, Bool.and_self, cond_true, Int.toNat_natCast, digS _ a1, ixw (by omega : i < 9223372036854775807)]
  rw [padS w _ _ _ _ h1 (by omega)]
  show (bif decide ((0 : Int) < (i : Int)) then _ else _) = _
  have hp := padL_len a2
  unfold padL at hp
  by_cases h0 : i = 0
  ·subst h0
   rw [cd_f (by simp), bz_size, bz_size, hp, cd_t (by simp only [decide_eq_true_eq]; omega), bz_app]
   rw [join_one0 (by rw [List.length_map]; exact hi), hg] at ih
   exact ih
  ·rw [cd_t (by simp only [decide_eq_true_eq]; omega), bz_size, cd_t (by simp only [decide_eq_true_eq]; omega), show (⟨#[32]⟩ : ByteArray) = bz [32] from rfl, bz_app, bz_size, bz_size, hp, List.length_append, List.length_singleton, cd_t (by simp only [decide_eq_true_eq]; omega), bz_app]
   rw [join_take (by omega) (by rw [List.length_map]; exact hi), hg] at ih
   rw [List.append_assoc]
   exact ih
theorem parts2S (w n m : Nat) (p : Int) (d : List Int) (h : arrOk [(n : Int), p] d = true) (hf : fitW w d) (R : ByteArray → Option Res) :
 spec_l16Parts.gn (m + 1) [(n : Int), p] d (w : Int) R = R (bz (lines2 w n (sizeOf [p]).toNat d)) := by
 obtain ⟨h1, h2, h3, h4, h5, h6, h7, h8⟩ := arr_split h
 rw [spec_l16Parts.gn_succ]
 unfold spec_l16Parts.g
 rw [rowsS n [p] d h]
 generalize hq : (sizeOf [p]).toNat = q
 have hq3 : q ≤ 300 := by have := sizeOf_le [p]; omega
 have hc : ∀ i, (chunk q d i).length ≤ 300 := fun i => by rw [chunk, List.length_take]; omega
 let L := (List.range n).map fun i => lineL w (chunk q d i)
 have hL : L.length = n := by simp [L]
 have hB : ∀ x ∈ L, x.length ≤ 300300 := by
  intro x hx
  obtain ⟨i, _, rfl⟩ := List.mem_map.1 hx
  exact lineL_len hf.chunk (hc i)
 have bnd : ∀ i, (Lib.join (L.take i) [10]).length ≤ 100000000 := fun i => by
  have := joinT_len [10] 300300 i _ hB
  rw [hL, List.length_singleton] at this
  have : (300300 + 1) * n ≤ (300300 + 1) * 300 := Nat.mul_le_mul_left _ (by omega)
  omega
 generalize hz : spec_l16Parts.gn m = z
 have := up0 (N := n) (P := fun k i => spec_l16Parts.l0 z (w : Int) (rowsL n q [p] d) [(n : Int), p] d R k (bz (Lib.join (L.take i) [10])) (i : Int) = R (bz (lines2 w n q d))) (by omega) ?_ ?_ 0 (by omega)
 ·subst hz; exact this
 ·intro k; simp only [spec_l16Parts.l0, spec_l16Parts.l0s, rowsL_len, ixe, cond_false]
  rw [List.take_of_length_le (by omega)]; rfl
 ·intro k i hi ih
  have hb := bnd i
  have hl := lineL_len hf.chunk (hc i)
  have hg : L.getD i [] = lineL w (chunk q d i) := by
   rw [List.getD_eq_getElem?_getD]; simp only [L]; rw [List.getElem?_map, List.getElem?_range hi]; rfl
  have e2 : ((([(n : Int), p] : List Int).length : Int) == 2) = true := rfl
  simp only [spec_l16Parts.l0, spec_l16Parts.l0s, rowsL_len, ixl hi, ix0, Bool.and_self, cond_true, Int.toNat_natCast, rowsL_at q [p] d hi, e2, ixw (by omega : i < 9223372036854775807)]
  have el : ∀ R, spec_l16Line.g (Cl.toL (([.l [p], .l (chunk q d i)] : List Cl).getD 1 (.i 0))) (w : Int) R = R (bz (lineL w (chunk q d i))) := fun R => lineS w (chunk q d i) hf.chunk (hc i) R
  simp only [el]
  by_cases h0 : i = 0
  ·subst h0
   rw [cd_f (by simp), bz_size, bz_size, cd_t (by simp only [decide_eq_true_eq]; omega), bz_app]
   rw [join_one0 (by rw [hL]; exact hi), hg] at ih
   exact ih
  ·rw [cd_t (by simp only [decide_eq_true_eq]; omega), bz_size, cd_t (by simp only [decide_eq_true_eq]; omega), show (⟨#[10]⟩ : ByteArray) = bz [10] from rfl, bz_app, bz_size, bz_size, List.length_append, List.length_singleton, cd_t (by simp only [decide_eq_true_eq]; omega), bz_app]
   rw [join_take (by omega) (by rw [hL]; exact hi), hg] at ih
   rw [List.append_assoc]
   exact ih
def lines3 (w n q : Nat) (t d : List Int) : List UInt8 := Lib.join ((List.range n).map fun i => lines2 w (t.headD 0).toNat (sizeOf t.tail).toNat (chunk q d i)) [10, 10]
theorem lines3_len {w n q : Nat} {t d : List Int} (h : fitW w d) (hn : n ≤ 300) (ht : t.headD 0 ≤ 300) : ∀ i, (Lib.join (((List.range n).map fun i => lines2 w (t.headD 0).toNat (sizeOf t.tail).toNat (chunk q d i)).take i) [10, 10]).length ≤ 100000000000 := fun i => by
 have := joinT_len [10, 10] 100000000 i ((List.range n).map fun i => lines2 w (t.headD 0).toNat (sizeOf t.tail).toNat (chunk q d i)) (by
  intro x hx
  obtain ⟨i, _, rfl⟩ := List.mem_map.1 hx
  exact lines2_len h.chunk (by omega) (by have := sizeOf_le t.tail; omega))
 simp only [List.length_map, List.length_range, List.length_cons, List.length_nil] at this
 have : (100000000 + (0 + 1 + 1)) * n ≤ (100000000 + (0 + 1 + 1)) * 300 := Nat.mul_le_mul_left _ hn
 omega
theorem parts3S (w n m : Nat) (p r : Int) (d : List Int) (h : arrOk [(n : Int), p, r] d = true) (hf : fitW w d) (R : ByteArray → Option Res) :
 spec_l16Parts.gn (m + 2) [(n : Int), p, r] d (w : Int) R = R (bz (lines3 w n (sizeOf [p, r]).toNat [p, r] d)) := by
 obtain ⟨h1, h2, h3, h4, h5, h6, h7, h8⟩ := arr_split h
 have hp0 : 0 ≤ p ∧ p ≤ 300 := by
  simp only [List.all_cons, Bool.and_eq_true, dimOk, decide_eq_true_eq] at h4
  exact h4.1
 rw [spec_l16Parts.gn_succ]
 unfold spec_l16Parts.g
 rw [rowsS n [p, r] d h]
 have hchk : ∀ i, i < n → arrOk [p, r] (chunk (sizeOf [p, r]).toNat d i) = true := fun i hi => by
  obtain ⟨q, e1, e2, e3⟩ := arr_rows h (by omega)
  rw [e1, Int.toNat_natCast]
  exact chunk_ok h e1 e3 hi
 obtain ⟨pn, rfl⟩ : ∃ pn : Nat, p = pn := ⟨p.toNat, by omega⟩
 generalize hq : (sizeOf [(pn : Int), r]).toNat = q at hchk ⊢
 let L := (List.range n).map fun i => lines2 w pn (sizeOf [r]).toNat (chunk q d i)
 have hL : L.length = n := by simp [L]
 have hlen := fun i => lines3_len (w := w) (n := n) (q := q) (t := [(pn : Int), r]) hf (by omega) hp0.2 i
 have bnd : ∀ i, (Lib.join (L.take i) [10, 10]).length ≤ 100000000000 := fun i => hlen i
 generalize hz : spec_l16Parts.gn (m + 1) = z
 have hz' : ∀ i, i < n → ∀ R, z [(pn : Int), r] (chunk q d i) (w : Int) R = R (bz (lines2 w pn (sizeOf [r]).toNat (chunk q d i))) := fun i hi R => by
  rw [← hz]; exact parts2S w pn m r (chunk q d i) (hchk i hi) hf.chunk R
 have := up0 (N := n) (P := fun k i => spec_l16Parts.l0 z (w : Int) (rowsL n q [(pn : Int), r] d) [(n : Int), (pn : Int), r] d R k (bz (Lib.join (L.take i) [10, 10])) (i : Int) = R (bz (lines3 w n q [(pn : Int), r] d))) (by omega) ?_ ?_ 0 (by omega)
 ·subst hz; exact this
 ·intro k; simp only [spec_l16Parts.l0, spec_l16Parts.l0s, rowsL_len, ixe, cond_false]
  rw [List.take_of_length_le (by omega)]; rfl
 ·intro k i hi ih
  have hb := bnd i
  have hl := lines2_len (w := w) (n := pn) (q := (sizeOf [r]).toNat) (d := chunk q d i) hf.chunk (by omega) (by have := sizeOf_le [r]; omega)
  have hg : L.getD i [] = lines2 w pn (sizeOf [r]).toNat (chunk q d i) := by
   rw [List.getD_eq_getElem?_getD]; simp only [L]; rw [List.getElem?_map, List.getElem?_range hi]; rfl
  have e2 : ((([(n : Int), (pn : Int), r] : List Int).length : Int) == 2) = false := rfl
  simp only [spec_l16Parts.l0, spec_l16Parts.l0s, rowsL_len, ixl hi, ix0, Bool.and_self, cond_true, cond_false, Int.toNat_natCast, rowsL_at q [(pn : Int), r] d hi, e2, ixw (by omega : i < 9223372036854775807)]
  have el : ∀ R, z (Cl.toL (([.l [(pn : Int), r], .l (chunk q d i)] : List Cl).getD 0 (.i 0))) (Cl.toL (([.l [(pn : Int), r], .l (chunk q d i)] : List Cl).getD 1 (.i 0))) (w : Int) R = R (bz (lines2 w pn (sizeOf [r]).toNat (chunk q d i))) := fun R => hz' i hi R
  simp only [el]
  by_cases h0 : i = 0
  ·subst h0
   rw [cd_f (by simp), cd_f (by simp), bz_size, bz_size, cd_t (by simp only [decide_eq_true_eq]; omega), bz_app]
   rw [join_one0 (by rw [hL]; exact hi), hg] at ih
   exact ih
  ·rw [cd_t (by simp only [decide_eq_true_eq]; omega), bz_size, cd_t (by simp only [decide_eq_true_eq]; omega), show (⟨#[10]⟩ : ByteArray) = bz [10] from rfl, cd_t (by simp only [decide_eq_true_eq]; omega), bz_app, bz_size, List.length_append, List.length_singleton, cd_t (by simp only [decide_eq_true_eq]; omega), bz_app, bz_size, bz_size]
   rw [List.length_append, List.length_append, List.length_singleton, cd_t (by simp only [decide_eq_true_eq]; omega), bz_app]
   rw [join_take (by omega) (by rw [hL]; exact hi), hg] at ih
   rw [List.append_assoc, List.append_assoc]
   exact ih
theorem wide_ge : ∀ (d : List Int) (m : Nat), m ≤ wideN d m ∧ ∀ x ∈ d, (numL x).length ≤ wideN d m
 | [], m => ⟨Nat.le_refl _, fun x hx => by cases hx⟩
 | y :: l, m => by
  obtain ⟨h1, h2⟩ := wide_ge l (max m (numL y).length)
  rw [wideN]
  refine ⟨by omega, fun x hx => ?_⟩
  rcases List.mem_cons.1 hx with rfl | hx
  ·omega
  ·exact h2 x hx
theorem wide_le : ∀ (d : List Int) (m : Nat), d.all numOk = true → m ≤ 14 → wideN d m ≤ 14
 | [], m, _, h => h
 | y :: l, m, ha, h => by
  rw [List.all_cons, Bool.and_eq_true] at ha
  have := numLen ha.1
  rw [wideN]
  exact wide_le l _ ha.2 (by omega)
theorem wide_fit (d : List Int) (h : d.all numOk = true) : fitW (wideN d 0) d := by
 have := wide_le d 0 h (by omega)
 exact ⟨by omega, fun x hx => ⟨List.all_eq_true.1 h x hx, (wide_ge d 0).2 x hx⟩⟩
/-- what is shown of an array -/
def showL : List Int → List Int → List UInt8
 | [n, p], d => lines2 (wideN d 0) n.toNat (sizeOf [p]).toNat d
 | [n, p, r], d => lines3 (wideN d 0) n.toNat (sizeOf [p, r]).toNat [p, r] d
 | _, d => rowL d
theorem dim0 {n : Int} {t d : List Int} (h : arrOk (n :: t) d = true) : ∃ m : Nat, n = m ∧ m ≤ 300 := by
 obtain ⟨h1, h2, _⟩ := arr_split h
 exact ⟨n.toNat, by omega, by omega⟩
theorem showS (s d : List Int) (hd : d.length ≤ 1048576) (R : ByteArray → Option Res) : spec_Show.g s d R = R (bz (if arrOk s d then showL s d else [])) := by
 simp only [spec_Show.e, spec_Show.b, arrayOkS s d (by omega : d.length ≤ 9223372036854775807)]
 cases h : arrOk s d with
 | false => rfl
 | true =>
  obtain ⟨f1, f2, f3, f4, f5⟩ := arrOk_facts h
  simp only [Bool.not_true, cond_false, if_true]
  match s, f1, h with
  | [], _, h => rw [cd_t (by simp), rowS d (by omega), if_pos f4]; rfl
  | [n], _, h => rw [cd_t (by simp), rowS d (by omega), if_pos f4]; rfl
  | [n, p], _, h =>
   obtain ⟨m, rfl, hm⟩ := dim0 h
   rw [cd_f (by simp), wideS d (by omega), if_pos f4, spec_l16Parts.Ge]
   obtain ⟨k, hk, _⟩ := fuel_split 1 (by decide)
   rw [hk, parts2S _ m k p d h (wide_fit d f4)]; rfl
  | [n, p, r], _, h =>
   obtain ⟨m, rfl, hm⟩ := dim0 h
   rw [cd_f (by simp), wideS d (by omega), if_pos f4, spec_l16Parts.Ge]
   obtain ⟨k, hk, _⟩ := fuel_split 2 (by decide)
   rw [hk, parts3S _ m k p r d h (wide_fit d f4)]; rfl
  | _ :: _ :: _ :: _ :: _, f1, _ => simp at f1
theorem showI (s d : List Int) (hd : d.length ≤ 1048576) (R : ByteArray → Option Res) : impl_Show.g s d R = R (bz (if arrOk s d then showL s d else [])) := by
 simp only [impl_Show.e, impl_Show.b, arrayOkI s d (by omega : d.length ≤ 9223372036854775807)]
 cases h : arrOk s d with
 | false => rfl
 | true =>
  obtain ⟨f1, f2, f3, f4, f5⟩ := arrOk_facts h
  simp only [Bool.not_true, cond_false, if_true, wideI d (by omega : d.length ≤ 9223372036854775807), if_pos f4]
  match s, f1, h with
  | [], _, h => rw [cd_f (by simp), cd_f (by simp), rowI d (by omega), if_pos f4]; rfl
  | [n], _, h => rw [cd_f (by simp), cd_f (by simp), rowI d (by omega), if_pos f4]; rfl
  | [n, p], _, h =>
   obtain ⟨m, rfl, hm⟩ := dim0 h
   rw [cd_t (by simp), linesI _ m [p] d h (wide_fit d f4)]; rfl
  | [n, p, r], _, h =>
   obtain ⟨m, rfl, hm⟩ := dim0 h
   rw [cd_f (by simp), cd_t (by simp), rowsI m [p, r] d h, rowsL_len]
   have hf := wide_fit d f4
   obtain ⟨g1, g2, g3, g4, g5, g6, g7, g8⟩ := arr_split h
   have hp0 : 0 ≤ p ∧ p ≤ 300 := by
    simp only [List.all_cons, Bool.and_eq_true, dimOk, decide_eq_true_eq] at g4
    exact g4.1
   have hchk : ∀ i, i < m → arrOk [p, r] (chunk (sizeOf [p, r]).toNat d i) = true := fun i hi => by
    obtain ⟨q, e1, e2, e3⟩ := arr_rows h (by omega)
    rw [e1, Int.toNat_natCast]
    exact chunk_ok h e1 e3 hi
   obtain ⟨pn, rfl⟩ : ∃ pn : Nat, p = pn := ⟨p.toNat, by omega⟩
   show impl_Show.l1 _ _ _ _ fuel 0 [] = R (bz (lines3 (wideN d 0) m (sizeOf [(pn : Int), r]).toNat [(pn : Int), r] d))
   generalize hq : (sizeOf [(pn : Int), r]).toNat = q at hchk ⊢
   generalize hw : wideN d 0 = w at hf ⊢
   have hlen := lines3_len (w := w) (n := m) (q := q) (t := [(pn : Int), r]) hf (by omega) hp0.2 m
   rw [List.take_of_length_le (by simp)] at hlen
   have := up0 (N := m) (P := fun k i => ∀ K : List ByteArray → Option Res, impl_Show.l1 (w : Int) (m : Int) (rowsL m q [(pn : Int), r] d) K k (i : Int) ((List.range i).map fun j => bz (lines2 w pn (sizeOf [r]).toNat (chunk q d j))) = K ((List.range m).map fun j => bz (lines2 w pn (sizeOf [r]).toNat (chunk q d j)))) (by omega) ?_ ?_ 0 (by omega)
   ·have e := this (fun y8 => strings_Join.g y8 (⟨#[10, 10]⟩ : ByteArray) fun r9 => R r9)
    have e2 : (⟨#[10, 10]⟩ : ByteArray) = bz [10, 10] := rfl
    rw [e2] at e ⊢
    have e3 : ((List.range m).map fun j => bz (lines2 w pn (sizeOf [r]).toNat (chunk q d j))) = ((List.range m).map fun j => lines2 w pn (sizeOf [r]).toNat (chunk q d j)).map bz := by rw [List.map_map]; rfl
    rw [e3, joinR _ _ (by simp; omega) (by exact Nat.le_trans hlen (by omega))] at e
    exact e
   ·intro k K; simp only [impl_Show.l1, impl_Show.l1s, ixe, cond_false]
   ·intro k i hi ih K
    simp only [impl_Show.l1, impl_Show.l1s, ixl hi, rowsL_len, ix0, Bool.and_self, cond_true, Int.toNat_natCast, rowsL_at q [(pn : Int), r] d hi, ixw (by omega : i < 9223372036854775807)]
    show impl_lines.g [(pn : Int), r] (chunk q d i) (w : Int) _ = _
    rw [linesI w pn [r] _ (hchk i hi) hf.chunk, List.length_map, List.length_range, cd_t (by simp only [decide_eq_true_eq]; omega)]
    have := ih K
    rw [List.range_succ, List.map_append] at this
    exact this
  | _ :: _ :: _ :: _ :: _, f1, _ => simp at f1
theorem eqArray (a b : List Int) (h : a.length ≤ 9223372036854775807) (h2 : b.length ≤ 9223372036854775807) (R : Bool → Option Res) : laws_eqArray.g a b a b R = R true := by
 simp only [laws_eqArray.e, laws_eqArray.b, eqIntS a h, eqIntS b h2, Bool.not_true, cond_false]
theorem szIntS (a : List Int) (n : Int) (hn : 0 ≤ n ∧ n ≤ 1048576) (h : a.length ≤ maxLen) (R : Int → Option Res) : laws_szIntS.g a n R = R (if (a.length : Int) ≤ n then n - a.length else -1) := by
 have hm : maxLen = 9223372036854775807 := by decide
 simp only [laws_szIntS.e, laws_szIntS.b]
 rw [w64 (by omega)]
 by_cases h1 : n - (a.length : Int) < 0
 ·rw [if_neg (by omega)]; simp [h1]
 ·rw [if_pos (by omega)]; simp [h1]
theorem szArray (a b : List Int) (ha : a.length ≤ maxLen) (hb : b.length ≤ maxLen) : ∃ y : Int, (0 ≤ y → a.length ≤ 1048576 ∧ b.length ≤ 1048576) ∧ ∀ R, laws_szArray.g a b 1048576 R = R y := by
 simp only [laws_szArray.e, laws_szArray.b]
 by_cases h1 : (a.length : Int) ≤ 1048576
 ·by_cases h2 : (b.length : Int) ≤ 1048576 - a.length
  ·refine ⟨1048576 - a.length - b.length, by omega, fun R => ?_⟩
   rw [szIntS a 1048576 (by omega) ha, if_pos h1]
   simp only [show decide ((1048576 : Int) - a.length < 0) = false by simp; omega, cond_false]
   rw [szIntS b _ (by omega) hb, if_pos h2]
   simp only [show decide ((1048576 : Int) - a.length - b.length < 0) = false by simp; omega, cond_false]
  ·refine ⟨-1, by omega, fun R => ?_⟩
   rw [szIntS a 1048576 (by omega) ha, if_pos h1]
   simp only [show decide ((1048576 : Int) - a.length < 0) = false by simp; omega, cond_false]
   rw [szIntS b _ (by omega) hb, if_neg h2]
   rfl
 ·refine ⟨-1, by omega, fun R => ?_⟩
  rw [szIntS a 1048576 (by omega) ha, if_neg h1]; rfl
theorem toArray (a b : List Int) (ha : a.length ≤ 1048576) (hb : b.length ≤ 1048576) (R : List Int → List Int → Option Res) : laws_toArray.g a b R = R a b := by
 simp only [laws_toArray.e, laws_toArray.b, toIntS a ha, toIntS b hb]
theorem lawFnExactShow (s d : List Int) (hs : wfQ [.int .i64] (.ints s)) (hd : wfQ [.int .i64] (.ints d)) (R : Bool → Option Res) : laws_FnExactShow.g s d R = R true := by
 simp only [laws_FnExactShow.e, laws_FnExactShow.b]
 obtain ⟨y, h1, h2⟩ := szArray s d hs.1 hd.1
 rw [h2]
 by_cases h : y < 0
 ·simp [h]
 obtain ⟨l1, l2⟩ := h1 (by omega)
 simp only [h, decide_false, cond_false, toArray s d l1 l2, showS s d l2, showI s d l2, beqL, eqArray s d (by omega) (by omega), Bool.not_true]
end Go.Tv.F
