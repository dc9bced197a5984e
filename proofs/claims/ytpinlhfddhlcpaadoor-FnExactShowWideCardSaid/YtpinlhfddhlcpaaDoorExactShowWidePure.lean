/- The pure law about these functions. It holds without condition. -/
import Derived.Test.YtpinlhfddhlcpaaDoorExactShowWideF
set_option linter.unusedVariables false
set_option linter.unusedSectionVars false
set_option linter.unusedSimpArgs false
set_option linter.unnecessarySimpa false
set_option maxRecDepth 100000
set_option autoImplicit false
namespace Go.Tv.F
open Go Go.Tv
theorem toIntS (a : List Int) (h : a.length ≤ 1048576) (R : List Int → Option Res) : laws_toIntS.g a R = R a := by
 have e1 : decide (0 ≤ (a.length : Int)) = true := by simp
 have e2 : decide ((a.length : Int) * 8 ≤ 140737488355328) = true := by simp; omega
 simp only [laws_toIntS.e, laws_toIntS.b, e1, e2, decide_true, Bool.and_self, cond_true]
 refine up0 (N := a.length) (P := fun n i => ∀ l : List Int, l.length = a.length → (∀ j, j < i → l[j]? = a[j]?) → laws_toIntS.l0 a R n (i : Int) l = R a) (by omega) ?_ ?_ 0 (by omega) _ (by simp) (fun j hj => by omega)
 ·intro n l hl hp
  simp only [laws_toIntS.l0, laws_toIntS.l0s, ixe, cond_false]
  rw [list_eq hl (fun j hj => hp j (by omega))]
 ·intro n i hi ih l hl hp
  have hi2 : decide ((i : Int) < (l.length : Int)) = true := by simp; omega
  simp only [laws_toIntS.l0, laws_toIntS.l0s, ixl hi, ix0, hi2, Bool.and_self, cond_true, ixw (by omega : i < 9223372036854775807), Int.toNat_natCast]
  exact ih _ (by simp [hl]) (set_pre hl hi (getD_lt 0 hi) hp)
theorem eqIntS (a : List Int) (h : a.length ≤ 9223372036854775807) (R : Bool → Option Res) : laws_eqIntS.g a a R = R true := by
 simp only [laws_eqIntS.e, laws_eqIntS.b, bne_self_eq_false, cond_false]
 refine up0 (N := a.length) (P := fun n i => laws_eqIntS.l0 a a (R true) R n (i : Int) = R true) (by omega) ?_ ?_ 0 (by omega)
 ·intro n; simp only [laws_eqIntS.l0, laws_eqIntS.l0s, ixe, cond_false]
 ·intro n i hi ih
  simp only [laws_eqIntS.l0, laws_eqIntS.l0s, ixl hi, ix0, Bool.and_self, cond_true, bne_self_eq_false, cond_false, ixw (by omega : i < 9223372036854775807)]
  exact ih
def numOk (x : Int) : Bool := decide (-1000000000000 ≤ x) && decide (x ≤ 1000000000000)
theorem within (x a b : Int) (R : Bool → Option Res) : impl_within.g x a b R = R (decide (a ≤ x) && decide (x ≤ b)) := by
 simp only [impl_within.e, impl_within.b]; cases decide (a ≤ x) <;> rfl
theorem l1In (x a b : Int) (R : Bool → Option Res) : spec_l1In.g x a b R = R (decide (a ≤ x) && decide (x ≤ b)) := by
 simp only [spec_l1In.e, spec_l1In.b]; cases decide (a ≤ x) <;> rfl
theorem numOkI (x : Int) (R : Bool → Option Res) : impl_NumOk.g x R = R (numOk x) := by simp only [impl_NumOk.e, impl_NumOk.b, within, numOk]
theorem numOkS (x : Int) (R : Bool → Option Res) : spec_NumOk.g x R = R (numOk x) := by simp only [spec_NumOk.e, spec_NumOk.b, l1In, numOk]
/-- the first place from i on at which something holds; -1: none -/
def idx {α : Type} (f : α → Bool) : List α → Int → Int
 | [], _ => -1
 | x :: l, i => bif f x then i else idx f l (i + 1)
theorem idx_any {α : Type} (f : α → Bool) (l : List α) : ∀ i : Int, 0 ≤ i → decide (0 ≤ idx f l i) = l.any f := by
 induction l with
 | nil => intro i _; rfl
 | cons x l ih =>
  intro i hi
  cases hf : f x with
  | true => simp [idx, hf, hi]
  | false => simpa [idx, hf] using ih (i + 1) (by omega)
/-- a string of bytes -/
def bz (l : List UInt8) : ByteArray := ⟨l.toArray⟩
theorem bz_app (a b : List UInt8) : bz a ++ bz b = bz (a ++ b) := by
 apply ByteArray.ext
 simp [bz, ByteArray.data_append]
theorem bz_size (a : List UInt8) : (bz a).size = a.length := by simp [bz, ByteArray.size]
/-- a number's text -/
def numL (x : Int) : List UInt8 := if x < 0 then 95 :: Lib.decDigits x.natAbs else Lib.decDigits x.toNat
theorem decLen : ∀ (k n : Nat), n < 10 ^ (k + 1) → (Lib.decDigits n).length ≤ k + 1
 | 0, n, h => by rw [Lib.decDigits, dif_pos (by omega)]; simp
 | k + 1, n, h => by
  rw [Lib.decDigits]
  split
  ·simp
  ·rw [List.length_append]
   have := decLen k (n / 10) (by rw [Nat.div_lt_iff_lt_mul (by omega)]; rw [Nat.pow_succ] at h; omega)
   simp; omega
theorem numOk_b {x : Int} (h : numOk x = true) : -1000000000000 ≤ x ∧ x ≤ 1000000000000 := by
 simp only [numOk, Bool.and_eq_true, decide_eq_true_eq] at h
 omega
theorem digB (m : Nat) : strOf ([IntKind.u8.wrap (IntKind.i64.wrap (48 + ((m : Int).tmod 10)))] : List Int) = bz [UInt8.ofNat (48 + m % 10)] := by
 rw [Int.tmod_eq_emod_of_nonneg (by omega), w64 (by omega), IntKind.wrap_u8]
 have : ((48 + (m : Int) % 10) % 256) = ((48 + m % 10 : Nat) : Int) := by omega
 rw [this]; rfl
theorem digLoop (k : ByteArray → Option Res) : ∀ (n m : Nat) (acc : List UInt8), m < n → m ≤ 10000000000000 → acc.length + m ≤ 4000000000000000000 →
 spec_l8Digits.l0 k n (m : Int) (bz acc) = k (bz ((if m = 0 then [] else Lib.decDigits m) ++ acc))
 | 0, m, acc, h, _, _ => by omega
 | n + 1, m, acc, h, hm, ha => by
  simp only [spec_l8Digits.l0, spec_l8Digits.l0s]
  by_cases h0 : m = 0
  ·subst h0
   rw [cd_f (by simp), if_pos rfl]; rfl
  ·rw [cd_t (by simp; omega), digB, bz_size, bz_size, cd_t (by simp; omega), bz_app, Int.tdiv_eq_ediv_of_nonneg (by omega), w64 (by omega)]
   have e : ((m : Int) / 10) = ((m / 10 : Nat) : Int) := by omega
   rw [e, digLoop k n (m / 10) _ (by omega) (by omega) (by simp; omega), if_neg h0]
   congr 2
   by_cases h1 : m < 10
   ·rw [if_pos (by omega), Lib.decDigits, dif_pos h1]
    rw [Nat.mod_eq_of_lt h1]; rfl
   ·rw [if_neg (by omega)]
    conv => rhs; rw [Lib.decDigits, dif_neg h1]
    simp
theorem digG (n : Nat) (x : Int) (h : numOk x = true) (R : ByteArray → Option Res) : spec_l8Digits.gn (n + 2) x R = R (bz (numL x)) := by
 have hb := numOk_b h
 have pos : ∀ (n : Nat) (m : Nat), m ≤ 10000000000000 → ∀ R : ByteArray → Option Res, spec_l8Digits.gn (n + 1) (m : Int) R = R (bz (Lib.decDigits m)) := by
  intro n m hm R
  rw [spec_l8Digits.gn_succ]
  unfold spec_l8Digits.g
  rw [cd_f (by simp)]
  by_cases h0 : m = 0
  ·subst h0
   rw [cd_t (by simp)]
   have : Lib.decDigits 0 = [48] := by rw [Lib.decDigits, dif_pos (by omega)]; rfl
   rw [this]; rfl
  ·rw [cd_f (by simp; omega)]
   have := digLoop R fuel m [] (by rw [fuel_eq]; omega) hm (by simp; omega)
   rw [if_neg h0, List.append_nil] at this
   exact this
 unfold numL
 by_cases hx : x < 0
 ·rw [if_pos hx, spec_l8Digits.gn_succ]
  unfold spec_l8Digits.g
  rw [cd_t (by simpa using hx), w64 (by omega)]
  have e : (0 - x) = (x.natAbs : Int) := by omega
  show spec_l8Digits.gn (n + 1) (0 - x) _ = _
  rw [e, pos n _ (by omega), bz_size, cd_t (by have := decLen 12 x.natAbs (by omega); simp; omega)]
  have : (⟨#[95]⟩ : ByteArray) = bz [95] := rfl
  rw [this, bz_app]; rfl
 ·rw [if_neg hx]
  obtain ⟨m, rfl⟩ : ∃ m : Nat, x = m := ⟨x.toNat, by omega⟩
  rw [pos (n + 1) m (by omega)]; rfl
theorem digS (x : Int) (h : numOk x = true) (R : ByteArray → Option Res) : spec_l8Digits.G x R = R (bz (numL x)) := by
 obtain ⟨m, hm, _⟩ := fuel_split 2 (by decide)
 rw [spec_l8Digits.Ge, hm, digG m x h]
/-- what is shown -/
def showN (x : Int) : List UInt8 := if numOk x then numL x else []
theorem itoaNeg {x : Int} (h : x < 0) : Lib.itoa (0 - x) = Lib.decDigits x.natAbs := by
 unfold Lib.itoa; rw [if_neg (by omega)]; congr 1; omega
theorem itoaPos {x : Int} (h : ¬ x < 0) : Lib.itoa x = Lib.decDigits x.toNat := by
 unfold Lib.itoa; rw [if_neg h]
theorem itoaR (x : Int) (h : -9223372036854775808 ≤ x ∧ x ≤ 9223372036854775807) (R : ByteArray → Option Res) : strconv_Itoa.g x R = R (bz (Lib.itoa x)) := by
 unfold strconv_Itoa.g itoaG
 rw [cd_t (by simp; omega)]; rfl
theorem showNumI (x : Int) (R : ByteArray → Option Res) : impl_ShowNum.g x R = R (bz (showN x)) := by
 simp only [impl_ShowNum.e, impl_ShowNum.b, numOkI, showN]
 cases h : numOk x with
 | false => rfl
 | true =>
  have hb := numOk_b h
  simp only [Bool.not_true, cond_false, if_true]
  unfold numL
  by_cases hx : x < 0
  ·rw [cd_t (by simpa using hx), w64 (by omega), itoaR _ (by omega), itoaNeg hx, if_pos hx, bz_size, cd_t (by have := decLen 12 x.natAbs (by omega); simp; omega)]
   have : (⟨#[95]⟩ : ByteArray) = bz [95] := rfl
   rw [this, bz_app]; rfl
  ·rw [cd_f (by simpa using hx), itoaR _ (by omega), itoaPos hx, if_neg hx]
theorem allRight_idx (d : List Int) (h : d.length ≤ 9223372036854775807) (R : Int → Option Res) : slices_IndexFunc_int_int_i2.g d R = R (idx (fun x => !numOk x) d 0) := by
 simp only [slices_IndexFunc_int_int_i2.e, slices_IndexFunc_int_int_i2.b]
 have := up0 (N := d.length) (P := fun n i => slices_IndexFunc_int_int_i2.l0 d (d.length : Int) (R (-1)) R n (i : Int) = R (idx (fun x => !numOk x) (d.drop i) i)) (by omega) ?_ ?_ 0 (by omega)
 ·simpa using this
 ·intro n; simp only [slices_IndexFunc_int_int_i2.l0, slices_IndexFunc_int_int_i2.l0s, ixe, cond_false, List.drop_length, idx]
 ·intro n i hi ih
  simp only [slices_IndexFunc_int_int_i2.l0, slices_IndexFunc_int_int_i2.l0s, ixl hi, ix0, Bool.and_self, cond_true, impl_allRight_1.e, impl_allRight_1.b, numOkI, ixw (by omega : i < 9223372036854775807), Int.toNat_natCast]
  rw [drop_cons 0 hi, idx]
  cases numOk (d.getD i 0) with
  | true => exact ih
  | false => rfl
theorem allRightI (d : List Int) (h : d.length ≤ 9223372036854775807) (R : Bool → Option Res) : impl_allRight.g d R = R (d.all numOk) := by
 simp only [impl_allRight.e, impl_allRight.b, slices_ContainsFunc_int_int_i2.e, slices_ContainsFunc_int_int_i2.b, allRight_idx d h, idx_any _ _ _ (Int.le_refl 0)]
 congr 1
 rw [List.any_eq_not_all_not]; simp
theorem numsS (d : List Int) (h : d.length ≤ 9223372036854775807) (R : Bool → Option Res) : spec_l16Nums.g d R = R (d.all numOk) := by
 simp only [spec_l16Nums.e, spec_l16Nums.b]
 have := up0 (N := d.length) (P := fun n i => spec_l16Nums.l0 d (R true) R n (i : Int) = R ((d.drop i).all numOk)) (by omega) ?_ ?_ 0 (by omega)
 ·simpa using this
 ·intro n; simp only [spec_l16Nums.l0, spec_l16Nums.l0s, ixe, cond_false, List.drop_length, List.all_nil]
 ·intro n i hi ih
  simp only [spec_l16Nums.l0, spec_l16Nums.l0s, ixl hi, ix0, Bool.and_self, cond_true, numOkS, ixw (by omega : i < 9223372036854775807), Int.toNat_natCast]
  rw [drop_cons 0 hi, List.all_cons]
  cases numOk (d.getD i 0) with
  | true => exact ih
  | false => rfl
/-- how wide the widest is -/
def wideN : List Int → Nat → Nat
 | [], n => n
 | x :: l, n => wideN l (max n (numL x).length)
theorem all_at {d : List Int} (h : d.all numOk = true) {i : Nat} (hi : i < d.length) : numOk (d.getD i 0) = true := by
 rw [List.getD_eq_getElem?_getD, List.getElem?_eq_getElem hi]
 exact List.all_eq_true.1 h _ (List.getElem_mem hi)
theorem showN_ok {x : Int} (h : numOk x = true) : showN x = numL x := by unfold showN; rw [if_pos h]
theorem wideI (d : List Int) (h : d.length ≤ 9223372036854775807) (R : Int → Option Res) : impl_ShowWide.g d R = R (if d.all numOk then (wideN d 0 : Int) else -1) := by
 simp only [impl_ShowWide.e, impl_ShowWide.b, allRightI d h]
 cases ha : d.all numOk with
 | false => rfl
 | true =>
  simp only [Bool.not_true, cond_false, if_true]
  have := up0 (N := d.length) (P := fun n i => ∀ m : Nat, impl_ShowWide.l0 d (d.length : Int) R n (m : Int) (i : Int) = R (wideN (d.drop i) m : Int)) (by omega) ?_ ?_ 0 (by omega) 0
  ·simpa using this
  ·intro n m; simp only [impl_ShowWide.l0, impl_ShowWide.l0s, ixe, cond_false, List.drop_length, wideN]
  ·intro n i hi ih m
   simp only [impl_ShowWide.l0, impl_ShowWide.l0s, ixl hi, ix0, Bool.and_self, cond_true, showNumI, bz_size, showN_ok (all_at ha hi), ixw (by omega : i < 9223372036854775807), Int.toNat_natCast]
   rw [drop_cons 0 hi, wideN, ← ih]
   congr 1
   simp only [minmax]
   generalize (numL (d.getD i 0)).length = q
   rcases Nat.le_total m q with h | h
   ·rw [Nat.max_eq_right h]; simp; omega
   ·rw [Nat.max_eq_left h]; simp; omega
theorem l1MaxS (a b : Int) (R : Int → Option Res) : spec_l1Max.g a b R = R (if b < a then a else b) := by
 simp only [spec_l1Max.e, spec_l1Max.b]
 by_cases h : b < a <;> simp [h]
theorem wideS (d : List Int) (h : d.length ≤ 9223372036854775807) (R : Int → Option Res) : spec_ShowWide.g d R = R (if d.all numOk then (wideN d 0 : Int) else -1) := by
 simp only [spec_ShowWide.e, spec_ShowWide.b, numsS d h]
 cases ha : d.all numOk with
 | false => rfl
 | true =>
  simp only [Bool.not_true, cond_false, if_true]
  have := up0 (N := d.length) (P := fun n i => ∀ m : Nat, spec_ShowWide.l0 d R n (m : Int) (i : Int) = R (wideN (d.drop i) m : Int)) (by omega) ?_ ?_ 0 (by omega) 0
  ·simpa using this
  ·intro n m; simp only [spec_ShowWide.l0, spec_ShowWide.l0s, ixe, cond_false, List.drop_length, wideN]
  ·intro n i hi ih m
   simp only [spec_ShowWide.l0, spec_ShowWide.l0s, ixl hi, ix0, Bool.and_self, cond_true, digS _ (all_at ha hi), l1MaxS, bz_size, ixw (by omega : i < 9223372036854775807), Int.toNat_natCast]
   rw [drop_cons 0 hi, wideN, ← ih]
   congr 1
   generalize (numL (d.getD i 0)).length = q
   rcases Nat.le_total m q with h | h
   ·rw [Nat.max_eq_right h]; split <;> omega
   ·rw [Nat.max_eq_left h]; split <;> omega
theorem lawFnExactShowWide (a : List Int) (ha : wfQ [.int .i64] (.ints a)) (R : Bool → Option Res) : laws_FnExactShowWide.g a R = R true := by
 simp only [laws_FnExactShowWide.e, laws_FnExactShowWide.b]
 by_cases h : 1048576 < (a.length : Int)
 ·simp [h]
 simp only [h, decide_false, cond_false, toIntS a (by omega), wideS a (by omega), wideI a (by omega), bne_self_eq_false, eqIntS a (by omega), Bool.not_true]
end Go.Tv.F
