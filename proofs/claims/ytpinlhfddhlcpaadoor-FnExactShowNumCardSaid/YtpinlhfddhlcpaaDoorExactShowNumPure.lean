/- The pure law about these functions. It holds without condition. -/
import Derived.Test.YtpinlhfddhlcpaaDoorExactShowNumF
set_option linter.unusedVariables false
set_option linter.unusedSectionVars false
set_option linter.unusedSimpArgs false
set_option linter.unnecessarySimpa false
set_option maxRecDepth 100000
set_option autoImplicit false
namespace Go.Tv.F
open Go Go.Tv
def numOk (x : Int) : Bool := decide (-1000000000000 ≤ x) && decide (x ≤ 1000000000000)
theorem within (x a b : Int) (R : Bool → Option Res) : impl_within.g x a b R = R (decide (a ≤ x) && decide (x ≤ b)) := by
 simp only [impl_within.e, impl_within.b]; cases decide (a ≤ x) <;> rfl
theorem l1In (x a b : Int) (R : Bool → Option Res) : spec_l1In.g x a b R = R (decide (a ≤ x) && decide (x ≤ b)) := by
 simp only [spec_l1In.e, spec_l1In.b]; cases decide (a ≤ x) <;> rfl
theorem numOkI (x : Int) (R : Bool → Option Res) : impl_NumOk.g x R = R (numOk x) := by simp only [impl_NumOk.e, impl_NumOk.b, within, numOk]
theorem numOkS (x : Int) (R : Bool → Option Res) : spec_NumOk.g x R = R (numOk x) := by simp only [spec_NumOk.e, spec_NumOk.b, l1In, numOk]
/-- a string of bytes -/
def bz (l : List UInt8) : ByteArray := ⟨l.toArray⟩
theorem bz_app (a b : List UInt8) : bz a ++ bz b = bz (a ++ b) := by
 apply ByteArray.ext
 simp [bz, ByteArray.data_append]
theorem bz_size (a : List UInt8) : (bz a).size = a.length := by simp [bz, ByteArray.size]
/-- a number's text -/
def numL (x : Int) : List UInt8 := if x < 0 then 95 :: Lib.decDigits x.natAbs else Lib.decDigits x.toNat
theorem decLen : ∀ (k n : Nat), n < 10 ^ (k + 1) → (Lib.decDigits n).length ≤ k + 1
 | 0, n, h => by rw [Lib.decDigits, dif_pos (by omega)]; simp
 | k + 1, n, h => by
  rw [Lib.decDigits]
  split
  ·simp
  ·rw [List.length_append]
   have := decLen k (n / 10) (by rw [Nat.div_lt_iff_lt_mul (by omega)]; rw [Nat.pow_succ] at h; omega)
   simp; omega
theorem numOk_b {x : Int} (h : numOk x = true) : -1000000000000 ≤ x ∧ x ≤ 1000000000000 := by
 simp only [numOk, Bool.and_eq_true, decide_eq_true_eq] at h
 omega
theorem digB (m : Nat) : strOf ([IntKind.u8.wrap (IntKind.i64.wrap (48 + ((m : Int).tmod 10)))] : List Int) = bz [UInt8.ofNat (48 + m % 10)] := by
 rw [Int.tmod_eq_emod_of_nonneg (by omega), w64 (by omega), IntKind.wrap_u8]
 have : ((48 + (m : Int) % 10) % 256) = ((48 + m % 10 : Nat) : Int) := by omega
 rw [this]; rfl
theorem digLoop (k : ByteArray → Option Res) : ∀ (n m : Nat) (acc : List UInt8), m < n → m ≤ 10000000000000 → acc.length + m ≤ 4000000000000000000 →
 spec_l8Digits.l0 k n (m : Int) (bz acc) = k (bz ((if m = 0 then [] else Lib.decDigits m) ++ acc))
 | 0, m, acc, h, _, _ => by omega
 | n + 1, m, acc, h, hm, ha => by
  simp only [spec_l8Digits.l0, spec_l8Digits.l0s]
  by_cases h0 : m = 0
  ·subst h0
   rw [cd_f (by simp), if_pos rfl]; rfl
  ·rw [cd_t (by simp; omega), digB, bz_size, bz_size, cd_t (by simp; omega), bz_app, Int.tdiv_eq_ediv_of_nonneg (by omega), w64 (by omega)]
   have e : ((m : Int) / 10) = ((m / 10 : Nat) : Int) := by omega
   rw [e, digLoop k n (m / 10) _ (by omega) (by omega) (by simp; omega), if_neg h0]
   congr 2
   by_cases h1 : m < 10
   ·rw [if_pos (by omega), Lib.decDigits, dif_pos h1]
    rw [Nat.mod_eq_of_lt h1]; rfl
   ·rw [if_neg (by omega)]
    conv => rhs; rw [Lib.decDigits, dif_neg h1]
    simp
theorem digG (n : Nat) (x : Int) (h : numOk x = true) (R : ByteArray → Option Res) : spec_l8Digits.gn (n + 2) x R = R (bz (numL x)) := by
 have hb := numOk_b h
 have pos : ∀ (n : Nat) (m : Nat), m ≤ 10000000000000 → ∀ R : ByteArray → Option Res, spec_l8Digits.gn (n + 1) (m : Int) R = R (bz (Lib.decDigits m)) := by
  intro n m hm R
  rw [spec_l8Digits.gn_succ]
  unfold spec_l8Digits.g
  rw [cd_f (by simp)]
  by_cases h0 : m = 0
  ·subst h0
   rw [cd_t (by simp)]
   have : Lib.decDigits 0 = [48] := by rw [Lib.decDigits, dif_pos (by omega)]; rfl
   rw [this]; rfl
  ·rw [cd_f (by simp; omega)]
   have := digLoop R fuel m [] (by rw [fuel_eq]; omega) hm (by simp; omega)
   rw [if_neg h0, List.append_nil] at this
   exact this
 unfold numL
 by_cases hx : x < 0
 ·rw [if_pos hx, spec_l8Digits.gn_succ]
  unfold spec_l8Digits.g
  rw [cd_t (by simpa using hx), w64 (by omega)]
  have e : (0 - x) = (x.natAbs : Int) := by omega
  show spec_l8Digits.gn (n + 1) (0 - x) _ = _
  rw [e, pos n _ (by omega), bz_size, cd_t (by have := decLen 12 x.natAbs (by omega); simp; omega)]
  have : (⟨#[95]⟩ : ByteArray) = bz [95] := rfl
  rw [this, bz_app]; rfl
 ·rw [if_neg hx]
  obtain ⟨m, rfl⟩ : ∃ m : Nat, x = m := ⟨x.toNat, by omega⟩
  rw [pos (n + 1) m (by omega)]; rfl
theorem digS (x : Int) (h : numOk x = true) (R : ByteArray → Option Res) : spec_l8Digits.G x R = R (bz (numL x)) := by
 obtain ⟨m, hm, _⟩ := fuel_split 2 (by decide)
 rw [spec_l8Digits.Ge, hm, digG m x h]
/-- what is shown -/
def showN (x : Int) : List UInt8 := if numOk x then numL x else []
theorem showNumS (x : Int) (R : ByteArray → Option Res) : spec_ShowNum.g x R = R (bz (showN x)) := by
 simp only [spec_ShowNum.e, spec_ShowNum.b, numOkS, showN]
 cases h : numOk x with
 | false => rfl
 | true => simp only [Bool.not_true, cond_false, if_true]; exact digS x h R
theorem itoaNeg {x : Int} (h : x < 0) : Lib.itoa (0 - x) = Lib.decDigits x.natAbs := by
 unfold Lib.itoa; rw [if_neg (by omega)]; congr 1; omega
theorem itoaPos {x : Int} (h : ¬ x < 0) : Lib.itoa x = Lib.decDigits x.toNat := by
 unfold Lib.itoa; rw [if_neg h]
theorem itoaR (x : Int) (h : -9223372036854775808 ≤ x ∧ x ≤ 9223372036854775807) (R : ByteArray → Option Res) : strconv_Itoa.g x R = R (bz (Lib.itoa x)) := by
 unfold strconv_Itoa.g itoaG
 rw [cd_t (by simp; omega)]; rfl
theorem showNumI (x : Int) (R : ByteArray → Option Res) : impl_ShowNum.g x R = R (bz (showN x)) := by
 simp only [impl_ShowNum.e, impl_ShowNum.b, numOkI, showN]
 cases h : numOk x with
 | false => rfl
 | true =>
  have hb := numOk_b h
  simp only [Bool.not_true, cond_false, if_true]
  unfold numL
  by_cases hx : x < 0
  ·rw [cd_t (by simpa using hx), w64 (by omega), itoaR _ (by omega), itoaNeg hx, if_pos hx, bz_size, cd_t (by have := decLen 12 x.natAbs (by omega); simp; omega)]
   have : (⟨#[95]⟩ : ByteArray) = bz [95] := rfl
   rw [this, bz_app]; rfl
  ·rw [cd_f (by simpa using hx), itoaR _ (by omega), itoaPos hx, if_neg hx]
theorem beqL (s : ByteArray) : (s.toList == s.toList) = true := beq_self_eq_true _
theorem lawFnExactShowNum (a : Int) (ha : (Lit.int .i64 a).wf = true) (R : Bool → Option Res) : laws_FnExactShowNum.g a R = R true := by
 simp only [laws_FnExactShowNum.e, laws_FnExactShowNum.b, showNumS, showNumI, beqL, Bool.not_true, cond_false]
end Go.Tv.F
