/- The pure law about these functions. It holds without condition. -/
import Derived.Test.YtpinlhfddhlcpaaDoorWidthF
set_option linter.unusedVariables false
set_option linter.unusedSectionVars false
set_option linter.unusedSimpArgs false
set_option linter.unnecessarySimpa false
set_option maxRecDepth 100000
set_option autoImplicit false
namespace Go.Tv.F
open Go Go.Tv
def numOk (x : Int) : Bool := decide (-1000000000000 ≤ x) && decide (x ≤ 1000000000000)
theorem within (x a b : Int) (R : Bool → Option Res) : impl_within.g x a b R = R (decide (a ≤ x) && decide (x ≤ b)) := by
 simp only [impl_within.e, impl_within.b]; cases decide (a ≤ x) <;> rfl
theorem l1In (x a b : Int) (R : Bool → Option Res) : spec_l1In.g x a b R = R (decide (a ≤ x) && decide (x ≤ b)) := by
 simp only [spec_l1In.e, spec_l1In.b]; cases decide (a ≤ x) <;> rfl
theorem numOkI (x : Int) (R : Bool → Option Res) : impl_NumOk.g x R = R (numOk x) := by simp only [impl_NumOk.e, impl_NumOk.b, within, numOk]
theorem numOkS (x : Int) (R : Bool → Option Res) : spec_NumOk.g x R = R (numOk x) := by simp only [spec_NumOk.e, spec_NumOk.b, l1In, numOk]
/-- the first place from i on at which something holds; -1: none -/
def idx {α : Type} (f : α → Bool) : List α → Int → Int
 | [], _ => -1
 | x :: l, i => bif f x then i else idx f l (i + 1)
theorem idx_any {α : Type} (f : α → Bool) (l : List α) : ∀ i : Int, 0 ≤ i → decide (0 ≤ idx f l i) = l.any f := by
 induction l with
 | nil => intro i _; rfl
 | cons x l ih =>
  intro i hi
  cases hf : f x with
  | true => simp [idx, hf, hi]
  | false => simpa [idx, hf] using ih (i + 1) (by omega)
/-- a string of bytes -/
def bz (l : List UInt8) : ByteArray := ⟨l.toArray⟩
theorem bz_app (a b : List UInt8) : bz a ++ bz b = bz (a ++ b) := by
 apply ByteArray.ext
 simp [bz, ByteArray.data_append]
theorem bz_size (a : List UInt8) : (bz a).size = a.length := by simp [bz, ByteArray.size]
theorem bz_list (a : List UInt8) : (bz a).data.toList = a := by simp [bz]
/-- a number's text -/
def numL (x : Int) : List UInt8 := if x < 0 then 95 :: Lib.decDigits x.natAbs else Lib.decDigits x.toNat
theorem decLen : ∀ (k n : Nat), n < 10 ^ (k + 1) → (Lib.decDigits n).length ≤ k + 1
 | 0, n, h => by rw [Lib.decDigits, dif_pos (by omega)]; simp
 | k + 1, n, h => by
  rw [Lib.decDigits]
  split
  ·simp
  ·rw [List.length_append]
   have := decLen k (n / 10) (by rw [Nat.div_lt_iff_lt_mul (by omega)]; rw [Nat.pow_succ] at h; omega)
   simp; omega
theorem decPos (n : Nat) : 1 ≤ (Lib.decDigits n).length := by
 rw [Lib.decDigits]; split <;> simp
theorem numOk_b {x : Int} (h : numOk x = true) : -1000000000000 ≤ x ∧ x ≤ 1000000000000 := by
 simp only [numOk, Bool.and_eq_true, decide_eq_true_eq] at h
 omega
theorem numLen {x : Int} (h : numOk x = true) : 1 ≤ (numL x).length ∧ (numL x).length ≤ 14 := by
 have := numOk_b h
 unfold numL
 split
 ·have := decLen 12 x.natAbs (by omega)
  have := decPos x.natAbs
  simp; omega
 ·have := decLen 12 x.toNat (by omega)
  have := decPos x.toNat
  omega
theorem digB (m : Nat) : strOf ([IntKind.u8.wrap (IntKind.i64.wrap (48 + ((m : Int).tmod 10)))] : List Int) = bz [UInt8.ofNat (48 + m % 10)] := by
 rw [Int.tmod_eq_emod_of_nonneg (by omega), w64 (by omega), IntKind.wrap_u8]
 have : ((48 + (m : Int) % 10) % 256) = ((48 + m % 10 : Nat) : Int) := by omega
 rw [this]; rfl
theorem digLoop (k : ByteArray → Option Res) : ∀ (n m : Nat) (acc : List UInt8), m < n → m ≤ 10000000000000 → acc.length + m ≤ 4000000000000000000 →
 spec_l8Digits.l0 k n (m : Int) (bz acc) = k (bz ((if m = 0 then [] else Lib.decDigits m) ++ acc))
 | 0, m, acc, h, _, _ => by omega
 | n + 1, m, acc, h, hm, ha => by
  simp only [spec_l8Digits.l0, spec_l8Digits.l0s]
  by_cases h0 : m = 0
  ·subst h0
   rw [cd_f (by simp), if_pos rfl]; rfl
  ·rw [cd_t (by simp; omega), digB, bz_size, bz_size, cd_t (by simp; omega), bz_app, Int.tdiv_eq_ediv_of_nonneg (by omega), w64 (by omega)]
   have e : ((m : Int) / 10) = ((m / 10 : Nat) : Int) := by omega
   rw [e, digLoop k n (m / 10) _ (by omega) (by omega) (by simp; omega), if_neg h0]
   congr 2
   by_cases h1 : m < 10
   ·rw [if_pos (by omega), Lib.decDigits, dif_pos h1]
    rw [Nat.mod_eq_of_lt h1]; rfl
   ·rw [if_neg (by omega)]
    conv => rhs; rw [Lib.decDigits, dif_neg h1]
    simp
theorem digG (n : Nat) (x : Int) (h : numOk x = true) (R : ByteArray → Option Res) : spec_l8Digits.gn (n + 2) x R = R (bz (numL x)) := by
 have hb := numOk_b h
 have pos : ∀ (n : Nat) (m : Nat), m ≤ 10000000000000 → ∀ R : ByteArray → Option Res, spec_l8Digits.gn (n + 1) (m : Int) R = R (bz (Lib.decDigits m)) := by
  intro n m hm R
  rw [spec_l8Digits.gn_succ]
  unfold spec_l8Digits.g
  rw [cd_f (by simp)]
  by_cases h0 : m = 0
  ·subst h0
   rw [cd_t (by simp)]
   have : Lib.decDigits 0 = [48] := by rw [Lib.decDigits, dif_pos (by omega)]; rfl
   rw [this]; rfl
  ·rw [cd_f (by simp; omega)]
   have := digLoop R fuel m [] (by rw [fuel_eq]; omega) hm (by simp; omega)
   rw [if_neg h0, List.append_nil] at this
   exact this
 unfold numL
 by_cases hx : x < 0
 ·rw [if_pos hx, spec_l8Digits.gn_succ]
  unfold spec_l8Digits.g
  rw [cd_t (by simpa using hx), w64 (by omega)]
  have e : (0 - x) = (x.natAbs : Int) := by omega
  show spec_l8Digits.gn (n + 1) (0 - x) _ = _
  rw [e, pos n _ (by omega), bz_size, cd_t (by have := decLen 12 x.natAbs (by omega); simp; omega)]
  have : (⟨#[95]⟩ : ByteArray) = bz [95] := rfl
  rw [this, bz_app]; rfl
 ·rw [if_neg hx]
  obtain ⟨m, rfl⟩ : ∃ m : Nat, x = m := ⟨x.toNat, by omega⟩
  rw [pos (n + 1) m (by omega)]; rfl
theorem digS (x : Int) (h : numOk x = true) (R : ByteArray → Option Res) : spec_l8Digits.G x R = R (bz (numL x)) := by
 obtain ⟨m, hm, _⟩ := fuel_split 2 (by decide)
 rw [spec_l8Digits.Ge, hm, digG m x h]
/-- what is shown -/
def showN (x : Int) : List UInt8 := if numOk x then numL x else []
theorem showNumS (x : Int) (R : ByteArray → Option Res) : spec_ShowNum.g x R = R (bz (showN x)) := by
 simp only [spec_ShowNum.e, spec_ShowNum.b, numOkS, showN]
 cases h : numOk x with
 | false => rfl
 | true => simp only [Bool.not_true, cond_false, if_true]; exact digS x h R
theorem itoaNeg {x : Int} (h : x < 0) : Lib.itoa (0 - x) = Lib.decDigits x.natAbs := by
 unfold Lib.itoa; rw [if_neg (by omega)]; congr 1; omega
theorem itoaPos {x : Int} (h : ¬ x < 0) : Lib.itoa x = Lib.decDigits x.toNat := by
 unfold Lib.itoa; rw [if_neg h]
theorem itoaR (x : Int) (h : -9223372036854775808 ≤ x ∧ x ≤ 9223372036854775807) (R : ByteArray → Option Res) : strconv_Itoa.g x R = R (bz (Lib.itoa x)) := by
 unfold strconv_Itoa.g itoaG
 rw [cd_t (by simp; omega)]; rfl
theorem showNumI (x : Int) (R : ByteArray → Option Res) : impl_ShowNum.g x R = R (bz (showN x)) := by
 simp only [impl_ShowNum.e, impl_ShowNum.b, numOkI, showN]
 cases h : numOk x with
 | false => rfl
 | true =>
  have hb := numOk_b h
  simp only [Bool.not_true, cond_false, if_true]
  unfold numL
  by_cases hx : x < 0
  ·rw [cd_t (by simpa using hx), w64 (by omega), itoaR _ (by omega), itoaNeg hx, if_pos hx, bz_size, cd_t (by have := decLen 12 x.natAbs (by omega); simp; omega)]
   have : (⟨#[95]⟩ : ByteArray) = bz [95] := rfl
   rw [this, bz_app]; rfl
  ·rw [cd_f (by simpa using hx), itoaR _ (by omega), itoaPos hx, if_neg hx]
theorem beqL (s : ByteArray) : (s.toList == s.toList) = true := beq_self_eq_true _
theorem allRight_idx (d : List Int) (h : d.length ≤ 9223372036854775807) (R : Int → Option Res) : slices_IndexFunc_int_int_i2.g d R = R (idx (fun x => !numOk x) d 0) := by
 simp only [slices_IndexFunc_int_int_i2.e, slices_IndexFunc_int_int_i2.b]
 have := up0 (N := d.length) (P := fun n i => slices_IndexFunc_int_int_i2.l0 d (d.length : Int) (R (-1)) R n (i : Int) = R (idx (fun x => !numOk x) (d.drop i) i)) (by omega) ?_ ?_ 0 (by omega)
 ·simpa using this
 ·intro n; simp only [slices_IndexFunc_int_int_i2.l0, slices_IndexFunc_int_int_i2.l0s, ixe, cond_false, List.drop_length, idx]
 ·intro n i hi ih
  simp only [slices_IndexFunc_int_int_i2.l0, slices_IndexFunc_int_int_i2.l0s, ixl hi, ix0, Bool.and_self, cond_true, impl_allRight_1.e, impl_allRight_1.b, numOkI, ixw (by omega : i < 9223372036854775807), Int.toNat_natCast]
  rw [drop_cons 0 hi, idx]
  cases numOk (d.getD i 0) with
  | true => exact ih
  | false => rfl
theorem allRightI (d : List Int) (h : d.length ≤ 9223372036854775807) (R : Bool → Option Res) : impl_allRight.g d R = R (d.all numOk) := by
 simp only [impl_allRight.e, impl_allRight.b, slices_ContainsFunc_int_int_i2.e, slices_ContainsFunc_int_int_i2.b, allRight_idx d h, idx_any _ _ _ (Int.le_refl 0)]
 congr 1
 rw [List.any_eq_not_all_not]; simp
theorem numsS (d : List Int) (h : d.length ≤ 9223372036854775807) (R : Bool → Option Res) : spec_l16Nums.g d R = R (d.all numOk) := by
 simp only [spec_l16Nums.e, spec_l16Nums.b]
 have := up0 (N := d.length) (P := fun n i => spec_l16Nums.l0 d (R true) R n (i : Int) = R ((d.drop i).all numOk)) (by omega) ?_ ?_ 0 (by omega)
 ·simpa using this
 ·intro n; simp only [spec_l16Nums.l0, spec_l16Nums.l0s, ixe, cond_false, List.drop_length, List.all_nil]
 ·intro n i hi ih
  simp only [spec_l16Nums.l0, spec_l16Nums.l0s, ixl hi, ix0, Bool.and_self, cond_true, numOkS, ixw (by omega : i < 9223372036854775807), Int.toNat_natCast]
  rw [drop_cons 0 hi, List.all_cons]
  cases numOk (d.getD i 0) with
  | true => exact ih
  | false => rfl
/-- how wide the widest is -/
def wideN : List Int → Nat → Nat
 | [], n => n
 | x :: l, n => wideN l (max n (numL x).length)
theorem all_at {d : List Int} (h : d.all numOk = true) {i : Nat} (hi : i < d.length) : numOk (d.getD i 0) = true := by
 rw [List.getD_eq_getElem?_getD, List.getElem?_eq_getElem hi]
 exact List.all_eq_true.1 h _ (List.getElem_mem hi)
theorem showN_ok {x : Int} (h : numOk x = true) : showN x = numL x := by unfold showN; rw [if_pos h]
theorem wideI (d : List Int) (h : d.length ≤ 9223372036854775807) (R : Int → Option Res) : impl_ShowWide.g d R = R (if d.all numOk then (wideN d 0 : Int) else -1) := by
 simp only [impl_ShowWide.e, impl_ShowWide.b, allRightI d h]
 cases ha : d.all numOk with
 | false => rfl
 | true =>
  simp only [Bool.not_true, cond_false, if_true]
  have := up0 (N := d.length) (P := fun n i => ∀ m : Nat, impl_ShowWide.l0 d (d.length : Int) R n (m : Int) (i : Int) = R (wideN (d.drop i) m : Int)) (by omega) ?_ ?_ 0 (by omega) 0
  ·simpa using this
  ·intro n m; simp only [impl_ShowWide.l0, impl_ShowWide.l0s, ixe, cond_false, List.drop_length, wideN]
  ·intro n i hi ih m
   simp only [impl_ShowWide.l0, impl_ShowWide.l0s, ixl hi, ix0, Bool.and_self, cond_true, showNumI, bz_size, showN_ok (all_at ha hi), ixw (by omega : i < 9223372036854775807), Int.toNat_natCast]
   rw [drop_cons 0 hi, wideN, ← ih]
   congr 1
   simp only [minmax]
   generalize (numL (d.getD i 0)).length = q
   rcases Nat.le_total m q with h | h
   ·rw [Nat.max_eq_right h]; simp; omega
   ·rw [Nat.max_eq_left h]; simp; omega
/-- what stands behind a row's first number -/
def rowT : List Int → List UInt8
 | [] => []
 | x :: l => 32 :: (numL x ++ rowT l)
def rowL : List Int → List UInt8
 | [] => []
 | x :: l => numL x ++ rowT l
theorem rowT_len : ∀ d : List Int, d.all numOk = true → (rowT d).length ≤ 15 * d.length
 | [], _ => by simp [rowT]
 | x :: l, h => by
  rw [List.all_cons, Bool.and_eq_true] at h
  have := rowT_len l h.2
  have := numLen h.1
  simp [rowT]; omega
theorem rowL_len (d : List Int) (h : d.all numOk = true) : (rowL d).length ≤ 15 * d.length := by
 cases d with
 | nil => simp [rowL]
 | cons x l =>
  rw [List.all_cons, Bool.and_eq_true] at h
  have := rowT_len l h.2
  have := numLen h.1
  simp [rowL]; omega
theorem row_join : ∀ d : List Int, Lib.join (d.map numL) [32] = rowL d
 | [] => rfl
 | x :: l => by
  have t : ∀ l : List Int, Lib.joinTail [32] (l.map numL) = rowT l := by
   intro l; induction l with
   | nil => rfl
   | cons y l ih => simp only [Lib.joinTail, List.map_cons, List.flatten_cons, rowT] at ih ⊢; rw [ih]; rfl
  rw [List.map_cons, Lib.join_cons, t]; rfl
theorem joinR (xs : List (List UInt8)) (sep : List UInt8) (h : xs.length ≤ 140737488355328) (h2 : (Lib.join xs sep).length ≤ 140737488355328) (R : ByteArray → Option Res) :
 strings_Join.g (xs.map bz) (bz sep) R = R (bz (Lib.join xs sep)) := by
 have e : joinL (xs.map bz) (bz sep) = Lib.join xs sep := by
  unfold joinL
  rw [List.map_map, bz_list]
  congr 1
  rw [show ((fun x : ByteArray => x.data.toList) ∘ bz) = id from funext fun x => bz_list x, List.map_id]
 unfold strings_Join.g joinG
 rw [e, cd_t (by simp [h, h2])]
 unfold joinB; rw [e]; rfl
theorem map_snoc {α β : Type} (f : α → β) (d : List α) (z : α) {i : Nat} (hi : i < d.length) : (d.take i).map f ++ [f (d.getD i z)] = (d.take (i + 1)).map f := by
 rw [List.take_succ_eq_append_getElem hi, List.map_append, List.getD_eq_getElem?_getD, List.getElem?_eq_getElem hi]; rfl
theorem rowI (d : List Int) (h : d.length ≤ 1048576) (R : ByteArray → Option Res) : impl_ShowRow.g d R = R (bz (if d.all numOk then rowL d else [])) := by
 simp only [impl_ShowRow.e, impl_ShowRow.b, allRightI d (by omega)]
 cases ha : d.all numOk with
 | false => rfl
 | true =>
  simp only [Bool.not_true, cond_false, if_true]
  have := up0 (N := d.length) (P := fun n i => ∀ k : List ByteArray → Option Res, impl_ShowRow.l0 d (d.length : Int) k n (i : Int) ((d.take i).map fun x => bz (numL x)) = k (d.map fun x => bz (numL x))) (by omega) ?_ ?_ 0 (by omega)
  ·have e := this (fun y8 => strings_Join.g y8 (⟨#[32]⟩ : ByteArray) fun r9 => R r9)
   have e2 : (⟨#[32]⟩ : ByteArray) = bz [32] := rfl
   rw [e2] at e ⊢
   have e3 : (d.map fun x => bz (numL x)) = (d.map numL).map bz := by rw [List.map_map]; rfl
   rw [e3, joinR _ _ (by simp; omega) (by rw [row_join]; have := rowL_len d ha; omega), row_join] at e
   exact e
  ·intro n k; simp only [impl_ShowRow.l0, impl_ShowRow.l0s, ixe, cond_false, List.take_length]
  ·intro n i hi ih k
   have hl : decide ((((d.take i).map fun x => bz (numL x)).length + 1) * 16 ≤ 140737488355328) = true := by simp; omega
   simp only [impl_ShowRow.l0, impl_ShowRow.l0s, ixl hi, ix0, Bool.and_self, cond_true, showNumI, showN_ok (all_at ha hi), ixw (by omega : i < 9223372036854775807), Int.toNat_natCast, hl]
   rw [map_snoc (fun x => bz (numL x)) d 0 hi]
   exact ih k
theorem l1MaxS (a b : Int) (R : Int → Option Res) : spec_l1Max.g a b R = R (if b < a then a else b) := by
 simp only [spec_l1Max.e, spec_l1Max.b]
 by_cases h : b < a <;> simp [h]
theorem wideS (d : List Int) (h : d.length ≤ 9223372036854775807) (R : Int → Option Res) : spec_ShowWide.g d R = R (if d.all numOk then (wideN d 0 : Int) else -1) := by
 simp only [spec_ShowWide.e, spec_ShowWide.b, numsS d h]
 cases ha : d.all numOk with
 | false => rfl
 | true =>
  simp only [Bool.not_true, cond_false, if_true]
  have := up0 (N := d.length) (P := fun n i => ∀ m : Nat, spec_ShowWide.l0 d R n (m : Int) (i : Int) = R (wideN (d.drop i) m : Int)) (by omega) ?_ ?_ 0 (by omega) 0
  ·simpa using this
  ·intro n m; simp only [spec_ShowWide.l0, spec_ShowWide.l0s, ixe, cond_false, List.drop_length, wideN]
  ·intro n i hi ih m
   simp only [spec_ShowWide.l0, spec_ShowWide.l0s, ixl hi, ix0, Bool.and_self, cond_true, digS _ (all_at ha hi), l1MaxS, bz_size, ixw (by omega : i < 9223372036854775807), Int.toNat_natCast]
   rw [drop_cons 0 hi, wideN, ← ih]
   congr 1
   generalize (numL (d.getD i 0)).length = q
   rcases Nat.le_total m q with h | h
   ·rw [Nat.max_eq_right h]; split <;> omega
   ·rw [Nat.max_eq_left h]; split <;> omega
/-- a cursor's place -/
def Cu (a : List Int) (i : Int) : Prop := 0 ≤ i ∧ i ≤ (a.length : Int) ∧ a.length ≤ 1048576
def i64 (x : Int) : Prop := -9223372036854775808 ≤ x ∧ x ≤ 9223372036854775807
theorem dNew (a : List Int) (h : a.length ≤ 1048576) : ∃ s : Int, (∀ R, spec_l1New.g a R = R a 0 s) ∧ Cu a 0 := by
 have loop : ∀ (n : Nat) (m : Nat), 4000 - m < n → m ≤ 4000 → ∀ x : Int, ∃ y, ∀ k, spec_l1New.l0 a k n x (m : Int) = k y := by
  intro n
  induction n with
  | zero => intro m h; omega
  | succ n ih =>
   intro m hm hm2 x
   simp only [spec_l1New.l0, spec_l1New.l0s]
   by_cases h1 : (m : Int) < (a.length : Int)
   ·by_cases h2 : (m : Int) < 4000
    ·obtain ⟨y, hy⟩ := ih (m + 1) (by omega) (by omega) (arith.bits .and .i64 (IntKind.i64.wrap ((IntKind.i64.wrap ((IntKind.i64.wrap (x * 131)) + (IntKind.i64.wrap (a.getD (m : Int).toNat 0)))) + 7)) 1073741823)
     refine ⟨y, fun k => ?_⟩
     simp only [h1, h2, decide_true, cond_true, Bool.and_true, show (0 : Int) ≤ m by omega]
     rw [w64 (n := (m : Int) + 1) (by omega)]
     exact hy k
    ·exact ⟨x, fun k => by simp [h1, h2]⟩
   ·exact ⟨x, fun k => by simp [h1]⟩
 obtain ⟨y, hy⟩ := loop fuel 0 (by rw [fuel_eq]; omega) (by omega) (IntKind.i64.wrap (18218 + (a.length : Int)))
 exact ⟨y, fun R => by simp only [spec_l1New.e, spec_l1New.b]; exact hy _, by simp [Cu]; omega⟩
theorem dByte (a : List Int) (i s : Int) (hi : Cu a i) : ∃ r i' s' : Int, (∀ R, spec_l1Byte.g a i s R = R r i' s') ∧ Cu a i' ∧ (0 ≤ r ∧ r ≤ 255) := by
 let s1 := IntKind.i64.wrap (IntKind.i64.wrap (s * 6364136223846793005) + 1442695040888963407)
 let b := arith.bits .and .i64 (arith.bits .xor .i64 (s1.fdiv (2 ^ 33)) (s1.fdiv (2 ^ 45))) 255
 have hi' := hi
 simp only [Cu] at hi
 by_cases h : i < (a.length : Int)
 ·refine ⟨arith.bits .and .i64 (IntKind.i64.wrap (b + IntKind.i64.wrap (a.getD i.toNat 0))) 255, i + 1, s1, fun R => ?_, by simp only [Cu]; omega, and_le _ 255 (by omega)⟩
  simp only [spec_l1Byte.e, spec_l1Byte.b, h, decide_true, cond_true, Bool.and_true, hi.1]
  rw [w64 (n := i + 1) (by omega)]
 ·refine ⟨b, i, s1, fun R => ?_, hi', and_le _ 255 (by omega)⟩
  simp only [spec_l1Byte.e, spec_l1Byte.b, h, decide_false, cond_false, b, s1]
theorem tmod_lt {x n : Int} (h0 : 0 ≤ x) (hn : 0 < n) : 0 ≤ x.tmod n ∧ x.tmod n < n := by
 rw [Int.tmod_eq_emod_of_nonneg h0]
 exact ⟨Int.emod_nonneg _ (by omega), Int.emod_lt_of_pos _ hn⟩
theorem dBelow (n : Int) (hn : 0 < n) (a : List Int) (i s : Int) (hi : Cu a i) : ∃ r i' s' : Int, (∀ R, spec_l1Below.g n a i s R = R r i' s') ∧ Cu a i' ∧ (0 ≤ r ∧ r < n) := by
 have h1 : ¬ n ≤ 0 := by omega
 have h2 : ¬ n = 0 := by omega
 by_cases h : n ≤ 256
 ·obtain ⟨r, i', s', hR, hi', hr⟩ := dByte a i s hi
  refine ⟨r.tmod n, i', s', fun R => ?_, hi', tmod_lt hr.1 hn⟩
  simp only [spec_l1Below.e, spec_l1Below.b, h1, h, h2, decide_true, decide_false, cond_true, cond_false, hR]
 ·obtain ⟨r, i1, s1, hR, hi1, hr⟩ := dByte a i s hi
  obtain ⟨r2, i2, s2, hR2, hi2, hr2⟩ := dByte a i1 s1 hi1
  obtain ⟨r3, i3, s3, hR3, hi3, hr3⟩ := dByte a i2 s2 hi2
  obtain ⟨r4, i4, s4, hR4, hi4, hr4⟩ := dByte a i3 s3 hi3
  refine ⟨(r * 16777216 + r2 * 65536 + r3 * 256 + r4).tmod n, i4, s4, fun R => ?_, hi4, tmod_lt (by omega) hn⟩
  simp only [spec_l1Below.e, spec_l1Below.b, h1, h, h2, decide_false, cond_false, hR, hR2, hR3, hR4]
  rw [w64 (n := r * 16777216) (by omega), w64 (n := r2 * 65536) (by omega), w64 (n := r * 16777216 + r2 * 65536) (by omega), w64 (n := r3 * 256) (by omega), w64 (n := r * 16777216 + r2 * 65536 + r3 * 256) (by omega), w64 (n := _ + r4) (by omega)]
theorem dOnce (n : Int) (hn : 0 < n) (a : List Int) (i s : Int) (hi : Cu a i) : ∃ (r : Bool) (i' s' : Int), (∀ R, spec_l1Once.g n a i s R = R r i' s') ∧ Cu a i' := by
 obtain ⟨r, i', s', hR, hi', _⟩ := dBelow n hn a i s hi
 exact ⟨r == 0, i', s', fun R => by simp only [spec_l1Once.e, spec_l1Once.b, hR], hi'⟩
theorem dPickInt (l : List Int) (hl : 0 < l.length) (a : List Int) (i s : Int) (hi : Cu a i) : ∃ r i' s' : Int, (∀ R, spec_l1PickInt.g l a i s R = R r i' s') ∧ Cu a i' ∧ r ∈ l := by
 obtain ⟨r, i', s', hR, hi', hr⟩ := dBelow (l.length : Int) (by omega) a i s hi
 obtain ⟨k, rfl⟩ := Int.eq_ofNat_of_zero_le hr.1
 have hk : k < l.length := by omega
 refine ⟨l.getD k 0, i', s', fun R => ?_, hi', ?_⟩
 ·simp only [spec_l1PickInt.e, spec_l1PickInt.b, hR, ix0, ixl hk, Bool.and_self, cond_true, Int.toNat_natCast]
 ·rw [List.getD_eq_getElem?_getD, List.getElem?_eq_getElem hk]; exact List.getElem_mem hk
theorem dNum (a : List Int) (i s : Int) (hi : Cu a i) : ∃ r i' s' : Int, (∀ R, spec_l1DrawNum.g a i s R = R r i' s') ∧ Cu a i' ∧ numOk r = true := by
 obtain ⟨b, i1, s1, h1, c1⟩ := dOnce 12 (by omega) a i s hi
 cases b with
 | true =>
  obtain ⟨r, i2, s2, h2, c2, hr⟩ := dPickInt [1000000000000, (-1000000000000), 999999999999, 1000000, (-1000000), 1000001, 999999999999] (by simp) a i1 s1 c1
  refine ⟨r, i2, s2, fun R => by simp only [spec_l1DrawNum.e, spec_l1DrawNum.b, h1, cond_true, h2], c2, ?_⟩
  simp only [List.mem_cons, List.not_mem_nil, or_false] at hr
  rcases hr with rfl | rfl | rfl | rfl | rfl | rfl | rfl <;> decide
 | false =>
  obtain ⟨r, i2, s2, h2, c2, hr⟩ := dBelow 20 (by omega) a i1 s1 c1
  refine ⟨r - 6, i2, s2, fun R => ?_, c2, ?_⟩
  ·simp only [spec_l1DrawNum.e, spec_l1DrawNum.b, h1, cond_false, h2]
   rw [w64 (n := r - 6) (by omega)]
  ·simp only [numOk, Bool.and_eq_true, decide_eq_true_eq]; omega
theorem numOk_i64 {x : Int} (h : numOk x = true) : i64 x := by
 simp only [numOk, Bool.and_eq_true, decide_eq_true_eq] at h
 simp only [i64]; omega
theorem dRaw (a : List Int) (i s : Int) (hi : Cu a i) : ∃ r i' s' : Int, (∀ R, spec_l1DrawRaw.g a i s R = R r i' s') ∧ Cu a i' ∧ i64 r := by
 obtain ⟨b, i1, s1, h1, c1⟩ := dOnce 15 (by omega) a i s hi
 cases b with
 | true =>
  obtain ⟨r, i2, s2, h2, c2, hr⟩ := dPickInt [1000000000001, (-1000000000001), 9223372036854775807, (-9223372036854775808)] (by simp) a i1 s1 c1
  refine ⟨r, i2, s2, fun R => by simp only [spec_l1DrawRaw.e, spec_l1DrawRaw.b, h1, cond_true, h2], c2, ?_⟩
  simp only [List.mem_cons, List.not_mem_nil, or_false] at hr
  rcases hr with rfl | rfl | rfl | rfl <;> simp [i64]
 | false =>
  obtain ⟨r, i2, s2, h2, c2, hr⟩ := dNum a i1 s1 c1
  exact ⟨r, i2, s2, fun R => by simp only [spec_l1DrawRaw.e, spec_l1DrawRaw.b, h1, cond_false, h2], c2, numOk_i64 hr⟩
theorem dList (a : List Int) (h : a.length ≤ 1048576) : ∃ d : List Int, (∀ R, spec_l16DrawList.g a R = R d) ∧ d.length ≤ 10 := by
 simp only [spec_l16DrawList.e, spec_l16DrawList.b]
 obtain ⟨s, hN, c0⟩ := dNew a h
 have key := up0 (N := 9) (P := fun n i => ∀ (l : List Int) (p s : Int), Cu a p → l.length = i → ∃ (d : List Int) (i' s' : Int), (∀ k, spec_l16DrawList.l0 a k n (i : Int) l p s = k d i' s') ∧ Cu a i' ∧ d.length ≤ 9) (by omega) ?_ ?_ 0 (by omega) [] 0 s c0 rfl
 ·obtain ⟨d, i1, s1, h1, c1, hd⟩ := key
  obtain ⟨r2, i2, s2, h2, c2⟩ := dOnce 15 (by omega) a i1 s1 c1
  cases r2 with
  | false =>
   refine ⟨d, fun R => ?_, by omega⟩
   rw [hN]
   refine (h1 _).trans ?_
   rw [h2]; rfl
  | true =>
   obtain ⟨r3, i3, s3, h3, c3, _⟩ := dRaw a i2 s2 c2
   refine ⟨d ++ [r3], fun R => ?_, by simp; omega⟩
   rw [hN]
   refine (h1 _).trans ?_
   rw [h2, cd_t rfl, h3, cd_t (by simp; omega)]
 ·intro n l p s hp hl
  obtain ⟨r, i', s', h1, c1, hr⟩ := dBelow 9 (by omega) a p s hp
  refine ⟨l, i', s', fun k => ?_, c1, by omega⟩
  simp only [spec_l16DrawList.l0, spec_l16DrawList.l0s]
  rw [h1, cd_f (by simp; omega)]
 ·intro n i hi ih l p s hp hl
  obtain ⟨r, i', s', h1, c1, hr⟩ := dBelow 9 (by omega) a p s hp
  by_cases hlt : (i : Int) < r
  ·obtain ⟨x, i2, s2, h2, c2, _⟩ := dNum a i' s' c1
   obtain ⟨d, i3, s3, h3, c3, hd⟩ := ih (l ++ [x]) i2 s2 c2 (by simp [hl])
   refine ⟨d, i3, s3, fun k => ?_, c3, hd⟩
   simp only [spec_l16DrawList.l0, spec_l16DrawList.l0s]
   rw [h1, cd_t (by simpa using hlt), h2, cd_t (by simp; omega), ixw (by omega)]
   exact h3 k
  ·refine ⟨l, i', s', fun k => ?_, c1, by omega⟩
   simp only [spec_l16DrawList.l0, spec_l16DrawList.l0s]
   rw [h1, cd_f (by simpa using hlt)]
def sumL : List Int → Nat
 | [] => 0
 | x :: l => (showN x).length + sumL l
theorem showN_len (x : Int) : (showN x).length ≤ 14 := by
 unfold showN
 split
 ·rename_i h; exact (numLen h).2
 ·simp
theorem sumL_le : ∀ d : List Int, sumL d ≤ 14 * d.length
 | [] => by simp [sumL]
 | x :: l => by have := sumL_le l; have := showN_len x; simp [sumL]; omega
theorem rowT_sum : ∀ d : List Int, d.all numOk = true → (rowT d).length = sumL d + d.length
 | [], _ => rfl
 | x :: l, h => by
  rw [List.all_cons, Bool.and_eq_true] at h
  have := rowT_sum l h.2
  simp [rowT, sumL, showN_ok h.1]; omega
theorem wide_sum : ∀ (d : List Int) (m : Nat), d.all numOk = true → wideN d m ≤ m + sumL d
 | [], m, _ => by simp [wideN, sumL]
 | x :: l, m, h => by
  rw [List.all_cons, Bool.and_eq_true] at h
  have := wide_sum l (max m (numL x).length) h.2
  simp only [wideN, sumL, showN_ok h.1]; omega
theorem lawFnWidth (a : List Int) (ha : wfQ [.int .u8] (.ints a)) (R : Bool → Option Res) : laws_FnWidth.g a R = R true := by
 simp only [laws_FnWidth.e, laws_FnWidth.b, laws_big.e, laws_big.b]
 by_cases h : 1048576 < (a.length : Int)
 ·simp [h]
 obtain ⟨d, hd, hl⟩ := dList a (by omega)
 have hD : ∀ R, spec_DrawShowWide.g a R = R d := fun R => by simp only [spec_DrawShowWide.e, spec_DrawShowWide.b, hd]
 simp only [h, decide_false, cond_false, hD, wideI d (by omega), wideS d (by omega), bne_self_eq_false]
 have key := fun (k : Int → Option Res) (x6 : Int) => up0 (N := d.length) (P := fun n i => ∀ m : Nat, m + sumL (d.drop i) ≤ 1000000 → laws_FnWidth.l0 x6 d k R n (m : Int) (i : Int) = k ((m + sumL (d.drop i) : Nat) : Int)) (by omega) (fun n m _ => by
  simp only [laws_FnWidth.l0, laws_FnWidth.l0s, ixe, cond_false, List.drop_length, sumL, Nat.add_zero]) (fun n i hi ih m hm => by
  rw [drop_cons 0 hi, sumL] at hm ⊢
  simp only [laws_FnWidth.l0, laws_FnWidth.l0s, ixl hi, ix0, Bool.and_self, cond_true, showNumI, showNumS, beqL, Bool.not_true, cond_false, bz_size, ixw (by omega : i < 9223372036854775807), Int.toNat_natCast]
  rw [show IntKind.i64.wrap ((m : Int) + ((showN (d.getD i 0)).length : Int)) = ((m + (showN (d.getD i 0)).length : Nat) : Int) from by rw [w64 (by omega)]; omega]
  rw [ih _ (by omega), Nat.add_assoc]) 0 (by omega) 0 (by have := sumL_le d; simp; omega)
 have key : ∀ (k : Int → Option Res) (x6 : Int), laws_FnWidth.l0 x6 d k R fuel 0 0 = k ((sumL d : Nat) : Int) := fun k x6 => by simpa using key k x6
 rw [key]
 have hs := sumL_le d
 cases hall : d.all numOk with
 | false =>
  simp only [Bool.false_eq_true, if_false]
  rw [cd_t (by decide), rowI d (by omega), hall]
  simp only [Bool.false_eq_true, if_false]
  exact congrArg R (beqL (bz []))
 | true =>
  simp only [if_true]
  rw [cd_f (by simp)]
  cases d with
  | nil => rfl
  | cons x l =>
   rw [cd_f (by simp; omega), rowI _ (by omega), hall, bz_size]
   have e1 : (rowL (x :: l)).length = sumL (x :: l) + l.length := by
    rw [List.all_cons, Bool.and_eq_true] at hall
    have := rowT_sum l hall.2
    simp [rowL, sumL, showN_ok hall.1]; omega
   have e2 := wide_sum (x :: l) 0 hall
   simp only [if_true, e1]
   simp only [List.length_cons] at hs hl ⊢
   rw [w64 (n := (sumL (x :: l) : Int) + ((l.length + 1 : Nat) : Int)) (by omega), w64 (by omega)]
   rw [cd_t (by simp; omega)]
   congr 1
   simp; omega
end Go.Tv.F
