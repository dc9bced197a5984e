/- The pure law about these functions. It holds without condition. -/
import Derived.Test.YtekpelppldgkeaaCodeF
import Derived.Test.YtekpelppldgkeaaTvC
set_option linter.unusedVariables false
set_option linter.unusedSimpArgs false
set_option linter.unnecessarySimpa false
set_option maxRecDepth 100000
set_option autoImplicit false
namespace Go.Tv.F
open Go Go.Tv
/-- the draw's beginning -/
theorem l1New (a : List Int) : ∃ y : Int, ∀ R, spec_l1New_i2.g a R = R a 0 y := by
  have loop : ∀ (k : Int → Option Res) (n : Nat) (m : Nat), 4000 - m < n → m ≤ 4000 → ∀ x : Int, True → ∃ y, ∀ k, spec_l1New_i2.l0 a k n x (m : Int) = k y := by
    intro _ n
    induction n with
    | zero => intro m h; omega
    | succ n ih =>
      intro m hm hm2 x _
      simp only [spec_l1New_i2.l0, spec_l1New_i2.l0s]
      by_cases h1 : (m : Int) < (a.length : Int)
      · by_cases h2 : (m : Int) < 4000
        · obtain ⟨y, hy⟩ := ih (m + 1) (by omega) (by omega) (arith.bits .and .i64 (IntKind.i64.wrap ((IntKind.i64.wrap ((IntKind.i64.wrap (x * 131)) + (IntKind.i64.wrap (a.getD (m : Int).toNat 0)))) + 7)) 1073741823) trivial
          refine ⟨y, fun k => ?_⟩
          simp only [h1, h2, decide_true, cond_true, Bool.and_true, show (0 : Int) ≤ m by omega]
          rw [w64 (n := (m : Int) + 1) (by omega)]
          exact hy k
        · exact ⟨x, fun k => by simp [h1, h2]⟩
      · exact ⟨x, fun k => by simp [h1]⟩
  obtain ⟨y, hy⟩ := loop (fun _ => none) fuel 0 (by rw [fuel_eq]; omega) (by omega) (IntKind.i64.wrap (18218 + (a.length : Int))) trivial
  exact ⟨y, fun R => hy _⟩

theorem l1Byte (a : List Int) (i s : Int) (hi : 0 ≤ i ∧ i ≤ 9223372036854775806) : ∃ r i' s' : Int, (∀ R, spec_l1Byte.g a i s R = R r i' s') ∧ (0 ≤ r ∧ r ≤ 255) ∧ (i ≤ i' ∧ i' ≤ i + 1) := by
  let s1 := IntKind.i64.wrap (IntKind.i64.wrap (s * 6364136223846793005) + 1442695040888963407)
  let b := arith.bits .and .i64 (arith.bits .xor .i64 (s1.fdiv (2 ^ 33)) (s1.fdiv (2 ^ 45))) 255
  by_cases h : i < (a.length : Int)
  · refine ⟨arith.bits .and .i64 (IntKind.i64.wrap (b + IntKind.i64.wrap (a.getD i.toNat 0))) 255, i + 1, s1, fun R => ?_, and_le _ 255 (by omega), by omega⟩
    simp only [spec_l1Byte.g, h, decide_true, cond_true, Bool.and_true, hi.1]
    rw [w64 (n := i + 1) (by omega)]
  · refine ⟨b, i, s1, fun R => ?_, and_le _ 255 (by omega), by omega⟩
    simp only [spec_l1Byte.g, h, decide_false, cond_false, b, s1]

theorem tmod_lt {x n : Int} (h0 : 0 ≤ x) (hn : 0 < n) : 0 ≤ x.tmod n ∧ x.tmod n < n := by
  rw [Int.tmod_eq_emod_of_nonneg h0]
  exact ⟨Int.emod_nonneg _ (by omega), Int.emod_lt_of_pos _ hn⟩

theorem l1Below (n : Int) (hn : 0 < n) (a : List Int) (i s : Int) (hi : 0 ≤ i ∧ i ≤ 9223372036854775800) : ∃ r i' s' : Int, (∀ R, spec_l1Below.g n a i s R = R r i' s') ∧ (0 ≤ r ∧ r < n) ∧ (i ≤ i' ∧ i' ≤ i + 4) := by
  have h1 : ¬ n ≤ 0 := by omega
  have h2 : ¬ n = 0 := by omega
  by_cases h : n ≤ 256
  · obtain ⟨r, i', s', hR, hr, hi'⟩ := l1Byte a i s (by omega)
    refine ⟨r.tmod n, i', s', fun R => ?_, tmod_lt hr.1 hn, by omega⟩
    simp only [spec_l1Below.g, h1, h, h2, decide_true, decide_false, cond_true, cond_false, hR]
  · obtain ⟨r, i1, s1, hR, hr, hi1⟩ := l1Byte a i s (by omega)
    obtain ⟨r2, i2, s2, hR2, hr2, hi2⟩ := l1Byte a i1 s1 (by omega)
    obtain ⟨r3, i3, s3, hR3, hr3, hi3⟩ := l1Byte a i2 s2 (by omega)
    obtain ⟨r4, i4, s4, hR4, hr4, hi4⟩ := l1Byte a i3 s3 (by omega)
    refine ⟨(r * 16777216 + r2 * 65536 + r3 * 256 + r4).tmod n, i4, s4, fun R => ?_, tmod_lt (by omega) hn, by omega⟩
    simp only [spec_l1Below.g, h1, h, h2, decide_false, cond_false, hR, hR2, hR3, hR4]
    rw [w64 (n := r * 16777216) (by omega), w64 (n := r2 * 65536) (by omega), w64 (n := r * 16777216 + r2 * 65536) (by omega), w64 (n := r3 * 256) (by omega), w64 (n := r * 16777216 + r2 * 65536 + r3 * 256) (by omega), w64 (n := _ + r4) (by omega)]

theorem drawn (a : List Int) : ∃ c : Int, (∀ R, spec_DrawCodeText_i2.g a R = R c) ∧ -1 ≤ c ∧ c ≤ 12 := by
  obtain ⟨y, hy⟩ := l1New a
  obtain ⟨r, i, s, hR, hr, _⟩ := l1Below 14 (by omega) a 0 y (by omega)
  refine ⟨r - 1, fun R => ?_, by omega, by omega⟩
  simp only [spec_DrawCodeText_i2.g, hy, hR]
  rw [w64 (n := r - 1) (by omega)]

theorem law (a : List Int) (R : Bool → Option Res) : laws_FnCodeText_i2.g a R = R true := by
  simp only [laws_FnCodeText_i2.g, laws_big.g]
  by_cases h : 1048576 < (a.length : Int)
  · simp [h]
  · obtain ⟨c, hc, h1, h2⟩ := drawn a
    simp only [h, decide_false, cond_false, hc]
    obtain ⟨m, hm, _⟩ := fuel_split 12 (by omega)
    rw [hm]
    have hcs : c = -1 ∨ c = 0 ∨ c = 1 ∨ c = 2 ∨ c = 3 ∨ c = 4 ∨ c = 5 ∨ c = 6 ∨ c = 7 ∨ c = 8 ∨ c = 9 ∨ c = 10 ∨ c = 11 ∨ c = 12 := by omega
    rcases hcs with rfl | rfl | rfl | rfl | rfl | rfl | rfl | rfl | rfl | rfl | rfl | rfl | rfl | rfl <;>
      simp [impl_CodeText.g, spec_CodeText.g, impl_within.g, spec_l1In.g, laws_FnCodeText_i2.l0, laws_FnCodeText_i2.l0s, ByteArray.toList_eq, w64]
end Go.Tv.F
