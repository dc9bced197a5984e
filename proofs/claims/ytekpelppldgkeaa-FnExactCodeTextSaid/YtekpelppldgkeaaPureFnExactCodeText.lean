/- For every code number the text told by impl.CodeText is that of spec.CodeText: the pure statement of FnExactCodeText. No condition. -/
import Derived.Test.YtekpelppldgkeaaPFnExactCodeTextx1
namespace Go.Proofs.Ytekpelppldgkeaa.Pure
open Go.RowKit Go.Proofs.Ytekpelppldgkeaa.PFnExactCodeText Go.Proofs.YtekpelppldgkeaaW.PrintWords Go.Proofs.YtekpelppldgkeaaW.PrintLast

theorem FnExactCodeText : laws_FnExactCodeText.Pure := by
  intro a0 _
  by_cases h0 : 0 ≤ a0
  · by_cases h1 : a0 ≤ 10
    · obtain rfl | rfl | rfl | rfl | rfl | rfl | rfl | rfl | rfl | rfl | rfl : a0 = 0 ∨ a0 = 1 ∨ a0 = 2 ∨ a0 = 3 ∨ a0 = 4 ∨ a0 = 5 ∨ a0 = 6 ∨ a0 = 7 ∨ a0 = 8 ∨ a0 = 9 ∨ a0 = 10 := by omega
      all_goals decide +kernel
    · simp [laws_FnExactCodeText.f, spec_CodeText.f, impl_CodeText.f, spec_l1In.f, impl_within.f, h0, h1, wrap64]
  · simp [laws_FnExactCodeText.f, spec_CodeText.f, impl_CodeText.f, spec_l1In.f, impl_within.f, h0]

end Go.Proofs.Ytekpelppldgkeaa.Pure
