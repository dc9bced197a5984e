/- The pure law behind FnExactHeapNew: the printed functions of HeapNew and of its law, at any whole number, come to true. No condition but that the number is an int. -/
import Derived.Test.YtekpelppldgkeaaPFnExactHeapNewx3
namespace Go.Proofs.Ytekpelppldgkeaa.Pure
open Go.RowKit Go.Proofs.Ytekpelppldgkeaa.PFnExactHeapNew Go.Proofs.YtekpelppldgkeaaW.PrintWords Go.Proofs.YtekpelppldgkeaaW.PrintLast

theorem hn_wrap {a : Int} (h0 : -9223372036854775808 ≤ a) (h1 : a < 9223372036854775808) : wrap64 a = a := by
  unfold wrap64; omega

theorem hn_eqS (xs : List Int) (hl : xs.length ≤ 6000) :
    ∀ (d k : Nat) (i : Int), 0 ≤ i → i + (d : Int) = (xs.length : Int) → d < k → laws_eqIntS.l0 k xs xs i = some true := by
  intro d
  induction d with
  | zero =>
    intro k i h0 h1 hk
    cases k with
    | zero => omega
    | succ k => simp only [laws_eqIntS.l0]; rw [if_neg (by omega)]
  | succ d ih =>
    intro k i h0 h1 hk
    cases k with
    | zero => omega
    | succ k =>
      simp only [laws_eqIntS.l0]
      rw [if_pos (by omega), if_pos h0, if_pos (by omega), if_true, hn_wrap (by omega) (by omega)]
      exact ih k (i + 1) (by omega) (by omega) (by omega)

theorem hn_eq (xs : List Int) (hl : xs.length ≤ 6000) (k : Nat) (hk : 6001 ≤ k) : laws_eqIntS.f k xs xs = some true := by
  unfold laws_eqIntS.f
  rw [if_pos rfl]
  exact hn_eqS xs hl xs.length k 0 (by omega) (by omega) (by omega)

theorem hn_mark (n : Nat) (hl : n ≤ 6000) :
    ∀ (d k : Nat) (i : Int) (xs : List Int), xs.length = n → 0 ≤ i → i + (d : Int) = (n : Int) → d < k →
      (∀ j : Int, 0 ≤ j → j < i → rd xs j = j + 1) →
      ∃ ys, laws_markIntS.l0 k xs (i + 1) i = some ((n : Int) + 1, ys) ∧ ys.length = n ∧ ∀ j : Int, 0 ≤ j → j < (n : Int) → rd ys j = j + 1 := by
  intro d
  induction d with
  | zero =>
    intro k i xs hx h0 h1 hk hj
    cases k with
    | zero => omega
    | succ k =>
      obtain rfl : i = (n : Int) := by omega
      refine ⟨xs, ?_, hx, hj⟩
      simp only [laws_markIntS.l0]; rw [if_neg (by omega)]
  | succ d ih =>
    intro k i xs hx h0 h1 hk hj
    cases k with
    | zero => omega
    | succ k =>
      simp only [laws_markIntS.l0]
      rw [if_pos (by omega), if_pos h0, hn_wrap (a := i + 1) (by omega) (by omega), hn_wrap (a := i + 1 + 1) (by omega) (by omega)]
      refine ih k (i + 1) (xs.set i.toNat (i + 1)) (by rw [List.length_set]; exact hx) (by omega) (by omega) (by omega) ?_
      intro j hj0 hj1
      have hi : i.toNat < xs.length := by omega
      unfold rd
      by_cases e : j = i
      · subst e
        rw [List.getD_eq_getElem?_getD, List.getElem?_set_self hi]
        rfl
      · have := hj j hj0 (by omega)
        unfold rd at this
        rw [List.getD_eq_getElem?_getD, List.getElem?_set_ne (by omega), ← List.getD_eq_getElem?_getD]
        exact this

theorem hn_held (n : Nat) (hl : n ≤ 6000) (xs : List Int) (hx : xs.length = n) (hj : ∀ j : Int, 0 ≤ j → j < (n : Int) → rd xs j = j + 1) :
    ∀ (d k : Nat) (i : Int), 0 ≤ i → i + (d : Int) = (n : Int) → d < k → laws_heldIntS.l0 k xs (i + 1) i = some ((n : Int) + 1) := by
  intro d
  induction d with
  | zero =>
    intro k i h0 h1 hk
    cases k with
    | zero => omega
    | succ k =>
      obtain rfl : i = (n : Int) := by omega
      simp only [laws_heldIntS.l0]; rw [if_neg (by omega)]
  | succ d ih =>
    intro k i h0 h1 hk
    cases k with
    | zero => omega
    | succ k =>
      simp only [laws_heldIntS.l0]
      rw [if_pos (by omega), if_pos h0, if_pos (hj i h0 (by omega)), hn_wrap (a := i + 1) (by omega) (by omega), hn_wrap (a := i + 1 + 1) (by omega) (by omega)]
      exact ih k (i + 1) (by omega) (by omega) (by omega)

theorem hn_eqCells (k : Nat) : laws_eqCellS.f (k + 1) [] [] = some true := by
  unfold laws_eqCellS.f
  rw [if_pos rfl]
  simp only [laws_eqCellS.l0]; rw [if_neg (by simp)]

theorem hn_eqHeap (xs : List Int) (hl : xs.length ≤ 6000) (k : Nat) (hk : 6000 ≤ k) (a : Int) : laws_eqHeap.f (k + 1) xs a [] xs a [] = some true := by
  unfold laws_eqHeap.f
  rw [hn_eq xs hl (k + 1) (by omega), hn_eqCells]
  simp

theorem hn_markHeap (n : Nat) (hl : n ≤ 6000) (xs : List Int) (hx : xs.length = n) (k : Nat) (hk : 6000 ≤ k) (a : Int) :
    ∃ ys, laws_markHeap.f (k + 1) xs a [] 1 = some ((n : Int) + 1, ys, []) ∧ ys.length = n ∧ ∀ j : Int, 0 ≤ j → j < (n : Int) → rd ys j = j + 1 := by
  obtain ⟨ys, h, hl', hj⟩ := hn_mark n hl n (k + 1) 0 xs hx (by omega) (by omega) (by omega) (by intro j h0 h1; omega)
  refine ⟨ys, ?_, hl', hj⟩
  have h' : laws_markIntS.l0 (k + 1) xs 1 0 = some ((n : Int) + 1, ys) := h
  unfold laws_markHeap.f laws_markIntS.f laws_markCellS.f
  rw [h']
  simp only [laws_markCellS.l0, Option.bind_some]
  rw [if_neg (by simp)]
  rfl

theorem hn_heldHeap (n : Nat) (hl : n ≤ 6000) (xs : List Int) (hx : xs.length = n) (hj : ∀ j : Int, 0 ≤ j → j < (n : Int) → rd xs j = j + 1) (k : Nat) (hk : 6000 ≤ k) (a : Int) :
    laws_heldHeap.f (k + 1) xs a [] 1 = some ((n : Int) + 1) := by
  have h : laws_heldIntS.l0 (k + 1) xs 1 0 = some ((n : Int) + 1) := hn_held n hl xs hx hj n (k + 1) 0 (by omega) (by omega) (by omega)
  unfold laws_heldHeap.f laws_heldIntS.f laws_heldCellS.f
  rw [h]
  simp only [laws_heldCellS.l0, Option.bind_some]
  rw [if_neg (by omega), if_neg (by simp)]
  simp only [Option.bind_some]
  rw [if_neg (by omega)]

theorem hn_specimpl (a : Int) : impl_HeapNew.f a = spec_HeapNew.f a := by
  unfold impl_HeapNew.f spec_HeapNew.f impl_within.f spec_l1In.f
  rfl

theorem hn_spec (a : Int) : ∃ (n : Nat) (b : Bool), n ≤ 6000 ∧ spec_HeapNew.f a = some (List.replicate n 0, 0, [], b) := by
  unfold spec_HeapNew.f spec_l1In.f
  by_cases h : a ≥ 0
  · rw [if_pos h]
    by_cases h2 : a ≤ 6000
    · refine ⟨a.toNat, true, by omega, ?_⟩
      simp only [h2, decide_true, Option.bind_some, if_true]
      rw [if_pos h, if_pos (by omega)]
    · refine ⟨0, false, by omega, ?_⟩
      simp [h2]
  · rw [if_neg h]
    exact ⟨0, false, by omega, by simp⟩

theorem hn_j1 (n : Nat) (hl : n ≤ 6000) (xs : List Int) (hx : xs.length = n) (hj : ∀ j : Int, 0 ≤ j → j < (n : Int) → rd xs j = j + 1) (k : Nat) (hk : 6001 ≤ k) (a : Int) :
    laws_FnExactHeapNew.j1 (k + 1) ((n : Int) + 1) false xs a [] = some true := by
  simp only [laws_FnExactHeapNew.j1]
  obtain ⟨k, rfl⟩ : ∃ m, k = m + 1 := ⟨k - 1, by omega⟩
  rw [if_neg (by simp), hn_heldHeap n hl xs hx hj k (by omega) a]
  simp only [Option.bind_some]
  rw [if_neg (by omega), if_true]

theorem FnExactHeapNew : laws_FnExactHeapNew.Pure := by
  intro a0 _
  refine ⟨6010, ?_⟩
  obtain ⟨n, b, hn, hs⟩ := hn_spec a0
  have hi := hs
  rw [← hn_specimpl] at hi
  have hlen : (List.replicate n (0 : Int)).length = n := List.length_replicate
  unfold laws_FnExactHeapNew.f
  rw [hs, hi]
  simp only [Option.bind_some]
  rw [hn_eqHeap _ (by omega) 6009 (by omega)]
  simp only [Option.bind_some, if_true, bne_self_eq_false]
  obtain ⟨ys, hm, hyl, hyj⟩ := hn_markHeap n hn _ hlen 6008 (by omega) 0
  simp only [laws_FnExactHeapNew.j0]
  rw [if_neg (by simp), hm]
  simp only [Option.bind_some]
  rw [hn_heldHeap n hn ys hyl hyj 6008 (by omega) 0]
  simp only [Option.bind_some]
  rw [if_neg (by omega), if_true, hi]
  simp only [Option.bind_some]
  rw [hn_eqHeap _ (by omega) 6008 (by omega)]
  simp only [Option.bind_some, if_true, bne_self_eq_false]
  exact hn_j1 n hn ys hyl hyj 6008 (by omega) 0

end Go.Proofs.Ytekpelppldgkeaa.Pure
