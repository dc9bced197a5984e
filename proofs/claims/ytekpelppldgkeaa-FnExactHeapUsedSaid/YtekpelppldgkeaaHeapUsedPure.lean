/- The pure law about these functions. It holds without condition. -/
import Derived.Test.YtekpelppldgkeaaHeapUsedF
import Derived.Test.YtekpelppldgkeaaTvC
set_option linter.unusedVariables false
set_option linter.unusedSimpArgs false
set_option linter.unnecessarySimpa false
set_option maxRecDepth 100000
set_option autoImplicit false
namespace Go.Tv.F
open Go Go.Tv

theorem toIntS (a : List Int) (h : a.length ≤ 1048576) (R : List Int → Option Res) : laws_toIntS.g a R = R a := by
  have loop : ∀ (k : List Int → Option Res) (n i : Nat) (l : List Int), a.length - i < n → i ≤ a.length → l.length = a.length → (∀ j, j < i → l[j]? = a[j]?) → laws_toIntS.l0 a k n (i : Int) l = k a := by
    intro k n
    induction n with
    | zero => intro i l h; omega
    | succ n ih =>
      intro i l hn hi hl hp
      simp only [laws_toIntS.l0, laws_toIntS.l0s]
      by_cases h1 : (i : Int) < (a.length : Int)
      · have h2 : (i : Int) < (l.length : Int) := by omega
        simp only [h1, h2, decide_true, cond_true, Bool.and_true, show (0 : Int) ≤ i by omega]
        rw [w64 (n := (i : Int) + 1) (by omega)]
        refine ih (i + 1) _ (by omega) (by omega) (by simp [hl]) (fun j hj => ?_)
        simp only [Int.toNat_natCast, List.getElem?_set]
        by_cases hij : i = j
        · subst hij
          have hil : i < a.length := by omega
          simp [hl, hil, List.getD_eq_getElem?_getD]
        · rw [if_neg hij]; exact hp j (by omega)
      · simp only [h1, decide_false, cond_false]
        have : l = a := by
          apply List.ext_getElem?
          intro j
          by_cases hj : j < a.length
          · exact hp j (by omega)
          · rw [List.getElem?_eq_none (by omega), List.getElem?_eq_none (by omega)]
        rw [this]
  simp only [laws_toIntS.g]
  have e1 : decide (0 ≤ (a.length : Int)) = true := by simp
  have e2 : decide ((a.length : Int) * 8 ≤ 140737488355328) = true := by simp; omega
  simp only [e1, e2, decide_true, Bool.and_self, cond_true]
  exact loop _ fuel 0 _ (by rw [fuel_eq]; omega) (by omega) (by simp) (fun j hj => by omega)

def normCell (c : List Cl) : List Cl := [.i (c.getD 0 (.i 0)).toI, .i (c.getD 1 (.i 0)).toI, .b (c.getD 2 (.i 0)).toB]
theorem toCellS (a : List (List Cl)) (h : a.length ≤ 1048576) (R : List (List Cl) → Option Res) : laws_toCellS.g a R = R (a.map normCell) := by
  have loop : ∀ (k : List (List Cl) → Option Res) (n i : Nat) (l : List (List Cl)), a.length - i < n → i ≤ a.length → l.length = a.length → (∀ j, j < i → l[j]? = (a.map normCell)[j]?) → laws_toCellS.l0 a k n (i : Int) l = k (a.map normCell) := by
    intro k n
    induction n with
    | zero => intro i l h; omega
    | succ n ih =>
      intro i l hn hi hl hp
      simp only [laws_toCellS.l0, laws_toCellS.l0s, laws_toCell.g]
      by_cases h1 : (i : Int) < (a.length : Int)
      · have h2 : (i : Int) < (l.length : Int) := by omega
        simp only [h1, h2, decide_true, cond_true, Bool.and_true, show (0 : Int) ≤ i by omega]
        rw [w64 (n := (i : Int) + 1) (by omega)]
        refine ih (i + 1) _ (by omega) (by omega) (by simp [hl]) (fun j hj => ?_)
        simp only [Int.toNat_natCast, List.getElem?_set]
        by_cases hij : i = j
        · subst hij
          have hil : i < a.length := by omega
          simp [hl, hil, List.getD_eq_getElem?_getD, normCell]
        · rw [if_neg hij]; exact hp j (by omega)
      · simp only [h1, decide_false, cond_false]
        have : l = a.map normCell := by
          apply List.ext_getElem?
          intro j
          by_cases hj : j < a.length
          · exact hp j (by omega)
          · rw [List.getElem?_eq_none (by omega), List.getElem?_eq_none (by simp; omega)]
        rw [this]
  simp only [laws_toCellS.g]
  have e1 : decide (0 ≤ (a.length : Int)) = true := by simp
  have e2 : decide ((a.length : Int) * 24 ≤ 140737488355328) = true := by simp; omega
  simp only [e1, e2, decide_true, Bool.and_self, cond_true]
  exact loop _ fuel 0 _ (by rw [fuel_eq]; omega) (by omega) (by simp) (fun j hj => by omega)

theorem eqIntS (a : List Int) (h : a.length ≤ 1048576) (R : Bool → Option Res) : laws_eqIntS.g a a R = R true := by
  have loop : ∀ (n i : Nat), a.length - i < n → i ≤ a.length → laws_eqIntS.l0 a a (R true) R n (i : Int) = R true := by
    intro n
    induction n with
    | zero => intro i h; omega
    | succ n ih =>
      intro i hn hi
      simp only [laws_eqIntS.l0, laws_eqIntS.l0s]
      by_cases h1 : (i : Int) < (a.length : Int)
      · simp only [h1, decide_true, cond_true, Bool.and_true, show (0 : Int) ≤ i by omega, bne_self_eq_false, cond_false]
        rw [w64 (n := (i : Int) + 1) (by omega)]
        exact ih (i + 1) (by omega) (by omega)
      · simp [h1]
  simp only [laws_eqIntS.g, bne_self_eq_false, cond_false]
  exact loop fuel 0 (by rw [fuel_eq]; omega) (by omega)

theorem eqCellS (a : List (List Cl)) (h : a.length ≤ 1048576) (R : Bool → Option Res) : laws_eqCellS.g a a R = R true := by
  have loop : ∀ (n i : Nat), a.length - i < n → i ≤ a.length → laws_eqCellS.l0 a a (R true) R n (i : Int) = R true := by
    intro n
    induction n with
    | zero => intro i h; omega
    | succ n ih =>
      intro i hn hi
      simp only [laws_eqCellS.l0, laws_eqCellS.l0s, laws_eqCell.g]
      by_cases h1 : (i : Int) < (a.length : Int)
      · simp only [h1, decide_true, cond_true, Bool.and_true, show (0 : Int) ≤ i by omega, bne_self_eq_false, cond_false, Bool.not_true]
        rw [w64 (n := (i : Int) + 1) (by omega)]
        exact ih (i + 1) (by omega) (by omega)
      · simp [h1]
  simp only [laws_eqCellS.g, bne_self_eq_false, cond_false]
  exact loop fuel 0 (by rw [fuel_eq]; omega) (by omega)
theorem eqHeap (w : List Int) (t : Int) (c : List (List Cl)) (h1 : w.length ≤ 1048576) (h2 : c.length ≤ 1048576) (R : Bool → Option Res) : laws_eqHeap.g w t c w t c R = R true := by
  simp only [laws_eqHeap.g, eqIntS w h1, eqCellS c h2, bne_self_eq_false, cond_false, Bool.not_true]

/-- marking a block's words: it goes on with the marks, or it is refused -/
theorem inner (cs : List (List Cl)) (x15 x16 x17 : Int) (ws : List Int) (t o c : Int) (lv : Bool) (ho : 0 ≤ o) (hoc : o + c ≤ 6000) : ∀ (n : Nat) (i : Nat) (l : List Bool), o + c - i < n → (i : Int) ≤ o + c → o + c ≤ l.length →
    ∃ out : Option (List Bool), (∀ l', out = some l' → l'.length = l.length) ∧
      (∀ k R, impl_HeapOk.l2 cs x15 x16 ws t cs o c lv k R n (i : Int) l = match out with | some l' => k l' | none => R false) ∧
      (∀ k R, spec_HeapOk.l2 x17 ws t cs o c lv k R n (i : Int) l = match out with | some l' => k l' | none => R false) := by
  intro n
  induction n with
  | zero => intro i l h h1 h2; exact ⟨none, fun l' h => (by cases h), fun k R => by exfalso; omega, fun k R => by exfalso; omega⟩
  | succ n ih =>
    intro i l hn hoi hl
    have hw : IntKind.i64.wrap (o + c) = o + c := w64 (by omega)
    by_cases h1 : (i : Int) < o + c
    · have h2 : (i : Int) < (l.length : Int) := by omega
      by_cases h3 : l.getD i false = true
      · refine ⟨none, fun l' h => (by cases h), fun k R => ?_, fun k R => ?_⟩
        · simp only [impl_HeapOk.l2, impl_HeapOk.l2s, hw, h1, h2, decide_true, cond_true, Bool.and_true, show (0 : Int) ≤ i by omega, Int.toNat_natCast, h3]
        · simp only [spec_HeapOk.l2, spec_HeapOk.l2s, hw, h1, h2, decide_true, cond_true, Bool.and_true, show (0 : Int) ≤ i by omega, Int.toNat_natCast, h3]
      · have h3 : l.getD i false = false := by simpa using h3
        obtain ⟨out, a1, a2, a3⟩ := ih (i + 1) (l.set i true) (by omega) (by omega) (by simp; omega)
        refine ⟨out, fun l' h => by rw [a1 l' h]; simp, fun k R => ?_, fun k R => ?_⟩
        · simp only [impl_HeapOk.l2, impl_HeapOk.l2s, hw, h1, h2, decide_true, cond_true, cond_false, Bool.and_true, show (0 : Int) ≤ i by omega, Int.toNat_natCast, h3]
          rw [w64 (n := (i : Int) + 1) (by omega)]
          exact a2 k R
        · simp only [spec_HeapOk.l2, spec_HeapOk.l2s, hw, h1, h2, decide_true, cond_true, cond_false, Bool.and_true, show (0 : Int) ≤ i by omega, Int.toNat_natCast, h3]
          rw [w64 (n := (i : Int) + 1) (by omega)]
          exact a3 k R
    · refine ⟨some l, fun l' h => by cases h; rfl, fun k R => ?_, fun k R => ?_⟩
      · simp only [impl_HeapOk.l2, impl_HeapOk.l2s, hw, h1, decide_false, cond_false]
      · simp only [spec_HeapOk.l2, spec_HeapOk.l2s, hw, h1, decide_false, cond_false]

/-- the cells, one by one: both come to the same; where it is right, a dead cell has no words -/
theorem outer (ws : List Int) (t : Int) (cs : List (List Cl)) (hc : cs.length ≤ 200) (ht : 0 ≤ t ∧ t ≤ 6000) : ∀ (n : Nat) (i : Nat) (l : List Bool), cs.length - i < n → i ≤ cs.length → (l.length : Int) = t →
    ∃ b : Bool, ∀ R, spec_HeapOk.l0 ws t cs (R true) R n (i : Int) l = R b ∧ impl_HeapOk.l0 cs (cs.length : Int) ws t cs (R true) R n (i : Int) l = R b := by
  intro n
  induction n with
  | zero => intro i l h; omega
  | succ n ih =>
    intro i l hn hi hl
    simp only [spec_HeapOk.l0, spec_HeapOk.l0s, impl_HeapOk.l0, impl_HeapOk.l0s, spec_l1In.g, impl_within.g]
    generalize hcc : cs.getD (i : Int).toNat [] = c
    by_cases h1 : (i : Int) < (cs.length : Int)
    · have h0 : (0 : Int) ≤ i := by omega
      have hw : IntKind.i64.wrap ((i : Int) + 1) = ((i + 1 : Nat) : Int) := by rw [w64 (by omega)]; omega
      simp only [h1, h0, decide_true, Bool.and_self, cond_true, hw]
      generalize (c.getD 0 (.i 0)).toI = o
      generalize (c.getD 1 (.i 0)).toI = g
      generalize (c.getD 2 (.i 0)).toB = lv
      cases lv with
      | false =>
        obtain ⟨b, hb⟩ := ih (i + 1) l (by omega) (by omega) hl
        by_cases ho : o = 0
        · by_cases hg : g = 0
          · refine ⟨b, fun R => ?_⟩
            subst ho hg; simpa using hb R
          · exact ⟨false, fun R => by subst ho; simp [hg, Bool.cond_eq_ite]⟩
        · exact ⟨false, fun R => by simp [ho, Bool.cond_eq_ite]⟩
      | true =>
        by_cases h2 : 0 ≤ o ∧ o ≤ t
        · have hwt : IntKind.i64.wrap (t - o) = t - o := w64 (by omega)
          have hwt1 : IntKind.i64.wrap (t - 1) = t - 1 := w64 (by omega)
          by_cases h3 : 1 ≤ g ∧ g ≤ t - o
          · obtain ⟨out, a1, a2, a3⟩ := inner cs (cs.length : Int) (i : Int) (i : Int) ws t o g true h2.1 (by omega) fuel o.toNat l (by rw [fuel_eq]; omega) (by omega) (by omega)
            have ho : ((o.toNat : Nat) : Int) = o := by omega
            have ha : ∀ (p q : Option Res), (bif decide (0 ≤ o) then p else q) = p := fun p q => by simp [h2.1]
            rw [ho] at a2 a3
            have e1 : decide (g < 1) = false := by simp; omega
            have e2 : decide (o ≤ t - 1) = true := by simp; omega
            have e3 : decide (t - o < g) = false := by simp; omega
            cases out with
            | none => exact ⟨false, fun R => by
                simp only [hwt, hwt1, h2.1, h2.2, h3.1, h3.2, e1, e2, e3, decide_true, cond_true, Bool.not_true, cond_false, a2, a3, and_self]⟩
            | some l' =>
              obtain ⟨b, hb⟩ := ih (i + 1) l' (by omega) (by omega) (by rw [a1 l' rfl]; exact hl)
              exact ⟨b, fun R => by
                simp only [hwt, hwt1, h2.1, h2.2, h3.1, h3.2, e1, e2, e3, decide_true, cond_true, Bool.not_true, cond_false, a2, a3]
                exact hb R⟩
          · refine ⟨false, fun R => ⟨?_, ?_⟩⟩
            · have : ¬ (1 ≤ g ∧ g ≤ t - o) := h3
              simp only [hwt, h2.1, h2.2, decide_true, cond_true, Bool.not_true, cond_false]
              by_cases h4 : 1 ≤ g
              · have h5 : ¬ g ≤ t - o := fun h => h3 ⟨h4, h⟩
                simp [h4, h5]
              · simp [h4]
            · simp only [hwt, hwt1, Bool.not_true, cond_false]
              by_cases h4 : g < 1
              · simp [h4]
              · have h5 : t - o < g := by omega
                by_cases h6 : o ≤ t - 1
                · simp [h4, h2.1, h6, h5]
                · simp [h4, h2.1, h6]
        · refine ⟨false, fun R => ⟨?_, ?_⟩⟩
          · by_cases h4 : 0 ≤ o
            · have h5 : ¬ o ≤ t := fun h => h2 ⟨h4, h⟩
              simp [h4, h5]
            · simp [h4]
          · have hwt1 : IntKind.i64.wrap (t - 1) = t - 1 := w64 (by omega)
            by_cases h4 : g < 1
            · simp [h4]
            · by_cases h5 : 0 ≤ o
              · have h6 : ¬ o ≤ t - 1 := by omega
                simp [h4, h5, h6, hwt1]
              · simp [h4, h5]
    · exact ⟨true, fun R => by simp [h1]⟩

theorem ok_same (ws : List Int) (t : Int) (cs : List (List Cl)) : ∃ b : Bool, (b = true → cs.length ≤ 200) ∧ ∀ R, spec_HeapOk.g ws t cs R = R b ∧ impl_HeapOk.g ws t cs R = R b := by
  simp only [spec_HeapOk.g, impl_HeapOk.g, spec_l1In.g, impl_within.g]
  by_cases h1 : (6000 : Int) < (ws.length : Int)
  · exact ⟨false, fun h => by (cases h), fun R => by simp [h1]⟩
  by_cases h2 : 0 ≤ t
  · by_cases h3 : t ≤ (ws.length : Int)
    · by_cases h4 : (200 : Int) < (cs.length : Int)
      · exact ⟨false, fun h => by (cases h), fun R => by simp [h1, h2, h3, h4]⟩
      obtain ⟨b, hb⟩ := outer ws t cs (by omega) (by omega) fuel 0 (List.replicate t.toNat false) (by rw [fuel_eq]; omega) (by omega) (by simp; omega)
      refine ⟨b, fun _ => by omega, fun R => ?_⟩
      have e : decide (t * 1 ≤ 140737488355328) = true := by simp; omega
      simp only [h1, h2, h3, h4, e, decide_true, decide_false, cond_true, cond_false, Bool.not_true, Bool.and_self]
      exact hb R
    · exact ⟨false, fun h => by (cases h), fun R => by simp [h1, h2, h3]⟩
  · exact ⟨false, fun h => by (cases h), fun R => by simp [h1, h2]⟩

theorem used_same (ws : List Int) (t : Int) (cs : List (List Cl)) : ∃ y : Int, ∀ R, spec_HeapUsed.g ws t cs R = R y ∧ impl_HeapUsed.g ws t cs R = R y := by
  obtain ⟨b, hbl, hb⟩ := ok_same ws t cs
  have h1 : ∀ R, spec_HeapOk.g ws t cs R = R b := fun R => (hb R).1
  have h2 : ∀ R, impl_HeapOk.g ws t cs R = R b := fun R => (hb R).2
  simp only [spec_HeapUsed.g, impl_HeapUsed.g, h1, h2, spec_l13Used.g]
  cases b with
  | false => exact ⟨-1, fun R => by simp⟩
  | true =>
    have hc := hbl rfl
    have loop : ∀ (n i : Nat) (x : Int), cs.length - i < n → i ≤ cs.length → ∃ y, ∀ k, spec_l13Used.l0 ws t cs k n x (i : Int) = k y ∧ impl_HeapUsed.l0 cs (cs.length : Int) k n x (i : Int) = k y := by
      intro n
      induction n with
      | zero => intro i x h; omega
      | succ n ih =>
        intro i x hn hi
        simp only [spec_l13Used.l0, spec_l13Used.l0s, impl_HeapUsed.l0, impl_HeapUsed.l0s]
        by_cases h1 : (i : Int) < (cs.length : Int)
        · simp only [h1, show (0 : Int) ≤ i by omega, decide_true, cond_true, Bool.and_self]
          rw [w64 (n := (i : Int) + 1) (by omega)]
          exact ih (i + 1) _ (by omega) (by omega)
        · exact ⟨x, fun k => by simp [h1]⟩
    obtain ⟨y, hy⟩ := loop fuel 0 0 (by rw [fuel_eq]; omega) (by omega)
    exact ⟨y, fun R => by simpa using hy R⟩

theorem szHeap (ws : List Int) (t : Int) (cs : List (List Cl)) (hw : ws.length ≤ maxLen) (hc : cs.length ≤ maxLen) : ∃ y : Int, (0 ≤ y → ws.length ≤ 1048576 ∧ cs.length ≤ 1048576) ∧ ∀ R, laws_szHeap.g ws t cs 1048576 R = R y := by
  have hm : maxLen = 9223372036854775807 := by decide
  simp only [laws_szHeap.g, laws_szIntS.g, laws_szCellS.g]
  rw [w64 (n := 1048576 - (ws.length : Int)) (by omega)]
  by_cases h1 : (1048576 : Int) - ws.length < 0
  · exact ⟨-1, by omega, fun R => by simp [h1]⟩
  · by_cases h2 : (1048576 : Int) - ws.length - cs.length < 0
    · exact ⟨-1, by omega, fun R => by
        simp only [h1, decide_false, cond_false]; rw [w64 (by omega)]; simp [h2]⟩
    · exact ⟨1048576 - ws.length - cs.length, by omega, fun R => by
        simp only [h1, decide_false, cond_false]; rw [w64 (by omega)]; simp [h2]⟩

theorem toHeap (ws : List Int) (t : Int) (cs : List (List Cl)) (h1 : ws.length ≤ 1048576) (h2 : cs.length ≤ 1048576) (R : List Int → List (List Cl) → Option Res) : laws_toHeap.g ws t cs R = R ws (cs.map normCell) := by
  simp only [laws_toHeap.g, toIntS ws h1, toCellS cs h2]

theorem lawOk (ws : List Int) (t : Int) (cs : List (List Cl)) (hw : wfQ [.int .i64] (.ints ws)) (ht : (Lit.int .i64 t).wf = true) (hc : wfQ [.int .i64, .int .i64, .bool] (.cells cs)) (R : Bool → Option Res) : laws_FnExactHeapOk.g ws t cs R = R true := by
  obtain ⟨y, hy, hs⟩ := szHeap ws t cs hw.1 hc.1
  simp only [laws_FnExactHeapOk.g, hs]
  by_cases h0 : y < 0
  · simp [h0]
  obtain ⟨h1, h2⟩ := hy (by omega)
  obtain ⟨b, _, hb⟩ := ok_same ws t (cs.map normCell)
  have b1 : ∀ R, spec_HeapOk.g ws t (cs.map normCell) R = R b := fun R => (hb R).1
  have b2 : ∀ R, impl_HeapOk.g ws t (cs.map normCell) R = R b := fun R => (hb R).2
  simp only [h0, decide_false, cond_false, toHeap ws t cs h1 h2, b1, b2, bne_self_eq_false, eqHeap ws t (cs.map normCell) h1 (by simpa using h2), Bool.not_true]

theorem lawUsed (ws : List Int) (t : Int) (cs : List (List Cl)) (hw : wfQ [.int .i64] (.ints ws)) (ht : (Lit.int .i64 t).wf = true) (hc : wfQ [.int .i64, .int .i64, .bool] (.cells cs)) (R : Bool → Option Res) : laws_FnExactHeapUsed.g ws t cs R = R true := by
  obtain ⟨y, hy, hs⟩ := szHeap ws t cs hw.1 hc.1
  simp only [laws_FnExactHeapUsed.g, hs]
  by_cases h0 : y < 0
  · simp [h0]
  obtain ⟨h1, h2⟩ := hy (by omega)
  obtain ⟨b, hb⟩ := used_same ws t (cs.map normCell)
  have b1 : ∀ R, spec_HeapUsed.g ws t (cs.map normCell) R = R b := fun R => (hb R).1
  have b2 : ∀ R, impl_HeapUsed.g ws t (cs.map normCell) R = R b := fun R => (hb R).2
  simp only [h0, decide_false, cond_false, toHeap ws t cs h1 h2, b1, b2, bne_self_eq_false, eqHeap ws t (cs.map normCell) h1 (by simpa using h2), Bool.not_true]
end Go.Tv.F
