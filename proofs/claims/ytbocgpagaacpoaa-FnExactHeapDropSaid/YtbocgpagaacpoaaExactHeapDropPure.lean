/- The pure law about these functions. It holds without condition. -/
import Derived.Test.YtbocgpagaacpoaaExactHeapDropF
set_option linter.unusedVariables false
set_option linter.unusedSimpArgs false
set_option linter.unnecessarySimpa false
set_option maxRecDepth 100000
set_option autoImplicit false
namespace Go.Tv.F
open Go Go.Tv
theorem toIntS (a : List Int) (h : a.length ≤ 1048576) (R : List Int → Option Res) : laws_toIntS.g a R = R a := by
  have e1 : decide (0 ≤ (a.length : Int)) = true := by simp
  have e2 : decide ((a.length : Int) * 8 ≤ 140737488355328) = true := by simp; omega
  simp only [laws_toIntS.e, laws_toIntS.b, e1, e2, decide_true, Bool.and_self, cond_true]
  refine up0 (N := a.length) (P := fun n i => ∀ l : List Int, l.length = a.length → (∀ j, j < i → l[j]? = a[j]?) → laws_toIntS.l0 a R n (i : Int) l = R a) (by omega) ?_ ?_ 0 (by omega) _ (by simp) (fun j hj => by omega)
  · intro n l hl hp
    simp only [laws_toIntS.l0, laws_toIntS.l0s, ixe, cond_false]
    rw [list_eq hl (fun j hj => hp j (by omega))]
  · intro n i hi ih l hl hp
    have hi2 : decide ((i : Int) < (l.length : Int)) = true := by simp; omega
    simp only [laws_toIntS.l0, laws_toIntS.l0s, ixl hi, ix0, hi2, Bool.and_self, cond_true, ixw (by omega : i < 9223372036854775807), Int.toNat_natCast]
    exact ih _ (by simp [hl]) (set_pre hl hi (getD_lt 0 hi) hp)

theorem eqIntS (a : List Int) (h : a.length ≤ 9223372036854775807) (R : Bool → Option Res) : laws_eqIntS.g a a R = R true := by
  simp only [laws_eqIntS.e, laws_eqIntS.b, bne_self_eq_false, cond_false]
  refine up0 (N := a.length) (P := fun n i => laws_eqIntS.l0 a a (R true) R n (i : Int) = R true) (by omega) ?_ ?_ 0 (by omega)
  · intro n; simp only [laws_eqIntS.l0, laws_eqIntS.l0s, ixe, cond_false]
  · intro n i hi ih
    simp only [laws_eqIntS.l0, laws_eqIntS.l0s, ixl hi, ix0, Bool.and_self, cond_true, bne_self_eq_false, cond_false, ixw (by omega : i < 9223372036854775807)]
    exact ih
theorem markIntS (y : Int) (a : List Int) (hy : 0 ≤ y ∧ y ≤ 4611686018427387904) (h : a.length ≤ 4611686018427387903) (R : Int → List Int → Option Res) : laws_markIntS.g y a R = R (y + a.length) (cnt (fun x => x) y a.length) := by
  simp only [laws_markIntS.e, laws_markIntS.b]
  have := up0 (N := a.length) (P := fun n i => ∀ l : List Int, l.length = a.length → (∀ j, j < i → l[j]? = (cnt (fun x => x) y a.length)[j]?) → laws_markIntS.l0 R n (y + (i : Int)) (i : Int) l = R (y + a.length) (cnt (fun x => x) y a.length)) (by omega) ?_ ?_ 0 (by omega) a rfl (fun j hj => by omega)
  · simpa using this
  · intro n l hl hp
    have e : decide ((a.length : Int) < (l.length : Int)) = false := by simp; omega
    simp only [laws_markIntS.l0, laws_markIntS.l0s, e, cond_false]
    rw [list_eq (a := l) (by rw [hl, cnt_length]) (fun j hj => hp j (by omega))]
  · intro n i hi ih l hl hp
    have hi2 : decide ((i : Int) < (l.length : Int)) = true := by simp; omega
    have hw : IntKind.i64.wrap (y + (i : Int) + 1) = y + ((i + 1 : Nat) : Int) := by rw [w64 (by omega)]; omega
    simp only [laws_markIntS.l0, laws_markIntS.l0s, ix0, hi2, Bool.and_self, cond_true, ixw (by omega : i < 9223372036854775807), Int.toNat_natCast, hw]
    exact ih _ (by simp [hl]) (set_pre (by rw [hl, cnt_length]) (by rw [cnt_length]; exact hi) (cnt_get _ _ _ _ hi) hp)
theorem within (x a b : Int) (R : Bool → Option Res) : impl_within.g x a b R = R (decide (a ≤ x) && decide (x ≤ b)) := by
  simp only [impl_within.e, impl_within.b]; cases decide (a ≤ x) <;> rfl
theorem l1In (x a b : Int) (R : Bool → Option Res) : spec_l1In.g x a b R = R (decide (a ≤ x) && decide (x ≤ b)) := by
  simp only [spec_l1In.e, spec_l1In.b]; cases decide (a ≤ x) <;> rfl
theorem heldIntS (y : Int) (m : Nat) (hy : 0 ≤ y ∧ y ≤ 4611686018427387904) (h : m ≤ 4611686018427387903) (R : Int → Option Res) : laws_heldIntS.g (cnt (fun x => x) y m) y R = R (y + m) := by
  simp only [laws_heldIntS.e, laws_heldIntS.b]
  have := up0 (N := m) (P := fun n i => laws_heldIntS.l0 (cnt (fun x => x) y m) R R n (y + (i : Int)) (i : Int) = R (y + m)) (by omega) ?_ ?_ 0 (by omega)
  · simpa using this
  · intro n
    simp only [laws_heldIntS.l0, laws_heldIntS.l0s, cnt_length, ixe, cond_false]
  · intro n i hi ih
    have hw : IntKind.i64.wrap (y + (i : Int) + 1) = y + ((i + 1 : Nat) : Int) := by rw [w64 (by omega)]; omega
    simp only [laws_heldIntS.l0, laws_heldIntS.l0s, cnt_length, ixl hi, ix0, Bool.and_self, cond_true, ixw (by omega : i < 9223372036854775807), Int.toNat_natCast, hw, getD_of (cnt_get (fun x => x) m y i hi), bne_self_eq_false, cond_false]
    exact ih
abbrev Cel : Type := Int × Int × Bool
def mkC (c : Cel) : List Cl := [.i c.1, .i c.2.1, .b c.2.2]
def unC (l : List Cl) : Cel := ((l.getD 0 (.i 0)).toI, (l.getD 1 (.i 0)).toI, (l.getD 2 (.i 0)).toB)
def noC : Cel := (0, 0, false)
theorem getD_map {α β : Type} (f : α → β) (L : List α) {i : Nat} (h : i < L.length) (d : β) (e : α) : (L.map f).getD i d = f (L.getD i e) := by
  rw [List.getD_eq_getElem?_getD, List.getD_eq_getElem?_getD, List.getElem?_map, List.getElem?_eq_getElem h]; rfl
theorem getC {L : List Cel} {i : Nat} (h : i < L.length) : (L.map mkC).getD i [] = mkC (L.getD i noC) := getD_map mkC L h [] noC
theorem mkC0 (c : Cel) : ((mkC c).getD 0 (.i 0)).toI = c.1 := rfl
theorem mkC1 (c : Cel) : ((mkC c).getD 1 (.i 0)).toI = c.2.1 := rfl
theorem mkC2 (c : Cel) : ((mkC c).getD 2 (.i 0)).toB = c.2.2 := rfl
theorem map_set {α β : Type} (f : α → β) (L : List α) (i : Nat) (x : α) : (L.map f).set i (f x) = (L.set i x).map f := List.map_set.symm
theorem setC (L : List Cel) (i : Nat) (a b : Int) (v : Bool) : (L.map mkC).set i [.i a, .i b, .b v] = (L.set i (a, b, v)).map mkC := map_set mkC L i (a, b, v)
theorem spl0 (c : Cel) (x : Int) : splice (mkC c) 0 [.i x] = mkC (x, c.2.1, c.2.2) := rfl
theorem spl1 (c : Cel) (x : Int) : splice (mkC c) 1 [.i x] = mkC (c.1, x, c.2.2) := rfl
theorem spl2 (c : Cel) (x : Bool) : splice (mkC c) 2 [.b x] = mkC (c.1, c.2.1, x) := rfl
theorem getD_set {α : Type} (L : List α) {i : Nat} (x d : α) (h : i < L.length) : (L.set i x).getD i d = x := by
  rw [List.getD_eq_getElem?_getD, List.getElem?_set_self h]; rfl
theorem toCellS (a : List (List Cl)) (h : a.length ≤ 1048576) (R : List (List Cl) → Option Res) : laws_toCellS.g a R = R ((a.map unC).map mkC) := by
  have e1 : decide (0 ≤ (a.length : Int)) = true := by simp
  have e2 : decide ((a.length : Int) * 24 ≤ 140737488355328) = true := by simp; omega
  simp only [laws_toCellS.e, laws_toCellS.b, e1, e2, decide_true, Bool.and_self, cond_true]
  refine up0 (N := a.length) (P := fun n i => ∀ l : List (List Cl), l.length = a.length → (∀ j, j < i → l[j]? = ((a.map unC).map mkC)[j]?) → laws_toCellS.l0 a R n (i : Int) l = R ((a.map unC).map mkC)) (by omega) ?_ ?_ 0 (by omega) _ (by simp) (fun j hj => by omega)
  · intro n l hl hp
    simp only [laws_toCellS.l0, laws_toCellS.l0s, ixe, cond_false]
    rw [list_eq (by simpa using hl) (fun j hj => hp j (by omega))]
  · intro n i hi ih l hl hp
    have hi2 : decide ((i : Int) < (l.length : Int)) = true := by simp; omega
    simp only [laws_toCellS.l0, laws_toCellS.l0s, laws_toCell.e, laws_toCell.b, ixl hi, ix0, hi2, Bool.and_self, cond_true, ixw (by omega : i < 9223372036854775807), Int.toNat_natCast]
    refine ih _ (by simp [hl]) (set_pre (a := (a.map unC).map mkC) (by simpa using hl) (by simpa using hi) ?_ hp)
    rw [List.getElem?_map, List.getElem?_map, getD_lt [] hi]; rfl

theorem eqCellS (L : List Cel) (h : L.length ≤ 1048576) (R : Bool → Option Res) : laws_eqCellS.g (L.map mkC) (L.map mkC) R = R true := by
  simp only [laws_eqCellS.e, laws_eqCellS.b, bne_self_eq_false, cond_false]
  refine up0 (N := (L.map mkC).length) (P := fun n i => laws_eqCellS.l0 (L.map mkC) (L.map mkC) (R true) R n (i : Int) = R true) (by simp; omega) ?_ ?_ 0 (by omega)
  · intro n; simp only [laws_eqCellS.l0, laws_eqCellS.l0s, ixe, cond_false]
  · intro n i hi ih
    have hi' : i < 9223372036854775807 := by simp at hi; omega
    simp only [laws_eqCellS.l0, laws_eqCellS.l0s, laws_eqCell.e, laws_eqCell.b, ixl hi, ix0, Bool.and_self, cond_true, bne_self_eq_false, cond_false, Bool.not_true, ixw hi']
    exact ih
theorem eqHeap (w : List Int) (t : Int) (L : List Cel) (h1 : w.length ≤ 1048576) (h2 : L.length ≤ 1048576) (R : Bool → Option Res) : laws_eqHeap.g w t (L.map mkC) w t (L.map mkC) R = R true := by
  simp only [laws_eqHeap.e, laws_eqHeap.b, eqIntS w (by omega), eqCellS L h2, bne_self_eq_false, cond_false, Bool.not_true]

/-- marks, three a cell -/
def cntC (y : Int) : Nat → List Cel
  | 0 => []
  | n + 1 => (y, y + 1, (y + 2).tmod 3 == 0) :: cntC (y + 3) n
theorem cntC_length (n : Nat) : ∀ y, (cntC y n).length = n := by
  induction n with
  | zero => intro y; rfl
  | succ n ih => intro y; simp [cntC, ih]
theorem cntC_get (n : Nat) : ∀ y i, i < n → (cntC y n)[i]? = some (y + 3 * (i : Int), y + 3 * (i : Int) + 1, (y + 3 * (i : Int) + 2).tmod 3 == 0) := by
  induction n with
  | zero => intro y i h; omega
  | succ n ih =>
    intro y i h
    cases i with
    | zero => simp [cntC]
    | succ i =>
      simp only [cntC, List.getElem?_cons_succ]
      rw [ih _ _ (by omega)]
      have e : y + 3 + 3 * (i : Int) = y + 3 * ((i + 1 : Nat) : Int) := by omega
      rw [e]
theorem markCellS (y : Int) (L : List Cel) (hy : 0 ≤ y ∧ y ≤ 4611686018427387904) (h : L.length ≤ 1048576) (R : Int → List (List Cl) → Option Res) : laws_markCellS.g y (L.map mkC) R = R (y + 3 * L.length) ((cntC y L.length).map mkC) := by
  simp only [laws_markCellS.e, laws_markCellS.b]
  have := up0 (N := L.length) (P := fun n i => ∀ M : List Cel, M.length = L.length → (∀ j, j < i → M[j]? = (cntC y L.length)[j]?) → laws_markCellS.l0 R n (y + 3 * (i : Int)) (i : Int) (M.map mkC) = R (y + 3 * L.length) ((cntC y L.length).map mkC)) (by omega) ?_ ?_ 0 (by omega) L rfl (fun j hj => by omega)
  · simpa using this
  · intro n M hM hp
    have e : decide ((L.length : Int) < ((M.map mkC).length : Int)) = false := by simp; omega
    simp only [laws_markCellS.l0, laws_markCellS.l0s, e, cond_false]
    rw [list_eq (a := M) (by rw [hM, cntC_length]) (fun j hj => hp j (by omega))]
  · intro n i hi ih M hM hp
    have hiM : i < M.length := by omega
    have w1 : IntKind.i64.wrap (y + 3 * (i : Int) + 1) = y + 3 * (i : Int) + 1 := w64 (by omega)
    have w2 : IntKind.i64.wrap (y + 3 * (i : Int) + 1 + 1) = y + 3 * (i : Int) + 2 := by rw [w64 (by omega)]; omega
    have w3 : IntKind.i64.wrap (y + 3 * (i : Int) + 2 + 1) = y + 3 * ((i + 1 : Nat) : Int) := by rw [w64 (by omega)]; omega
    have hd : ∀ Q : List Cel, Q.length = M.length → decide ((i : Int) < ((Q.map mkC).length : Int)) = true := by intro Q hQ; simp; omega
    simp only [laws_markCellS.l0, laws_markCellS.l0s, ix0, Int.toNat_natCast, w1, w2, w3, getC hiM, spl0, map_set, ixw (by omega : i < 9223372036854775807)]
    rw [getC (L := M.set i _) (by simpa using hiM), getD_set M _ _ hiM]
    simp only [spl1, map_set]
    rw [getC (L := (M.set i _).set i _) (by simpa using hiM), getD_set _ _ _ (by simpa using hiM)]
    simp only [spl2, map_set]
    rw [hd M rfl, hd _ (by simp), hd _ (by simp)]
    simp only [Bool.and_self, cond_true, List.set_set]
    exact ih _ (by simp [hM]) (set_pre (by rw [hM, cntC_length]) (by rw [cntC_length]; exact hi) (cntC_get _ _ _ hi) hp)
theorem heldCellS (y : Int) (m : Nat) (hy : 0 ≤ y ∧ y ≤ 4611686018427387904) (h : m ≤ 1048576) (R : Int → Option Res) : laws_heldCellS.g ((cntC y m).map mkC) y R = R (y + 3 * m) := by
  simp only [laws_heldCellS.e, laws_heldCellS.b]
  have := up0 (N := m) (P := fun n i => laws_heldCellS.l0 ((cntC y m).map mkC) R R n (y + 3 * (i : Int)) (i : Int) = R (y + 3 * m)) (by omega) ?_ ?_ 0 (by omega)
  · simpa using this
  · intro n
    simp only [laws_heldCellS.l0, laws_heldCellS.l0s, List.length_map, cntC_length, ixe, cond_false]
  · intro n i hi ih
    have w1 : IntKind.i64.wrap (y + 3 * (i : Int) + 1) = y + 3 * (i : Int) + 1 := w64 (by omega)
    have w2 : IntKind.i64.wrap (y + 3 * (i : Int) + 1 + 1) = y + 3 * (i : Int) + 2 := by rw [w64 (by omega)]; omega
    have w3 : IntKind.i64.wrap (y + 3 * (i : Int) + 2 + 1) = y + 3 * ((i + 1 : Nat) : Int) := by rw [w64 (by omega)]; omega
    have hc : i < (cntC y m).length := by rw [cntC_length]; exact hi
    simp only [laws_heldCellS.l0, laws_heldCellS.l0s, List.length_map, cntC_length, ixl hi, ix0, Bool.and_self, cond_true, ixw (by omega : i < 9223372036854775807), Int.toNat_natCast, w1, w2, w3, getC hc, getD_of (cntC_get m y i hi), mkC0, mkC1, mkC2, bne_self_eq_false, cond_false]
    exact ih
theorem markHeap (y t : Int) (w : List Int) (L : List Cel) (hy : 0 ≤ y ∧ y ≤ 1152921504606846976) (h : w.length ≤ 1048576) (h2 : L.length ≤ 1048576) (R : Int → List Int → List (List Cl) → Option Res) :
    laws_markHeap.g t y w (L.map mkC) R = R (y + w.length + 3 * L.length) (cnt (fun x => x) y w.length) ((cntC (y + w.length) L.length).map mkC) := by
  simp only [laws_markHeap.e, laws_markHeap.b]
  rw [markIntS y w (by omega) (by omega), markCellS _ L (by omega) h2]
theorem heldHeap (y t : Int) (m n : Nat) (hy : 0 ≤ y ∧ y ≤ 1152921504606846976) (h : m ≤ 1048576) (h2 : n ≤ 1048576) (R : Int → Option Res) :
    laws_heldHeap.g (cnt (fun x => x) y m) t ((cntC (y + m) n).map mkC) y R = R (y + m + 3 * n) := by
  have e1 : decide (y + (m : Int) < 0) = false := by simp; omega
  have e2 : decide (y + (m : Int) + 3 * (n : Int) < 0) = false := by simp; omega
  simp only [laws_heldHeap.e, laws_heldHeap.b]
  rw [heldIntS y m (by omega) (by omega)]
  simp only [e1, cond_false]
  rw [heldCellS _ n (by omega) (by omega)]
  simp only [e2, cond_false]
theorem toHeap (w : List Int) (t : Int) (a : List (List Cl)) (h1 : w.length ≤ 1048576) (h2 : a.length ≤ 1048576) (R : List Int → List (List Cl) → Option Res) : laws_toHeap.g w t a R = R w ((a.map unC).map mkC) := by
  simp only [laws_toHeap.e, laws_toHeap.b, toIntS w h1, toCellS a h2]
theorem szHeap (w : List Int) (t : Int) (a : List (List Cl)) (hw : w.length ≤ maxLen) (ha : a.length ≤ maxLen) : ∃ y : Int, (0 ≤ y → w.length ≤ 1048576 ∧ a.length ≤ 1048576) ∧ ∀ R, laws_szHeap.g w t a 1048576 R = R y := by
  have hm : maxLen = 9223372036854775807 := by decide
  simp only [laws_szHeap.e, laws_szHeap.b, laws_szIntS.e, laws_szIntS.b, laws_szCellS.e, laws_szCellS.b]
  rw [w64 (n := 1048576 - (w.length : Int)) (by omega)]
  by_cases h1 : 1048576 - (w.length : Int) < 0
  · exact ⟨-1, by omega, fun R => by simp only [h1, decide_true, cond_true]; rfl⟩
  · have e1 : decide (1048576 - (w.length : Int) < 0) = false := by simp; omega
    simp only [e1, cond_false]
    rw [w64 (n := 1048576 - (w.length : Int) - _) (by omega)]
    by_cases h2 : 1048576 - (w.length : Int) - (a.length : Int) < 0
    · exact ⟨-1, by omega, fun R => by simp only [h2, decide_true, cond_true]; rfl⟩
    · have e2 : decide (1048576 - (w.length : Int) - (a.length : Int) < 0) = false := by simp; omega
      exact ⟨_, fun _ => by omega, fun R => by simp only [e2, cond_false]; rfl⟩

def freeN (l : List Bool) : Nat → Nat → Bool
  | _, 0 => true
  | o, n + 1 => !l.getD o false && freeN l (o + 1) n
def markN (l : List Bool) : Nat → Nat → List Bool
  | _, 0 => l
  | o, n + 1 => markN (l.set o true) (o + 1) n
theorem freeN_set (n : Nat) : ∀ (l : List Bool) (o k : Nat), o < k → freeN (l.set o true) k n = freeN l k n := by
  induction n with
  | zero => intro l o k _; rfl
  | succ n ih =>
    intro l o k h
    simp only [freeN, ih l o (k + 1) (by omega)]
    rw [List.getD_eq_getElem?_getD, List.getD_eq_getElem?_getD, List.getElem?_set_ne (by omega)]
theorem markN_length (n : Nat) : ∀ (l : List Bool) (o : Nat), (markN l o n).length = l.length := by
  induction n with
  | zero => intro l o; rfl
  | succ n ih => intro l o; simp [markN, ih]
def celOk (t : Int) (c : Cel) : Bool := bif c.2.2 then decide (1 ≤ c.2.1) && decide (0 ≤ c.1) && decide (c.1 + c.2.1 ≤ t) else (c.1 == 0) && (c.2.1 == 0)
def okC (t : Int) : List Cel → List Bool → Bool
  | [], _ => true
  | c :: cs, l => celOk t c && (bif c.2.2 then freeN l c.1.toNat c.2.1.toNat && okC t cs (markN l c.1.toNat c.2.1.toNat) else okC t cs l)
def heapOk (w : List Int) (t : Int) (L : List Cel) : Bool := decide (w.length ≤ 6000) && (decide (0 ≤ t) && decide (t ≤ w.length)) && decide (L.length ≤ 200) && okC t L (List.replicate t.toNat false)

theorem innerI (cs xs : List (List Cl)) (x15 x16 t : Int) (ws : List Int) (o c : Int) (lv : Bool) (R : Bool → Option Res) (k : List Bool → Option Res) : ∀ (m : Nat) (n i : Nat) (l : List Bool), (i : Int) + m = o + c → m < n → o + c ≤ l.length → o + c ≤ 6000 →
    impl_HeapOk.l2 cs x15 x16 ws t xs o c lv k R n (i : Int) l = bif freeN l i m then k (markN l i m) else R false := by
  intro m
  induction m with
  | zero =>
    intro n i l h1 h2 h3 h4
    obtain ⟨n, rfl⟩ : ∃ n', n = n' + 1 := ⟨n - 1, by omega⟩
    have e : decide ((i : Int) < o + c) = false := by simp; omega
    simp only [impl_HeapOk.l2, impl_HeapOk.l2s, w64 (n := o + c) (by omega), e, cond_false, freeN, markN, cond_true]
  | succ m ih =>
    intro n i l h1 h2 h3 h4
    obtain ⟨n, rfl⟩ : ∃ n', n = n' + 1 := ⟨n - 1, by omega⟩
    have e : decide ((i : Int) < o + c) = true := by simp; omega
    have e2 : decide ((i : Int) < (l.length : Int)) = true := by simp; omega
    simp only [impl_HeapOk.l2, impl_HeapOk.l2s, w64 (n := o + c) (by omega), e, ix0, e2, Bool.and_self, cond_true, Int.toNat_natCast, freeN, markN, ixw (by omega : i < 9223372036854775807)]
    cases l.getD i false with
    | true => rfl
    | false =>
      simp only [cond_false, Bool.not_false, Bool.true_and]
      rw [ih n (i + 1) _ (by omega) (by omega) (by simp; omega) h4, freeN_set m l i (i + 1) (by omega)]
theorem innerS (cs : List (List Cl)) (x12 t : Int) (ws : List Int) (o c : Int) (lv : Bool) (R : Bool → Option Res) (k : List Bool → Option Res) : ∀ (m : Nat) (n i : Nat) (l : List Bool), (i : Int) + m = o + c → m < n → o + c ≤ l.length → o + c ≤ 6000 →
    spec_HeapOk.l2 x12 ws t cs o c lv k R n (i : Int) l = bif freeN l i m then k (markN l i m) else R false := by
  intro m
  induction m with
  | zero =>
    intro n i l h1 h2 h3 h4
    obtain ⟨n, rfl⟩ : ∃ n', n = n' + 1 := ⟨n - 1, by omega⟩
    have e : decide ((i : Int) < o + c) = false := by simp; omega
    simp only [spec_HeapOk.l2, spec_HeapOk.l2s, w64 (n := o + c) (by omega), e, cond_false, freeN, markN, cond_true]
  | succ m ih =>
    intro n i l h1 h2 h3 h4
    obtain ⟨n, rfl⟩ : ∃ n', n = n' + 1 := ⟨n - 1, by omega⟩
    have e : decide ((i : Int) < o + c) = true := by simp; omega
    have e2 : decide ((i : Int) < (l.length : Int)) = true := by simp; omega
    simp only [spec_HeapOk.l2, spec_HeapOk.l2s, w64 (n := o + c) (by omega), e, ix0, e2, Bool.and_self, cond_true, Int.toNat_natCast, freeN, markN, ixw (by omega : i < 9223372036854775807)]
    cases l.getD i false with
    | true => rfl
    | false =>
      simp only [cond_false, Bool.not_false, Bool.true_and]
      rw [ih n (i + 1) _ (by omega) (by omega) (by simp; omega) h4, freeN_set m l i (i + 1) (by omega)]

theorem okC_dead {t : Int} {c : Cel} (cs : List Cel) (l : List Bool) (h : c.2.2 = false) : okC t (c :: cs) l = ((c.1 == 0) && (c.2.1 == 0) && okC t cs l) := by
  simp only [okC, celOk, h, cond_false]
theorem okC_live {t : Int} {c : Cel} (cs : List Cel) (l : List Bool) (h : c.2.2 = true) : okC t (c :: cs) l = ((decide (1 ≤ c.2.1) && decide (0 ≤ c.1) && decide (c.1 + c.2.1 ≤ t)) && (freeN l c.1.toNat c.2.1.toNat && okC t cs (markN l c.1.toNat c.2.1.toNat))) := by
  simp only [okC, celOk, h, cond_true]

theorem heapOkI (w : List Int) (t : Int) (L : List Cel) (hw : w.length ≤ 9223372036854775807) (hL : L.length ≤ 9223372036854775807) (R : Bool → Option Res) : impl_HeapOk.g w t (L.map mkC) R = R (heapOk w t L) := by
  simp only [impl_HeapOk.e, impl_HeapOk.b, within, List.length_map]
  by_cases h1 : 6000 < (w.length : Int)
  · have e : decide (w.length ≤ 6000) = false := by simp; omega
    simp only [h1, decide_true, cond_true, heapOk, e, Bool.false_and]
  have e1 : decide (w.length ≤ 6000) = true := by simp; omega
  simp only [h1, decide_false, cond_false, heapOk, e1, Bool.true_and]
  cases h2 : decide (0 ≤ t) && decide (t ≤ (w.length : Int)) with
  | false => simp only [Bool.not_false, cond_true, Bool.false_and]
  | true =>
    simp only [Bool.not_true, cond_false, Bool.true_and]
    simp only [Bool.and_eq_true, decide_eq_true_eq] at h2
    by_cases h3 : 200 < (L.length : Int)
    · have e : decide (L.length ≤ 200) = false := by simp; omega
      simp only [h3, decide_true, cond_true, e, Bool.false_and]
    have e3 : decide (L.length ≤ 200) = true := by simp; omega
    have e4 : decide (0 ≤ t) = true := by simp; omega
    have e5 : decide (t * 1 ≤ 140737488355328) = true := by simp; omega
    simp only [h3, decide_false, cond_false, e3, Bool.true_and, e4, e5, decide_true, Bool.and_self, cond_true]
    have := up0 (N := L.length) (P := fun n i => ∀ l : List Bool, (l.length : Int) = t → impl_HeapOk.l0 (L.map mkC) (L.length : Int) w t (L.map mkC) (R true) R n (i : Int) l = R (okC t (L.drop i) l)) (by omega) ?_ ?_ 0 (by omega) (List.replicate t.toNat false) (by simp; omega)
    · simpa using this
    · intro n l _; simp only [impl_HeapOk.l0, impl_HeapOk.l0s, ixe, cond_false, List.drop_length, okC]
    · intro n i hi ih l hl
      simp only [impl_HeapOk.l0, impl_HeapOk.l0s, ixl hi, ix0, List.length_map, Bool.and_self, cond_true, Int.toNat_natCast, getC hi, mkC0, mkC1, mkC2, ixw (by omega : i < 9223372036854775807), within]
      rw [drop_cons noC hi]
      generalize L.getD i noC = c
      cases hv : c.2.2 with
      | false =>
        rw [okC_dead _ _ hv]
        simp only [Bool.not_false, cond_true, beq_self_eq_true, Bool.and_true]
        cases hq : ((c.1 == 0) && (c.2.1 == 0)) with
        | true => simp only [Bool.not_true, cond_false, Bool.true_and]; exact ih l hl
        | false => simp only [Bool.not_false, cond_true, Bool.false_and]
      | true =>
        rw [okC_live _ _ hv]
        simp only [Bool.not_true, cond_false]
        by_cases a1 : c.2.1 < 1
        · have e : decide (1 ≤ c.2.1) = false := by simp; omega
          simp only [a1, decide_true, cond_true, e, Bool.false_and]
        have e6 : decide (1 ≤ c.2.1) = true := by simp; omega
        rw [w64 (n := t - 1) (by omega)]
        simp only [a1, decide_false, cond_false, e6, Bool.true_and]
        by_cases a2 : 0 ≤ c.1 ∧ c.1 ≤ t - 1
        · have e7 : decide (c.1 ≤ t - 1) = true := by simp; omega
          have e8 : decide (0 ≤ c.1) = true := by simp; omega
          rw [w64 (n := t - c.1) (by omega)]
          simp only [e7, e8, Bool.and_self, Bool.not_true, cond_false, Bool.true_and]
          by_cases a3 : t - c.1 < c.2.1
          · have e : decide (c.1 + c.2.1 ≤ t) = false := by simp; omega
            simp only [a3, decide_true, cond_true, e, Bool.false_and]
          have e9 : decide (c.1 + c.2.1 ≤ t) = true := by simp; omega
          simp only [a3, decide_false, cond_false, e9, Bool.true_and]
          obtain ⟨o, ho⟩ := Int.eq_ofNat_of_zero_le a2.1
          obtain ⟨m, hm⟩ := Int.eq_ofNat_of_zero_le (by omega : 0 ≤ c.2.1)
          rw [ho, hm, innerI _ _ _ _ _ _ _ _ _ _ _ m fuel o l (by omega) (by rw [fuel_eq]; omega) (by omega) (by omega)]
          simp only [Int.toNat_natCast]
          cases freeN l o m with
          | false => rfl
          | true => simp only [cond_true, Bool.true_and]; exact ih _ (by rw [markN_length]; exact hl)
        · have e7 : (decide (0 ≤ c.1) && decide (c.1 ≤ t - 1)) = false := by simp; omega
          have e8 : (decide (0 ≤ c.1) && decide (c.1 + c.2.1 ≤ t)) = false := by simp; omega
          simp only [e7, e8, Bool.not_false, cond_true, Bool.false_and]
theorem heapOkS (w : List Int) (t : Int) (L : List Cel) (hw : w.length ≤ 9223372036854775807) (hL : L.length ≤ 9223372036854775807) (R : Bool → Option Res) : spec_HeapOk.g w t (L.map mkC) R = R (heapOk w t L) := by
  simp only [spec_HeapOk.e, spec_HeapOk.b, l1In, List.length_map]
  by_cases h1 : 6000 < (w.length : Int)
  · have e : decide (w.length ≤ 6000) = false := by simp; omega
    simp only [h1, decide_true, cond_true, heapOk, e, Bool.false_and]
  have e1 : decide (w.length ≤ 6000) = true := by simp; omega
  simp only [h1, decide_false, cond_false, heapOk, e1, Bool.true_and]
  cases h2 : decide (0 ≤ t) && decide (t ≤ (w.length : Int)) with
  | false => simp only [Bool.not_false, cond_true, Bool.false_and]
  | true =>
    simp only [Bool.not_true, cond_false, Bool.true_and]
    simp only [Bool.and_eq_true, decide_eq_true_eq] at h2
    by_cases h3 : 200 < (L.length : Int)
    · have e : decide (L.length ≤ 200) = false := by simp; omega
      simp only [h3, decide_true, cond_true, e, Bool.false_and]
    have e3 : decide (L.length ≤ 200) = true := by simp; omega
    have e4 : decide (0 ≤ t) = true := by simp; omega
    have e5 : decide (t * 1 ≤ 140737488355328) = true := by simp; omega
    simp only [h3, decide_false, cond_false, e3, Bool.true_and, e4, e5, decide_true, Bool.and_self, cond_true]
    have := up0 (N := L.length) (P := fun n i => ∀ l : List Bool, (l.length : Int) = t → spec_HeapOk.l0 w t (L.map mkC) (R true) R n (i : Int) l = R (okC t (L.drop i) l)) (by omega) ?_ ?_ 0 (by omega) (List.replicate t.toNat false) (by simp; omega)
    · simpa using this
    · intro n l _; simp only [spec_HeapOk.l0, spec_HeapOk.l0s, List.length_map, ixe, cond_false, List.drop_length, okC]
    · intro n i hi ih l hl
      simp only [spec_HeapOk.l0, spec_HeapOk.l0s, ixl hi, ix0, List.length_map, Bool.and_self, cond_true, Int.toNat_natCast, getC hi, mkC0, mkC1, mkC2, ixw (by omega : i < 9223372036854775807), l1In]
      rw [drop_cons noC hi]
      generalize L.getD i noC = c
      cases hv : c.2.2 with
      | false =>
        rw [okC_dead _ _ hv]
        simp only [Bool.not_false, cond_true, bne]
        cases hq : (c.1 == 0) with
        | true =>
          simp only [Bool.not_true, cond_false, Bool.true_and]
          cases hq2 : (c.2.1 == 0) with
          | true => simp only [Bool.not_true, cond_false, Bool.true_and]; exact ih l hl
          | false => simp only [Bool.not_false, cond_true, Bool.false_and]
        | false => simp only [Bool.not_false, cond_true, Bool.false_and]
      | true =>
        rw [okC_live _ _ hv]
        simp only [Bool.not_true, cond_false]
        by_cases a2 : 0 ≤ c.1 ∧ c.1 ≤ t
        · have e7 : decide (c.1 ≤ t) = true := by simp; omega
          have e8 : decide (0 ≤ c.1) = true := by simp; omega
          rw [w64 (n := t - c.1) (by omega)]
          simp only [e7, e8, Bool.and_self, Bool.not_true, cond_false, Bool.and_true]
          by_cases a3 : 1 ≤ c.2.1 ∧ c.2.1 ≤ t - c.1
          · have e9 : (decide (1 ≤ c.2.1) && decide (c.2.1 ≤ t - c.1)) = true := by simp; omega
            have e10 : (decide (1 ≤ c.2.1) && decide (c.1 + c.2.1 ≤ t)) = true := by simp; omega
            simp only [e9, e10, Bool.not_true, cond_false, Bool.true_and]
            obtain ⟨o, ho⟩ := Int.eq_ofNat_of_zero_le a2.1
            obtain ⟨m, hm⟩ := Int.eq_ofNat_of_zero_le (by omega : 0 ≤ c.2.1)
            rw [ho, hm, innerS _ _ _ _ _ _ _ _ _ m fuel o l (by omega) (by rw [fuel_eq]; omega) (by omega) (by omega)]
            simp only [Int.toNat_natCast]
            cases freeN l o m with
            | false => rfl
            | true => simp only [cond_true, Bool.true_and]; exact ih _ (by rw [markN_length]; exact hl)
          · have e9 : (decide (1 ≤ c.2.1) && decide (c.2.1 ≤ t - c.1)) = false := by simp; omega
            have e10 : (decide (1 ≤ c.2.1) && decide (c.1 + c.2.1 ≤ t)) = false := by simp; omega
            simp only [e9, e10, Bool.not_false, cond_true, Bool.false_and]
        · have e7 : (decide (0 ≤ c.1) && decide (c.1 ≤ t)) = false := by simp; omega
          have e8 : (decide (1 ≤ c.2.1) && decide (0 ≤ c.1) && decide (c.1 + c.2.1 ≤ t)) = false := by simp; omega
          simp only [e7, e8, Bool.not_false, cond_true, Bool.false_and]
theorem heapOk_facts {w : List Int} {t : Int} {L : List Cel} (h : heapOk w t L = true) : w.length ≤ 6000 ∧ 0 ≤ t ∧ t ≤ w.length ∧ L.length ≤ 200 ∧ okC t L (List.replicate t.toNat false) = true := by
  simp only [heapOk, Bool.and_eq_true, decide_eq_true_eq] at h
  exact ⟨h.1.1.1, h.1.1.2.1, h.1.1.2.2, h.1.2, h.2⟩
theorem in_range {i : Int} {n : Nat} (h : (decide (0 ≤ i) && decide (i ≤ (n : Int) - 1)) = true) : ∃ k : Nat, i = k ∧ k < n := by
  simp only [Bool.and_eq_true, decide_eq_true_eq] at h
  obtain ⟨k, rfl⟩ := Int.eq_ofNat_of_zero_le h.1
  exact ⟨k, rfl, by omega⟩
def liveAt (L : List Cel) (i : Int) : Bool := (decide (0 ≤ i) && decide (i ≤ (L.length : Int) - 1)) && (L.getD i.toNat noC).2.2
theorem liveAt_some {L : List Cel} {i : Int} (h : liveAt L i = true) : ∃ k : Nat, i = k ∧ k < L.length ∧ (L.getD k noC).2.2 = true := by
  simp only [liveAt, Bool.and_eq_true (a := (decide (0 ≤ i) && _))] at h
  obtain ⟨k, rfl, hk⟩ := in_range h.1
  exact ⟨k, rfl, hk, by simpa using h.2⟩
theorem liveS (w : List Int) (t : Int) (L : List Cel) (i : Int) (hL : L.length ≤ 200) (R : Bool → Option Res) : spec_l13Live.g w t (L.map mkC) i R = R (liveAt L i) := by
  simp only [spec_l13Live.e, spec_l13Live.b, l1In, List.length_map]
  rw [w64 (n := (L.length : Int) - 1) (by omega)]
  unfold liveAt
  cases h : decide (0 ≤ i) && decide (i ≤ (L.length : Int) - 1) with
  | false => rfl
  | true =>
    obtain ⟨k, rfl, hk⟩ := in_range h
    simp only [cond_true, ix0, ixl hk, Bool.and_self, Int.toNat_natCast, getC hk, mkC2, Bool.true_and]
theorem liveI (w : List Int) (t : Int) (L : List Cel) (i : Int) (hw : w.length ≤ 9223372036854775807) (hL : L.length ≤ 1048576) (R : Bool → Option Res) : impl_liveAt.g w t (L.map mkC) i R = R (heapOk w t L && liveAt L i) := by
  simp only [impl_liveAt.e, impl_liveAt.b, heapOkI w t L hw (by omega), within, List.length_map]
  cases heapOk w t L with
  | false => rfl
  | true =>
    rw [w64 (n := (L.length : Int) - 1) (by omega)]
    unfold liveAt
    cases h : decide (0 ≤ i) && decide (i ≤ (L.length : Int) - 1) with
    | false => rfl
    | true =>
      obtain ⟨k, rfl, hk⟩ := in_range h
      simp only [cond_true, ix0, ixl hk, Bool.and_self, Int.toNat_natCast, getC hk, mkC2, Bool.true_and]
theorem copyS (w : List Int) (t : Int) (L : List Cel) (hw : w.length ≤ 6000) (hL : L.length ≤ 200) (R : List Int → List (List Cl) → Option Res) : spec_l13Copy.g w t (L.map mkC) R = R w (L.map mkC) := by
  have e1 : decide ((0 + w.length) * 8 ≤ 140737488355328) = true := by simp; omega
  have e2 : decide ((0 + (L.map mkC).length) * 24 ≤ 140737488355328) = true := by simp; omega
  simp only [spec_l13Copy.e, spec_l13Copy.b, e1, e2, cond_true, List.nil_append]
theorem copyI (w : List Int) (t : Int) (L : List Cel) (hw : w.length ≤ 6000) (hL : L.length ≤ 200) (R : Option Res) : impl_copyHeap.g w t (L.map mkC) R = R := by
  have e1 : decide (w.length * 8 ≤ 140737488355328) = true := by simp; omega
  have e2 : decide ((L.map mkC).length * 24 ≤ 140737488355328) = true := by simp; omega
  simp only [impl_copyHeap.e, impl_copyHeap.b, e1, e2, cond_true]
theorem dropS (t : Int) (k : Nat) (w : List Int) (L : List Cel) (hk : k < L.length) (R : List (List Cl) → Option Res) : spec_l13Drop.g t (k : Int) w (L.map mkC) R = R ((L.set k noC).map mkC) := by
  simp only [spec_l13Drop.e, spec_l13Drop.b, List.length_map, ix0, ixl hk, Bool.and_self, cond_true, Int.toNat_natCast, setC]; rfl

/-- HeapDrop -/
def heapDrop (w : List Int) (t : Int) (L : List Cel) (i : Int) (R : List Int → Int → List (List Cl) → Bool → Option Res) : Option Res :=
  bif heapOk w t L then (bif liveAt L i then R w t ((L.set i.toNat noC).map mkC) true else R w t (L.map mkC) false) else R [] 0 [] false
theorem heapDropS (w : List Int) (t : Int) (L : List Cel) (i : Int) (hw : w.length ≤ 1048576) (hL : L.length ≤ 1048576) (R : List Int → Int → List (List Cl) → Bool → Option Res) : spec_HeapDrop.g w t (L.map mkC) i R = heapDrop w t L i R := by
  simp only [spec_HeapDrop.e, spec_HeapDrop.b, heapOkS w t L (by omega) (by omega), heapDrop]
  cases h : heapOk w t L with
  | false => rfl
  | true =>
    obtain ⟨h1, _, _, h4, _⟩ := heapOk_facts h
    simp only [Bool.not_true, cond_false, cond_true, liveS w t L i h4]
    cases h5 : liveAt L i with
    | false => simp only [Bool.not_false, cond_true, cond_false, copyS w t L h1 h4]
    | true =>
      obtain ⟨k, rfl, hk, _⟩ := liveAt_some h5
      simp only [Bool.not_true, cond_true, cond_false, copyS w t L h1 h4, dropS t k w L hk, Int.toNat_natCast]
theorem heapDropI (w : List Int) (t : Int) (L : List Cel) (i : Int) (hw : w.length ≤ 1048576) (hL : L.length ≤ 1048576) (R : List Int → Int → List (List Cl) → Bool → Option Res) : impl_HeapDrop.g w t (L.map mkC) i R = heapDrop w t L i R := by
  simp only [impl_HeapDrop.e, impl_HeapDrop.b, heapOkI w t L (by omega) (by omega), heapDrop]
  cases h : heapOk w t L with
  | false => rfl
  | true =>
    obtain ⟨h1, _, _, h4, _⟩ := heapOk_facts h
    simp only [Bool.not_true, cond_false, cond_true, liveI w t L i (by omega) hL, copyI w t L h1 h4, h, Bool.true_and]
    cases h5 : liveAt L i with
    | false => simp only [Bool.not_false, cond_true, cond_false]
    | true =>
      obtain ⟨k, rfl, hk, _⟩ := liveAt_some h5
      simp only [Bool.not_true, cond_true, cond_false, List.length_map, ix0, ixl hk, Bool.and_self, Int.toNat_natCast, setC]; rfl
theorem heapDrop_of (w : List Int) (t : Int) (L : List Cel) (i : Int) : ∃ (w' : List Int) (t' : Int) (L' : List Cel) (ok : Bool), w'.length ≤ 6000 ∧ L'.length ≤ 200 ∧ ∀ R, heapDrop w t L i R = R w' t' (L'.map mkC) ok := by
  unfold heapDrop
  cases h : heapOk w t L with
  | false => exact ⟨[], 0, [], false, by simp, by simp, fun R => rfl⟩
  | true =>
    obtain ⟨h1, _, _, h4, _⟩ := heapOk_facts h
    cases h5 : liveAt L i with
    | false => exact ⟨w, t, L, false, h1, h4, fun R => rfl⟩
    | true => exact ⟨w, t, L.set i.toNat noC, true, h1, by simpa using h4, fun R => rfl⟩

theorem lawFnExactHeapDrop (w : List Int) (t : Int) (c : List (List Cl)) (i : Int) (hw : wfQ [.int .i64] (.ints w)) (ht : (Lit.int .i64 t).wf = true) (hc : wfQ [.int .i64, .int .i64, .bool] (.cells c)) (hi : (Lit.int .i64 i).wf = true) (R : Bool → Option Res) : laws_FnExactHeapDrop.g w t c i R = R true := by
  obtain ⟨y, hy, hsz⟩ := szHeap w t c hw.1 hc.1
  simp only [laws_FnExactHeapDrop.e, laws_FnExactHeapDrop.b, hsz]
  by_cases h0 : y < 0
  · simp [h0]
  obtain ⟨h1, h2⟩ := hy (by omega)
  have h2' : (c.map unC).length ≤ 1048576 := by simpa using h2
  simp only [h0, decide_false, cond_false, toHeap w t c h1 h2, heapDropS w t _ i h1 h2', heapDropI w t _ i h1 h2']
  obtain ⟨w', t', L', ok, g1, g2, hk⟩ := heapDrop_of w t (c.map unC) i
  have e1 : decide ((1 : Int) + (w.length : Int) + 3 * ((c.map unC).length : Int) < 0) = false := by simp; omega
  have e2 : decide ((1 : Int) + (w'.length : Int) + 3 * (L'.length : Int) < 0) = false := by simp; omega
  simp only [hk, eqHeap w' t' L' (by omega) (by omega), eqHeap w t _ h1 h2', markHeap 1 t w _ (by omega) h1 h2', markHeap 1 t' w' L' (by omega) (by omega) (by omega), heldHeap 1 t' w'.length L'.length (by omega) (by omega) (by omega), Bool.not_true, cond_false, bne_self_eq_false, e1, e2]

end Go.Tv.F
